/- 0, 1, ..: the program's row and the reference's; whether two rows are the same. -/
import Derived.Test.YtbhikceekldenaaHbDealDo
import Derived.Maps.AppendAt
namespace Go.Proofs.Ytbhikceekldenaa.Hb
set_option linter.unusedVariables false
open Go.RowKit

theorem rowI_len (n : Nat) : (rowI n).length = n := by simp [rowI]
theorem rowI_succ (n : Nat) : rowI (n + 1) = rowI n ++ [(n : Int)] := by unfold rowI; rw [List.range_succ, List.map_append]; rfl
theorem rowI_get (n i : Nat) (h : i < n) : (rowI n).getD i 0 = i := by
  rw [List.getD_eq_getElem?_getD, List.getElem?_eq_getElem (by rw [rowI_len]; exact h)]
  simp [rowI]
/-- A row that came of a call. -/
def OwnV (w : World) (base : Nat) (v : Value) (l : List Int) : Prop := w.ownsRow base 3 1 v l.length (ints l)
def RetRow (l : List Int) (w : World) (e : Ending) (w' : World) : Prop := ∃ g c, e = .returned (.slice (some ⟨g, 0, none⟩) l.length c) ∧ OwnI w' w.heap.size g l.length c l ∧ Below w.heap.size w w'
theorem zeros_set (n i : Nat) (h : i < n) : (rowI i ++ List.replicate (n - i) 0).set i (i : Int) = rowI (i + 1) ++ List.replicate (n - (i + 1)) 0 := by
  rw [List.set_append_right _ _ (by rw [rowI_len]; exact Nat.le_refl _), rowI_len, Nat.sub_self, rowI_succ, show n - i = (n - (i + 1)) + 1 by omega, List.replicate_succ, List.set_cons_zero, List.append_assoc]
  rfl
set_option maxRecDepth 100000 in
set_option maxHeartbeats 1000000 in
theorem row_any (n : Nat) (hn : n ≤ 1048576) (w : World) : Calls Try.prog 49 #[.int .i64 n] w (RetRow (rowI n) w) := by
  obtain ⟨i0, hi, hz0, hz1, hz2⟩ := info_parts info_int
  go_enter Try.func49, Try.ntmps49
  go_wp2_with (at_make; refine wpList_make_full _ rfl _ _ 54 rfl w.heap.size 3 i0 (.int .i64 0) 1 Try.underlying54 hi hz0 hz1 .i64 .i64 _ _ n rfl rfl rfl rfl (by rw [hz2]; omega) (by unfold maxLen; omega) (by simp) ?_; intro w1 hown hgrow)
  have hrow : OwnI w1 w.heap.size w.heap.size n n (rowI 0 ++ List.replicate (n - 0) 0) := by
    rw [Nat.mul_one] at hown
    show w1.ownsRow _ _ _ _ _ (ints ([] ++ List.replicate n 0))
    rw [List.nil_append, ints_zeros, ← toList_madeCells_one]
    exact hown
  have hb : Below w.heap.size w w1 := ⟨hgrow.os, hgrow.tape, hgrow.output, hgrow.size, fun k hk => hgrow.block k hk (by simp)⟩
  clear hown hgrow
  go_loopw [9] (fun iv wr => ∃ i : Nat, i ≤ n ∧ iv = .int .i64 i ∧ Hid (OwnI wr w.heap.size w.heap.size n n (rowI i ++ List.replicate (n - i) 0) ∧ Below w.heap.size w wr)) (fun iv _ => n - (intOf iv).toNat)
  case atStart => exact ⟨0, Nat.zero_le _, rfl, Lib.hid ⟨hrow, hb⟩⟩
  case round =>
    obtain ⟨i, hi', rfl, HR⟩ := hrel
    by_cases hlt : i < n
    · have hlt' : (i : Int) < n := by omega
      have c1 := HR.out.1.at hlt
      have cf := World.ownsRow.frozenAt HR.out.1
      have hs := (World.ownsRow.stored HR.out.1 i (.int .i64 i)).1
      rw [ints_set, zeros_set n i hlt] at hs
      have HQ : Hid (OwnI (wr.setCell ⟨w.heap.size, i, none⟩ (.int .i64 i)) w.heap.size w.heap.size n n (rowI (i + 1) ++ List.replicate (n - (i + 1)) 0) ∧ Below w.heap.size w (wr.setCell ⟨w.heap.size, i, none⟩ (.int .i64 i))) := Lib.hid ⟨hs, HR.out.2.setCell (Nat.le_refl _) _⟩
      obtain ⟨z, hz⟩ : ∃ z, (rowI i ++ List.replicate (n - i) 0).getD i 0 = z := ⟨_, rfl⟩
      rw [hz] at c1
      clear hs hz
      go_wp2
      go_roundw
      case rel => exact ⟨i + 1, hlt, by go_num, HQ⟩
      case measure => simp [intOf]; omega
    · obtain rfl : i = n := by omega
      go_wp2
      go_ret
      have := HR.out.1
      rw [Nat.sub_self, List.replicate_zero, List.append_nil] at this
      unfold RetRow
      rw [rowI_len]
      exact ⟨_, _, rfl, this, HR.out.2⟩
set_option maxRecDepth 100000 in
set_option maxHeartbeats 1000000 in
theorem rrow_any (n : Nat) (hn : n ≤ 1048576) (w : World) : Calls Try.prog 52 #[.int .i64 n] w (RetRow (rowI n) w) := by
  obtain ⟨i0, hi, hz0, hz1, hz2⟩ := info_parts info_int
  go_enter Try.func52, Try.ntmps52
  go_wp2
  go_loopw [3, 4] (fun o iv wr => ∃ i : Nat, i ≤ n ∧ iv = .int .i64 i ∧ (∃ g c, o = .slice (some ⟨g, 0, none⟩) i c) ∧ wr.ownsRow w.heap.size 3 1 o i (ints (rowI i)) ∧ Below w.heap.size w wr) (fun _ iv _ => n - (intOf iv).toNat)
  case atStart => exact ⟨0, Nat.zero_le _, rfl, ⟨_, _, rfl⟩, World.ownsRow_made w #[] 0 (Nat.le_refl _) (by unfold maxLen; omega) rfl, (Below.refl _ _).alloc (Nat.le_refl _) _⟩
  case round =>
    obtain ⟨i, hi', rfl, ⟨g, c, rfl⟩, hrow, hB⟩ := hrel
    have hBs := hB.size
    by_cases hlt : i < n
    · have hlt' : (i : Int) < n := by omega
      go_wp2_with (at_builtin; refine wpList_append_own _ rfl _ _ 54 rfl w.heap.size 3 i0 (.int .i64 0) 1 8 Try.underlying54 hi hz0 hz1 hz2 rfl (by decide) _ _ _ rfl (hrow.alloc _) ⟨wr.heap.size, 0, none⟩ 1 1 [.int .i64 i] rfl rfl (cell_one_new _ _ _) (by simp [Value.oneCell']) (by unfold maxLen; omega) (by omega) (by simp; omega) ?_; intro v' w1 hown' hgrow _)
      go_roundw
      case rel =>
        refine ⟨i + 1, hlt, by go_num, ?_, by rw [rowI_succ, ints_snoc]; exact hown', (hB.alloc hBs _).grown hgrow (by simp; omega) (fun j e => (hrow.lt j e).1)⟩
        obtain ⟨g', cap', e, _⟩ := own_open hown' (by omega)
        exact ⟨g', cap', e⟩
      case measure => simp [intOf]; omega
    · obtain rfl : i = n := by omega
      go_wp2
      go_ret
      unfold RetRow
      rw [rowI_len]
      exact ⟨_, _, rfl, hrow, hB⟩
end Go.Proofs.Ytbhikceekldenaa.Hb

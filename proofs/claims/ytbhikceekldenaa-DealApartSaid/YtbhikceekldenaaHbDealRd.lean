/- The document's weights. -/
import Derived.Test.YtbhikceekldenaaHbDealRp
namespace Go.Proofs.Ytbhikceekldenaa.Hb
set_option linter.unusedVariables false
open Go.RowKit

theorem rep_get (n j : Nat) (h : j < n) : (List.replicate n (n : Int)).getD j 0 = n := by
  rw [List.getD_eq_getElem?_getD, List.getElem?_eq_getElem (by rw [List.length_replicate]; exact h)]
  simp
/-- Weights, behind so many draws. -/
def small (q : List Int) (j : Nat) : Prop := ∀ i, 0 ≤ q.getD i 0 ∧ q.getD i 0 ≤ j
theorem small_zero (n : Nat) : small (List.replicate n 0) 0 := by
  intro i
  rw [List.getD_eq_getElem?_getD, List.getElem?_replicate]
  split <;> simp
theorem small_step {q : List Int} {j x : Nat} (h : small q j) : small (q.set x (q.getD x 0 + 1)) (j + 1) := by
  intro i
  have hx := h x
  have hi := h i
  rw [List.getD_eq_getElem?_getD, List.getElem?_set]
  rw [List.getD_eq_getElem?_getD] at hi
  split
  · split
    · simp only [Option.getD_some]; omega
    · simp only [Option.getD_none]; omega
  · omega
set_option maxRecDepth 100000 in
set_option maxHeartbeats 2000000 in
theorem rdeal_any (A : Option Addr) (cap : Nat) (l : List Int) (n : Nat) (hn : n ≤ 1048576) (w : World) (hl : l.length ≤ 9223372036854775807) (hr : RdU w A l) :
    Calls Try.prog 32 #[.slice A l.length cap, .int .i64 n] w (RetRun (runO (numL l) stepDeal (List.replicate n (n : Int)) 0 (List.replicate n 0) 0) w) := by
  obtain ⟨i0, hi, hz0, hz1, hz2⟩ := info_parts info_int
  have h1 : decide ((n : Int) < 0) = false := decide_eq_false (by omega)
  have h2 : decide (1048576 < (n : Int)) = false := decide_eq_false (by omega)
  obtain ⟨R, hR⟩ : ∃ R, runO (numL l) stepDeal (List.replicate n (n : Int)) 0 (List.replicate n 0) 0 = R := ⟨_, rfl⟩
  rw [hR]
  have HR := Lib.hid hR
  have HU := Lib.hid hr
  have KB := Lib.hid (fun k m w (a : 0 < m) (b : m ≤ 1048576) (c : k ≤ 4611686018427387904) (d : RdU w A l) => rbelow_any A cap l k m a b w hl c d)
  obtain ⟨L, hL⟩ : ∃ L, l.length = L := ⟨_, rfl⟩
  rw [hL] at KB hl ⊢
  clear hR hr hL
  go_enter Try.func32, Try.ntmps32
  go_wp2_with (at_make; refine wpList_make_full _ rfl _ _ 54 rfl w.heap.size 3 i0 (.int .i64 0) 1 Try.underlying54 hi hz0 hz1 .i64 .i64 _ _ n rfl rfl rfl rfl (by rw [hz2]; omega) (by unfold maxLen; omega) (by simp) ?_; intro w1 hown hgrow)
  have hrow : OwnI w1 w.heap.size w.heap.size n n (List.replicate n 0) := by
    rw [Nat.mul_one] at hown
    show w1.ownsRow _ _ _ _ _ (ints (List.replicate n 0))
    rw [ints_zeros, ← toList_madeCells_one]
    exact hown
  have hb1 : Below w.heap.size w w1 := ⟨hgrow.os, hgrow.tape, hgrow.output, hgrow.size, fun k hk => hgrow.block k hk (by simp)⟩
  have HO := Lib.hid hrow
  clear hown hgrow hrow
  obtain ⟨g, hg⟩ : ∃ g, w.heap.size = g := ⟨_, rfl⟩
  have HG := Lib.hid hg
  rw [hg] at HO hb1 ⊢
  clear hg
  go_loopw [8, 9] (fun av iv wr => ∃ j k : Nat, j ≤ n ∧ av = .int .i64 k ∧ iv = .int .i64 j ∧ k ≤ j * 64 ∧ Hid (∃ q, OwnI wr g g n n q ∧ small q j ∧ runO (numL l) stepDeal ((List.replicate n (n : Int)).drop j) j q k = R) ∧ Below g w wr) (fun _ iv _ => n - (intOf iv).toNat)
  case atStart => exact ⟨0, 0, Nat.zero_le _, rfl, rfl, Nat.zero_le _, Lib.hid ⟨_, HO.out, small_zero n, HR.out⟩, hb1⟩
  case round =>
    obtain ⟨j, k, hj, rfl, rfl, hk, HQ, hB⟩ := hrel
    obtain ⟨q, HQ1⟩ : ∃ q, Hid (OwnI wr g g n n q ∧ small q j ∧ runO (numL l) stepDeal ((List.replicate n (n : Int)).drop j) j q k = R) := by obtain ⟨q, h⟩ := HQ.out; exact ⟨q, Lib.hid h⟩
    by_cases hlt : j < n
    · have hlt' : (j : Int) < n := by omega
      have hdrop : (List.replicate n (n : Int)).drop j = (n : Int) :: (List.replicate n (n : Int)).drop (j + 1) := by
        have := drop_at' (l := List.replicate n (n : Int)) (j := j) (by rw [List.length_replicate]; exact hlt)
        rwa [rep_get n j hlt] at this
      have HD := Lib.hid hdrop
      clear hdrop
      go_wp2_with fail
      refine (KB.out k _ wr (by omega) (by omega) (by omega) (HU.out.below (by rw [HG.out]; exact hB))).mono ?_
      rintro e w2 ⟨rfl, rfl⟩
      have hkk := @draw_k (numL l) (n : Int) 64 k
      rcases hd : drawO (numL l) (n : Int) 64 k with ⟨_ | x, k1⟩
      · have hr : R = (none, k1) := by rw [← HQ1.out.2.2, HD.out, run_none hd]
        have hk1 : k1 = k + 64 := draw_none hd
        subst hk1
        have HRR := Lib.hid hr
        clear hr hkk hd
        unfold rbelV
        go_wp2_with fail
        refine bodyPost_ret (v := .tuple #[.slice none 0 0, .int .i64 ((k : Int) + 64), .int .i64 7]) (by simp [results, Try.results32, go_sem]) rfl ?_
        rw [HRR.out]
        exact ⟨rfl, by rw [HG.out]; exact hB⟩
      · have hr : runO (numL l) stepDeal ((List.replicate n (n : Int)).drop (j + 1)) (j + 1) (q.set x.toNat (q.getD x.toNat 0 + 1)) k1 = R := by rw [← HQ1.out.2.2, HD.out, run_some hd, stepDeal]
        have hx := draw_lt (by omega) hd
        rw [hd] at hkk
        obtain ⟨t, rfl⟩ : ∃ t, k1 = k + t := ⟨k1 - k, by simp only at hkk; omega⟩
        have ht : t ≤ 64 := by simp only at hkk; omega
        obtain ⟨y, rfl⟩ : ∃ y : Nat, x = y := ⟨x.toNat, by omega⟩
        rw [Int.toNat_natCast] at hr
        have HRR := Lib.hid hr
        have hy : y < n := by omega
        have hy' : (y : Int) < n := by omega
        have hwy : IntKind.i64.wrap (y : Int) = y := by rw [IntKind.wrap_i64]; omega
        have htk : k + t - k = t := by omega
        have c1 := HQ1.out.1.at hy
        have cf := World.ownsRow.frozenAt HQ1.out.1
        have hsm := HQ1.out.2.1 y
        have hs := World.ownsRow.stored HQ1.out.1 y (.int .i64 (q.getD y 0 + 1))
        rw [ints_set] at hs
        have hst := small_step (x := y) HQ1.out.2.1
        obtain ⟨py, e1⟩ : ∃ px, q.getD y 0 = px := ⟨_, rfl⟩
        rw [e1] at c1 hs hr hsm hst
        have E1 := Lib.hid e1
        have HNX : Hid (∃ q', OwnI (wr.setCell ⟨g, y, none⟩ (.int .i64 (py + 1))) g g n n q' ∧ small q' (j + 1) ∧ runO (numL l) stepDeal ((List.replicate n (n : Int)).drop (j + 1)) (j + 1) q' (k + t) = R) := Lib.hid ⟨_, hs.1, hst, hr⟩
        have HBN : Below g w (wr.setCell ⟨g, y, none⟩ (.int .i64 (py + 1))) := hB.setCell (p := ⟨g, y, none⟩) (Nat.le_refl _) _
        have hk2 : k + t ≤ (j + 1) * 64 := by omega
        obtain ⟨sm1, sm2⟩ := hsm
        clear hr hkk hd hs e1 hx hst
        unfold rbelV
        simp only [htk]
        clear htk
        go_wp2_with fail
        go_roundw
        case rel => exact ⟨j + 1, k + t, hlt, by go_num, by go_num, hk2, HNX, HBN⟩
        case measure => simp [intOf]; omega
    · obtain rfl : j = n := by omega
      have hr : R = (some q, k) := by
        have := HQ1.out.2.2
        rw [List.drop_of_length_le (by rw [List.length_replicate]; exact Nat.le_refl _), run_nil] at this
        exact this.symm
      have HRR := Lib.hid hr
      clear hr
      go_wp2_with fail
      refine bodyPost_ret (v := .tuple #[.slice (some ⟨g, 0, none⟩) j j, .int .i64 k, .int .i64 0]) (by simp [results, Try.results32, go_sem]) rfl ?_
      rw [HRR.out]
      have hql := HQ1.out.1.len
      refine ⟨g, j, by rw [hql], by rw [hql, HG.out]; exact HQ1.out.1, by rw [HG.out]; exact hB⟩
end Go.Proofs.Ytbhikceekldenaa.Hb

/- The walks of bins.Cell and bins.Row. -/
import Derived.Test.YtbhikceekldenaaHbNode3
import Derived.Maps.AppendAt
import Derived.Deep.AppendLies
namespace Go.Proofs.Ytbhikceekldenaa.Hb
set_option linter.unusedVariables false
set_option linter.unusedSimpArgs false
open Go.RowKit

/-- The cells of a matrix, read. -/
def RC (w : World) (A : Option Addr) (l : List Int) : Prop := (∀ x ∈ l, 0 ≤ x ∧ x ≤ 65535) ∧ (l = [] ∨ ∃ ad : Addr, A = some ad ∧ ∀ i, i < l.length → w.cell? (ad.add i) = some (.int .u16 (l.getD i 0)))
theorem RC.below {w w1 : World} {A : Option Addr} {l : List Int} (h : RC w A l) (hb : Below w.heap.size w w1) : RC w1 A l :=
  ⟨h.1, h.2.imp id fun ⟨ad, e, hc⟩ => ⟨ad, e, fun i hi => (hb.cell (World.block_lt_of_cell? w _ (hc i hi))).trans (hc i hi)⟩⟩
theorem RC.at {w : World} {A : Option Addr} {l : List Int} (h : RC w A l) {k : Nat} (hk : k < l.length) : ∃ ad : Addr, A = some ad ∧ w.cell? (ad.add k) = some (.int .u16 (l.getD k 0)) ∧ 0 ≤ l.getD k 0 ∧ l.getD k 0 ≤ 65535 := by
  rcases h.2 with rfl | ⟨ad, e, hc⟩
  · simp at hk
  · refine ⟨ad, e, hc k hk, ?_⟩
    rw [List.getD_eq_getElem?_getD, List.getElem?_eq_getElem hk]
    exact h.1 _ (List.getElem_mem _)
theorem cell_idx {rows cols j i : Int} (h1 : 0 ≤ j) (h2 : j < cols) (h3 : 0 ≤ i) (h4 : i < rows) : 0 ≤ j * rows ∧ j * rows + i < rows * cols ∧ 0 ≤ j * rows + i := by
  have a : 0 ≤ j * rows := Int.mul_nonneg h1 (by omega)
  have b : (j + 1) * rows ≤ cols * rows := Int.mul_le_mul_of_nonneg_right (by omega) (by omega)
  rw [Int.add_mul, Int.one_mul] at b
  rw [Int.mul_comm rows cols]
  omega
set_option maxRecDepth 100000 in
set_option maxHeartbeats 1000000 in
theorem mcell_any (rows cols : Int) (cells : List Int) (A : Option Addr) (cap : Nat) (i j : Int) (w : World) (hm : matB rows cols cells.length = true) (hr : RC w A cells) (hi0 : 0 ≤ i) (hi : i < rows) (hj0 : 0 ≤ j) (hj : j < cols) :
    Calls Try.prog 84 #[.agg #[.int .i64 rows, .int .i64 cols, .slice A cells.length cap], .int .i64 i, .int .i64 j] w fun e w' => e = .returned (.tuple #[.int .i64 (cells.getD (j * rows + i).toNat 0), .bool true]) ∧ Below w.heap.size w w' := by
  obtain ⟨m1, m2, m3⟩ := matB_is hm
  obtain ⟨c1, c2, c3⟩ := cell_idx hj0 hj hi0 hi
  obtain ⟨n, hn⟩ : ∃ n, cells.length = n := ⟨_, rfl⟩
  have hnb : rows * cols ≤ 281474976710656 := by
    have := Int.mul_le_mul m1.2 m2.2 m2.1 (by omega)
    omega
  have hlt : (j * rows + i).toNat < cells.length := by omega
  have KM := Lib.hid (fun w => mright_any rows cols cells.length A cap (by omega) w)
  obtain ⟨ad, rfl, y, y1, y2⟩ := hr.at hlt
  obtain ⟨x, hx⟩ : ∃ x, cells.getD (j * rows + i).toNat 0 = x := ⟨_, rfl⟩
  rw [hx] at y y1 y2 ⊢
  rw [hm] at KM
  rw [hn] at KM hlt m3 ⊢
  obtain ⟨P, hP⟩ : ∃ P, j * rows = P := ⟨_, rfl⟩
  rw [hP] at c1 c2 c3 hlt y
  obtain ⟨k, hk⟩ := Int.eq_ofNat_of_zero_le c3
  rw [hk, Int.toNat_natCast] at y hlt
  have hw1 : IntKind.i64.wrap (j * rows) = P := by rw [hP, IntKind.wrap_i64]; omega
  have hw2 : IntKind.i64.wrap (P + i) = (k : Int) := by rw [hk, IntKind.wrap_i64]; omega
  have hw3 : IntKind.i64.wrap x = x := by rw [IntKind.wrap_i64]; omega
  have hlt' : (k : Int) < n := by omega
  have e1 : decide (i < 0) = false := decide_eq_false (by omega)
  have e2 : decide (rows ≤ i) = false := decide_eq_false (by omega)
  have e3 : decide (j < 0) = false := decide_eq_false (by omega)
  have e4 : decide (cols ≤ j) = false := decide_eq_false (by omega)
  have hbA := World.block_lt_of_cell? w _ y
  have HP := Lib.hid hP
  have HK := Lib.hid hk
  have HW1 := Lib.hid hw1
  have HW2 := Lib.hid hw2
  clear hm hr hx hn hP hk m3 hw1 hw2 m1 m2
  go_enter Try.func84, Try.ntmps84
  go_wp2_with fail
  refine (KM.out _).mono ?_
  rintro e w1 ⟨rfl, hb⟩
  have be : Below w.heap.size w w1 := ((Below.refl _ w).alloc (Nat.le_refl _) _).trans (hb.mono (by simp))
  have kA := (Blk.new w #[.int .i64 rows, .int .i64 cols, .slice (some ad) n cap] 26).below hb
  have p0 := kA.cell 0
  have p1 := kA.cell 1
  have p2 := kA.cell 2
  simp only [List.getElem?_toArray, List.getElem?_cons_zero, List.getElem?_cons_succ] at p0 p1 p2
  have z := (be.cell hbA).trans y
  have hw1 := HW1.out
  have hw2 := HW2.out
  clear hb y hbA c1 c2 c3
  go_wp2_with fail
  go_ret2
  exact ⟨rfl, be⟩
theorem row_get {rows cols : Int} {cells : List Int} {i k : Nat} (h : k < cols.toNat) : (rowO rows cols cells i).getD k 0 = cells.getD (k * rows.toNat + i) 0 := by
  unfold rowO
  rw [List.getD_eq_getElem?_getD, List.getElem?_map, List.getElem?_range h]
  rfl
theorem own_blk {w w1 : World} {g : Nat} {cs : Array Value} {t : TypeId} {row : Option Nat} (h : Blk w g cs t) (hg : w.grownBy w1 row) (hr : row ≠ some g) : Blk w1 g cs t := (hg.block g h.lt (fun e => hr e.symm)).trans h
theorem own_base {w : World} {base : Nat} {e : TypeId} {size n : Nat} {v : Value} {xs : List Value} {g : Nat} (h : w.ownsRow base e size v n xs) (hg : g < base) : v.ownBlock ≠ some g := fun e => by
  have := (World.ownsRow.lt h g e).1; omega
set_option maxRecDepth 100000 in
set_option maxHeartbeats 1000000 in
theorem mrow_any (rows cols : Int) (cells : List Int) (A : Option Addr) (cap : Nat) (i : Nat) (w : World) (hm : matB rows cols cells.length = true) (hr : RC w A cells) (hi : (i : Int) < rows) :
    Calls Try.prog 61 #[.agg #[.int .i64 rows, .int .i64 cols, .slice A cells.length cap], .int .i64 i] w fun e w' => ∃ v, e = .returned v ∧ w'.ownsRow w.heap.size 3 1 v cols.toNat (ints (rowO rows cols cells i)) ∧ Below w.heap.size w w' := by
  have KC := Lib.hid (fun (j : Nat) w hr (hj : (j : Int) < cols) => mcell_any rows cols cells A cap i j w hm hr (by omega) hi (by omega) hj)
  have hmm := matB_is hm
  obtain ⟨m, hmc⟩ := Int.eq_ofNat_of_zero_le hmm.2.1.1
  have hmb : m ≤ 16777216 := by have := hmm.2.1.2; omega
  have hrl : Hid ((rowO rows cols cells i).length = m) := Lib.hid (by rw [row_len, hmc]; rfl)
  have hrg : Hid (∀ k, k < m → cells.getD ((k : Int) * rows + (i : Int)).toNat 0 = (rowO rows cols cells i).getD k 0) := Lib.hid (fun k hk => by
    rw [row_get (by rw [hmc]; exact hk)]
    congr 1
    obtain ⟨q, hq⟩ := Int.eq_ofNat_of_zero_le hmm.1.1
    subst hq
    show (((k : Int) * (q : Int)) + (i : Int)).toNat = k * ((q : Int)).toNat + i
    rw [Int.toNat_natCast, ← Int.natCast_mul, ← Int.natCast_add, Int.toNat_natCast])
  obtain ⟨R, hR⟩ : ∃ R, rowO rows cols cells i = R := ⟨_, rfl⟩
  rw [hR] at hrl hrg ⊢
  have HIN : Hid (∀ k, k < m → 0 ≤ R.getD k 0 ∧ R.getD k 0 ≤ 65535) := Lib.hid (fun k hk => by
    rw [← hrg.out k hk]
    obtain ⟨c1, c2, c3⟩ := cell_idx (rows := rows) (cols := cols) (j := k) (i := i) (by omega) (by omega) (by omega) hi
    obtain ⟨_, _, _, h⟩ := hr.at (k := ((k : Int) * rows + (i : Int)).toNat) (by omega)
    exact h)
  subst hmc
  rw [Int.toNat_natCast]
  obtain ⟨n, hn⟩ : ∃ n, cells.length = n := ⟨_, rfl⟩
  rw [hn] at KC ⊢
  have HRC := Lib.hid hr
  obtain ⟨i0, hi0, hz0, hz1, hz2⟩ := info_parts info_int
  clear hm hmm hR hn hr
  go_enter Try.func61, Try.ntmps61
  go_wp2_with fail
  go_loopw [5, 6] (fun o jv wr => ∃ (k : Nat) (a : Option Addr) (c : Nat), k ≤ m ∧ jv = .int .i64 k ∧ o = .slice a k c ∧ Hid (wr.ownsRow (w.heap.size + 1) 3 1 (.slice a k c) k (ints (R.take k))) ∧ Blk wr w.heap.size #[.int .i64 rows, .int .i64 m, .slice A n cap] 26 ∧ Hid (Below w.heap.size w wr)) (fun _ jv _ => m - (intOf jv).toNat)
  case atStart =>
    refine ⟨0, none, 0, Nat.zero_le _, rfl, rfl, Lib.hid (World.ownsRow_nil _ _ _ _), Blk.new w _ _, Lib.hid ((Below.refl _ _).alloc (Nat.le_refl _) _)⟩
  case round =>
    obtain ⟨k, a, c, hk, rfl, rfl, HO, kB, HBe⟩ := hrel
    have p0 := kB.cell 0
    have p1 := kB.cell 1
    have p2 := kB.cell 2
    have hlB := kB.lt
    simp only [List.getElem?_toArray, List.getElem?_cons_zero, List.getElem?_cons_succ] at p0 p1 p2
    by_cases hlt : k < m
    · have hlt' : (k : Int) < m := by omega
      have KC2 := Lib.hid (KC.out k wr (HRC.out.below HBe.out) hlt')
      obtain ⟨x, hx⟩ : ∃ x, R.getD k 0 = x := ⟨_, rfl⟩
      have hgx := hrg.out k hlt
      rw [hx] at hgx
      rw [hgx] at KC2
      have HX := Lib.hid hx
      clear hgx hx
      go_wp2_with fail
      refine KC2.out.mono ?_
      rintro e w1 ⟨rfl, hb⟩
      have kB1 := kB.below hb
      have HO1 := Lib.hid (own_below HO.out hb)
      have HBe1 := Lib.hid (HBe.out.trans (hb.mono (by omega)))
      have hl1 := kB1.lt
      clear hb p0 p1 p2 kB hlB
      go_wp2_with (at_builtin; refine wpList_append_lies _ rfl _ _ 54 rfl (w.heap.size + 1) 3 i0 (.int .i64 0) 1 8 Try.underlying54 hi0 hz0 hz1 hz2 rfl (by decide) _ _ _ rfl (HO1.out.alloc _) ⟨w1.heap.size, 0, none⟩ 1 1 [.int .i64 x] rfl rfl (cell_one_new _ _ _) (by simp [Value.oneCell']) (by decide) (by unfold maxLen; omega) (by omega) (by simp; omega) _ rfl ?_; intro g2 c2 w2 hown2 hg2 hat2 hlt2)
      go_roundw
      case rel =>
        refine ⟨k + 1, _, c2, hlt, by go_num, rfl, Lib.hid ?_, ?_, Lib.hid ?_⟩
        · rw [take_snocI (by rw [hrl.out]; exact hlt), HX.out, ints_snoc]; exact hown2
        · exact own_blk (kB1.below ((Below.refl _ _).alloc (Nat.le_refl _) _)) hg2 (own_base HO1.out (Nat.lt_succ_self _))
        · exact (HBe1.out.alloc (by omega) _).grown hg2 (by simp; omega) (fun q e => by have := (World.ownsRow.lt HO1.out q e).1; omega)
      case measure => simp [intOf]; omega
    · obtain rfl : k = m := by omega
      go_wp2_with fail
      go_ret
      refine ⟨_, rfl, ?_, HBe.out⟩
      have := HO.out
      rw [List.take_of_length_le (by rw [hrl.out]; exact Nat.le_refl _)] at this
      exact World.ownsRow.mono this (Nat.le_succ _)
end Go.Proofs.Ytbhikceekldenaa.Hb

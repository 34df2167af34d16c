/- The walks of ref11.Cell, ref20.Cells, ref20.Place, ref09.Target. -/
import Derived.Test.YtbhikceekldenaaHbMRow
import Derived.Test.YtbhikceekldenaaHbPlace
import Derived.Deep.QuietTactic
import Derived.BigQuiet
namespace Go.Proofs.Ytbhikceekldenaa.Hb
set_option linter.unusedVariables false
set_option linter.unusedSimpArgs false
open Go.RowKit

set_option maxRecDepth 100000 in
set_option maxHeartbeats 1000000 in
theorem rcell_any (rows cols : Int) (cells : List Int) (A : Option Addr) (cap : Nat) (i j : Int) (w : World) (hm : matB rows cols cells.length = true) (hr : RC w A cells) (hi0 : 0 ≤ i) (hi : i < rows) (hj0 : 0 ≤ j) (hj : j < cols) :
    Calls Try.prog 65 #[.agg #[.int .i64 rows, .int .i64 cols, .slice A cells.length cap], .int .i64 i, .int .i64 j] w fun e w' => e = .returned (.int .i64 (cells.getD (j * rows + i).toNat 0)) ∧ Below w.heap.size w w' := by
  obtain ⟨m1, m2, m3⟩ := matB_is hm
  obtain ⟨c1, c2, c3⟩ := cell_idx hj0 hj hi0 hi
  obtain ⟨n, hn⟩ : ∃ n, cells.length = n := ⟨_, rfl⟩
  have hnb : rows * cols ≤ 281474976710656 := by
    have := Int.mul_le_mul m1.2 m2.2 m2.1 (by omega)
    omega
  have hlt : (j * rows + i).toNat < cells.length := by omega
  have KM := Lib.hid (fun w => rmright_any rows cols cells.length A cap (by omega) w)
  obtain ⟨ad, rfl, y, y1, y2⟩ := hr.at hlt
  obtain ⟨x, hx⟩ : ∃ x, cells.getD (j * rows + i).toNat 0 = x := ⟨_, rfl⟩
  rw [hx] at y y1 y2 ⊢
  rw [hm] at KM
  rw [hn] at KM hlt m3 ⊢
  obtain ⟨P, hP⟩ : ∃ P, j * rows = P := ⟨_, rfl⟩
  rw [hP] at c1 c2 c3 hlt y
  obtain ⟨k, hk⟩ := Int.eq_ofNat_of_zero_le c3
  rw [hk, Int.toNat_natCast] at y hlt
  have hw1 : IntKind.i64.wrap (j * rows) = P := by rw [hP, IntKind.wrap_i64]; omega
  have hw2 : IntKind.i64.wrap (P + i) = (k : Int) := by rw [hk, IntKind.wrap_i64]; omega
  have hw3 : IntKind.i64.wrap x = x := by rw [IntKind.wrap_i64]; omega
  have hlt' : (k : Int) < n := by omega
  have e1 : decide (i < 0) = false := decide_eq_false (by omega)
  have e2 : decide (rows ≤ i) = false := decide_eq_false (by omega)
  have e3 : decide (j < 0) = false := decide_eq_false (by omega)
  have e4 : decide (cols ≤ j) = false := decide_eq_false (by omega)
  have hbA := World.block_lt_of_cell? w _ y
  have HP := Lib.hid hP
  have HK := Lib.hid hk
  have HW1 := Lib.hid hw1
  have HW2 := Lib.hid hw2
  clear hm hr hx hn hP hk m3 hw1 hw2 m1 m2
  go_enter Try.func65, Try.ntmps65
  go_wp2_with fail
  refine (KM.out _).mono ?_
  rintro e w1 ⟨rfl, hb⟩
  have be : Below w.heap.size w w1 := ((Below.refl _ w).alloc (Nat.le_refl _) _).trans (hb.mono (by simp))
  have kA := (Blk.new w #[.int .i64 rows, .int .i64 cols, .slice (some ad) n cap] 26).below hb
  have p0 := kA.cell 0
  have p1 := kA.cell 1
  have p2 := kA.cell 2
  simp only [List.getElem?_toArray, List.getElem?_cons_zero, List.getElem?_cons_succ] at p0 p1 p2
  have z := (be.cell hbA).trans y
  have hw1 := HW1.out
  have hw2 := HW2.out
  clear hb y hbA c1 c2 c3
  go_wp2_with fail
  go_ret
  exact ⟨rfl, be⟩
set_option maxRecDepth 100000 in
set_option maxHeartbeats 1000000 in
theorem rcells_any (rows cols : Int) (cells : List Int) (A : Option Addr) (cap : Nat) (i : Nat) (w : World) (hm : matB rows cols cells.length = true) (hr : RC w A cells) (hi : (i : Int) < rows) :
    Calls Try.prog 39 #[.agg #[.int .i64 rows, .int .i64 cols, .slice A cells.length cap], .int .i64 i] w fun e w' => ∃ v, e = .returned v ∧ w'.ownsRow w.heap.size 3 1 v cols.toNat (ints (rowO rows cols cells i)) ∧ Below w.heap.size w w' := by
  have KC := Lib.hid (fun (j : Nat) w hr (hj : (j : Int) < cols) => rcell_any rows cols cells A cap i j w hm hr (by omega) hi (by omega) hj)
  have hmm := matB_is hm
  obtain ⟨m, hmc⟩ := Int.eq_ofNat_of_zero_le hmm.2.1.1
  have hmb : m ≤ 16777216 := by have := hmm.2.1.2; omega
  have hrl : Hid ((rowO rows cols cells i).length = m) := Lib.hid (by rw [row_len, hmc]; rfl)
  have hrg : Hid (∀ k, k < m → cells.getD ((k : Int) * rows + (i : Int)).toNat 0 = (rowO rows cols cells i).getD k 0) := Lib.hid (fun k hk => by
    rw [row_get (by rw [hmc]; exact hk)]
    congr 1
    obtain ⟨q, hq⟩ := Int.eq_ofNat_of_zero_le hmm.1.1
    subst hq
    show (((k : Int) * (q : Int)) + (i : Int)).toNat = k * ((q : Int)).toNat + i
    rw [Int.toNat_natCast, ← Int.natCast_mul, ← Int.natCast_add, Int.toNat_natCast])
  obtain ⟨R, hR⟩ : ∃ R, rowO rows cols cells i = R := ⟨_, rfl⟩
  rw [hR] at hrl hrg ⊢
  have HIN : Hid (∀ k, k < m → 0 ≤ R.getD k 0 ∧ R.getD k 0 ≤ 65535) := Lib.hid (fun k hk => by
    rw [← hrg.out k hk]
    obtain ⟨c1, c2, c3⟩ := cell_idx (rows := rows) (cols := cols) (j := k) (i := i) (by omega) (by omega) (by omega) hi
    obtain ⟨_, _, _, h⟩ := hr.at (k := ((k : Int) * rows + (i : Int)).toNat) (by omega)
    exact h)
  subst hmc
  rw [Int.toNat_natCast]
  obtain ⟨n, hn⟩ : ∃ n, cells.length = n := ⟨_, rfl⟩
  rw [hn] at KC ⊢
  have HRC := Lib.hid hr
  obtain ⟨i0, hi0, hz0, hz1, hz2⟩ := info_parts info_int
  clear hm hmm hR hn hr
  go_enter Try.func39, Try.ntmps39
  go_wp2_with fail
  go_loopw [5, 6] (fun o jv wr => ∃ (k : Nat) (a : Option Addr) (c : Nat), k ≤ m ∧ jv = .int .i64 k ∧ o = .slice a k c ∧ Hid (wr.ownsRow (w.heap.size + 1) 3 1 (.slice a k c) k (ints (R.take k))) ∧ Blk wr w.heap.size #[.int .i64 rows, .int .i64 m, .slice A n cap] 26 ∧ Hid (Below w.heap.size w wr)) (fun _ jv _ => m - (intOf jv).toNat)
  case atStart =>
    refine ⟨0, _, _, Nat.zero_le _, rfl, rfl, Lib.hid ?_, (Blk.new w _ _).below ((Below.refl _ _).alloc (Nat.le_refl _) _), Lib.hid (((Below.refl _ _).alloc (Nat.le_refl _) _).alloc (by simp) _)⟩
    have := World.ownsRow_made (base := w.heap.size + 1) (e := 3) (size := 1) (w.alloc (.cells #[.int .i64 rows, .int .i64 m, .slice A n cap] 26)) #[] 0 (by simp) (Nat.zero_le _) rfl
    have hz : (w.alloc (.cells #[.int .i64 rows, .int .i64 m, .slice A n cap] 26)).heap.size = w.heap.size + 1 := by simp
    rw [hz] at this
    rw [List.take_zero]
    exact this
  case round =>
    obtain ⟨k, a, c, hk, rfl, rfl, HO, kB, HBe⟩ := hrel
    have p0 := kB.cell 0
    have p1 := kB.cell 1
    have p2 := kB.cell 2
    have hlB := kB.lt
    simp only [List.getElem?_toArray, List.getElem?_cons_zero, List.getElem?_cons_succ] at p0 p1 p2
    by_cases hlt : k < m
    · have hlt' : (k : Int) < m := by omega
      have KC2 := Lib.hid (KC.out k wr (HRC.out.below HBe.out) hlt')
      obtain ⟨x, hx⟩ : ∃ x, R.getD k 0 = x := ⟨_, rfl⟩
      have hgx := hrg.out k hlt
      rw [hx] at hgx
      rw [hgx] at KC2
      have HX := Lib.hid hx
      clear hgx hx
      go_wp2_with fail
      refine KC2.out.mono ?_
      rintro e w1 ⟨rfl, hb⟩
      have kB1 := kB.below hb
      have HO1 := Lib.hid (own_below HO.out hb)
      have HBe1 := Lib.hid (HBe.out.trans (hb.mono (by omega)))
      have hl1 := kB1.lt
      clear hb p0 p1 p2 kB hlB
      go_wp2_with (at_builtin; refine wpList_append_lies _ rfl _ _ 54 rfl (w.heap.size + 1) 3 i0 (.int .i64 0) 1 8 Try.underlying54 hi0 hz0 hz1 hz2 rfl (by decide) _ _ _ rfl (HO1.out.alloc _) ⟨w1.heap.size, 0, none⟩ 1 1 [.int .i64 x] rfl rfl (cell_one_new _ _ _) (by simp [Value.oneCell']) (by decide) (by unfold maxLen; omega) (by omega) (by simp; omega) _ rfl ?_; intro g2 c2 w2 hown2 hg2 hat2 hlt2)
      go_roundw
      case rel =>
        refine ⟨k + 1, _, c2, hlt, by go_num, rfl, Lib.hid ?_, ?_, Lib.hid ?_⟩
        · rw [take_snocI (by rw [hrl.out]; exact hlt), HX.out, ints_snoc]; exact hown2
        · exact own_blk (kB1.below ((Below.refl _ _).alloc (Nat.le_refl _) _)) hg2 (own_base HO1.out (Nat.lt_succ_self _))
        · exact (HBe1.out.alloc (by omega) _).grown hg2 (by simp; omega) (fun q e => by have := (World.ownsRow.lt HO1.out q e).1; omega)
      case measure => simp [intOf]; omega
    · obtain rfl : k = m := by omega
      go_wp2_with fail
      go_ret
      refine ⟨_, rfl, ?_, HBe.out⟩
      have := HO.out
      rw [List.take_of_length_le (by rw [hrl.out]; exact Nat.le_refl _)] at this
      exact World.ownsRow.mono this (Nat.le_succ _)
set_option maxRecDepth 100000 in
set_option maxHeartbeats 2000000 in
theorem rplace_any (t : List Nd) (row : List Int) (At Ar : Option Addr) (ct cr : Nat) (w : World) (hr : RN w At t) (hrr : RI1 w Ar row) (ht : t.length ≤ 1099511627776) (hrl : row.length ≤ 1099511627776) :
    Calls Try.prog 38 #[.slice At t.length ct, .slice Ar row.length cr] w fun e w' => e = .returned (.int .i64 (placeO t row)) ∧ Below w.heap.size w w' := by
  obtain ⟨P, hP⟩ : ∃ P, placeO t row = P := ⟨_, rfl⟩
  rw [hP]
  obtain ⟨n, hn⟩ : ∃ n, t.length = n := ⟨_, rfl⟩
  obtain ⟨r, hrw⟩ : ∃ r, row.length = r := ⟨_, rfl⟩
  have HP : Hid (placeGo t row n 0 = P) := Lib.hid (by rw [← hn]; exact hP)
  have HN := Lib.hid hn
  have HRL := Lib.hid hrw
  have HR := Lib.hid hr
  have HRR := Lib.hid hrr
  rw [hn] at ht ⊢
  rw [hrw] at hrl ⊢
  clear hP hn hrw hr hrr
  go_enter Try.func38, Try.ntmps38
  go_wp2_with fail
  go_loopw [5, 6] (fun av iv wr => ∃ (k : Nat) (a : Int), k ≤ n ∧ iv = .int .i64 k ∧ av = .int .i64 a ∧ Hid (placeGo t row (n - k) a = P) ∧ Hid (Below w.heap.size w wr)) (fun _ iv _ => n - (intOf iv).toNat)
  case atStart => exact ⟨0, 0, Nat.zero_le _, rfl, rfl, HP, Lib.hid (Below.refl _ _)⟩
  case round =>
    obtain ⟨k, a, hk, rfl, rfl, HI, HB⟩ := hrel
    by_cases hlt : k < n
    · have hlt' : (k : Int) < n := by omega
      obtain ⟨kk, hkk⟩ : ∃ kk, n - k = kk + 1 := ⟨n - k - 1, by omega⟩
      have HKK := Lib.hid hkk
      clear hkk
      by_cases hout : a < 0 ∨ (n : Int) ≤ a
      · have hfin : Hid (P = -1) := Lib.hid (by rw [← HI.out, HKK.out]; exact place_out (by rw [HN.out]; exact hout))
        rcases hout with ho | ho
        · have d1 : decide (a < 0) = true := decide_eq_true ho
          go_wp2_with fail
          go_ret
          exact ⟨ret_i64 hfin.out.symm, HB.out⟩
        · have d1 : decide (a < 0) = false := decide_eq_false (by omega)
          have d2 : decide ((n : Int) ≤ a) = true := decide_eq_true ho
          go_wp2_with fail
          go_ret
          exact ⟨ret_i64 hfin.out.symm, HB.out⟩
      · obtain ⟨c, hc⟩ := Int.eq_ofNat_of_zero_le (show 0 ≤ a by omega)
        subst hc
        have hcn : c < t.length := by rw [HN.out]; omega
        have d1 : decide ((c : Int) < 0) = false := decide_eq_false (by omega)
        have d2 : decide ((n : Int) ≤ (c : Int)) = false := decide_eq_false (by omega)
        have d3 : decide (n ≤ c) = false := decide_eq_false (by omega)
        obtain ⟨ad, rfl, x, hx, hxok, hat⟩ := (HR.out.below HB.out).at (i := c) hcn
        have hnd : Hid (ndAt t (c : Int) = x) := Lib.hid (by
          have := ndAt_get (t := t) (a := (c : Int)) (by omega) (by omega)
          rw [Int.toNat_natCast, hx] at this
          exact (Option.some.inj this).symm)
        have hno : Hid (¬ ((c : Int) < 0 ∨ (t.length : Int) ≤ (c : Int))) := Lib.hid (by omega)
        have HBo : Hid (∀ o, Below w.heap.size w (wr.alloc o)) := Lib.hid (fun o => HB.out.alloc HB.out.size o)
        obtain ⟨p0, p1, p2, p3, p4, p5⟩ := hat
        have hc' : c < n := by omega
        have hc'' : (c : Int) < n := by omega
        by_cases hlf : x.f = -1
        · have hfin : Hid (P = (c : Int)) := Lib.hid (by rw [← HI.out, HKK.out]; exact place_leaf hno.out (by rw [hnd.out]; exact hlf))
          obtain ⟨f, b, ll, cc, sx, q⟩ := x
          simp only at p0 p1 p2 p3 p4 p5 hlf
          have e1 : (f == -1) = true := beq_iff_eq.2 hlf
          clear hlf hx hxok hout hcn
          go_wp2_with fail
          go_ret
          exact ⟨ret_i64 hfin.out.symm, HBo.out _⟩
        · by_cases hoff : x.f < 0 ∨ (r : Int) ≤ x.f
          · have hfin : Hid (P = -1) := Lib.hid (by rw [← HI.out, HKK.out]; exact place_off hno.out (by rw [hnd.out]; exact hlf) (by rw [hnd.out, HRL.out]; exact hoff))
            obtain ⟨f, b, ll, cc, sx, q⟩ := x
            simp only at p0 p1 p2 p3 p4 p5 hlf hoff
            have e1 : (f == -1) = false := beq_eq_false_iff_ne.2 hlf
            rcases hoff with ho | ho
            · have d4 : decide (f < -1) = true := decide_eq_true (by omega)
              clear hlf hx hxok hout hcn
              go_wp2_with fail
              go_ret
              exact ⟨ret_i64 hfin.out.symm, HBo.out _⟩
            · have d4 : decide (f < -1) = false := decide_eq_false (by omega)
              have d5 : decide ((r : Int) ≤ f) = true := decide_eq_true ho
              clear hlf hx hxok hout hcn
              go_wp2_with fail
              go_ret
              exact ⟨ret_i64 hfin.out.symm, HBo.out _⟩
          · obtain ⟨fc, hfc⟩ := Int.eq_ofNat_of_zero_le (show 0 ≤ x.f by omega)
            have hfr : fc < row.length := by rw [HRL.out]; omega
            obtain ⟨ad2, rfl, hin, y⟩ := (HRR.out.below HB.out).at hfr
            have hgo : Hid (placeGo t row (n - (k + 1)) (nextAt row x) = P) := Lib.hid (by
              have := HI.out
              rw [HKK.out, place_go hno.out (by rw [hnd.out]; exact hlf) (by rw [hnd.out, HRL.out]; exact hoff), hnd.out] at this
              rw [show n - (k + 1) = kk by have := HKK.out; omega]
              exact this)
            have hnx : Hid (nextAt row x = if row.getD fc 0 > x.b then IntKind.i64.wrap (x.l + 1) else x.l) := Lib.hid (by unfold nextAt; rw [hfc]; rfl)
            obtain ⟨v, hv⟩ : ∃ v, row.getD fc 0 = v := ⟨_, rfl⟩
            rw [hv] at y hnx
            obtain ⟨f, b, ll, cc, sx, q⟩ := x
            simp only at p0 p1 p2 p3 p4 p5 hoff hfc hnx hgo hlf
            subst hfc
            have hfr2 : (fc : Int) < r := by omega
            have e1 : ((fc : Int) == -1) = false := beq_eq_false_iff_ne.2 hlf
            have d4 : decide ((fc : Int) < -1) = false := decide_eq_false (by omega)
            have d5 : decide ((r : Int) ≤ (fc : Int)) = false := decide_eq_false (by omega)
            have d6 : decide (r ≤ fc) = false := decide_eq_false (by omega)
            have hyB := World.block_lt_of_cell? wr _ y
            clear hv hoff hin hlf hx hxok hout hcn
            by_cases hvb : b < v
            · have d7 : decide (v ≤ b) = false := decide_eq_false (by omega)
              have HGO2 : Hid (placeGo t row (n - (k + 1)) (wrap64 (ll + 1)) = P) := Lib.hid (by rw [← hgo.out, hnx.out, if_pos hvb, wrap_64])
              clear hvb hnx hgo
              go_wp2_with fail
              go_quiet (fail)
              go_wp2_with fail
              go_roundw
              case rel => exact ⟨k + 1, _, hlt, by go_num, rfl, HGO2, Lib.hid ((HBo.out _).trans ⟨rfl, rfl, rfl, Nat.le_refl _, fun _ _ => rfl⟩)⟩
              case measure => simp [intOf]; omega
            · have d7 : decide (v ≤ b) = true := decide_eq_true (by omega)
              have HGO2 : Hid (placeGo t row (n - (k + 1)) ll = P) := Lib.hid (by rw [← hgo.out, hnx.out, if_neg hvb])
              clear hvb hnx hgo
              go_wp2_with fail
              go_quiet (fail)
              go_wp2_with fail
              go_roundw
              case rel => exact ⟨k + 1, _, hlt, by go_num, rfl, HGO2, Lib.hid ((HBo.out _).trans ⟨rfl, rfl, rfl, Nat.le_refl _, fun _ _ => rfl⟩)⟩
              case measure => simp [intOf]; omega
    · obtain rfl : n = k := by omega
      have hfin : Hid (P = -1) := Lib.hid (by rw [← HI.out, Nat.sub_self]; rfl)
      go_wp2_with fail
      go_ret
      exact ⟨ret_i64 hfin.out.symm, HB.out⟩
def rtgtO (k cl x : Int) : Int := if k = 0 ∧ (x < 0 ∨ 255 < x ∨ cl ≤ x) then 5 else if k = 1 ∧ (x < -1048576 ∨ 1048576 < x) then 4 else 0
set_option maxRecDepth 100000 in
set_option maxHeartbeats 1000000 in
theorem rtarget_any (k cl b t d l p x : Int) (hx : in64 x) (w : World) : Calls Try.prog 46 #[.agg #[.int .i64 k, .int .i64 cl, .int .i64 b, .int .i64 t, .int .i64 d, .int .i64 l, .int .i64 p], .int .i64 x] w fun e w' => e = .returned (.int .i64 (rtgtO k cl x)) ∧ Below w.heap.size w w' := by
  obtain ⟨x1, x2⟩ := hx
  by_cases hk : k = 0
  · subst hk
    go_enter Try.func46, Try.ntmps46
    go_wp2_with fail
    all_goals
      go_ret
      refine ⟨ret_i64 ?_, (Below.refl _ _).alloc (Nat.le_refl _) _⟩
      unfold rtgtO
      first
      | (rw [if_pos (by omega)])
      | (rw [if_neg (by omega), if_neg (by omega)])
  · by_cases hk1 : k = 1
    · subst hk1
      go_enter Try.func46, Try.ntmps46
      go_wp2_with fail
      all_goals
        go_ret
        refine ⟨ret_i64 ?_, (Below.refl _ _).alloc (Nat.le_refl _) _⟩
        unfold rtgtO
        first
        | (rw [if_neg (by omega), if_pos (by omega)])
        | (rw [if_neg (by omega), if_neg (by omega)])
    · have k1 : (k == 0) = false := beq_eq_false_iff_ne.2 hk
      have k2 : (k == 1) = false := beq_eq_false_iff_ne.2 hk1
      have HK := Lib.hid (And.intro hk hk1)
      clear hk hk1
      go_enter Try.func46, Try.ntmps46
      go_wp2_with fail
      go_ret
      refine ⟨ret_i64 ?_, (Below.refl _ _).alloc (Nat.le_refl _) _⟩
      have := HK.out
      unfold rtgtO
      rw [if_neg (by omega), if_neg (by omega)]
end Go.Proofs.Ytbhikceekldenaa.Hb

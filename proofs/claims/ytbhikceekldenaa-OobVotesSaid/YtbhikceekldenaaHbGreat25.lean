/- What is too great for the laws of layers 25 and 26. -/
import Derived.Test.YtbhikceekldenaaHbGrv
namespace Go.Proofs.Ytbhikceekldenaa.Hb
set_option linter.unusedVariables false
set_option linter.unusedSimpArgs false
open Go.RowKit

def longL {α : Type} (l : List α) : Bool := decide (100 < l.length)
def greatH (g : Grv) : Prop := 400 < g.cells.length ∨ (100 < g.rows ∧ g.rows ≤ 16777216) ∨ 10 < g.trees.length ∨ 10 < g.weights.length ∨ 100 < g.tgt.length
instance (g : Grv) : Decidable (greatH g) := by unfold greatH; infer_instance
def greatG (g : Grv) : Bool := decide (greatH g) || (g.trees.any longL || g.weights.any longL)
theorem great_not {g : Grv} (h : greatG g = false) : ¬ greatH g ∧ (∀ t ∈ g.trees, t.length ≤ 100) ∧ ∀ x ∈ g.weights, x.length ≤ 100 := by
  unfold greatG at h
  simp only [Bool.or_eq_false_iff, decide_eq_false_iff_not, List.any_eq_false] at h
  refine ⟨h.1, fun t ht => ?_, fun x hx => ?_⟩
  · have := h.2.1 t ht; unfold longL at this; simp at this; exact this
  · have := h.2.2 x hx; unfold longL at this; simp at this; exact this
theorem great_ok {g : Grv} (h : greatG g = false) : OkG g := by
  obtain ⟨h1, h2, h3⟩ := great_not h
  unfold greatH at h1
  exact ⟨by omega, by omega, by omega, by omega, fun t ht => by have := h2 t ht; omega, fun x hx => by have := h3 x hx; omega⟩
theorem great_rows {g : Grv} (h : greatG g = false) (hm : mayG g = true) : 0 ≤ g.rows ∧ g.rows ≤ 100 := by
  obtain ⟨h1, _⟩ := great_not h
  have := (head_is (may_is hm).1).2.1.1
  unfold greatH at h1
  omega
theorem any_at {α : Type} {p : α → Bool} {l : List α} {k : Nat} {x : α} (h : l[k]? = some x) : (l.drop k).any p = (p x || (l.drop (k + 1)).any p) := by
  obtain ⟨hk, rfl⟩ := List.getElem?_eq_some_iff.1 h
  rw [List.drop_eq_getElem_cons hk, List.any_cons]
set_option maxRecDepth 100000 in
set_option maxHeartbeats 4000000 in
theorem great_any (g : Grv) (Ac At Aw Ag : Option Addr) (cc ct cw cg : Nat) (w : World) (hr : RG w g Ac At Aw Ag) (l1 : g.trees.length ≤ 9223372036854775807) (l2 : g.weights.length ≤ 9223372036854775807) :
    Calls Try.prog 14 #[.agg (grvA g Ac At Aw Ag cc ct cw cg)] w fun e w' => e = .returned (.bool (greatG g)) ∧ Below w.heap.size w w' := by
  obtain ⟨T1, hT1⟩ : ∃ z, g.trees.any longL = z := ⟨_, rfl⟩
  obtain ⟨T2, hT2⟩ : ∃ z, g.weights.any longL = z := ⟨_, rfl⟩
  have HG : Hid (greatG g = (decide (greatH g) || (T1 || T2))) := Lib.hid (by unfold greatG; rw [hT1, hT2])
  have HT1 : Hid ((g.trees.drop 0).any longL = T1) := Lib.hid (by rw [List.drop_zero]; exact hT1)
  have HT2 : Hid ((g.weights.drop 0).any longL = T2) := Lib.hid (by rw [List.drop_zero]; exact hT2)
  obtain ⟨R, hR⟩ : ∃ R, greatG g = R := ⟨_, rfl⟩
  rw [hR] at HG ⊢
  have HRG := Lib.hid hr
  have hH : greatH g ↔ (400 < g.cells.length ∨ (100 < g.rows ∧ g.rows ≤ 16777216) ∨ 10 < g.trees.length ∨ 10 < g.weights.length ∨ 100 < g.tgt.length) := Iff.rfl
  obtain ⟨nc, hnc⟩ : ∃ n, g.cells.length = n := ⟨_, rfl⟩
  obtain ⟨nt, hnt⟩ : ∃ n, g.trees.length = n := ⟨_, rfl⟩
  obtain ⟨nw, hnw⟩ : ∃ n, g.weights.length = n := ⟨_, rfl⟩
  obtain ⟨ng, hng⟩ : ∃ n, g.tgt.length = n := ⟨_, rfl⟩
  obtain ⟨rows, hrows⟩ : ∃ x, g.rows = x := ⟨_, rfl⟩
  unfold grvA
  rw [hnt] at l1
  rw [hnw] at l2
  rw [hnc, hnt, hnw, hng, hrows] at hH ⊢
  have HN := Lib.hid (And.intro hnt hnw)
  have HYES : Hid (greatH g → R = true) := Lib.hid (fun h => by rw [HG.out, decide_eq_true h]; rfl)
  have HNO : Hid (¬ greatH g → R = (T1 || T2)) := Lib.hid (fun h => by rw [HG.out, decide_eq_false h]; rfl)
  have HHH := Lib.hid hH
  clear hT1 hT2 hR hr hnc hnt hnw hng hrows HG hH
  by_cases h1 : 400 < nc
  · have d1 : decide (400 < nc) = true := decide_eq_true h1
    have d1' : decide ((400 : Int) < nc) = true := decide_eq_true (by omega)
    go_enter Try.func14, Try.ntmps14
    go_wp2_with fail
    go_ret
    exact ⟨ret_bool (HYES.out (HHH.out.2 (by omega))).symm, (Below.refl _ _).alloc (Nat.le_refl _) _⟩
  have d1 : decide (400 < nc) = false := decide_eq_false h1
  have d1' : decide ((400 : Int) < nc) = false := decide_eq_false (by omega)
  by_cases h2 : 100 < rows ∧ rows ≤ 16777216
  · have d2 : decide (100 < rows) = true := decide_eq_true h2.1
    have d2' : decide (rows ≤ 16777216) = true := decide_eq_true h2.2
    go_enter Try.func14, Try.ntmps14
    go_wp2_with fail
    go_ret
    exact ⟨ret_bool (HYES.out (HHH.out.2 (by omega))).symm, (Below.refl _ _).alloc (Nat.le_refl _) _⟩
  by_cases e2 : 100 < rows
  · have d2 : decide (100 < rows) = true := decide_eq_true e2
    have d2' : decide (rows ≤ 16777216) = false := decide_eq_false (by omega)
    by_cases h3 : 10 < nt
    · have d3 : decide (10 < nt) = true := decide_eq_true h3
      have d3' : decide ((10 : Int) < nt) = true := decide_eq_true (by omega)
      go_enter Try.func14, Try.ntmps14
      go_wp2_with fail
      go_ret
      exact ⟨ret_bool (HYES.out (HHH.out.2 (by omega))).symm, (Below.refl _ _).alloc (Nat.le_refl _) _⟩
    have d3 : decide (10 < nt) = false := decide_eq_false h3
    have d3' : decide ((10 : Int) < nt) = false := decide_eq_false (by omega)
    by_cases h4 : 10 < nw
    · have d4 : decide (10 < nw) = true := decide_eq_true h4
      have d4' : decide ((10 : Int) < nw) = true := decide_eq_true (by omega)
      go_enter Try.func14, Try.ntmps14
      go_wp2_with fail
      go_ret
      exact ⟨ret_bool (HYES.out (HHH.out.2 (by omega))).symm, (Below.refl _ _).alloc (Nat.le_refl _) _⟩
    have d4 : decide (10 < nw) = false := decide_eq_false h4
    have d4' : decide ((10 : Int) < nw) = false := decide_eq_false (by omega)
    by_cases h5 : 100 < ng
    · have d5 : decide (100 < ng) = true := decide_eq_true h5
      have d5' : decide ((100 : Int) < ng) = true := decide_eq_true (by omega)
      go_enter Try.func14, Try.ntmps14
      go_wp2_with fail
      go_ret
      exact ⟨ret_bool (HYES.out (HHH.out.2 (by omega))).symm, (Below.refl _ _).alloc (Nat.le_refl _) _⟩
    have d5 : decide (100 < ng) = false := decide_eq_false h5
    have d5' : decide ((100 : Int) < ng) = false := decide_eq_false (by omega)
    have HNO2 : Hid (R = (T1 || T2)) := Lib.hid (HNO.out (fun h => by have := HHH.out.1 h; omega))
    clear h1 h2 e2 h3 h4 h5 HYES HNO HHH
    go_enter Try.func14, Try.ntmps14
    go_wp2_with fail
    have kB0 := Lib.hid (Blk.new w #[.int .i64 g.k, .int .i64 g.cl, .int .i64 g.b, .int .i64 g.t, .int .i64 g.d, .int .i64 g.l, .int .i64 g.p, .int .i64 rows, .int .i64 g.cols, .slice Ac nc cc, .slice At nt ct, .slice Aw nw cw, .slice Ag ng cg] 31)
    have hbe := Lib.hid ((Below.refl w.heap.size w).alloc (Nat.le_refl _) (.cells #[.int .i64 g.k, .int .i64 g.cl, .int .i64 g.b, .int .i64 g.t, .int .i64 g.d, .int .i64 g.l, .int .i64 g.p, .int .i64 rows, .int .i64 g.cols, .slice Ac nc cc, .slice At nt ct, .slice Aw nw cw, .slice Ag ng cg] 31))
    obtain ⟨W, hW⟩ : ∃ W, w.alloc (.cells #[.int .i64 g.k, .int .i64 g.cl, .int .i64 g.b, .int .i64 g.t, .int .i64 g.d, .int .i64 g.l, .int .i64 g.p, .int .i64 rows, .int .i64 g.cols, .slice Ac nc cc, .slice At nt ct, .slice Aw nw cw, .slice Ag ng cg] 31) = W := ⟨_, rfl⟩
    rw [hW] at kB0 hbe ⊢
    have HR2 := Lib.hid (HRG.out.below hbe.out)
    obtain ⟨q0, q1, q2, q3, q4, q5, q6, q7, q8, q9, q10, q11, q12⟩ := kB0.out.cells13
    clear hW d1 d1' d2 d2' d3 d3' d4 d4' d5 d5'
    go_loop [45] (fun iv => ∃ k : Nat, k ≤ nt ∧ iv = .int .i64 k ∧ Hid ((g.trees.drop k).any longL = T1)) (fun iv => nt - (intOf iv).toNat)
    case atStart => exact ⟨0, Nat.zero_le _, rfl, HT1⟩
    case round =>
      obtain ⟨k, hk, rfl, HI⟩ := hrel
      by_cases hlt : k < nt
      · have hlt' : (k : Int) < nt := by omega
        obtain ⟨adt, rfl, tr, Bt, capt, ht1, ht2, ht3, ht4, ht5⟩ := HR2.out.rt.at (i := k) (by rw [HN.out.1]; exact hlt)
        have HA := Lib.hid (any_at (p := longL) ht1)
        have hlg : Hid (longL tr = decide (100 < tr.length)) := Lib.hid rfl
        obtain ⟨m, hm⟩ : ∃ m, tr.length = m := ⟨_, rfl⟩
        rw [hm] at ht2 ht3 hlg
        clear ht1 ht5 hm
        by_cases hm : 100 < m
        · have d6 : decide (100 < m) = true := decide_eq_true hm
          have d6' : decide ((100 : Int) < m) = true := decide_eq_true (by omega)
          have HX : Hid (T1 = true) := Lib.hid (by rw [← HI.out, HA.out, hlg.out, decide_eq_true hm]; rfl)
          go_wp2_with fail
          go_ret
          exact ⟨ret_bool (by rw [HNO2.out, HX.out]; rfl), hbe.out⟩
        · have d6 : decide (100 < m) = false := decide_eq_false hm
          have d6' : decide ((100 : Int) < m) = false := decide_eq_false (by omega)
          have HX : Hid ((g.trees.drop (k + 1)).any longL = T1) := Lib.hid (by have := HI.out; rwa [HA.out, hlg.out, decide_eq_false hm, Bool.false_or] at this)
          go_wp2_with fail
          go_round
          case rel => exact ⟨k + 1, hlt, by go_num, HX⟩
          case measure => simp [intOf]; omega
      · obtain rfl : nt = k := by omega
        have HX1 : Hid (T1 = false) := Lib.hid (by rw [← HI.out, List.drop_of_length_le (by rw [HN.out.1]; exact Nat.le_refl _)]; rfl)
        go_wp2_with fail
        go_loop [56] (fun iv => ∃ k : Nat, k ≤ nw ∧ iv = .int .i64 k ∧ Hid ((g.weights.drop k).any longL = T2)) (fun iv => nw - (intOf iv).toNat)
        case atStart => exact ⟨0, Nat.zero_le _, rfl, HT2⟩
        case round =>
          obtain ⟨k2, hk2, rfl, HI2⟩ := hrel
          by_cases hlt2 : k2 < nw
          · have hlt2' : (k2 : Int) < nw := by omega
            obtain ⟨adt, rfl, tr, Bt, capt, ht1, ht2, ht3, ht4, ht5⟩ := HR2.out.rw.at (i := k2) (by rw [HN.out.2]; exact hlt2)
            have HA := Lib.hid (any_at (p := longL) ht1)
            have hlg : Hid (longL tr = decide (100 < tr.length)) := Lib.hid rfl
            obtain ⟨m, hm⟩ : ∃ m, tr.length = m := ⟨_, rfl⟩
            rw [hm] at ht2 ht3 hlg
            clear ht1 ht5 hm
            by_cases hm : 100 < m
            · have d6 : decide (100 < m) = true := decide_eq_true hm
              have d6' : decide ((100 : Int) < m) = true := decide_eq_true (by omega)
              have HX : Hid (T2 = true) := Lib.hid (by rw [← HI2.out, HA.out, hlg.out, decide_eq_true hm]; rfl)
              go_wp2_with fail
              go_ret
              exact ⟨ret_bool (by rw [HNO2.out, HX1.out, HX.out]; rfl), hbe.out⟩
            · have d6 : decide (100 < m) = false := decide_eq_false hm
              have d6' : decide ((100 : Int) < m) = false := decide_eq_false (by omega)
              have HX : Hid ((g.weights.drop (k2 + 1)).any longL = T2) := Lib.hid (by have := HI2.out; rwa [HA.out, hlg.out, decide_eq_false hm, Bool.false_or] at this)
              go_wp2_with fail
              go_round
              case rel => exact ⟨k2 + 1, hlt2, by go_num, HX⟩
              case measure => simp [intOf]; omega
          · obtain rfl : nw = k2 := by omega
            have HX2 : Hid (T2 = false) := Lib.hid (by rw [← HI2.out, List.drop_of_length_le (by rw [HN.out.2]; exact Nat.le_refl _)]; rfl)
            go_wp2_with fail
            go_ret
            exact ⟨ret_bool (by rw [HNO2.out, HX1.out, HX2.out]; rfl), hbe.out⟩
  · have d2 : decide (100 < rows) = false := decide_eq_false e2
    by_cases h3 : 10 < nt
    · have d3 : decide (10 < nt) = true := decide_eq_true h3
      have d3' : decide ((10 : Int) < nt) = true := decide_eq_true (by omega)
      go_enter Try.func14, Try.ntmps14
      go_wp2_with fail
      go_ret
      exact ⟨ret_bool (HYES.out (HHH.out.2 (by omega))).symm, (Below.refl _ _).alloc (Nat.le_refl _) _⟩
    have d3 : decide (10 < nt) = false := decide_eq_false h3
    have d3' : decide ((10 : Int) < nt) = false := decide_eq_false (by omega)
    by_cases h4 : 10 < nw
    · have d4 : decide (10 < nw) = true := decide_eq_true h4
      have d4' : decide ((10 : Int) < nw) = true := decide_eq_true (by omega)
      go_enter Try.func14, Try.ntmps14
      go_wp2_with fail
      go_ret
      exact ⟨ret_bool (HYES.out (HHH.out.2 (by omega))).symm, (Below.refl _ _).alloc (Nat.le_refl _) _⟩
    have d4 : decide (10 < nw) = false := decide_eq_false h4
    have d4' : decide ((10 : Int) < nw) = false := decide_eq_false (by omega)
    by_cases h5 : 100 < ng
    · have d5 : decide (100 < ng) = true := decide_eq_true h5
      have d5' : decide ((100 : Int) < ng) = true := decide_eq_true (by omega)
      go_enter Try.func14, Try.ntmps14
      go_wp2_with fail
      go_ret
      exact ⟨ret_bool (HYES.out (HHH.out.2 (by omega))).symm, (Below.refl _ _).alloc (Nat.le_refl _) _⟩
    have d5 : decide (100 < ng) = false := decide_eq_false h5
    have d5' : decide ((100 : Int) < ng) = false := decide_eq_false (by omega)
    have HNO2 : Hid (R = (T1 || T2)) := Lib.hid (HNO.out (fun h => by have := HHH.out.1 h; omega))
    clear h1 h2 e2 h3 h4 h5 HYES HNO HHH
    go_enter Try.func14, Try.ntmps14
    go_wp2_with fail
    have kB0 := Lib.hid (Blk.new w #[.int .i64 g.k, .int .i64 g.cl, .int .i64 g.b, .int .i64 g.t, .int .i64 g.d, .int .i64 g.l, .int .i64 g.p, .int .i64 rows, .int .i64 g.cols, .slice Ac nc cc, .slice At nt ct, .slice Aw nw cw, .slice Ag ng cg] 31)
    have hbe := Lib.hid ((Below.refl w.heap.size w).alloc (Nat.le_refl _) (.cells #[.int .i64 g.k, .int .i64 g.cl, .int .i64 g.b, .int .i64 g.t, .int .i64 g.d, .int .i64 g.l, .int .i64 g.p, .int .i64 rows, .int .i64 g.cols, .slice Ac nc cc, .slice At nt ct, .slice Aw nw cw, .slice Ag ng cg] 31))
    obtain ⟨W, hW⟩ : ∃ W, w.alloc (.cells #[.int .i64 g.k, .int .i64 g.cl, .int .i64 g.b, .int .i64 g.t, .int .i64 g.d, .int .i64 g.l, .int .i64 g.p, .int .i64 rows, .int .i64 g.cols, .slice Ac nc cc, .slice At nt ct, .slice Aw nw cw, .slice Ag ng cg] 31) = W := ⟨_, rfl⟩
    rw [hW] at kB0 hbe ⊢
    have HR2 := Lib.hid (HRG.out.below hbe.out)
    obtain ⟨q0, q1, q2, q3, q4, q5, q6, q7, q8, q9, q10, q11, q12⟩ := kB0.out.cells13
    clear hW d1 d1' d2 d3 d3' d4 d4' d5 d5'
    go_loop [45] (fun iv => ∃ k : Nat, k ≤ nt ∧ iv = .int .i64 k ∧ Hid ((g.trees.drop k).any longL = T1)) (fun iv => nt - (intOf iv).toNat)
    case atStart => exact ⟨0, Nat.zero_le _, rfl, HT1⟩
    case round =>
      obtain ⟨k, hk, rfl, HI⟩ := hrel
      by_cases hlt : k < nt
      · have hlt' : (k : Int) < nt := by omega
        obtain ⟨adt, rfl, tr, Bt, capt, ht1, ht2, ht3, ht4, ht5⟩ := HR2.out.rt.at (i := k) (by rw [HN.out.1]; exact hlt)
        have HA := Lib.hid (any_at (p := longL) ht1)
        have hlg : Hid (longL tr = decide (100 < tr.length)) := Lib.hid rfl
        obtain ⟨m, hm⟩ : ∃ m, tr.length = m := ⟨_, rfl⟩
        rw [hm] at ht2 ht3 hlg
        clear ht1 ht5 hm
        by_cases hm : 100 < m
        · have d6 : decide (100 < m) = true := decide_eq_true hm
          have d6' : decide ((100 : Int) < m) = true := decide_eq_true (by omega)
          have HX : Hid (T1 = true) := Lib.hid (by rw [← HI.out, HA.out, hlg.out, decide_eq_true hm]; rfl)
          go_wp2_with fail
          go_ret
          exact ⟨ret_bool (by rw [HNO2.out, HX.out]; rfl), hbe.out⟩
        · have d6 : decide (100 < m) = false := decide_eq_false hm
          have d6' : decide ((100 : Int) < m) = false := decide_eq_false (by omega)
          have HX : Hid ((g.trees.drop (k + 1)).any longL = T1) := Lib.hid (by have := HI.out; rwa [HA.out, hlg.out, decide_eq_false hm, Bool.false_or] at this)
          go_wp2_with fail
          go_round
          case rel => exact ⟨k + 1, hlt, by go_num, HX⟩
          case measure => simp [intOf]; omega
      · obtain rfl : nt = k := by omega
        have HX1 : Hid (T1 = false) := Lib.hid (by rw [← HI.out, List.drop_of_length_le (by rw [HN.out.1]; exact Nat.le_refl _)]; rfl)
        go_wp2_with fail
        go_loop [56] (fun iv => ∃ k : Nat, k ≤ nw ∧ iv = .int .i64 k ∧ Hid ((g.weights.drop k).any longL = T2)) (fun iv => nw - (intOf iv).toNat)
        case atStart => exact ⟨0, Nat.zero_le _, rfl, HT2⟩
        case round =>
          obtain ⟨k2, hk2, rfl, HI2⟩ := hrel
          by_cases hlt2 : k2 < nw
          · have hlt2' : (k2 : Int) < nw := by omega
            obtain ⟨adt, rfl, tr, Bt, capt, ht1, ht2, ht3, ht4, ht5⟩ := HR2.out.rw.at (i := k2) (by rw [HN.out.2]; exact hlt2)
            have HA := Lib.hid (any_at (p := longL) ht1)
            have hlg : Hid (longL tr = decide (100 < tr.length)) := Lib.hid rfl
            obtain ⟨m, hm⟩ : ∃ m, tr.length = m := ⟨_, rfl⟩
            rw [hm] at ht2 ht3 hlg
            clear ht1 ht5 hm
            by_cases hm : 100 < m
            · have d6 : decide (100 < m) = true := decide_eq_true hm
              have d6' : decide ((100 : Int) < m) = true := decide_eq_true (by omega)
              have HX : Hid (T2 = true) := Lib.hid (by rw [← HI2.out, HA.out, hlg.out, decide_eq_true hm]; rfl)
              go_wp2_with fail
              go_ret
              exact ⟨ret_bool (by rw [HNO2.out, HX1.out, HX.out]; rfl), hbe.out⟩
            · have d6 : decide (100 < m) = false := decide_eq_false hm
              have d6' : decide ((100 : Int) < m) = false := decide_eq_false (by omega)
              have HX : Hid ((g.weights.drop (k2 + 1)).any longL = T2) := Lib.hid (by have := HI2.out; rwa [HA.out, hlg.out, decide_eq_false hm, Bool.false_or] at this)
              go_wp2_with fail
              go_round
              case rel => exact ⟨k2 + 1, hlt2, by go_num, HX⟩
              case measure => simp [intOf]; omega
          · obtain rfl : nw = k2 := by omega
            have HX2 : Hid (T2 = false) := Lib.hid (by rw [← HI2.out, List.drop_of_length_le (by rw [HN.out.2]; exact Nat.le_refl _)]; rfl)
            go_wp2_with fail
            go_ret
            exact ⟨ret_bool (by rw [HNO2.out, HX1.out, HX2.out]; rfl), hbe.out⟩
end Go.Proofs.Ytbhikceekldenaa.Hb

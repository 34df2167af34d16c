/- The walks of ref18.May and ref18.one. -/
import Derived.Test.YtbhikceekldenaaHbNode2
import Derived.Test.YtbhikceekldenaaHbRef4S
import Derived.Deep.QuietTactic
import Derived.BigQuiet
namespace Go.Proofs.Ytbhikceekldenaa.Hb
set_option linter.unusedVariables false
set_option linter.unusedSimpArgs false
open Go.RowKit

set_option maxRecDepth 100000 in
set_option maxHeartbeats 1000000 in
theorem rmayT_any (cols bins kind classes : Int) (w : World) : Calls Try.prog 76 #[.int .i64 cols, .int .i64 bins, .int .i64 kind, .int .i64 classes] w fun e w' => e = .returned (.bool (decide (mayS cols bins kind classes))) ∧ w = w' := by
  obtain ⟨R, hR⟩ : ∃ R, decide (mayS cols bins kind classes) = R := ⟨_, rfl⟩
  rw [hR]
  have HR := Lib.hid hR
  clear hR
  obtain ⟨k0, hk0⟩ : ∃ k0, (kind == 0) = k0 := ⟨_, rfl⟩
  obtain ⟨k1, hk1⟩ : ∃ k1, (kind == 1) = k1 := ⟨_, rfl⟩
  have HK0 := Lib.hid hk0
  have HK1 := Lib.hid hk1
  have H10 : Hid (k0 = true → k1 = true → False) := Lib.hid (fun h1 h2 => by rw [h1] at hk0; rw [h2] at hk1; have := beq_iff_eq.1 hk0; have := beq_iff_eq.1 hk1; omega)
  cases k0 <;> cases k1
  all_goals
    go_enter Try.func76, Try.ntmps76
    go_wp2_with fail
    all_goals
      go_ret
      refine ⟨congrArg (fun b => Ending.returned (.bool b)) ?_, rfl⟩
      rw [← HR.out]
      have x0 := HK0.out
      have x1 := HK1.out
      simp only [beq_iff_eq, beq_eq_false_iff_ne] at x0 x1
      unfold mayS
      first
      | (refine (decide_eq_false ?_).symm; omega)
      | (refine (decide_eq_true ?_).symm; omega)
      | (refine decide_eq_decide.2 ?_; omega)
      | (rw [Bool.eq_iff_iff]; simp; omega)

set_option maxRecDepth 100000 in
set_option maxHeartbeats 4000000 in
theorem rone_any (cols bins kind classes : Int) (x : Nd) (hx : x.ok) (w : World) : Calls Try.prog 77 #[ndV x, .int .i64 cols, .int .i64 bins, .int .i64 kind, .int .i64 classes] w fun e w' => e = .returned (.bool (decide (oneP cols bins kind classes x))) ∧ Below w.heap.size w w' := by
  have HS := Lib.hid (fun w => rsize_any x.s hx.2.2.2.2.1 w)
  obtain ⟨R, hR⟩ : ∃ R, decide (oneP cols bins kind classes x) = R := ⟨_, rfl⟩
  rw [hR]
  have HR := Lib.hid hR
  clear hR
  obtain ⟨f, b, l, c, s, k⟩ := x
  simp only [ndV] at HS ⊢
  clear hx
  have hbe : ∀ (w : World) (o : Obj), Below w.heap.size w (w.alloc o) := fun w o => (Below.refl _ _).alloc (Nat.le_refl _) _
  have hbd : ∀ (w : World) (o : Obj) (n : Nat), Below w.heap.size w ((w.alloc o).drewN n) := fun w o n => (hbe w o).trans ⟨rfl, rfl, rfl, Nat.le_refl _, fun _ _ => rfl⟩
  by_cases hf : 0 ≤ f
  · have d1 : decide (0 ≤ f) = true := decide_eq_true hf
    have hfin : Hid (R = decide (c = 0 ∧ s = 0 ∧ k = 0 ∧ 0 ≤ f ∧ f < cols ∧ 0 ≤ b ∧ b < bins)) := Lib.hid (by
      rw [← HR.out]
      refine decide_eq_decide.2 ?_
      unfold oneP
      dsimp only
      rw [if_neg (show ¬ f = -1 by omega)])
    have HF := Lib.hid hf
    clear hf
    go_enter Try.func77, Try.ntmps77
    go_wp2_with fail
    all_goals
      go_ret
      refine ⟨ret_bool ?_, hbe _ _⟩
      rw [hfin.out]
      have hf := HF.out
      first
      | (refine (decide_eq_false ?_).symm; omega)
      | (refine (decide_eq_true ?_).symm; omega)
      | (refine decide_eq_decide.2 ?_; omega)
      | (rw [Bool.eq_iff_iff]; simp; omega)
  have d1 : decide (0 ≤ f) = false := decide_eq_false hf
  by_cases hbad : f ≠ -1 ∨ b ≠ 0 ∨ l ≠ 0
  · have HB := Lib.hid hbad
    have HF := Lib.hid hf
    obtain ⟨x1, hx1⟩ : ∃ x1, (f != -1) = x1 := ⟨_, rfl⟩
    obtain ⟨x2, hx2⟩ : ∃ x2, (b != 0) = x2 := ⟨_, rfl⟩
    obtain ⟨x3, hx3⟩ : ∃ x3, (l != 0) = x3 := ⟨_, rfl⟩
    have hor : (x1 || (x2 || x3)) = true := by
      rw [← hx1, ← hx2, ← hx3]
      simp only [Bool.or_eq_true, bne_iff_ne]
      omega
    clear hf hbad
    have fin : Hid (R = false) := Lib.hid (by
      rw [← HR.out]
      have hf := HF.out
      have hb := HB.out
      refine decide_eq_false ?_
      unfold oneP
      dsimp only
      by_cases e : f = -1
      · rw [if_pos e]
        by_cases e2 : kind = 0
        · rw [if_pos e2]; omega
        · rw [if_neg e2]; omega
      · rw [if_neg e]; omega)
    cases x1 <;> cases x2 <;> cases x3
    all_goals first
    | (cases hor; done)
    | (go_enter Try.func77, Try.ntmps77
       go_wp2_with fail
       go_ret
       exact ⟨ret_bool fin.out.symm, hbe _ _⟩)
  · have e1 : f = -1 := by omega
    have e2 : b = 0 := by omega
    have e3 : l = 0 := by omega
    subst e1 e2 e3
    clear hbad hf d1
    by_cases hk : kind = 0
    · subst hk
      have hfin : Hid (R = decide (s = 0 ∧ k = 0 ∧ 0 ≤ c ∧ c < classes)) := Lib.hid (by
        rw [← HR.out]
        refine decide_eq_decide.2 ?_
        unfold oneP
        dsimp only
        rw [if_pos rfl, if_pos rfl]
        omega)
      go_enter Try.func77, Try.ntmps77
      go_wp2_with fail
      all_goals
        go_ret
        refine ⟨ret_bool ?_, hbe _ _⟩
        rw [hfin.out]
        first
        | (refine (decide_eq_false ?_).symm; omega)
        | (refine (decide_eq_true ?_).symm; omega)
        | (refine decide_eq_decide.2 ?_; omega)
        | (rw [Bool.eq_iff_iff]; simp; omega)
    · have k0 : (kind == 0) = false := beq_eq_false_iff_ne.2 hk
      have HK := Lib.hid hk
      clear hk
      have hfin : Hid (R = decide (c = 0 ∧ 1 ≤ k ∧ k ≤ 1048576 ∧ -(1048576 * k) ≤ s ∧ s ≤ 1048576 * k)) := Lib.hid (by
        rw [← HR.out]
        refine decide_eq_decide.2 ?_
        unfold oneP
        dsimp only
        rw [if_pos rfl, if_neg HK.out]
        omega)
      by_cases hbad : c ≠ 0 ∨ k < 1 ∨ 1048576 < k
      · have fin : Hid (R = false) := Lib.hid (by rw [hfin.out]; exact decide_eq_false (by omega))
        obtain ⟨x1, hx1⟩ : ∃ x1, (c == 0) = x1 := ⟨_, rfl⟩
        obtain ⟨x2, hx2⟩ : ∃ x2, decide (1 ≤ k) = x2 := ⟨_, rfl⟩
        obtain ⟨x3, hx3⟩ : ∃ x3, decide (k ≤ 1048576) = x3 := ⟨_, rfl⟩
        have hor : (x1 && (x2 && x3)) = false := by
          rw [← hx1, ← hx2, ← hx3, Bool.eq_false_iff]
          simp only [ne_eq, Bool.and_eq_true, beq_iff_eq, decide_eq_true_eq]
          omega
        clear hbad
        cases x1 <;> cases x2 <;> cases x3
        all_goals first
        | (cases hor; done)
        | (go_enter Try.func77, Try.ntmps77
           go_wp2_with fail
           go_quiet (fail)
           go_wp2_with fail
           go_ret
           exact ⟨ret_bool fin.out.symm, hbd _ _ _⟩)
      · have e1 : c = 0 := by omega
        subst e1
        have k1 : 1 ≤ k := by omega
        have k2 : k ≤ 1048576 := by omega
        have y1 : decide (1 ≤ k) = true := decide_eq_true k1
        have y2 : decide (k ≤ 1048576) = true := decide_eq_true k2
        have w1 : IntKind.u64.wrap k = k := by simp [IntKind.wrap, IntKind.bits, IntKind.signed]; omega
        have w2 : IntKind.u64.wrap (1048576 * k) = 1048576 * k := by simp [IntKind.wrap, IntKind.bits, IntKind.signed]; omega
        have W1 := Lib.hid w1
        have KB := Lib.hid (And.intro k1 k2)
        clear hbad
        go_enter Try.func77, Try.ntmps77
        go_wp2_with fail
        go_quiet ((go_at_call 92; exact Calls.quiet_of_same ((HS.out _).mono fun _ _ h => ⟨h.1, h.2.symm⟩)))
        go_wp2_with fail
        go_ret
        refine ⟨ret_bool ?_, hbd _ _ _⟩
        rw [hfin.out]
        have := KB.out
        refine decide_eq_decide.2 ?_
        refine ⟨fun h => ⟨trivial, by omega, by omega, by omega, by omega⟩, fun h => by have := h.2.2.2.1; have := h.2.2.2.2; omega⟩
end Go.Proofs.Ytbhikceekldenaa.Hb

/- The document's answer on a config. -/
import Derived.Test.YtbhikceekldenaaHbMat
import Derived.Test.YtbhikceekldenaaHbCheck2
namespace Go.Proofs.Ytbhikceekldenaa.Hb
set_option linter.unusedVariables false
set_option linter.unusedSimpArgs false
open Go.RowKit

set_option maxRecDepth 100000 in
set_option maxHeartbeats 8000000 in
theorem rcheck_any (k cl b t d l p : Int) (w : World) : Calls Try.prog 45 #[.agg #[.int .i64 k, .int .i64 cl, .int .i64 b, .int .i64 t, .int .i64 d, .int .i64 l, .int .i64 p]] w fun e w' => e = .returned (.int .i64 (checkO k cl b t d l p)) ∧ Below w.heap.size w w' := by
  obtain ⟨R, hR⟩ : ∃ R, checkO k cl b t d l p = R := ⟨_, rfl⟩
  rw [hR]
  have HR := Lib.hid hR
  clear hR
  obtain ⟨K, hK⟩ : ∃ K, K = k := ⟨_, rfl⟩
  obtain ⟨C, hC⟩ : ∃ C, C = cl := ⟨_, rfl⟩
  have HK := Lib.hid hK
  have HC := Lib.hid hC
  have b1 : (k == 0) = decide (K = 0) := by rw [hK, Bool.eq_iff_iff, beq_iff_eq, decide_eq_true_iff]
  have b2 : (k == 1) = decide (K = 1) := by rw [hK, Bool.eq_iff_iff, beq_iff_eq, decide_eq_true_iff]
  have b3 : (k != 0) = !decide (K = 0) := by rw [bne, b1]
  have b4 : (k != 1) = !decide (K = 1) := by rw [bne, b2]
  have b5 : (cl != 0) = !decide (C = 0) := by rw [bne, hC]; congr 1
  have leaf : ∀ x, (checkO K C b t d l p = x) → R = x := fun x e => by rw [← HR.out, ← hK, ← hC]; exact e
  have HL := Lib.hid leaf
  clear leaf hK hC
  by_cases c0 : K = 0
  · have a0 : decide (K = 0) = true := decide_eq_true c0
    have a1 : decide (K = 1) = false := decide_eq_false (by omega)
    have HX := Lib.hid c0
    rw [a0] at b1 b3
    rw [a1] at b2 b4
    simp only [Bool.not_true, Bool.not_false] at b3 b4
    clear a0 a1 c0 b5
    have HY : Hid (cl = C) := Lib.hid HC.out.symm
    go_enter Try.func45, Try.ntmps45
    go_wp2
    all_goals
      go_ret
      refine ⟨ret_i64 (HL.out _ ?_).symm, (Below.refl _ _).alloc (Nat.le_refl _) _⟩
      have e1 := HX.out
      have e2 := HY.out
      unfold checkO lowC stepC
      simp (disch := omega) only [if_pos, if_neg] <;> (split <;> rfl)
  · by_cases c1 : K = 1
    · have a0 : decide (K = 0) = false := decide_eq_false c0
      have a1 : decide (K = 1) = true := decide_eq_true c1
      have HX := Lib.hid c1
      rw [a0] at b1 b3
      rw [a1] at b2 b4
      simp only [Bool.not_true, Bool.not_false] at b3 b4
      have HY : Hid (cl = C) := Lib.hid HC.out.symm
      by_cases c2 : C = 0
      · have a2 : decide (C = 0) = true := decide_eq_true c2
        have HZ := Lib.hid c2
        rw [a2] at b5
        simp only [Bool.not_true] at b5
        have b6 : decide (256 < cl) = false := decide_eq_false (by have := HY.out; omega)
        clear a0 a1 a2 c0 c1 c2
        go_enter Try.func45, Try.ntmps45
        go_wp2
        all_goals
          go_ret
          refine ⟨ret_i64 (HL.out _ ?_).symm, (Below.refl _ _).alloc (Nat.le_refl _) _⟩
          have e1 := HX.out
          have e2 := HY.out
          have e3 := HZ.out
          unfold checkO lowC stepC
          simp (disch := omega) only [if_pos, if_neg] <;> (split <;> rfl)
      · have a2 : decide (C = 0) = false := decide_eq_false c2
        have HZ := Lib.hid c2
        rw [a2] at b5
        simp only [Bool.not_false] at b5
        clear a0 a1 a2 c0 c1 c2
        go_enter Try.func45, Try.ntmps45
        go_wp2
        all_goals
          go_ret
          refine ⟨ret_i64 (HL.out _ ?_).symm, (Below.refl _ _).alloc (Nat.le_refl _) _⟩
          have e1 := HX.out
          have e2 := HY.out
          have e3 := HZ.out
          unfold checkO lowC stepC
          simp (disch := omega) only [if_pos, if_neg] <;> (split <;> rfl)
    · have a0 : decide (K = 0) = false := decide_eq_false c0
      have a1 : decide (K = 1) = false := decide_eq_false c1
      have HX := Lib.hid c0
      have HY := Lib.hid c1
      rw [a0] at b1 b3
      rw [a1] at b2 b4
      simp only [Bool.not_true, Bool.not_false] at b3 b4
      clear a0 a1 c0 c1 b5
      go_enter Try.func45, Try.ntmps45
      go_wp2
      all_goals
        go_ret
        refine ⟨ret_i64 (HL.out _ ?_).symm, (Below.refl _ _).alloc (Nat.le_refl _) _⟩
        have e1 := HX.out
        have e2 := HY.out
        unfold checkO lowC stepC
        simp (disch := omega) only [if_pos, if_neg] <;> (split <;> rfl)
end Go.Proofs.Ytbhikceekldenaa.Hb

/- The walks of prod.Floor, vote.Mean, ref04.Floor, ref24.Mean. -/
import Derived.Test.YtbhikceekldenaaHbNode3
import Derived.Test.YtbhikceekldenaaHbProdP
import Derived.Test.YtbhikceekldenaaHbRef4P
namespace Go.Proofs.Ytbhikceekldenaa.Hb
set_option linter.unusedVariables false
set_option linter.unusedSimpArgs false
open Go.RowKit

def resP (p : Int × Int) : Value := .tuple #[.int .i64 p.1, .int .i64 p.2]
theorem ret_pair {a b c d : Int} (h1 : a = c) (h2 : b = d) : Ending.returned (.tuple #[.int .i64 a, .int .i64 b]) = .returned (.tuple #[.int .i64 c, .int .i64 d]) := by rw [h1, h2]
theorem floor_neg {a b : Int} (ha : a < 0) (hb : 0 < b) : ∃ Q, 0 ≤ Q ∧ Q ≤ -a ∧ a.tdiv b = -Q ∧ ((a.tmod b < 0 ∧ a / b = -Q - 1) ∨ (a.tmod b = 0 ∧ a / b = -Q)) := by
  have e1 := Int.mul_ediv_add_emod (-a) b
  have e2 := Int.emod_nonneg (-a) (show b ≠ 0 by omega)
  have e3 := Int.emod_lt_of_pos (-a) hb
  have e4 : 0 ≤ (-a) / b := Int.ediv_nonneg (by omega) (by omega)
  have e5 : a.tdiv b = -((-a) / b) := by
    have := Int.neg_tdiv (-a) b
    rw [Int.neg_neg] at this
    rw [this, Int.tdiv_eq_ediv_of_nonneg (by omega)]
  have e6 : a.tmod b = -((-a) % b) := by
    rw [Int.tmod_def, e5, Int.mul_neg]
    omega
  have e7 : (-a) / b ≤ -a := Int.ediv_le_self _ (by omega)
  refine ⟨_, e4, e7, e5, ?_⟩
  by_cases h : (-a) % b = 0
  · refine .inr ⟨by omega, ?_⟩
    refine ((Int.ediv_emod_unique (a := a) (b := b) (q := -((-a) / b)) (r := 0) hb).2 ⟨?_, by omega, by omega⟩).1
    rw [Int.mul_neg]; omega
  · refine .inl ⟨by omega, ?_⟩
    refine ((Int.ediv_emod_unique (a := a) (b := b) (q := -((-a) / b) - 1) (r := b - (-a) % b) hb).2 ⟨?_, by omega, by omega⟩).1
    rw [Int.mul_sub, Int.mul_neg, Int.mul_one]; omega
theorem floor_k {a b : Int} (ha : a < 0) (hb : 0 < b) : a / b = -((-(a + 1)) / b) - 1 ∧ 0 ≤ (-(a + 1)) / b ∧ (-(a + 1)) / b ≤ -(a + 1) := by
  have e1 := Int.mul_ediv_add_emod (-(a + 1)) b
  have e2 := Int.emod_nonneg (-(a + 1)) (show b ≠ 0 by omega)
  have e3 := Int.emod_lt_of_pos (-(a + 1)) hb
  refine ⟨?_, Int.ediv_nonneg (by omega) (by omega), Int.ediv_le_self _ (by omega)⟩
  refine ((Int.ediv_emod_unique (a := a) (b := b) (q := -((-(a + 1)) / b) - 1) (r := b - (-(a + 1)) % b - 1) hb).2 ⟨?_, by omega, by omega⟩).1
  rw [Int.mul_sub, Int.mul_neg, Int.mul_one]; omega
set_option maxHeartbeats 1000000 in
theorem pfloor_any (a b : Int) (ha : inR a) (hb : inR b) (w : World) : Calls Try.prog 87 #[.int .i64 a, .int .i64 b] w fun e w' => e = .returned (resP (floorO a b)) ∧ w = w' := by
  obtain ⟨a1, a2⟩ := ha
  obtain ⟨b1, b2⟩ := hb
  unfold resP
  by_cases h1 : b < 1
  · have e : floorO a b = (0, 1) := if_pos h1
    rw [e]
    go_enter Try.func87, Try.ntmps87
    go_wp2_with fail
    go_ret2
    exact ⟨rfl, rfl⟩
  · have e : floorO a b = (a / b, 0) := if_neg h1
    rw [e]
    have hb0 : 0 < b := by omega
    have hbz : (b == 0) = false := beq_eq_false_iff_ne.2 (by omega)
    have hbl : decide (b < 1) = false := decide_eq_false h1
    by_cases h2 : 0 ≤ a
    · have q0 : 0 ≤ a / b := Int.ediv_nonneg h2 (by omega)
      have q1 : a / b ≤ 9223372036854775807 := Int.le_trans (Int.ediv_le_self _ h2) a2
      have m0 : decide (a % b < 0) = false := decide_eq_false (by have := Int.emod_nonneg a (show b ≠ 0 by omega); omega)
      go_enter Try.func87, Try.ntmps87
      go_wp2_with fail
      go_ret2
      exact ⟨rfl, rfl⟩
    · obtain ⟨Q, q0, q1, q2, q3⟩ := floor_neg (show a < 0 by omega) hb0
      have q4 : -9223372036854775808 ≤ -Q := by omega
      rcases q3 with ⟨q3, q5⟩ | ⟨q3, q5⟩
      · have m0 : decide (a.tmod b < 0) = true := decide_eq_true q3
        have q6 : -9223372036854775808 ≤ -Q - 1 := by
          have := (Int.mul_ediv_add_emod a b)
          rw [← q5]
          have h3 : a ≤ a / b := by
            have := Int.mul_le_mul_of_nonneg_left (show (1 : Int) ≤ b by omega) q0
            rw [q5]
            by_cases hb1 : b = 1
            · subst hb1; have : a.tmod 1 = 0 := Int.tmod_one a; omega
            · have e1 := Int.mul_ediv_add_emod a b
              have e2 := Int.emod_nonneg a (show b ≠ 0 by omega)
              rw [q5] at e1
              have e4 : b * (-Q - 1) ≤ (-Q - 1) := by
                have : b * (-Q - 1) ≤ 1 * (-Q - 1) := Int.mul_le_mul_of_nonpos_right (by omega) (by omega)
                omega
              have e3 := Int.emod_lt_of_pos a hb0
              have e5 : b * (-Q - 1) = -(b * Q) - b := by rw [Int.mul_sub, Int.mul_neg, Int.mul_one]
              have e6 : 2 * Q ≤ b * Q := Int.mul_le_mul_of_nonneg_right (by omega) q0
              omega
          omega
        have HQ := Lib.hid q5
        clear q3 q5 h1 h2
        go_enter Try.func87, Try.ntmps87
        go_wp2_with fail
        go_ret2
        exact ⟨ret_pair HQ.out.symm rfl, rfl⟩
      · have m0 : decide (a.tmod b < 0) = false := decide_eq_false (by omega)
        have HQ := Lib.hid q5
        clear q3 q5 h1 h2
        go_enter Try.func87, Try.ntmps87
        go_wp2_with fail
        go_ret2
        exact ⟨ret_pair HQ.out.symm rfl, rfl⟩
set_option maxHeartbeats 1000000 in
theorem rfloor_any (a b : Int) (ha : inR a) (hb : inR b) (w : World) : Calls Try.prog 89 #[.int .i64 a, .int .i64 b] w fun e w' => e = .returned (resP (floorO a b)) ∧ w = w' := by
  obtain ⟨a1, a2⟩ := ha
  obtain ⟨b1, b2⟩ := hb
  unfold resP
  by_cases h1 : b < 1
  · have e : floorO a b = (0, 1) := if_pos h1
    rw [e]
    go_enter Try.func89, Try.ntmps89
    go_wp2_with fail
    go_ret2
    exact ⟨rfl, rfl⟩
  · have e : floorO a b = (a / b, 0) := if_neg h1
    rw [e]
    have hb0 : 0 < b := by omega
    have hbz : (b == 0) = false := beq_eq_false_iff_ne.2 (by omega)
    have hbl : decide (b < 1) = false := decide_eq_false h1
    by_cases h2 : 0 ≤ a
    · have q0 : 0 ≤ a / b := Int.ediv_nonneg h2 (by omega)
      have q1 : a / b ≤ 9223372036854775807 := Int.le_trans (Int.ediv_le_self _ h2) a2
      go_enter Try.func89, Try.ntmps89
      go_wp2_with fail
      go_ret2
      exact ⟨rfl, rfl⟩
    · obtain ⟨q0, q1, q2⟩ := floor_k (show a < 0 by omega) hb0
      have q3 : -(a + 1) ≤ 9223372036854775807 := by omega
      have q4 : 0 ≤ -(a + 1) := by omega
      obtain ⟨k, hk⟩ : ∃ k, -(a + 1) = k := ⟨_, rfl⟩
      rw [hk] at q0 q1 q2 q3 q4
      have HQ := Lib.hid q0
      have hneg : decide (0 ≤ a) = false := decide_eq_false h2
      have ha0 : a < 0 := by omega
      have hx : a + 1 = -k := by omega
      clear q0 h1 h2
      go_enter Try.func89, Try.ntmps89
      go_wp2_with fail
      go_ret2
      exact ⟨ret_pair HQ.out.symm rfl, rfl⟩
end Go.Proofs.Ytbhikceekldenaa.Hb

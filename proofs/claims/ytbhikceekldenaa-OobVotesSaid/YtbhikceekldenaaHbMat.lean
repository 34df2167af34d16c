/- Whether a matrix, and a sample, is right: the program's answer and the document's. -/
import Derived.Test.YtbhikceekldenaaHbCheck2
import Derived.Test.YtbhikceekldenaaHbRdI
import Derived.Sort.AtCall
namespace Go.Proofs.Ytbhikceekldenaa.Hb
set_option linter.unusedVariables false
open Go.RowKit

theorem ret_bool {a b : Bool} (h : a = b) : Ending.returned (.bool a) = .returned (.bool b) := by rw [h]
def countB (n : Int) : Bool := decide (0 ≤ n ∧ n ≤ 16777216)
def matB (r c : Int) (n : Nat) : Bool := decide ((0 ≤ r ∧ r ≤ 16777216) ∧ (0 ≤ c ∧ c ≤ 16777216) ∧ (n : Int) = r * c)
theorem matB_r {r c : Int} {n : Nat} (h : countB r = false) : matB r c n = false := decide_eq_false fun e => absurd e.1 (of_decide_eq_false h)
theorem matB_c {r c : Int} {n : Nat} (h : countB c = false) : matB r c n = false := decide_eq_false fun e => absurd e.2.1 (of_decide_eq_false h)
theorem matB_n {r c : Int} {n : Nat} (h1 : countB r = true) (h2 : countB c = true) : matB r c n = ((n : Int) == r * c) := by
  have a := of_decide_eq_true h1
  have b := of_decide_eq_true h2
  unfold matB
  rw [Bool.eq_iff_iff, beq_iff_eq, decide_eq_true_iff]
  exact ⟨fun e => e.2.2, fun e => ⟨a, b, e⟩⟩
theorem matB_is {r c : Int} {n : Nat} (h : matB r c n = true) : (0 ≤ r ∧ r ≤ 16777216) ∧ (0 ≤ c ∧ c ≤ 16777216) ∧ (n : Int) = r * c := of_decide_eq_true h
theorem prod_bound {r c : Int} (h1 : countB r = true) (h2 : countB c = true) : 0 ≤ r * c ∧ r * c ≤ 281474976710656 := by
  have a := of_decide_eq_true h1
  have b := of_decide_eq_true h2
  refine ⟨Int.mul_nonneg a.1 b.1, ?_⟩
  have := Int.mul_le_mul a.2 b.2 b.1 (by omega)
  omega
set_option maxHeartbeats 400000 in
theorem count_any (n : Int) (w : World) : Calls Try.prog 69 #[.int .i64 n] w fun e w' => e = .returned (.bool (countB n)) ∧ w = w' := by
  go_enter Try.func69, Try.ntmps69
  go_wp2
  all_goals
    go_ret
    refine ⟨ret_bool ?_, rfl⟩
    unfold countB
    first
    | (refine (decide_eq_false ?_).symm; omega)
    | (refine (decide_eq_true ?_).symm; omega)
    | (refine decide_eq_decide.2 ?_; omega)
theorem few_any (n : Int) (w : World) : Calls Try.prog 48 #[.int .i64 n] w fun e w' => e = .returned (.bool (countB n)) ∧ w = w' := by
  go_enter Try.func48, Try.ntmps48
  go_wp2
  all_goals
    go_ret
    refine ⟨ret_bool ?_, rfl⟩
    unfold countB
    first
    | (refine (decide_eq_false ?_).symm; omega)
    | (refine (decide_eq_true ?_).symm; omega)
    | (refine decide_eq_decide.2 ?_; omega)
set_option maxRecDepth 100000 in
set_option maxHeartbeats 400000 in
theorem mright_any (r c : Int) (n : Nat) (A : Option Addr) (cap : Nat) (hn : n ≤ 9223372036854775807) (w : World) : Calls Try.prog 42 #[.agg #[.int .i64 r, .int .i64 c, .slice A n cap]] w fun e w' => e = .returned (.bool (matB r c n)) ∧ Below w.heap.size w w' := by
  have K1 := Lib.hid (fun w => count_any r w)
  have K2 := Lib.hid (fun w => count_any c w)
  obtain ⟨x1, h1⟩ : ∃ x, countB r = x := ⟨_, rfl⟩
  obtain ⟨x2, h2⟩ : ∃ x, countB c = x := ⟨_, rfl⟩
  rw [h1] at K1
  rw [h2] at K2
  cases x1 with
  | false =>
    rw [matB_r h1]
    clear h1 h2
    go_enter Try.func42, Try.ntmps42
    go_wp2_with (go_at_call_of 69 (r); refine (K1.out _).mono ?_; rintro e w1 ⟨rfl, rfl⟩)
    go_ret
    exact ⟨rfl, (Below.refl _ _).alloc (Nat.le_refl _) _⟩
  | true =>
    cases x2 with
    | false =>
      rw [matB_c h2]
      clear h1 h2
      go_enter Try.func42, Try.ntmps42
      go_wp2_with (first | (go_at_call_of 69 (r); refine (K1.out _).mono ?_; rintro e w1 ⟨rfl, rfl⟩) | (go_at_call_of 69 (c); refine (K2.out _).mono ?_; rintro e w1 ⟨rfl, rfl⟩))
      go_ret
      exact ⟨rfl, (Below.refl _ _).alloc (Nat.le_refl _) _⟩
    | true =>
      rw [matB_n h1 h2]
      obtain ⟨p1, p2⟩ := prod_bound h1 h2
      obtain ⟨P, hP⟩ : ∃ P, r * c = P := ⟨_, rfl⟩
      rw [hP] at p1 p2 ⊢
      have hw : IntKind.i64.wrap (r * c) = P := by rw [hP, IntKind.wrap_i64]; omega
      clear h1 h2 hP
      go_enter Try.func42, Try.ntmps42
      go_wp2_with (first | (go_at_call_of 69 (r); refine (K1.out _).mono ?_; rintro e w1 ⟨rfl, rfl⟩) | (go_at_call_of 69 (c); refine (K2.out _).mono ?_; rintro e w1 ⟨rfl, rfl⟩))
      go_ret
      exact ⟨rfl, (Below.refl _ _).alloc (Nat.le_refl _) _⟩
set_option maxRecDepth 100000 in
set_option maxHeartbeats 400000 in
theorem rmright_any (r c : Int) (n : Nat) (A : Option Addr) (cap : Nat) (hn : n ≤ 9223372036854775807) (w : World) : Calls Try.prog 23 #[.agg #[.int .i64 r, .int .i64 c, .slice A n cap]] w fun e w' => e = .returned (.bool (matB r c n)) ∧ Below w.heap.size w w' := by
  have K1 := Lib.hid (fun w => few_any r w)
  have K2 := Lib.hid (fun w => few_any c w)
  obtain ⟨x1, h1⟩ : ∃ x, countB r = x := ⟨_, rfl⟩
  obtain ⟨x2, h2⟩ : ∃ x, countB c = x := ⟨_, rfl⟩
  rw [h1] at K1
  rw [h2] at K2
  cases x1 with
  | false =>
    rw [matB_r h1]
    clear h1 h2
    go_enter Try.func23, Try.ntmps23
    go_wp2_with (go_at_call_of 48 (r); refine (K1.out _).mono ?_; rintro e w1 ⟨rfl, rfl⟩)
    go_ret
    exact ⟨rfl, (Below.refl _ _).alloc (Nat.le_refl _) _⟩
  | true =>
    cases x2 with
    | false =>
      rw [matB_c h2]
      clear h1 h2
      go_enter Try.func23, Try.ntmps23
      go_wp2_with (first | (go_at_call_of 48 (r); refine (K1.out _).mono ?_; rintro e w1 ⟨rfl, rfl⟩) | (go_at_call_of 48 (c); refine (K2.out _).mono ?_; rintro e w1 ⟨rfl, rfl⟩))
      go_ret
      exact ⟨rfl, (Below.refl _ _).alloc (Nat.le_refl _) _⟩
    | true =>
      rw [matB_n h1 h2]
      obtain ⟨p1, p2⟩ := prod_bound h1 h2
      obtain ⟨P, hP⟩ : ∃ P, r * c = P := ⟨_, rfl⟩
      rw [hP] at p1 p2 ⊢
      have hw : IntKind.i64.wrap (r * c) = P := by rw [hP, IntKind.wrap_i64]; omega
      clear h1 h2 hP
      go_enter Try.func23, Try.ntmps23
      go_wp2_with (first | (go_at_call_of 48 (r); refine (K1.out _).mono ?_; rintro e w1 ⟨rfl, rfl⟩) | (go_at_call_of 48 (c); refine (K2.out _).mono ?_; rintro e w1 ⟨rfl, rfl⟩))
      go_ret
      exact ⟨rfl, (Below.refl _ _).alloc (Nat.le_refl _) _⟩
end Go.Proofs.Ytbhikceekldenaa.Hb

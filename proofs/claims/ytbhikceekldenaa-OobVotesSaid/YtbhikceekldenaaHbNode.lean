/- Whether a node is right, by itself. -/
import Derived.Test.YtbhikceekldenaaHbNd
import Derived.WalkKit
namespace Go.Proofs.Ytbhikceekldenaa.Hb
set_option linter.unusedVariables false
set_option linter.unusedSimpArgs false
open Go.RowKit

theorem nleaf_any (x : Nd) (w : World) : Calls Try.prog 90 #[ndV x] w fun e w' => e = .returned (.bool (x.f == -1)) ∧ Below w.heap.size w w' := by
  unfold ndV
  go_enter Try.func90, Try.ntmps90
  go_wp2
  go_ret
  exact ⟨rfl, (Below.refl _ _).alloc (Nat.le_refl _) _⟩
theorem eq_nd (d : Nat) (w : World) (x0 x1 x2 x3 x4 x5 y0 y1 y2 y3 y4 y5 : Int) :
    (Op.equalIn (d + 2) 88 (.agg #[.int .i64 x0, .int .i64 x1, .int .i64 x2, .int .i64 x3, .int .i64 x4, .int .i64 x5]) (.agg #[.int .i64 y0, .int .i64 y1, .int .i64 y2, .int .i64 y3, .int .i64 y4, .int .i64 y5])).run Try.prog w = .ok (x0 == y0 && (x1 == y1 && (x2 == y2 && (x3 == y3 && (x4 == y4 && (x5 == y5 && true)))))) w := by
  refine eqs_of Try.underlying88 (by kernel_rfl) ?_
  refine eqf_cons (by rfl) (by go_simp; rfl) (by go_simp; rfl) (by go_simp) ?_
  refine eqf_cons (by rfl) (by go_simp; rfl) (by go_simp; rfl) (by go_simp) ?_
  refine eqf_cons (by rfl) (by go_simp; rfl) (by go_simp; rfl) (by go_simp) ?_
  refine eqf_cons (by rfl) (by go_simp; rfl) (by go_simp; rfl) (by go_simp) ?_
  refine eqf_cons (by rfl) (by go_simp; rfl) (by go_simp; rfl) (by go_simp) ?_
  exact eqf_cons (by rfl) (by go_simp; rfl) (by go_simp; rfl) (by go_simp) eqf_nil
/-- Is a node right? -/
def oneP (cols bins kind classes : Int) (x : Nd) : Prop :=
  if x.f = -1 then
    (if kind = 0 then x.b = 0 ∧ x.l = 0 ∧ x.s = 0 ∧ x.k = 0 ∧ 0 ≤ x.c ∧ x.c < classes
    else x.b = 0 ∧ x.l = 0 ∧ x.c = 0 ∧ 1 ≤ x.k ∧ x.k ≤ 1048576 ∧ -(1048576 * x.k) ≤ x.s ∧ x.s ≤ 1048576 * x.k)
  else x.c = 0 ∧ x.s = 0 ∧ x.k = 0 ∧ 0 ≤ x.f ∧ x.f < cols ∧ 0 ≤ x.b ∧ x.b < bins
instance (cols bins kind classes : Int) (x : Nd) : Decidable (oneP cols bins kind classes x) := by unfold oneP; infer_instance
def mayS (cols bins kind classes : Int) : Prop := 1 ≤ cols ∧ cols ≤ 1024 ∧ 2 ≤ bins ∧ bins ≤ 256 ∧ ((kind = 0 ∧ 2 ≤ classes ∧ classes ≤ 256) ∨ (kind = 1 ∧ classes = 0))
instance (cols bins kind classes : Int) : Decidable (mayS cols bins kind classes) := by unfold mayS; infer_instance
set_option maxRecDepth 100000 in
set_option maxHeartbeats 1000000 in
theorem nmay_any (cols bins kind classes : Int) (w : World) : Calls Try.prog 71 #[.agg #[.int .i64 cols, .int .i64 bins, .int .i64 kind, .int .i64 classes]] w fun e w' => e = .returned (.bool (decide (mayS cols bins kind classes))) ∧ Below w.heap.size w w' := by
  go_enter Try.func71, Try.ntmps71
  go_wp2
  all_goals
    go_ret
    refine ⟨congrArg (fun b => Ending.returned (.bool b)) ?_, (Below.refl _ _).alloc (Nat.le_refl _) _⟩
    try unfold mayS
    first
    | (refine (decide_eq_false ?_).symm; omega)
    | (refine (decide_eq_true ?_).symm; omega)
    | (refine decide_eq_decide.2 ?_; omega)
    | (rw [Bool.eq_iff_iff]; simp; omega)
end Go.Proofs.Ytbhikceekldenaa.Hb

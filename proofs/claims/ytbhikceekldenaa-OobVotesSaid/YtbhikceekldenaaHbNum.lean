/- Numbers of 64 bits: sums, differences, products that may go beyond. No Go. -/
import Derived.WalkKit
namespace Go.Proofs.Ytbhikceekldenaa.Hb

def inR (x : Int) : Prop := -9223372036854775808 ≤ x ∧ x ≤ 9223372036854775807
instance (x : Int) : Decidable (inR x) := inferInstanceAs (Decidable (_ ∧ _))
/-- A number that is within, or none. -/
def lim (x : Int) : Option Int := if inR x then some x else none
theorem lim_in {x : Int} (h : inR x) : lim x = some x := if_pos h
theorem lim_out {x : Int} (h : ¬ inR x) : lim x = none := if_neg h
theorem lim_some {x y : Int} (h : lim x = some y) : y = x ∧ inR x := by
  unfold lim at h; split at h
  · exact ⟨(Option.some.inj h).symm, ‹_›⟩
  · cases h
theorem lim_none {x : Int} (h : lim x = none) : ¬ inR x := by
  unfold lim at h; split at h
  · cases h
  · assumption
/-- What a function of a number and an error hands back. -/
def res : Option Int → Value
  | some x => .tuple #[.int .i64 x, .int .i64 0]
  | none => .tuple #[.int .i64 0, .int .i64 6]
theorem res_form (v : Option Int) : ∃ x y, res v = .tuple #[.int .i64 x, .int .i64 y] := by cases v <;> exact ⟨_, _, rfl⟩
theorem ret_res {v : Value} {a b : Int} (h : v = .tuple #[.int .i64 a, .int .i64 b]) : Ending.returned (.tuple #[.int .i64 a, .int .i64 b]) = .returned v := by rw [h]
end Go.Proofs.Ytbhikceekldenaa.Hb

/- The laws of layer 3 of lists, of whatever reads as their arguments. -/
import Derived.Test.YtbhikceekldenaaHbLawPerms
import Derived.Test.YtbhikceekldenaaHbLawChooses
import Derived.Test.YtbhikceekldenaaHbLawDeals
namespace Go.Proofs.Ytbhikceekldenaa.Hb
open Go.RowKit
def IsU (W : World) (v : Value) : Prop := ∃ (A : Option Addr) (l : List Int) (cap : Nat), v = .slice A l.length cap ∧ RdU W A l ∧ l.length ≤ 9223372036854775807
theorem perms_row (W : World) (v : Value) (h : IsU W v) (n : Int) (_ : (Lit.int .i64 n).wf = true) : Calls Try.prog 8 #[v, .int .i64 n] W (True0 W) := by
  obtain ⟨A, l, cap, rfl, hr, hl⟩ := h
  exact DealPerms_any A cap l n W hl hr
theorem deals_row (W : World) (v : Value) (h : IsU W v) (n : Int) (_ : (Lit.int .i64 n).wf = true) : Calls Try.prog 10 #[v, .int .i64 n] W (True0 W) := by
  obtain ⟨A, l, cap, rfl, hr, hl⟩ := h
  exact DealDeals_any A cap l n W hl hr
theorem chooses_row (W : World) (v : Value) (h : IsU W v) (n : Int) (_ : (Lit.int .i64 n).wf = true) (m : Int) (_ : (Lit.int .i64 m).wf = true) : Calls Try.prog 9 #[v, .int .i64 n, .int .i64 m] W (True0 W) := by
  obtain ⟨A, l, cap, rfl, hr, hl⟩ := h
  exact DealChooses_any A cap l n m W hl hr
end Go.Proofs.Ytbhikceekldenaa.Hb

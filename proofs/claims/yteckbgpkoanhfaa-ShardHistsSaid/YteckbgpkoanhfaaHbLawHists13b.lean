/- The law ShardHists, of whatever reads as its arguments. -/
import Derived.Test.YteckbgpkoanhfaaHbLawHists13
import Derived.Test.YteckbgpkoanhfaaHbSmpRd
namespace Go.Proofs.Yteckbgpkoanhfaa.Hb
open Go.RowKit
theorem hists13_row (W : World) (v0 : Value) (h0 : ∃ (s : Smp) (A1 A2 A3 : Option Addr) (c1 c2 c3 : Nat), v0 = .agg (smpC s A1 A2 A3 c1 c2 c3) ∧ RdS W s A1 A2 A3 ∧ s.cells.length ≤ c1)
    (v1 : Value) (h1 : ∃ (col : Int) (is : List Int) (Ar : Option Addr) (cr : Nat) (pp : Int), v1 = .agg #[.int .i64 col, .slice Ar is.length cr, .int .i64 pp] ∧ inR col ∧ inR pp ∧ RdI W Ar is ∧ is.length ≤ cr ∧ is.length ≤ 9223372036854775807) :
    Calls Try.prog 11 #[v0, v1] W (True0 W) := by
  obtain ⟨s, A1, A2, A3, c1, c2, c3, rfl, RS, hcc⟩ := h0
  obtain ⟨col, is, Ar, cr, pp, rfl, _, _, RI, hcr, hli⟩ := h1
  exact hists13_any s A1 A2 A3 c1 c2 c3 col is Ar cr pp W RS RI hli hcc hcr
end Go.Proofs.Yteckbgpkoanhfaa.Hb

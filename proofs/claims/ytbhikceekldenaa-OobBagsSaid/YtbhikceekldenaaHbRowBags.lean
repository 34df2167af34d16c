/- The law OobBags, of whatever reads as its arguments. -/
import Derived.Test.YtbhikceekldenaaHbBags2
import Derived.Test.YtbhikceekldenaaHbGrvRd
namespace Go.Proofs.Ytbhikceekldenaa.Hb
open Go.RowKit
theorem bags_row (w : World) (v : Value) (h : IsGrv w v) (n : Int) (_ : (Lit.int .i64 n).wf = true) : Calls Try.prog 7 #[v, .int .i64 n] w (True0 w) := by
  obtain ⟨g, Ac, At, Aw, Ag, cc, ct, cw, cg, rfl, hr, _, h2, h3, _⟩ := h
  exact bags_any g n Ac At Aw Ag cc ct cw cg w hr h2 h3
end Go.Proofs.Ytbhikceekldenaa.Hb

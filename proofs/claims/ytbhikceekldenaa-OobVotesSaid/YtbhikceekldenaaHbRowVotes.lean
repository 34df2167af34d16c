/- The law OobVotes, of whatever reads as its argument. -/
import Derived.Test.YtbhikceekldenaaHbOVotes
import Derived.Test.YtbhikceekldenaaHbGrvRd
namespace Go.Proofs.Ytbhikceekldenaa.Hb
open Go.RowKit
set_option maxRecDepth 100000 in
theorem votes_row (w : World) (v : Value) (h : IsGrv w v) : Calls Try.prog 3 #[v] w (True0 w) := by
  obtain ⟨g, Ac, At, Aw, Ag, cc, ct, cw, cg, rfl, hr, h1, h2, h3, _⟩ := h
  exact ovotes_any g Ac At Aw Ag cc ct cw cg w hr h1 h2 h3
end Go.Proofs.Ytbhikceekldenaa.Hb

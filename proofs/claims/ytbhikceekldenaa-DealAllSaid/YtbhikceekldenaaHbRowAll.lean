/- The law DealAll, of whatever reads as its arguments. -/
import Derived.Test.YtbhikceekldenaaHbLawAll
namespace Go.Proofs.Ytbhikceekldenaa.Hb
open Go.RowKit
theorem all_row (key : Int) (_ : (Lit.int .u64 key).wf = true) (n : Int) (wn : (Lit.int .u16 n).wf = true) (w : World) : Calls Try.prog 13 #[.int .u64 key, .int .u16 n] w (True0 w) := all_any key n wn w
end Go.Proofs.Ytbhikceekldenaa.Hb

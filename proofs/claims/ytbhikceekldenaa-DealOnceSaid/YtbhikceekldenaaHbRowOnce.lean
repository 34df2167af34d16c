/- The law DealOnce, of whatever reads as its arguments. -/
import Derived.Test.YtbhikceekldenaaHbLawOnce
namespace Go.Proofs.Ytbhikceekldenaa.Hb
open Go.RowKit
theorem once_row (key : Int) (_ : (Lit.int .u64 key).wf = true) (n : Int) (wn : (Lit.int .u16 n).wf = true) (k : Int) (wk : (Lit.int .u16 k).wf = true) (w : World) : Calls Try.prog 12 #[.int .u64 key, .int .u16 n, .int .u16 k] w (True0 w) := once_any key n wn k wk w
end Go.Proofs.Ytbhikceekldenaa.Hb

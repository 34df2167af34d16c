/-
  NARROWER THAN 'FOR EVERY INPUT', by the rows' own cells (each row's printed sentence says how): PoolRuns: calm · PoolMaps: calm · PoolAlike: calm · PoolStays: calm.
  DERIVED. THE GIVEN ROWS OF THIS SEAT. 11 by the template 'for every input the law returns true; each argument reads behind the call as it read before'; 0 by the template 'total and deterministic' (their statements: YtpekofpiodaadaaTotals.lean).
  GIVEN WITH THE SEED: the statements are not yours to turn. If you find one false, say at which input.
  Laid BY PROGRAM, IN A SANDBOX (cutbox-rows.mjs): the forced cells as the released guide's own fill.sh prints them over the translation c6f57584cc3c15f9… (all of the seat's roots in one cut). By AI agents, Wed Nov 11 2026. No macro, syntax, notation, axiom, sorry.
-/
import Derived.Test.YtpekofpiodaadaaChecked
import GoSem.Claim
import GoSem.ClaimJoined
import GoSem.ClaimMapViews
import Derived.JoinedTies
import Derived.KernelRfl
namespace Go.Proofs.Ytpekofpiodaadaa
/- THE CELL 'sum', in the pinned program and in every row, IS THE sha256 OF THE DUMP (.gsa) THAT YtpekofpiodaadaaProg.lean LOADS. Nothing in Lean hashes anything: it is a label: what it is worth is what the hold of that sum in a sandbox is worth. -/
noncomputable def Try.pinned : Pinned := { name := "ytpekofpiodaadaa", sum := "c6f57584cc3c15f9fbd7ab5ead724520cef7eb0d53b6a283097175ef05ba8060", checked := Try.checked }
namespace Rows
def none {H : Type} : Left H := { results := [], args := [] }

/-- 'hornbeamlaw22.PoolRuns': WHATEVER THE INPUT: true; the input reads as it did. -/
def poolRunsSpec : ChangeSpec := { name := "poolRuns", fn := fun _ => fun
  | [d1, d2, d3] => { results := [.lit (.bool true)], args := [d1, d2, d3] }
  | _ => none }
def poolRunsRow : OpenClaim := { program := "ytpekofpiodaadaa", sum := "c6f57584cc3c15f9fbd7ab5ead724520cef7eb0d53b6a283097175ef05ba8060", func := "hornbeam/hornbeamlaw22.PoolRuns", spec := "poolRuns", inPlace := ["(*sync.WaitGroup).Add", "internal/race.ReleaseMerge", "internal/race.Disable", "internal/race.Enable", "internal/synctest.IsInBubble", "internal/synctest.Associate[sync.WaitGroup]", "sync.fatal", "sync/atomic.OrUint64", "sync/atomic.AddUint64", "internal/race.Read", "sync/atomic.LoadUint64", "sync/atomic.StoreUint64", "internal/synctest.Disassociate[sync.WaitGroup]", "sync.runtime_Semrelease", "(*sync.WaitGroup).Done", "(*internal/sync.Mutex).Lock", "sync/atomic.CompareAndSwapInt32", "internal/race.Acquire", "(*internal/sync.Mutex).lockSlow", "internal/sync.runtime_canSpin", "internal/sync.runtime_doSpin", "internal/sync.throw", "internal/sync.runtime_nanotime", "internal/sync.runtime_SemacquireMutex", "sync/atomic.AddInt32", "(*internal/sync.Mutex).Unlock", "(*internal/sync.Mutex).unlockSlow", "internal/sync.fatal", "internal/sync.runtime_Semrelease", "(*sync.WaitGroup).Wait", "internal/synctest.IsAssociated[sync.WaitGroup]", "sync/atomic.CompareAndSwapUint64", "internal/race.Write", "sync.runtime_SemacquireWaitGroup"], unfollowed := true, recurses := true, leaving := true, apart := false, calm := true, outside := [.timePasses] }
def PoolRunsSaid : Prop := poolRunsRow.holds Try.pinned (OpenSpec.ofChange poolRunsSpec)

/-- ITS FALSE NEIGHBOUR: 'it returns false'. Refute it at one input. -/
def poolRunsWrong : ChangeSpec := { name := "poolRuns", fn := fun _ => fun
  | [d1, d2, d3] => { results := [.lit (.bool false)], args := [d1, d2, d3] }
  | _ => none }
def PoolRunsWrongFalsely : Prop := poolRunsRow.holds Try.pinned (OpenSpec.ofChange poolRunsWrong)

/-- 'hornbeamlaw22.PoolMaps': WHATEVER THE INPUT: true; the input reads as it did. -/
def poolMapsSpec : ChangeSpec := { name := "poolMaps", fn := fun _ => fun
  | [d1, d2, d3] => { results := [.lit (.bool true)], args := [d1, d2, d3] }
  | _ => none }
def poolMapsRow : OpenClaim := { program := "ytpekofpiodaadaa", sum := "c6f57584cc3c15f9fbd7ab5ead724520cef7eb0d53b6a283097175ef05ba8060", func := "hornbeam/hornbeamlaw22.PoolMaps", spec := "poolMaps", inPlace := ["(*sync.WaitGroup).Add", "internal/race.ReleaseMerge", "internal/race.Disable", "internal/race.Enable", "internal/synctest.IsInBubble", "internal/synctest.Associate[sync.WaitGroup]", "sync.fatal", "sync/atomic.OrUint64", "sync/atomic.AddUint64", "internal/race.Read", "sync/atomic.LoadUint64", "sync/atomic.StoreUint64", "internal/synctest.Disassociate[sync.WaitGroup]", "sync.runtime_Semrelease", "(*sync.WaitGroup).Done", "(*internal/sync.Mutex).Lock", "sync/atomic.CompareAndSwapInt32", "internal/race.Acquire", "(*internal/sync.Mutex).lockSlow", "internal/sync.runtime_canSpin", "internal/sync.runtime_doSpin", "internal/sync.throw", "internal/sync.runtime_nanotime", "internal/sync.runtime_SemacquireMutex", "sync/atomic.AddInt32", "(*internal/sync.Mutex).Unlock", "(*internal/sync.Mutex).unlockSlow", "internal/sync.fatal", "internal/sync.runtime_Semrelease", "(*sync.WaitGroup).Wait", "internal/synctest.IsAssociated[sync.WaitGroup]", "sync/atomic.CompareAndSwapUint64", "internal/race.Write", "sync.runtime_SemacquireWaitGroup"], unfollowed := true, recurses := true, leaving := true, apart := false, calm := true, outside := [.timePasses] }
def PoolMapsSaid : Prop := poolMapsRow.holds Try.pinned (OpenSpec.ofChange poolMapsSpec)

/-- ITS FALSE NEIGHBOUR: 'it returns false'. Refute it at one input. -/
def poolMapsWrong : ChangeSpec := { name := "poolMaps", fn := fun _ => fun
  | [d1, d2, d3] => { results := [.lit (.bool false)], args := [d1, d2, d3] }
  | _ => none }
def PoolMapsWrongFalsely : Prop := poolMapsRow.holds Try.pinned (OpenSpec.ofChange poolMapsWrong)

/-- 'hornbeamlaw22.PoolAlike': WHATEVER THE INPUT: true; the input reads as it did. -/
def poolAlikeSpec : ChangeSpec := { name := "poolAlike", fn := fun _ => fun
  | [d1, d2, d3] => { results := [.lit (.bool true)], args := [d1, d2, d3] }
  | _ => none }
def poolAlikeRow : OpenClaim := { program := "ytpekofpiodaadaa", sum := "c6f57584cc3c15f9fbd7ab5ead724520cef7eb0d53b6a283097175ef05ba8060", func := "hornbeam/hornbeamlaw22.PoolAlike", spec := "poolAlike", inPlace := ["(*sync.WaitGroup).Add", "internal/race.ReleaseMerge", "internal/race.Disable", "internal/race.Enable", "internal/synctest.IsInBubble", "internal/synctest.Associate[sync.WaitGroup]", "sync.fatal", "sync/atomic.OrUint64", "sync/atomic.AddUint64", "internal/race.Read", "sync/atomic.LoadUint64", "sync/atomic.StoreUint64", "internal/synctest.Disassociate[sync.WaitGroup]", "sync.runtime_Semrelease", "(*sync.WaitGroup).Done", "(*internal/sync.Mutex).Lock", "sync/atomic.CompareAndSwapInt32", "internal/race.Acquire", "(*internal/sync.Mutex).lockSlow", "internal/sync.runtime_canSpin", "internal/sync.runtime_doSpin", "internal/sync.throw", "internal/sync.runtime_nanotime", "internal/sync.runtime_SemacquireMutex", "sync/atomic.AddInt32", "(*internal/sync.Mutex).Unlock", "(*internal/sync.Mutex).unlockSlow", "internal/sync.fatal", "internal/sync.runtime_Semrelease", "(*sync.WaitGroup).Wait", "internal/synctest.IsAssociated[sync.WaitGroup]", "sync/atomic.CompareAndSwapUint64", "internal/race.Write", "sync.runtime_SemacquireWaitGroup"], unfollowed := true, recurses := true, leaving := true, apart := false, calm := true, outside := [.timePasses] }
def PoolAlikeSaid : Prop := poolAlikeRow.holds Try.pinned (OpenSpec.ofChange poolAlikeSpec)

/-- ITS FALSE NEIGHBOUR: 'it returns false'. Refute it at one input. -/
def poolAlikeWrong : ChangeSpec := { name := "poolAlike", fn := fun _ => fun
  | [d1, d2, d3] => { results := [.lit (.bool false)], args := [d1, d2, d3] }
  | _ => none }
def PoolAlikeWrongFalsely : Prop := poolAlikeRow.holds Try.pinned (OpenSpec.ofChange poolAlikeWrong)

/-- 'hornbeamlaw22.PoolStays': WHATEVER THE INPUT: true; the input reads as it did. -/
def poolStaysSpec : ChangeSpec := { name := "poolStays", fn := fun _ => fun
  | [d1, d2, d3] => { results := [.lit (.bool true)], args := [d1, d2, d3] }
  | _ => none }
def poolStaysRow : OpenClaim := { program := "ytpekofpiodaadaa", sum := "c6f57584cc3c15f9fbd7ab5ead724520cef7eb0d53b6a283097175ef05ba8060", func := "hornbeam/hornbeamlaw22.PoolStays", spec := "poolStays", inPlace := ["(*sync.WaitGroup).Add", "internal/race.ReleaseMerge", "internal/race.Disable", "internal/race.Enable", "internal/synctest.IsInBubble", "internal/synctest.Associate[sync.WaitGroup]", "sync.fatal", "sync/atomic.OrUint64", "sync/atomic.AddUint64", "internal/race.Read", "sync/atomic.LoadUint64", "sync/atomic.StoreUint64", "internal/synctest.Disassociate[sync.WaitGroup]", "sync.runtime_Semrelease", "(*sync.WaitGroup).Done", "(*internal/sync.Mutex).Lock", "sync/atomic.CompareAndSwapInt32", "internal/race.Acquire", "(*internal/sync.Mutex).lockSlow", "internal/sync.runtime_canSpin", "internal/sync.runtime_doSpin", "internal/sync.throw", "internal/sync.runtime_nanotime", "internal/sync.runtime_SemacquireMutex", "sync/atomic.AddInt32", "(*internal/sync.Mutex).Unlock", "(*internal/sync.Mutex).unlockSlow", "internal/sync.fatal", "internal/sync.runtime_Semrelease", "(*sync.WaitGroup).Wait", "internal/synctest.IsAssociated[sync.WaitGroup]", "sync/atomic.CompareAndSwapUint64", "internal/race.Write", "sync.runtime_SemacquireWaitGroup"], unfollowed := true, recurses := true, leaving := true, apart := false, calm := true, outside := [.timePasses] }
def PoolStaysSaid : Prop := poolStaysRow.holds Try.pinned (OpenSpec.ofChange poolStaysSpec)

/-- ITS FALSE NEIGHBOUR: 'it returns false'. Refute it at one input. -/
def poolStaysWrong : ChangeSpec := { name := "poolStays", fn := fun _ => fun
  | [d1, d2, d3] => { results := [.lit (.bool false)], args := [d1, d2, d3] }
  | _ => none }
def PoolStaysWrongFalsely : Prop := poolStaysRow.holds Try.pinned (OpenSpec.ofChange poolStaysWrong)

/-- 'hornbeamlaw28.ModelOne': WHATEVER THE INPUT: true; the input reads as it did. -/
def modelOneSpec : ChangeSpec := { name := "modelOne", fn := fun _ => fun
  | [d1, d2] => { results := [.lit (.bool true)], args := [d1, d2] }
  | _ => none }
def modelOneRow : OpenClaim := { program := "ytpekofpiodaadaa", sum := "c6f57584cc3c15f9fbd7ab5ead724520cef7eb0d53b6a283097175ef05ba8060", func := "hornbeam/hornbeamlaw28.ModelOne", spec := "modelOne", inPlace := ["math.Float64bits", "math.Float64frombits"], unfollowed := true, recurses := true, leaving := true, apart := false }
def ModelOneSaid : Prop := modelOneRow.holds Try.pinned (OpenSpec.ofChange modelOneSpec)

/-- ITS FALSE NEIGHBOUR: 'it returns false'. Refute it at one input. -/
def modelOneWrong : ChangeSpec := { name := "modelOne", fn := fun _ => fun
  | [d1, d2] => { results := [.lit (.bool false)], args := [d1, d2] }
  | _ => none }
def ModelOneWrongFalsely : Prop := modelOneRow.holds Try.pinned (OpenSpec.ofChange modelOneWrong)

/-- 'hornbeamlaw28.ModelPuts': WHATEVER THE INPUT: true; the input reads as it did. -/
def modelPutsSpec : ChangeSpec := { name := "modelPuts", fn := fun _ => fun
  | [d] => { results := [.lit (.bool true)], args := [d] }
  | _ => none }
def modelPutsRow : OpenClaim := { program := "ytpekofpiodaadaa", sum := "c6f57584cc3c15f9fbd7ab5ead724520cef7eb0d53b6a283097175ef05ba8060", func := "hornbeam/hornbeamlaw28.ModelPuts", spec := "modelPuts", inPlace := ["math.Float64bits", "math.Float64frombits"], unfollowed := true, recurses := true, leaving := true, apart := false }
def ModelPutsSaid : Prop := modelPutsRow.holds Try.pinned (OpenSpec.ofChange modelPutsSpec)

/-- ITS FALSE NEIGHBOUR: 'it returns false'. Refute it at one input. -/
def modelPutsWrong : ChangeSpec := { name := "modelPuts", fn := fun _ => fun
  | [d] => { results := [.lit (.bool false)], args := [d] }
  | _ => none }
def ModelPutsWrongFalsely : Prop := modelPutsRow.holds Try.pinned (OpenSpec.ofChange modelPutsWrong)

/-- 'hornbeamlaw28.ModelGets': WHATEVER THE INPUT: true; the input reads as it did. -/
def modelGetsSpec : ChangeSpec := { name := "modelGets", fn := fun _ => fun
  | [d] => { results := [.lit (.bool true)], args := [d] }
  | _ => none }
def modelGetsRow : OpenClaim := { program := "ytpekofpiodaadaa", sum := "c6f57584cc3c15f9fbd7ab5ead724520cef7eb0d53b6a283097175ef05ba8060", func := "hornbeam/hornbeamlaw28.ModelGets", spec := "modelGets", inPlace := ["math.Float64bits", "math.Float64frombits"], unfollowed := true, recurses := true, leaving := true, apart := false }
def ModelGetsSaid : Prop := modelGetsRow.holds Try.pinned (OpenSpec.ofChange modelGetsSpec)

/-- ITS FALSE NEIGHBOUR: 'it returns false'. Refute it at one input. -/
def modelGetsWrong : ChangeSpec := { name := "modelGets", fn := fun _ => fun
  | [d] => { results := [.lit (.bool false)], args := [d] }
  | _ => none }
def ModelGetsWrongFalsely : Prop := modelGetsRow.holds Try.pinned (OpenSpec.ofChange modelGetsWrong)

/-- 'hornbeamlaw28.ModelCuts': WHATEVER THE INPUT: true; the input reads as it did. -/
def modelCutsSpec : ChangeSpec := { name := "modelCuts", fn := fun _ => fun
  | [d1, d2, d3] => { results := [.lit (.bool true)], args := [d1, d2, d3] }
  | _ => none }
def modelCutsRow : OpenClaim := { program := "ytpekofpiodaadaa", sum := "c6f57584cc3c15f9fbd7ab5ead724520cef7eb0d53b6a283097175ef05ba8060", func := "hornbeam/hornbeamlaw28.ModelCuts", spec := "modelCuts", inPlace := ["math.Float64bits", "math.Float64frombits"], unfollowed := true, recurses := true, leaving := true, apart := false }
def ModelCutsSaid : Prop := modelCutsRow.holds Try.pinned (OpenSpec.ofChange modelCutsSpec)

/-- ITS FALSE NEIGHBOUR: 'it returns false'. Refute it at one input. -/
def modelCutsWrong : ChangeSpec := { name := "modelCuts", fn := fun _ => fun
  | [d1, d2, d3] => { results := [.lit (.bool false)], args := [d1, d2, d3] }
  | _ => none }
def ModelCutsWrongFalsely : Prop := modelCutsRow.holds Try.pinned (OpenSpec.ofChange modelCutsWrong)

/-- 'hornbeamlaw26.ShakeOne': WHATEVER THE INPUT: true; the input reads as it did. -/
def shakeOneSpec : ChangeSpec := { name := "shakeOne", fn := fun _ => fun
  | [d1, d2, d3] => { results := [.lit (.bool true)], args := [d1, d2, d3] }
  | _ => none }
def shakeOneRow : OpenClaim := { program := "ytpekofpiodaadaa", sum := "c6f57584cc3c15f9fbd7ab5ead724520cef7eb0d53b6a283097175ef05ba8060", func := "hornbeam/hornbeamlaw26.ShakeOne", spec := "shakeOne", unfollowed := true, recurses := true, leaving := true, apart := false }
def ShakeOneSaid : Prop := shakeOneRow.holds Try.pinned (OpenSpec.ofChange shakeOneSpec)

/-- ITS FALSE NEIGHBOUR: 'it returns false'. Refute it at one input. -/
def shakeOneWrong : ChangeSpec := { name := "shakeOne", fn := fun _ => fun
  | [d1, d2, d3] => { results := [.lit (.bool false)], args := [d1, d2, d3] }
  | _ => none }
def ShakeOneWrongFalsely : Prop := shakeOneRow.holds Try.pinned (OpenSpec.ofChange shakeOneWrong)

/-- 'hornbeamlaw26.ShakeUnused': WHATEVER THE INPUT: true; the input reads as it did. -/
def shakeUnusedSpec : ChangeSpec := { name := "shakeUnused", fn := fun _ => fun
  | [d1, d2, d3] => { results := [.lit (.bool true)], args := [d1, d2, d3] }
  | _ => none }
def shakeUnusedRow : OpenClaim := { program := "ytpekofpiodaadaa", sum := "c6f57584cc3c15f9fbd7ab5ead724520cef7eb0d53b6a283097175ef05ba8060", func := "hornbeam/hornbeamlaw26.ShakeUnused", spec := "shakeUnused", unfollowed := true, recurses := true, leaving := true, apart := false }
def ShakeUnusedSaid : Prop := shakeUnusedRow.holds Try.pinned (OpenSpec.ofChange shakeUnusedSpec)

/-- ITS FALSE NEIGHBOUR: 'it returns false'. Refute it at one input. -/
def shakeUnusedWrong : ChangeSpec := { name := "shakeUnused", fn := fun _ => fun
  | [d1, d2, d3] => { results := [.lit (.bool false)], args := [d1, d2, d3] }
  | _ => none }
def ShakeUnusedWrongFalsely : Prop := shakeUnusedRow.holds Try.pinned (OpenSpec.ofChange shakeUnusedWrong)

/-- 'hornbeamlaw29.ForestPredicts': WHATEVER THE INPUT: true; the input reads as it did. -/
def forestPredictsSpec : ChangeSpec := { name := "forestPredicts", fn := fun _ => fun
  | [d1, d2] => { results := [.lit (.bool true)], args := [d1, d2] }
  | _ => none }
def forestPredictsRow : OpenClaim := { program := "ytpekofpiodaadaa", sum := "c6f57584cc3c15f9fbd7ab5ead724520cef7eb0d53b6a283097175ef05ba8060", func := "hornbeam/hornbeamlaw29.ForestPredicts", spec := "forestPredicts", inPlace := ["math.Float64bits", "math.Float64frombits"], unfollowed := true, recurses := true, leaving := true, apart := false }
def ForestPredictsSaid : Prop := forestPredictsRow.holds Try.pinned (OpenSpec.ofChange forestPredictsSpec)

/-- ITS FALSE NEIGHBOUR: 'it returns false'. Refute it at one input. -/
def forestPredictsWrong : ChangeSpec := { name := "forestPredicts", fn := fun _ => fun
  | [d1, d2] => { results := [.lit (.bool false)], args := [d1, d2] }
  | _ => none }
def ForestPredictsWrongFalsely : Prop := forestPredictsRow.holds Try.pinned (OpenSpec.ofChange forestPredictsWrong)

/- THE SECOND FORM. 'bulk': how many values and letters a reading holds, each counted each time it is reached (what is shared counts as often as it is met; a slice's spare places count too). A statement '..UptoSaid' is the law's where the arguments, and the package variables that the reading takes, are together of bulk at most 1048576: NARROWER than '..Said'. Prove '..Said' where nothing that the law and all that it calls make is longer than what came in: it says more and counts as full. Else prove '..UptoSaid'. A law counts once. -/
mutual
def uptoBulk {H : Type} : DataW H → Nat
  | .lit (.string bytes) => bytes.length + 1
  | .lit _ => 1
  | .nil => 1
  | .ptr d => uptoBulk d + 1
  | .slice elems spare => uptoBulkAll elems + uptoBulkAll spare + 1
  | .agg parts => uptoBulkAll parts + 1
  | .iface _ d => uptoBulk d + 1
  | .map entries => uptoBulkEntries entries + 1
  | .held _ => 1
def uptoBulkAll {H : Type} : List (DataW H) → Nat
  | [] => 0
  | d :: r => uptoBulk d + uptoBulkAll r
def uptoBulkEntries {H : Type} : List (Lit × DataW H) → Nat
  | [] => 0
  | x :: r => uptoBulkEntry x + uptoBulkEntries r
def uptoBulkEntry {H : Type} : Lit × DataW H → Nat
  | (.string bytes, d) => bytes.length + uptoBulk d + 1
  | (_, d) => uptoBulk d + 1
 end
def uptoSmall : (H : Type) → List (DataW H) → Bool := fun _ ds => decide (uptoBulkAll ds ≤ 1048576)
def OpenSpec.upto (s : _root_.Go.ChangeSpec) : _root_.Go.OpenSpec := { _root_.Go.OpenSpec.ofChange s with cond := some uptoSmall }

/-- 'hornbeamlaw22.PoolRuns', WHERE WHAT IT READS IS OF BULK AT MOST 1048576: true; the input reads as it did. -/
def poolRunsUptoRow : OpenClaim := { program := "ytpekofpiodaadaa", sum := "c6f57584cc3c15f9fbd7ab5ead724520cef7eb0d53b6a283097175ef05ba8060", func := "hornbeam/hornbeamlaw22.PoolRuns", spec := "poolRuns", inPlace := ["(*sync.WaitGroup).Add", "internal/race.ReleaseMerge", "internal/race.Disable", "internal/race.Enable", "internal/synctest.IsInBubble", "internal/synctest.Associate[sync.WaitGroup]", "sync.fatal", "sync/atomic.OrUint64", "sync/atomic.AddUint64", "internal/race.Read", "sync/atomic.LoadUint64", "sync/atomic.StoreUint64", "internal/synctest.Disassociate[sync.WaitGroup]", "sync.runtime_Semrelease", "(*sync.WaitGroup).Done", "(*internal/sync.Mutex).Lock", "sync/atomic.CompareAndSwapInt32", "internal/race.Acquire", "(*internal/sync.Mutex).lockSlow", "internal/sync.runtime_canSpin", "internal/sync.runtime_doSpin", "internal/sync.throw", "internal/sync.runtime_nanotime", "internal/sync.runtime_SemacquireMutex", "sync/atomic.AddInt32", "(*internal/sync.Mutex).Unlock", "(*internal/sync.Mutex).unlockSlow", "internal/sync.fatal", "internal/sync.runtime_Semrelease", "(*sync.WaitGroup).Wait", "internal/synctest.IsAssociated[sync.WaitGroup]", "sync/atomic.CompareAndSwapUint64", "internal/race.Write", "sync.runtime_SemacquireWaitGroup"], unfollowed := true, recurses := true, leaving := true, apart := false, calm := true, outside := [.timePasses], narrowed := true }
def PoolRunsUptoSaid : Prop := poolRunsUptoRow.holds Try.pinned (OpenSpec.upto poolRunsSpec)

/-- 'hornbeamlaw22.PoolMaps', WHERE WHAT IT READS IS OF BULK AT MOST 1048576: true; the input reads as it did. -/
def poolMapsUptoRow : OpenClaim := { program := "ytpekofpiodaadaa", sum := "c6f57584cc3c15f9fbd7ab5ead724520cef7eb0d53b6a283097175ef05ba8060", func := "hornbeam/hornbeamlaw22.PoolMaps", spec := "poolMaps", inPlace := ["(*sync.WaitGroup).Add", "internal/race.ReleaseMerge", "internal/race.Disable", "internal/race.Enable", "internal/synctest.IsInBubble", "internal/synctest.Associate[sync.WaitGroup]", "sync.fatal", "sync/atomic.OrUint64", "sync/atomic.AddUint64", "internal/race.Read", "sync/atomic.LoadUint64", "sync/atomic.StoreUint64", "internal/synctest.Disassociate[sync.WaitGroup]", "sync.runtime_Semrelease", "(*sync.WaitGroup).Done", "(*internal/sync.Mutex).Lock", "sync/atomic.CompareAndSwapInt32", "internal/race.Acquire", "(*internal/sync.Mutex).lockSlow", "internal/sync.runtime_canSpin", "internal/sync.runtime_doSpin", "internal/sync.throw", "internal/sync.runtime_nanotime", "internal/sync.runtime_SemacquireMutex", "sync/atomic.AddInt32", "(*internal/sync.Mutex).Unlock", "(*internal/sync.Mutex).unlockSlow", "internal/sync.fatal", "internal/sync.runtime_Semrelease", "(*sync.WaitGroup).Wait", "internal/synctest.IsAssociated[sync.WaitGroup]", "sync/atomic.CompareAndSwapUint64", "internal/race.Write", "sync.runtime_SemacquireWaitGroup"], unfollowed := true, recurses := true, leaving := true, apart := false, calm := true, outside := [.timePasses], narrowed := true }
def PoolMapsUptoSaid : Prop := poolMapsUptoRow.holds Try.pinned (OpenSpec.upto poolMapsSpec)

/-- 'hornbeamlaw22.PoolAlike', WHERE WHAT IT READS IS OF BULK AT MOST 1048576: true; the input reads as it did. -/
def poolAlikeUptoRow : OpenClaim := { program := "ytpekofpiodaadaa", sum := "c6f57584cc3c15f9fbd7ab5ead724520cef7eb0d53b6a283097175ef05ba8060", func := "hornbeam/hornbeamlaw22.PoolAlike", spec := "poolAlike", inPlace := ["(*sync.WaitGroup).Add", "internal/race.ReleaseMerge", "internal/race.Disable", "internal/race.Enable", "internal/synctest.IsInBubble", "internal/synctest.Associate[sync.WaitGroup]", "sync.fatal", "sync/atomic.OrUint64", "sync/atomic.AddUint64", "internal/race.Read", "sync/atomic.LoadUint64", "sync/atomic.StoreUint64", "internal/synctest.Disassociate[sync.WaitGroup]", "sync.runtime_Semrelease", "(*sync.WaitGroup).Done", "(*internal/sync.Mutex).Lock", "sync/atomic.CompareAndSwapInt32", "internal/race.Acquire", "(*internal/sync.Mutex).lockSlow", "internal/sync.runtime_canSpin", "internal/sync.runtime_doSpin", "internal/sync.throw", "internal/sync.runtime_nanotime", "internal/sync.runtime_SemacquireMutex", "sync/atomic.AddInt32", "(*internal/sync.Mutex).Unlock", "(*internal/sync.Mutex).unlockSlow", "internal/sync.fatal", "internal/sync.runtime_Semrelease", "(*sync.WaitGroup).Wait", "internal/synctest.IsAssociated[sync.WaitGroup]", "sync/atomic.CompareAndSwapUint64", "internal/race.Write", "sync.runtime_SemacquireWaitGroup"], unfollowed := true, recurses := true, leaving := true, apart := false, calm := true, outside := [.timePasses], narrowed := true }
def PoolAlikeUptoSaid : Prop := poolAlikeUptoRow.holds Try.pinned (OpenSpec.upto poolAlikeSpec)

/-- 'hornbeamlaw22.PoolStays', WHERE WHAT IT READS IS OF BULK AT MOST 1048576: true; the input reads as it did. -/
def poolStaysUptoRow : OpenClaim := { program := "ytpekofpiodaadaa", sum := "c6f57584cc3c15f9fbd7ab5ead724520cef7eb0d53b6a283097175ef05ba8060", func := "hornbeam/hornbeamlaw22.PoolStays", spec := "poolStays", inPlace := ["(*sync.WaitGroup).Add", "internal/race.ReleaseMerge", "internal/race.Disable", "internal/race.Enable", "internal/synctest.IsInBubble", "internal/synctest.Associate[sync.WaitGroup]", "sync.fatal", "sync/atomic.OrUint64", "sync/atomic.AddUint64", "internal/race.Read", "sync/atomic.LoadUint64", "sync/atomic.StoreUint64", "internal/synctest.Disassociate[sync.WaitGroup]", "sync.runtime_Semrelease", "(*sync.WaitGroup).Done", "(*internal/sync.Mutex).Lock", "sync/atomic.CompareAndSwapInt32", "internal/race.Acquire", "(*internal/sync.Mutex).lockSlow", "internal/sync.runtime_canSpin", "internal/sync.runtime_doSpin", "internal/sync.throw", "internal/sync.runtime_nanotime", "internal/sync.runtime_SemacquireMutex", "sync/atomic.AddInt32", "(*internal/sync.Mutex).Unlock", "(*internal/sync.Mutex).unlockSlow", "internal/sync.fatal", "internal/sync.runtime_Semrelease", "(*sync.WaitGroup).Wait", "internal/synctest.IsAssociated[sync.WaitGroup]", "sync/atomic.CompareAndSwapUint64", "internal/race.Write", "sync.runtime_SemacquireWaitGroup"], unfollowed := true, recurses := true, leaving := true, apart := false, calm := true, outside := [.timePasses], narrowed := true }
def PoolStaysUptoSaid : Prop := poolStaysUptoRow.holds Try.pinned (OpenSpec.upto poolStaysSpec)

/-- 'hornbeamlaw28.ModelOne', WHERE WHAT IT READS IS OF BULK AT MOST 1048576: true; the input reads as it did. -/
def modelOneUptoRow : OpenClaim := { program := "ytpekofpiodaadaa", sum := "c6f57584cc3c15f9fbd7ab5ead724520cef7eb0d53b6a283097175ef05ba8060", func := "hornbeam/hornbeamlaw28.ModelOne", spec := "modelOne", inPlace := ["math.Float64bits", "math.Float64frombits"], unfollowed := true, recurses := true, leaving := true, apart := false, narrowed := true }
def ModelOneUptoSaid : Prop := modelOneUptoRow.holds Try.pinned (OpenSpec.upto modelOneSpec)

/-- 'hornbeamlaw28.ModelPuts', WHERE WHAT IT READS IS OF BULK AT MOST 1048576: true; the input reads as it did. -/
def modelPutsUptoRow : OpenClaim := { program := "ytpekofpiodaadaa", sum := "c6f57584cc3c15f9fbd7ab5ead724520cef7eb0d53b6a283097175ef05ba8060", func := "hornbeam/hornbeamlaw28.ModelPuts", spec := "modelPuts", inPlace := ["math.Float64bits", "math.Float64frombits"], unfollowed := true, recurses := true, leaving := true, apart := false, narrowed := true }
def ModelPutsUptoSaid : Prop := modelPutsUptoRow.holds Try.pinned (OpenSpec.upto modelPutsSpec)

/-- 'hornbeamlaw28.ModelGets', WHERE WHAT IT READS IS OF BULK AT MOST 1048576: true; the input reads as it did. -/
def modelGetsUptoRow : OpenClaim := { program := "ytpekofpiodaadaa", sum := "c6f57584cc3c15f9fbd7ab5ead724520cef7eb0d53b6a283097175ef05ba8060", func := "hornbeam/hornbeamlaw28.ModelGets", spec := "modelGets", inPlace := ["math.Float64bits", "math.Float64frombits"], unfollowed := true, recurses := true, leaving := true, apart := false, narrowed := true }
def ModelGetsUptoSaid : Prop := modelGetsUptoRow.holds Try.pinned (OpenSpec.upto modelGetsSpec)

/-- 'hornbeamlaw28.ModelCuts', WHERE WHAT IT READS IS OF BULK AT MOST 1048576: true; the input reads as it did. -/
def modelCutsUptoRow : OpenClaim := { program := "ytpekofpiodaadaa", sum := "c6f57584cc3c15f9fbd7ab5ead724520cef7eb0d53b6a283097175ef05ba8060", func := "hornbeam/hornbeamlaw28.ModelCuts", spec := "modelCuts", inPlace := ["math.Float64bits", "math.Float64frombits"], unfollowed := true, recurses := true, leaving := true, apart := false, narrowed := true }
def ModelCutsUptoSaid : Prop := modelCutsUptoRow.holds Try.pinned (OpenSpec.upto modelCutsSpec)

/-- 'hornbeamlaw26.ShakeOne', WHERE WHAT IT READS IS OF BULK AT MOST 1048576: true; the input reads as it did. -/
def shakeOneUptoRow : OpenClaim := { program := "ytpekofpiodaadaa", sum := "c6f57584cc3c15f9fbd7ab5ead724520cef7eb0d53b6a283097175ef05ba8060", func := "hornbeam/hornbeamlaw26.ShakeOne", spec := "shakeOne", unfollowed := true, recurses := true, leaving := true, apart := false, narrowed := true }
def ShakeOneUptoSaid : Prop := shakeOneUptoRow.holds Try.pinned (OpenSpec.upto shakeOneSpec)

/-- 'hornbeamlaw26.ShakeUnused', WHERE WHAT IT READS IS OF BULK AT MOST 1048576: true; the input reads as it did. -/
def shakeUnusedUptoRow : OpenClaim := { program := "ytpekofpiodaadaa", sum := "c6f57584cc3c15f9fbd7ab5ead724520cef7eb0d53b6a283097175ef05ba8060", func := "hornbeam/hornbeamlaw26.ShakeUnused", spec := "shakeUnused", unfollowed := true, recurses := true, leaving := true, apart := false, narrowed := true }
def ShakeUnusedUptoSaid : Prop := shakeUnusedUptoRow.holds Try.pinned (OpenSpec.upto shakeUnusedSpec)

/-- 'hornbeamlaw29.ForestPredicts', WHERE WHAT IT READS IS OF BULK AT MOST 1048576: true; the input reads as it did. -/
def forestPredictsUptoRow : OpenClaim := { program := "ytpekofpiodaadaa", sum := "c6f57584cc3c15f9fbd7ab5ead724520cef7eb0d53b6a283097175ef05ba8060", func := "hornbeam/hornbeamlaw29.ForestPredicts", spec := "forestPredicts", inPlace := ["math.Float64bits", "math.Float64frombits"], unfollowed := true, recurses := true, leaving := true, apart := false, narrowed := true }
def ForestPredictsUptoSaid : Prop := forestPredictsUptoRow.holds Try.pinned (OpenSpec.upto forestPredictsSpec)

end Rows
end Go.Proofs.Ytpekofpiodaadaa

/-
  No cell of these rows narrows 'for every input' (looked for: loops, veiled, ifaces, maps, wideKeys, modest, calm, conditions, laid).
  DERIVED. THE GIVEN ROWS OF THIS SEAT. 11 by the template 'for every input the law returns true; each argument reads behind the call as it read before'; 0 by the template 'total and deterministic' (their statements: YtbhikceekldenaaTotals.lean).
  GIVEN WITH THE SEED: the statements are not yours to turn. If you find one false, say at which input.
  Laid BY PROGRAM, IN A SANDBOX (cutbox-rows.mjs): the forced cells as the released guide's own fill.sh prints them over the translation d23d9b59cf77d203… (all of the seat's roots in one cut). By AI agents, Wed Nov 11 2026. No macro, syntax, notation, axiom, sorry.
-/
import Derived.Test.YtbhikceekldenaaChecked
import GoSem.Claim
import GoSem.ClaimJoined
import GoSem.ClaimMapViews
import Derived.JoinedTies
import Derived.KernelRfl
namespace Go.Proofs.Ytbhikceekldenaa
/- THE CELL 'sum', in the pinned program and in every row, IS THE sha256 OF THE DUMP (.gsa) THAT YtbhikceekldenaaProg.lean LOADS. Nothing in Lean hashes anything: it is a label: what it is worth is what the hold of that sum in a sandbox is worth. -/
noncomputable def Try.pinned : Pinned := { name := "ytbhikceekldenaa", sum := "d23d9b59cf77d203bb2d50633199b3578b0eac2b7e5442efec61a255172ffdc2", checked := Try.checked }
namespace Rows
def none {H : Type} : Left H := { results := [], args := [] }

/-- 'hornbeamlaw25.OobVotes': WHATEVER THE INPUT: true; the input reads as it did. -/
def oobVotesSpec : ChangeSpec := { name := "oobVotes", fn := fun _ => fun
  | [d] => { results := [.lit (.bool true)], args := [d] }
  | _ => none }
def oobVotesRow : OpenClaim := { program := "ytbhikceekldenaa", sum := "d23d9b59cf77d203bb2d50633199b3578b0eac2b7e5442efec61a255172ffdc2", func := "hornbeam/hornbeamlaw25.OobVotes", spec := "oobVotes", unfollowed := true, recurses := true, apart := false }
def OobVotesSaid : Prop := oobVotesRow.holds Try.pinned (OpenSpec.ofChange oobVotesSpec)

/-- ITS FALSE NEIGHBOUR: 'it returns false'. Refute it at one input. -/
def oobVotesWrong : ChangeSpec := { name := "oobVotes", fn := fun _ => fun
  | [d] => { results := [.lit (.bool false)], args := [d] }
  | _ => none }
def OobVotesWrongFalsely : Prop := oobVotesRow.holds Try.pinned (OpenSpec.ofChange oobVotesWrong)

/-- 'hornbeamlaw25.OobError': WHATEVER THE INPUT: true; the input reads as it did. -/
def oobErrorSpec : ChangeSpec := { name := "oobError", fn := fun _ => fun
  | [d] => { results := [.lit (.bool true)], args := [d] }
  | _ => none }
def oobErrorRow : OpenClaim := { program := "ytbhikceekldenaa", sum := "d23d9b59cf77d203bb2d50633199b3578b0eac2b7e5442efec61a255172ffdc2", func := "hornbeam/hornbeamlaw25.OobError", spec := "oobError", unfollowed := true, recurses := true, apart := false }
def OobErrorSaid : Prop := oobErrorRow.holds Try.pinned (OpenSpec.ofChange oobErrorSpec)

/-- ITS FALSE NEIGHBOUR: 'it returns false'. Refute it at one input. -/
def oobErrorWrong : ChangeSpec := { name := "oobError", fn := fun _ => fun
  | [d] => { results := [.lit (.bool false)], args := [d] }
  | _ => none }
def OobErrorWrongFalsely : Prop := oobErrorRow.holds Try.pinned (OpenSpec.ofChange oobErrorWrong)

/-- 'hornbeamlaw25.OobOnly': WHATEVER THE INPUT: true; the input reads as it did. -/
def oobOnlySpec : ChangeSpec := { name := "oobOnly", fn := fun _ => fun
  | [d1, d2, d3] => { results := [.lit (.bool true)], args := [d1, d2, d3] }
  | _ => none }
def oobOnlyRow : OpenClaim := { program := "ytbhikceekldenaa", sum := "d23d9b59cf77d203bb2d50633199b3578b0eac2b7e5442efec61a255172ffdc2", func := "hornbeam/hornbeamlaw25.OobOnly", spec := "oobOnly", unfollowed := true, recurses := true, apart := false }
def OobOnlySaid : Prop := oobOnlyRow.holds Try.pinned (OpenSpec.ofChange oobOnlySpec)

/-- ITS FALSE NEIGHBOUR: 'it returns false'. Refute it at one input. -/
def oobOnlyWrong : ChangeSpec := { name := "oobOnly", fn := fun _ => fun
  | [d1, d2, d3] => { results := [.lit (.bool false)], args := [d1, d2, d3] }
  | _ => none }
def OobOnlyWrongFalsely : Prop := oobOnlyRow.holds Try.pinned (OpenSpec.ofChange oobOnlyWrong)

/-- 'hornbeamlaw25.OobCounts': WHATEVER THE INPUT: true; the input reads as it did. -/
def oobCountsSpec : ChangeSpec := { name := "oobCounts", fn := fun _ => fun
  | [d] => { results := [.lit (.bool true)], args := [d] }
  | _ => none }
def oobCountsRow : OpenClaim := { program := "ytbhikceekldenaa", sum := "d23d9b59cf77d203bb2d50633199b3578b0eac2b7e5442efec61a255172ffdc2", func := "hornbeam/hornbeamlaw25.OobCounts", spec := "oobCounts", unfollowed := true, recurses := true, apart := false }
def OobCountsSaid : Prop := oobCountsRow.holds Try.pinned (OpenSpec.ofChange oobCountsSpec)

/-- ITS FALSE NEIGHBOUR: 'it returns false'. Refute it at one input. -/
def oobCountsWrong : ChangeSpec := { name := "oobCounts", fn := fun _ => fun
  | [d] => { results := [.lit (.bool false)], args := [d] }
  | _ => none }
def OobCountsWrongFalsely : Prop := oobCountsRow.holds Try.pinned (OpenSpec.ofChange oobCountsWrong)

/-- 'hornbeamlaw25.OobBags': WHATEVER THE INPUT: true; the input reads as it did. -/
def oobBagsSpec : ChangeSpec := { name := "oobBags", fn := fun _ => fun
  | [d1, d2] => { results := [.lit (.bool true)], args := [d1, d2] }
  | _ => none }
def oobBagsRow : OpenClaim := { program := "ytbhikceekldenaa", sum := "d23d9b59cf77d203bb2d50633199b3578b0eac2b7e5442efec61a255172ffdc2", func := "hornbeam/hornbeamlaw25.OobBags", spec := "oobBags", unfollowed := true, recurses := true, apart := false }
def OobBagsSaid : Prop := oobBagsRow.holds Try.pinned (OpenSpec.ofChange oobBagsSpec)

/-- ITS FALSE NEIGHBOUR: 'it returns false'. Refute it at one input. -/
def oobBagsWrong : ChangeSpec := { name := "oobBags", fn := fun _ => fun
  | [d1, d2] => { results := [.lit (.bool false)], args := [d1, d2] }
  | _ => none }
def OobBagsWrongFalsely : Prop := oobBagsRow.holds Try.pinned (OpenSpec.ofChange oobBagsWrong)

/-- 'hornbeamlaw03.DealPerms': WHATEVER THE INPUT: true; the input reads as it did. -/
def dealPermsSpec : ChangeSpec := { name := "dealPerms", fn := fun _ => fun
  | [d1, d2] => { results := [.lit (.bool true)], args := [d1, d2] }
  | _ => none }
def dealPermsRow : OpenClaim := { program := "ytbhikceekldenaa", sum := "d23d9b59cf77d203bb2d50633199b3578b0eac2b7e5442efec61a255172ffdc2", func := "hornbeam/hornbeamlaw03.DealPerms", spec := "dealPerms", unfollowed := true, recurses := true, apart := false }
def DealPermsSaid : Prop := dealPermsRow.holds Try.pinned (OpenSpec.ofChange dealPermsSpec)

/-- ITS FALSE NEIGHBOUR: 'it returns false'. Refute it at one input. -/
def dealPermsWrong : ChangeSpec := { name := "dealPerms", fn := fun _ => fun
  | [d1, d2] => { results := [.lit (.bool false)], args := [d1, d2] }
  | _ => none }
def DealPermsWrongFalsely : Prop := dealPermsRow.holds Try.pinned (OpenSpec.ofChange dealPermsWrong)

/-- 'hornbeamlaw03.DealChooses': WHATEVER THE INPUT: true; the input reads as it did. -/
def dealChoosesSpec : ChangeSpec := { name := "dealChooses", fn := fun _ => fun
  | [d1, d2, d3] => { results := [.lit (.bool true)], args := [d1, d2, d3] }
  | _ => none }
def dealChoosesRow : OpenClaim := { program := "ytbhikceekldenaa", sum := "d23d9b59cf77d203bb2d50633199b3578b0eac2b7e5442efec61a255172ffdc2", func := "hornbeam/hornbeamlaw03.DealChooses", spec := "dealChooses", unfollowed := true, recurses := true, apart := false }
def DealChoosesSaid : Prop := dealChoosesRow.holds Try.pinned (OpenSpec.ofChange dealChoosesSpec)

/-- ITS FALSE NEIGHBOUR: 'it returns false'. Refute it at one input. -/
def dealChoosesWrong : ChangeSpec := { name := "dealChooses", fn := fun _ => fun
  | [d1, d2, d3] => { results := [.lit (.bool false)], args := [d1, d2, d3] }
  | _ => none }
def DealChoosesWrongFalsely : Prop := dealChoosesRow.holds Try.pinned (OpenSpec.ofChange dealChoosesWrong)

/-- 'hornbeamlaw03.DealDeals': WHATEVER THE INPUT: true; the input reads as it did. -/
def dealDealsSpec : ChangeSpec := { name := "dealDeals", fn := fun _ => fun
  | [d1, d2] => { results := [.lit (.bool true)], args := [d1, d2] }
  | _ => none }
def dealDealsRow : OpenClaim := { program := "ytbhikceekldenaa", sum := "d23d9b59cf77d203bb2d50633199b3578b0eac2b7e5442efec61a255172ffdc2", func := "hornbeam/hornbeamlaw03.DealDeals", spec := "dealDeals", unfollowed := true, recurses := true, apart := false }
def DealDealsSaid : Prop := dealDealsRow.holds Try.pinned (OpenSpec.ofChange dealDealsSpec)

/-- ITS FALSE NEIGHBOUR: 'it returns false'. Refute it at one input. -/
def dealDealsWrong : ChangeSpec := { name := "dealDeals", fn := fun _ => fun
  | [d1, d2] => { results := [.lit (.bool false)], args := [d1, d2] }
  | _ => none }
def DealDealsWrongFalsely : Prop := dealDealsRow.holds Try.pinned (OpenSpec.ofChange dealDealsWrong)

/-- 'hornbeamlaw03.DealApart': WHATEVER THE INPUT: true; the input reads as it did. -/
def dealApartSpec : ChangeSpec := { name := "dealApart", fn := fun _ => fun
  | [d1, d2] => { results := [.lit (.bool true)], args := [d1, d2] }
  | _ => none }
def dealApartRow : OpenClaim := { program := "ytbhikceekldenaa", sum := "d23d9b59cf77d203bb2d50633199b3578b0eac2b7e5442efec61a255172ffdc2", func := "hornbeam/hornbeamlaw03.DealApart", spec := "dealApart", unfollowed := true, recurses := true, apart := false }
def DealApartSaid : Prop := dealApartRow.holds Try.pinned (OpenSpec.ofChange dealApartSpec)

/-- ITS FALSE NEIGHBOUR: 'it returns false'. Refute it at one input. -/
def dealApartWrong : ChangeSpec := { name := "dealApart", fn := fun _ => fun
  | [d1, d2] => { results := [.lit (.bool false)], args := [d1, d2] }
  | _ => none }
def DealApartWrongFalsely : Prop := dealApartRow.holds Try.pinned (OpenSpec.ofChange dealApartWrong)

/-- 'hornbeamlaw03.DealOnce': WHATEVER THE INPUT: true; the input reads as it did. -/
def dealOnceSpec : ChangeSpec := { name := "dealOnce", fn := fun _ => fun
  | [d1, d2, d3] => { results := [.lit (.bool true)], args := [d1, d2, d3] }
  | _ => none }
def dealOnceRow : OpenClaim := { program := "ytbhikceekldenaa", sum := "d23d9b59cf77d203bb2d50633199b3578b0eac2b7e5442efec61a255172ffdc2", func := "hornbeam/hornbeamlaw03.DealOnce", spec := "dealOnce", unfollowed := true, recurses := true, apart := false }
def DealOnceSaid : Prop := dealOnceRow.holds Try.pinned (OpenSpec.ofChange dealOnceSpec)

/-- ITS FALSE NEIGHBOUR: 'it returns false'. Refute it at one input. -/
def dealOnceWrong : ChangeSpec := { name := "dealOnce", fn := fun _ => fun
  | [d1, d2, d3] => { results := [.lit (.bool false)], args := [d1, d2, d3] }
  | _ => none }
def DealOnceWrongFalsely : Prop := dealOnceRow.holds Try.pinned (OpenSpec.ofChange dealOnceWrong)

/-- 'hornbeamlaw03.DealAll': WHATEVER THE INPUT: true; the input reads as it did. -/
def dealAllSpec : ChangeSpec := { name := "dealAll", fn := fun _ => fun
  | [d1, d2] => { results := [.lit (.bool true)], args := [d1, d2] }
  | _ => none }
def dealAllRow : OpenClaim := { program := "ytbhikceekldenaa", sum := "d23d9b59cf77d203bb2d50633199b3578b0eac2b7e5442efec61a255172ffdc2", func := "hornbeam/hornbeamlaw03.DealAll", spec := "dealAll", unfollowed := true, recurses := true, apart := false }
def DealAllSaid : Prop := dealAllRow.holds Try.pinned (OpenSpec.ofChange dealAllSpec)

/-- ITS FALSE NEIGHBOUR: 'it returns false'. Refute it at one input. -/
def dealAllWrong : ChangeSpec := { name := "dealAll", fn := fun _ => fun
  | [d1, d2] => { results := [.lit (.bool false)], args := [d1, d2] }
  | _ => none }
def DealAllWrongFalsely : Prop := dealAllRow.holds Try.pinned (OpenSpec.ofChange dealAllWrong)

/- THE SECOND FORM. 'bulk': how many values and letters a reading holds, each counted each time it is reached (what is shared counts as often as it is met; a slice's spare places count too). A statement '..UptoSaid' is the law's where the arguments, and the package variables that the reading takes, are together of bulk at most 1048576: NARROWER than '..Said'. Prove '..Said' where nothing that the law and all that it calls make is longer than what came in: it says more and counts as full. Else prove '..UptoSaid'. A law counts once. -/
mutual
def uptoBulk {H : Type} : DataW H → Nat
  | .lit (.string bytes) => bytes.length + 1
  | .lit _ => 1
  | .nil => 1
  | .ptr d => uptoBulk d + 1
  | .slice elems spare => uptoBulkAll elems + uptoBulkAll spare + 1
  | .agg parts => uptoBulkAll parts + 1
  | .iface _ d => uptoBulk d + 1
  | .map entries => uptoBulkEntries entries + 1
  | .held _ => 1
def uptoBulkAll {H : Type} : List (DataW H) → Nat
  | [] => 0
  | d :: r => uptoBulk d + uptoBulkAll r
def uptoBulkEntries {H : Type} : List (Lit × DataW H) → Nat
  | [] => 0
  | x :: r => uptoBulkEntry x + uptoBulkEntries r
def uptoBulkEntry {H : Type} : Lit × DataW H → Nat
  | (.string bytes, d) => bytes.length + uptoBulk d + 1
  | (_, d) => uptoBulk d + 1
 end
def uptoSmall : (H : Type) → List (DataW H) → Bool := fun _ ds => decide (uptoBulkAll ds ≤ 1048576)
def OpenSpec.upto (s : _root_.Go.ChangeSpec) : _root_.Go.OpenSpec := { _root_.Go.OpenSpec.ofChange s with cond := some uptoSmall }

/-- 'hornbeamlaw25.OobVotes', WHERE WHAT IT READS IS OF BULK AT MOST 1048576: true; the input reads as it did. -/
def oobVotesUptoRow : OpenClaim := { program := "ytbhikceekldenaa", sum := "d23d9b59cf77d203bb2d50633199b3578b0eac2b7e5442efec61a255172ffdc2", func := "hornbeam/hornbeamlaw25.OobVotes", spec := "oobVotes", unfollowed := true, recurses := true, apart := false, narrowed := true }
def OobVotesUptoSaid : Prop := oobVotesUptoRow.holds Try.pinned (OpenSpec.upto oobVotesSpec)

/-- 'hornbeamlaw25.OobError', WHERE WHAT IT READS IS OF BULK AT MOST 1048576: true; the input reads as it did. -/
def oobErrorUptoRow : OpenClaim := { program := "ytbhikceekldenaa", sum := "d23d9b59cf77d203bb2d50633199b3578b0eac2b7e5442efec61a255172ffdc2", func := "hornbeam/hornbeamlaw25.OobError", spec := "oobError", unfollowed := true, recurses := true, apart := false, narrowed := true }
def OobErrorUptoSaid : Prop := oobErrorUptoRow.holds Try.pinned (OpenSpec.upto oobErrorSpec)

/-- 'hornbeamlaw25.OobOnly', WHERE WHAT IT READS IS OF BULK AT MOST 1048576: true; the input reads as it did. -/
def oobOnlyUptoRow : OpenClaim := { program := "ytbhikceekldenaa", sum := "d23d9b59cf77d203bb2d50633199b3578b0eac2b7e5442efec61a255172ffdc2", func := "hornbeam/hornbeamlaw25.OobOnly", spec := "oobOnly", unfollowed := true, recurses := true, apart := false, narrowed := true }
def OobOnlyUptoSaid : Prop := oobOnlyUptoRow.holds Try.pinned (OpenSpec.upto oobOnlySpec)

/-- 'hornbeamlaw25.OobCounts', WHERE WHAT IT READS IS OF BULK AT MOST 1048576: true; the input reads as it did. -/
def oobCountsUptoRow : OpenClaim := { program := "ytbhikceekldenaa", sum := "d23d9b59cf77d203bb2d50633199b3578b0eac2b7e5442efec61a255172ffdc2", func := "hornbeam/hornbeamlaw25.OobCounts", spec := "oobCounts", unfollowed := true, recurses := true, apart := false, narrowed := true }
def OobCountsUptoSaid : Prop := oobCountsUptoRow.holds Try.pinned (OpenSpec.upto oobCountsSpec)

/-- 'hornbeamlaw25.OobBags', WHERE WHAT IT READS IS OF BULK AT MOST 1048576: true; the input reads as it did. -/
def oobBagsUptoRow : OpenClaim := { program := "ytbhikceekldenaa", sum := "d23d9b59cf77d203bb2d50633199b3578b0eac2b7e5442efec61a255172ffdc2", func := "hornbeam/hornbeamlaw25.OobBags", spec := "oobBags", unfollowed := true, recurses := true, apart := false, narrowed := true }
def OobBagsUptoSaid : Prop := oobBagsUptoRow.holds Try.pinned (OpenSpec.upto oobBagsSpec)

/-- 'hornbeamlaw03.DealPerms', WHERE WHAT IT READS IS OF BULK AT MOST 1048576: true; the input reads as it did. -/
def dealPermsUptoRow : OpenClaim := { program := "ytbhikceekldenaa", sum := "d23d9b59cf77d203bb2d50633199b3578b0eac2b7e5442efec61a255172ffdc2", func := "hornbeam/hornbeamlaw03.DealPerms", spec := "dealPerms", unfollowed := true, recurses := true, apart := false, narrowed := true }
def DealPermsUptoSaid : Prop := dealPermsUptoRow.holds Try.pinned (OpenSpec.upto dealPermsSpec)

/-- 'hornbeamlaw03.DealChooses', WHERE WHAT IT READS IS OF BULK AT MOST 1048576: true; the input reads as it did. -/
def dealChoosesUptoRow : OpenClaim := { program := "ytbhikceekldenaa", sum := "d23d9b59cf77d203bb2d50633199b3578b0eac2b7e5442efec61a255172ffdc2", func := "hornbeam/hornbeamlaw03.DealChooses", spec := "dealChooses", unfollowed := true, recurses := true, apart := false, narrowed := true }
def DealChoosesUptoSaid : Prop := dealChoosesUptoRow.holds Try.pinned (OpenSpec.upto dealChoosesSpec)

/-- 'hornbeamlaw03.DealDeals', WHERE WHAT IT READS IS OF BULK AT MOST 1048576: true; the input reads as it did. -/
def dealDealsUptoRow : OpenClaim := { program := "ytbhikceekldenaa", sum := "d23d9b59cf77d203bb2d50633199b3578b0eac2b7e5442efec61a255172ffdc2", func := "hornbeam/hornbeamlaw03.DealDeals", spec := "dealDeals", unfollowed := true, recurses := true, apart := false, narrowed := true }
def DealDealsUptoSaid : Prop := dealDealsUptoRow.holds Try.pinned (OpenSpec.upto dealDealsSpec)

/-- 'hornbeamlaw03.DealApart', WHERE WHAT IT READS IS OF BULK AT MOST 1048576: true; the input reads as it did. -/
def dealApartUptoRow : OpenClaim := { program := "ytbhikceekldenaa", sum := "d23d9b59cf77d203bb2d50633199b3578b0eac2b7e5442efec61a255172ffdc2", func := "hornbeam/hornbeamlaw03.DealApart", spec := "dealApart", unfollowed := true, recurses := true, apart := false, narrowed := true }
def DealApartUptoSaid : Prop := dealApartUptoRow.holds Try.pinned (OpenSpec.upto dealApartSpec)

/-- 'hornbeamlaw03.DealOnce', WHERE WHAT IT READS IS OF BULK AT MOST 1048576: true; the input reads as it did. -/
def dealOnceUptoRow : OpenClaim := { program := "ytbhikceekldenaa", sum := "d23d9b59cf77d203bb2d50633199b3578b0eac2b7e5442efec61a255172ffdc2", func := "hornbeam/hornbeamlaw03.DealOnce", spec := "dealOnce", unfollowed := true, recurses := true, apart := false, narrowed := true }
def DealOnceUptoSaid : Prop := dealOnceUptoRow.holds Try.pinned (OpenSpec.upto dealOnceSpec)

/-- 'hornbeamlaw03.DealAll', WHERE WHAT IT READS IS OF BULK AT MOST 1048576: true; the input reads as it did. -/
def dealAllUptoRow : OpenClaim := { program := "ytbhikceekldenaa", sum := "d23d9b59cf77d203bb2d50633199b3578b0eac2b7e5442efec61a255172ffdc2", func := "hornbeam/hornbeamlaw03.DealAll", spec := "dealAll", unfollowed := true, recurses := true, apart := false, narrowed := true }
def DealAllUptoSaid : Prop := dealAllUptoRow.holds Try.pinned (OpenSpec.upto dealAllSpec)

end Rows
end Go.Proofs.Ytbhikceekldenaa

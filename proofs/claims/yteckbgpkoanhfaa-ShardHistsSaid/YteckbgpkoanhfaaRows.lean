/-
  No cell of these rows narrows 'for every input' (looked for: loops, veiled, ifaces, maps, wideKeys, modest, calm, conditions, laid).
  DERIVED. THE GIVEN ROWS OF THIS SEAT. 10 by the template 'for every input the law returns true; each argument reads behind the call as it read before'; 0 by the template 'total and deterministic' (their statements: YteckbgpkoanhfaaTotals.lean).
  GIVEN WITH THE SEED: the statements are not yours to turn. If you find one false, say at which input.
  Laid BY PROGRAM, IN A SANDBOX (cutbox-rows.mjs): the forced cells as the released guide's own fill.sh prints them over the translation 25caae078f38059c… (all of the seat's roots in one cut). By AI agents, Wed Nov 11 2026. No macro, syntax, notation, axiom, sorry.
-/
import Derived.Test.YteckbgpkoanhfaaChecked
import GoSem.Claim
import GoSem.ClaimJoined
import GoSem.ClaimMapViews
import Derived.JoinedTies
import Derived.KernelRfl
namespace Go.Proofs.Yteckbgpkoanhfaa
/- THE CELL 'sum', in the pinned program and in every row, IS THE sha256 OF THE DUMP (.gsa) THAT YteckbgpkoanhfaaProg.lean LOADS. Nothing in Lean hashes anything: it is a label: what it is worth is what the hold of that sum in a sandbox is worth. -/
noncomputable def Try.pinned : Pinned := { name := "yteckbgpkoanhfaa", sum := "25caae078f38059ce191f4e02f33146c8c7d5a712e41f4053c97d15a5a6734ef", checked := Try.checked }
namespace Rows
def none {H : Type} : Left H := { results := [], args := [] }

/-- 'hornbeamlaw13.ShardCuts': WHATEVER THE INPUT: true; the input reads as it did. -/
def shardCutsSpec : ChangeSpec := { name := "shardCuts", fn := fun _ => fun
  | [d1, d2] => { results := [.lit (.bool true)], args := [d1, d2] }
  | _ => none }
def shardCutsRow : OpenClaim := { program := "yteckbgpkoanhfaa", sum := "25caae078f38059ce191f4e02f33146c8c7d5a712e41f4053c97d15a5a6734ef", func := "hornbeam/hornbeamlaw13.ShardCuts", spec := "shardCuts", unfollowed := true, recurses := true, apart := false }
def ShardCutsSaid : Prop := shardCutsRow.holds Try.pinned (OpenSpec.ofChange shardCutsSpec)

/-- ITS FALSE NEIGHBOUR: 'it returns false'. Refute it at one input. -/
def shardCutsWrong : ChangeSpec := { name := "shardCuts", fn := fun _ => fun
  | [d1, d2] => { results := [.lit (.bool false)], args := [d1, d2] }
  | _ => none }
def ShardCutsWrongFalsely : Prop := shardCutsRow.holds Try.pinned (OpenSpec.ofChange shardCutsWrong)

/-- 'hornbeamlaw13.ShardWhole': WHATEVER THE INPUT: true; the input reads as it did. -/
def shardWholeSpec : ChangeSpec := { name := "shardWhole", fn := fun _ => fun
  | [d1, d2] => { results := [.lit (.bool true)], args := [d1, d2] }
  | _ => none }
def shardWholeRow : OpenClaim := { program := "yteckbgpkoanhfaa", sum := "25caae078f38059ce191f4e02f33146c8c7d5a712e41f4053c97d15a5a6734ef", func := "hornbeam/hornbeamlaw13.ShardWhole", spec := "shardWhole", unfollowed := true, recurses := true, apart := false }
def ShardWholeSaid : Prop := shardWholeRow.holds Try.pinned (OpenSpec.ofChange shardWholeSpec)

/-- ITS FALSE NEIGHBOUR: 'it returns false'. Refute it at one input. -/
def shardWholeWrong : ChangeSpec := { name := "shardWhole", fn := fun _ => fun
  | [d1, d2] => { results := [.lit (.bool false)], args := [d1, d2] }
  | _ => none }
def ShardWholeWrongFalsely : Prop := shardWholeRow.holds Try.pinned (OpenSpec.ofChange shardWholeWrong)

/-- 'hornbeamlaw12.HistAdds': WHATEVER THE INPUT: true; the input reads as it did. -/
def histAddsSpec : ChangeSpec := { name := "histAdds", fn := fun _ => fun
  | [d1, d2] => { results := [.lit (.bool true)], args := [d1, d2] }
  | _ => none }
def histAddsRow : OpenClaim := { program := "yteckbgpkoanhfaa", sum := "25caae078f38059ce191f4e02f33146c8c7d5a712e41f4053c97d15a5a6734ef", func := "hornbeam/hornbeamlaw12.HistAdds", spec := "histAdds", unfollowed := true, recurses := true, apart := false }
def HistAddsSaid : Prop := histAddsRow.holds Try.pinned (OpenSpec.ofChange histAddsSpec)

/-- ITS FALSE NEIGHBOUR: 'it returns false'. Refute it at one input. -/
def histAddsWrong : ChangeSpec := { name := "histAdds", fn := fun _ => fun
  | [d1, d2] => { results := [.lit (.bool false)], args := [d1, d2] }
  | _ => none }
def HistAddsWrongFalsely : Prop := histAddsRow.holds Try.pinned (OpenSpec.ofChange histAddsWrong)

/-- 'hornbeamlaw12.HistBounds': WHATEVER THE INPUT: true; the input reads as it did. -/
def histBoundsSpec : ChangeSpec := { name := "histBounds", fn := fun _ => fun
  | [d1, d2] => { results := [.lit (.bool true)], args := [d1, d2] }
  | _ => none }
def histBoundsRow : OpenClaim := { program := "yteckbgpkoanhfaa", sum := "25caae078f38059ce191f4e02f33146c8c7d5a712e41f4053c97d15a5a6734ef", func := "hornbeam/hornbeamlaw12.HistBounds", spec := "histBounds", unfollowed := true, recurses := true, apart := false }
def HistBoundsSaid : Prop := histBoundsRow.holds Try.pinned (OpenSpec.ofChange histBoundsSpec)

/-- ITS FALSE NEIGHBOUR: 'it returns false'. Refute it at one input. -/
def histBoundsWrong : ChangeSpec := { name := "histBounds", fn := fun _ => fun
  | [d1, d2] => { results := [.lit (.bool false)], args := [d1, d2] }
  | _ => none }
def HistBoundsWrongFalsely : Prop := histBoundsRow.holds Try.pinned (OpenSpec.ofChange histBoundsWrong)

/-- 'hornbeamlaw12.HistTurns': WHATEVER THE INPUT: true; the input reads as it did. -/
def histTurnsSpec : ChangeSpec := { name := "histTurns", fn := fun _ => fun
  | [d1, d2, d3] => { results := [.lit (.bool true)], args := [d1, d2, d3] }
  | _ => none }
def histTurnsRow : OpenClaim := { program := "yteckbgpkoanhfaa", sum := "25caae078f38059ce191f4e02f33146c8c7d5a712e41f4053c97d15a5a6734ef", func := "hornbeam/hornbeamlaw12.HistTurns", spec := "histTurns", unfollowed := true, recurses := true, apart := false }
def HistTurnsSaid : Prop := histTurnsRow.holds Try.pinned (OpenSpec.ofChange histTurnsSpec)

/-- ITS FALSE NEIGHBOUR: 'it returns false'. Refute it at one input. -/
def histTurnsWrong : ChangeSpec := { name := "histTurns", fn := fun _ => fun
  | [d1, d2, d3] => { results := [.lit (.bool false)], args := [d1, d2, d3] }
  | _ => none }
def HistTurnsWrongFalsely : Prop := histTurnsRow.holds Try.pinned (OpenSpec.ofChange histTurnsWrong)

/-- 'hornbeamlaw12.HistSums': WHATEVER THE INPUT: true; the input reads as it did. -/
def histSumsSpec : ChangeSpec := { name := "histSums", fn := fun _ => fun
  | [d1, d2, d3] => { results := [.lit (.bool true)], args := [d1, d2, d3] }
  | _ => none }
def histSumsRow : OpenClaim := { program := "yteckbgpkoanhfaa", sum := "25caae078f38059ce191f4e02f33146c8c7d5a712e41f4053c97d15a5a6734ef", func := "hornbeam/hornbeamlaw12.HistSums", spec := "histSums", unfollowed := true, recurses := true, apart := false }
def HistSumsSaid : Prop := histSumsRow.holds Try.pinned (OpenSpec.ofChange histSumsSpec)

/-- ITS FALSE NEIGHBOUR: 'it returns false'. Refute it at one input. -/
def histSumsWrong : ChangeSpec := { name := "histSums", fn := fun _ => fun
  | [d1, d2, d3] => { results := [.lit (.bool false)], args := [d1, d2, d3] }
  | _ => none }
def HistSumsWrongFalsely : Prop := histSumsRow.holds Try.pinned (OpenSpec.ofChange histSumsWrong)

/-- 'hornbeamlaw12.HistJoins': WHATEVER THE INPUT: true; the input reads as it did. -/
def histJoinsSpec : ChangeSpec := { name := "histJoins", fn := fun _ => fun
  | [d1, d2] => { results := [.lit (.bool true)], args := [d1, d2] }
  | _ => none }
def histJoinsRow : OpenClaim := { program := "yteckbgpkoanhfaa", sum := "25caae078f38059ce191f4e02f33146c8c7d5a712e41f4053c97d15a5a6734ef", func := "hornbeam/hornbeamlaw12.HistJoins", spec := "histJoins", unfollowed := true, recurses := true, apart := false }
def HistJoinsSaid : Prop := histJoinsRow.holds Try.pinned (OpenSpec.ofChange histJoinsSpec)

/-- ITS FALSE NEIGHBOUR: 'it returns false'. Refute it at one input. -/
def histJoinsWrong : ChangeSpec := { name := "histJoins", fn := fun _ => fun
  | [d1, d2] => { results := [.lit (.bool false)], args := [d1, d2] }
  | _ => none }
def HistJoinsWrongFalsely : Prop := histJoinsRow.holds Try.pinned (OpenSpec.ofChange histJoinsWrong)

/-- 'hornbeamlaw12.HistParts': WHATEVER THE INPUT: true; the input reads as it did. -/
def histPartsSpec : ChangeSpec := { name := "histParts", fn := fun _ => fun
  | [d1, d2, d3] => { results := [.lit (.bool true)], args := [d1, d2, d3] }
  | _ => none }
def histPartsRow : OpenClaim := { program := "yteckbgpkoanhfaa", sum := "25caae078f38059ce191f4e02f33146c8c7d5a712e41f4053c97d15a5a6734ef", func := "hornbeam/hornbeamlaw12.HistParts", spec := "histParts", unfollowed := true, recurses := true, apart := false }
def HistPartsSaid : Prop := histPartsRow.holds Try.pinned (OpenSpec.ofChange histPartsSpec)

/-- ITS FALSE NEIGHBOUR: 'it returns false'. Refute it at one input. -/
def histPartsWrong : ChangeSpec := { name := "histParts", fn := fun _ => fun
  | [d1, d2, d3] => { results := [.lit (.bool false)], args := [d1, d2, d3] }
  | _ => none }
def HistPartsWrongFalsely : Prop := histPartsRow.holds Try.pinned (OpenSpec.ofChange histPartsWrong)

/-- 'hornbeamlaw13.ShardHists': WHATEVER THE INPUT: true; the input reads as it did. -/
def shardHistsSpec : ChangeSpec := { name := "shardHists", fn := fun _ => fun
  | [d1, d2] => { results := [.lit (.bool true)], args := [d1, d2] }
  | _ => none }
def shardHistsRow : OpenClaim := { program := "yteckbgpkoanhfaa", sum := "25caae078f38059ce191f4e02f33146c8c7d5a712e41f4053c97d15a5a6734ef", func := "hornbeam/hornbeamlaw13.ShardHists", spec := "shardHists", unfollowed := true, recurses := true, apart := false }
def ShardHistsSaid : Prop := shardHistsRow.holds Try.pinned (OpenSpec.ofChange shardHistsSpec)

/-- ITS FALSE NEIGHBOUR: 'it returns false'. Refute it at one input. -/
def shardHistsWrong : ChangeSpec := { name := "shardHists", fn := fun _ => fun
  | [d1, d2] => { results := [.lit (.bool false)], args := [d1, d2] }
  | _ => none }
def ShardHistsWrongFalsely : Prop := shardHistsRow.holds Try.pinned (OpenSpec.ofChange shardHistsWrong)

/-- 'hornbeamlaw13.ShardSame': WHATEVER THE INPUT: true; the input reads as it did. -/
def shardSameSpec : ChangeSpec := { name := "shardSame", fn := fun _ => fun
  | [d1, d2, d3] => { results := [.lit (.bool true)], args := [d1, d2, d3] }
  | _ => none }
def shardSameRow : OpenClaim := { program := "yteckbgpkoanhfaa", sum := "25caae078f38059ce191f4e02f33146c8c7d5a712e41f4053c97d15a5a6734ef", func := "hornbeam/hornbeamlaw13.ShardSame", spec := "shardSame", unfollowed := true, recurses := true, apart := false }
def ShardSameSaid : Prop := shardSameRow.holds Try.pinned (OpenSpec.ofChange shardSameSpec)

/-- ITS FALSE NEIGHBOUR: 'it returns false'. Refute it at one input. -/
def shardSameWrong : ChangeSpec := { name := "shardSame", fn := fun _ => fun
  | [d1, d2, d3] => { results := [.lit (.bool false)], args := [d1, d2, d3] }
  | _ => none }
def ShardSameWrongFalsely : Prop := shardSameRow.holds Try.pinned (OpenSpec.ofChange shardSameWrong)

/- THE SECOND FORM. 'bulk': how many values and letters a reading holds, each counted each time it is reached (what is shared counts as often as it is met; a slice's spare places count too). A statement '..UptoSaid' is the law's where the arguments, and the package variables that the reading takes, are together of bulk at most 1048576: NARROWER than '..Said'. Prove '..Said' where nothing that the law and all that it calls make is longer than what came in: it says more and counts as full. Else prove '..UptoSaid'. A law counts once. -/
mutual
def uptoBulk {H : Type} : DataW H → Nat
  | .lit (.string bytes) => bytes.length + 1
  | .lit _ => 1
  | .nil => 1
  | .ptr d => uptoBulk d + 1
  | .slice elems spare => uptoBulkAll elems + uptoBulkAll spare + 1
  | .agg parts => uptoBulkAll parts + 1
  | .iface _ d => uptoBulk d + 1
  | .map entries => uptoBulkEntries entries + 1
  | .held _ => 1
def uptoBulkAll {H : Type} : List (DataW H) → Nat
  | [] => 0
  | d :: r => uptoBulk d + uptoBulkAll r
def uptoBulkEntries {H : Type} : List (Lit × DataW H) → Nat
  | [] => 0
  | x :: r => uptoBulkEntry x + uptoBulkEntries r
def uptoBulkEntry {H : Type} : Lit × DataW H → Nat
  | (.string bytes, d) => bytes.length + uptoBulk d + 1
  | (_, d) => uptoBulk d + 1
 end
def uptoSmall : (H : Type) → List (DataW H) → Bool := fun _ ds => decide (uptoBulkAll ds ≤ 1048576)
def OpenSpec.upto (s : _root_.Go.ChangeSpec) : _root_.Go.OpenSpec := { _root_.Go.OpenSpec.ofChange s with cond := some uptoSmall }

/-- 'hornbeamlaw13.ShardCuts', WHERE WHAT IT READS IS OF BULK AT MOST 1048576: true; the input reads as it did. -/
def shardCutsUptoRow : OpenClaim := { program := "yteckbgpkoanhfaa", sum := "25caae078f38059ce191f4e02f33146c8c7d5a712e41f4053c97d15a5a6734ef", func := "hornbeam/hornbeamlaw13.ShardCuts", spec := "shardCuts", unfollowed := true, recurses := true, apart := false, narrowed := true }
def ShardCutsUptoSaid : Prop := shardCutsUptoRow.holds Try.pinned (OpenSpec.upto shardCutsSpec)

/-- 'hornbeamlaw13.ShardWhole', WHERE WHAT IT READS IS OF BULK AT MOST 1048576: true; the input reads as it did. -/
def shardWholeUptoRow : OpenClaim := { program := "yteckbgpkoanhfaa", sum := "25caae078f38059ce191f4e02f33146c8c7d5a712e41f4053c97d15a5a6734ef", func := "hornbeam/hornbeamlaw13.ShardWhole", spec := "shardWhole", unfollowed := true, recurses := true, apart := false, narrowed := true }
def ShardWholeUptoSaid : Prop := shardWholeUptoRow.holds Try.pinned (OpenSpec.upto shardWholeSpec)

/-- 'hornbeamlaw12.HistAdds', WHERE WHAT IT READS IS OF BULK AT MOST 1048576: true; the input reads as it did. -/
def histAddsUptoRow : OpenClaim := { program := "yteckbgpkoanhfaa", sum := "25caae078f38059ce191f4e02f33146c8c7d5a712e41f4053c97d15a5a6734ef", func := "hornbeam/hornbeamlaw12.HistAdds", spec := "histAdds", unfollowed := true, recurses := true, apart := false, narrowed := true }
def HistAddsUptoSaid : Prop := histAddsUptoRow.holds Try.pinned (OpenSpec.upto histAddsSpec)

/-- 'hornbeamlaw12.HistBounds', WHERE WHAT IT READS IS OF BULK AT MOST 1048576: true; the input reads as it did. -/
def histBoundsUptoRow : OpenClaim := { program := "yteckbgpkoanhfaa", sum := "25caae078f38059ce191f4e02f33146c8c7d5a712e41f4053c97d15a5a6734ef", func := "hornbeam/hornbeamlaw12.HistBounds", spec := "histBounds", unfollowed := true, recurses := true, apart := false, narrowed := true }
def HistBoundsUptoSaid : Prop := histBoundsUptoRow.holds Try.pinned (OpenSpec.upto histBoundsSpec)

/-- 'hornbeamlaw12.HistTurns', WHERE WHAT IT READS IS OF BULK AT MOST 1048576: true; the input reads as it did. -/
def histTurnsUptoRow : OpenClaim := { program := "yteckbgpkoanhfaa", sum := "25caae078f38059ce191f4e02f33146c8c7d5a712e41f4053c97d15a5a6734ef", func := "hornbeam/hornbeamlaw12.HistTurns", spec := "histTurns", unfollowed := true, recurses := true, apart := false, narrowed := true }
def HistTurnsUptoSaid : Prop := histTurnsUptoRow.holds Try.pinned (OpenSpec.upto histTurnsSpec)

/-- 'hornbeamlaw12.HistSums', WHERE WHAT IT READS IS OF BULK AT MOST 1048576: true; the input reads as it did. -/
def histSumsUptoRow : OpenClaim := { program := "yteckbgpkoanhfaa", sum := "25caae078f38059ce191f4e02f33146c8c7d5a712e41f4053c97d15a5a6734ef", func := "hornbeam/hornbeamlaw12.HistSums", spec := "histSums", unfollowed := true, recurses := true, apart := false, narrowed := true }
def HistSumsUptoSaid : Prop := histSumsUptoRow.holds Try.pinned (OpenSpec.upto histSumsSpec)

/-- 'hornbeamlaw12.HistJoins', WHERE WHAT IT READS IS OF BULK AT MOST 1048576: true; the input reads as it did. -/
def histJoinsUptoRow : OpenClaim := { program := "yteckbgpkoanhfaa", sum := "25caae078f38059ce191f4e02f33146c8c7d5a712e41f4053c97d15a5a6734ef", func := "hornbeam/hornbeamlaw12.HistJoins", spec := "histJoins", unfollowed := true, recurses := true, apart := false, narrowed := true }
def HistJoinsUptoSaid : Prop := histJoinsUptoRow.holds Try.pinned (OpenSpec.upto histJoinsSpec)

/-- 'hornbeamlaw12.HistParts', WHERE WHAT IT READS IS OF BULK AT MOST 1048576: true; the input reads as it did. -/
def histPartsUptoRow : OpenClaim := { program := "yteckbgpkoanhfaa", sum := "25caae078f38059ce191f4e02f33146c8c7d5a712e41f4053c97d15a5a6734ef", func := "hornbeam/hornbeamlaw12.HistParts", spec := "histParts", unfollowed := true, recurses := true, apart := false, narrowed := true }
def HistPartsUptoSaid : Prop := histPartsUptoRow.holds Try.pinned (OpenSpec.upto histPartsSpec)

/-- 'hornbeamlaw13.ShardHists', WHERE WHAT IT READS IS OF BULK AT MOST 1048576: true; the input reads as it did. -/
def shardHistsUptoRow : OpenClaim := { program := "yteckbgpkoanhfaa", sum := "25caae078f38059ce191f4e02f33146c8c7d5a712e41f4053c97d15a5a6734ef", func := "hornbeam/hornbeamlaw13.ShardHists", spec := "shardHists", unfollowed := true, recurses := true, apart := false, narrowed := true }
def ShardHistsUptoSaid : Prop := shardHistsUptoRow.holds Try.pinned (OpenSpec.upto shardHistsSpec)

/-- 'hornbeamlaw13.ShardSame', WHERE WHAT IT READS IS OF BULK AT MOST 1048576: true; the input reads as it did. -/
def shardSameUptoRow : OpenClaim := { program := "yteckbgpkoanhfaa", sum := "25caae078f38059ce191f4e02f33146c8c7d5a712e41f4053c97d15a5a6734ef", func := "hornbeam/hornbeamlaw13.ShardSame", spec := "shardSame", unfollowed := true, recurses := true, apart := false, narrowed := true }
def ShardSameUptoSaid : Prop := shardSameUptoRow.holds Try.pinned (OpenSpec.upto shardSameSpec)

end Rows
end Go.Proofs.Yteckbgpkoanhfaa

/- A whole row stored at once. -/
import Derived.Test.YtbhikceekldenaaHbBase
import Derived.Laws.CopyRow
namespace Go.Proofs.Ytbhikceekldenaa.Hb
open Go.RowKit
section
variable {P : Program}
theorem run_storeAt_row (w : World) (g : Nat) (t ty : TypeId) (cs cs' : Array Value) (hg : Blk w g cs t) (hi : (P.info? ty).map (·.size) = some cs'.size) (ho : cs.size = cs'.size) (h1 : ∀ v ∈ cs'.toList, v.oneCell' = true) :
    (Instr.storeAt ty (.pointer (some ⟨g, 0, none⟩)) (.agg cs')).run P w = .ok () (w.setRow g cs') := by
  have h := run_storeCells_at (P := P) g 0 t cs'.toList 0 cs w hg (by simp; omega) h1
  have e : (cs.toList.take (0 + 0) ++ cs'.toList ++ cs.toList.drop (0 + 0 + cs'.toList.length)).toArray = cs' := by
    simp [List.drop_of_length_le (show cs.toList.length ≤ cs'.size by simp; omega)]
  rw [e] at h
  simp only [Instr.storeAt, Instr.sureAddr, Sem.run_bind, Sem.run_pure, Result.andThen_ok]
  cases hq : P.info? ty with
  | none => simp [hq] at hi
  | some i =>
    have hs : cs'.size = i.size := by simp [hq] at hi; omega
    simpa [storeVar, sizeOf, typeInfo, hq, Value.cells, hs] using h
theorem Blk.row {w : World} {g : Nat} {cs cs' : Array Value} {t : TypeId} (h : Blk w g cs t) : Blk (w.setRow g cs') g cs' t := setRow_heap w g cs cs' t (0, 0) h
theorem row_other {w : World} {g k : Nat} {cs' : Array Value} (h : k ≠ g) : (w.setRow g cs').heap[k]? = w.heap[k]? := by
  show (w.heap.modify g _)[k]? = _
  rw [Array.getElem?_modify]
  simp [Ne.symm h]
theorem below_row0 {B : Nat} {w w1 : World} {g : Nat} {cs' : Array Value} (hb : Below B w w1) (hg : B ≤ g) : Below B w (w1.setRow g cs') :=
  ⟨hb.os, hb.tape, hb.output, by rw [size_setRow]; exact hb.size, fun i hi => (row_other (by omega)).trans (hb.block i hi)⟩
theorem wpList_store_row {ops : Array Oper} {rest : List Oper} {o : Oper} {a : Act} {w : World} {Q : Exit → Act → World → Prop} (hgd : o.guard = none) (ty : TypeId) (p x : Operand) (ho : o.op = .store ty p x)
    (g : Nat) (hp : a.eval p = .pointer (some ⟨g, 0, none⟩)) (t : TypeId) (cs cs' : Array Value) (hx : a.eval x = .agg cs') (hg : Blk w g cs t) (hi : (P.info? ty).map (·.size) = some cs'.size) (hsz : cs.size = cs'.size) (h1 : ∀ v ∈ cs'.toList, v.oneCell' = true)
    (h : wpList P ops Q rest (a.put o.dst undef) (w.setRow g cs')) : wpList P ops Q (o :: rest) a w := by
  refine wpList_plain hgd fun K hK => ?_
  unfold Oper.wp execOp
  simp only [ho, hp, hx, Sem.run_bind, run_storeAt_row w g t ty cs cs' hg hi hsz h1, Result.andThen_ok, Sem.run_pure]
  exact hK _ _ h
end
end Go.Proofs.Ytbhikceekldenaa.Hb

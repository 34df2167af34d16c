/- A row of numbers that is read (for seats without the histograms' texts). -/
import Derived.Test.YtbhikceekldenaaHbBase
import Derived.Test.YtbhikceekldenaaHbNum
namespace Go.Proofs.Ytbhikceekldenaa.Hb
open Go.RowKit
def ints (l : List Int) : List Value := l.map fun x => Value.int .i64 x
def RdI (w : World) (A : Option Addr) (l : List Int) : Prop := (∀ x ∈ l, inR x) ∧ (l = [] ∨ ∃ ad, A = some ad ∧ ∀ i, i < l.length → w.cell? (ad.add i) = some (.int .i64 (l.getD i 0)))
theorem RdI.below {w w1 : World} {A : Option Addr} {l : List Int} (h : RdI w A l) (hb : Below w.heap.size w w1) : RdI w1 A l :=
  ⟨h.1, h.2.imp id fun ⟨ad, e, hc⟩ => ⟨ad, e, fun i hi => (hb.cell (World.block_lt_of_cell? w _ (hc i hi))).trans (hc i hi)⟩⟩
theorem RdI.at {w : World} {A : Option Addr} {l : List Int} (h : RdI w A l) {k : Nat} (hk : k < l.length) : ∃ ad, A = some ad ∧ ∀ i, i < l.length → w.cell? (ad.add i) = some (.int .i64 (l.getD i 0)) := by
  rcases h.2 with rfl | h
  · simp at hk
  · exact h
/-- What is owned is read. -/
theorem RdI.own {w : World} {base n c : Nat} {A : Option Addr} {l : List Int} (h : w.ownsRow base 3 1 (.slice A n c) l.length (ints l)) (ho : ∀ x ∈ l, Hb.inR x) : RdI w A l := by
  refine ⟨ho, ?_⟩
  by_cases h0 : l = []
  · exact .inl h0
  · obtain ⟨g, cap, hv, _, _, _, hc⟩ := own_open h (List.length_pos_iff.2 h0)
    simp only [Value.slice.injEq] at hv
    obtain ⟨rfl, _, _⟩ := hv
    refine .inr ⟨_, rfl, fun i hi => ?_⟩
    rw [show (⟨g, 0, none⟩ : Addr).add i = ⟨g, i, none⟩ from by unfold Addr.add; split <;> simp_all]
    refine hc i _ ?_
    simp [ints, List.getD_eq_getElem?_getD, List.getElem?_eq_getElem hi]
theorem info_int : (Try.prog.info? 3).map (fun i => (i.zero, i.size, i.bytes)) = some (some (.int .i64 0), 1, 8) := by kernel_rfl
theorem ints_zeros (n : Nat) : ints (List.replicate n 0) = List.replicate n (.int .i64 0) := by simp [ints]
theorem ints_snoc (l : List Int) (x : Int) : ints (l ++ [x]) = ints l ++ [.int .i64 x] := by simp [ints]
theorem ints_len (l : List Int) : (ints l).length = l.length := by simp [ints]
theorem ints_get {l : List Int} {i : Nat} (h : i < l.length) : (ints l)[i]? = some (.int .i64 (l.getD i 0)) := by
  simp [ints, List.getD_eq_getElem?_getD, List.getElem?_eq_getElem h]
end Go.Proofs.Ytbhikceekldenaa.Hb

/- How an array of numbers among the arguments is read. -/
import Derived.Test.YtbhikceekldenaaHbOpen
namespace Go.Proofs.Ytbhikceekldenaa.Hb
open Go.RowKit Go.ChangeShapes Go.WideShapes Go.Deep
section
variable {T : Type} {enc : TypeId × Value → T} {P : Program} {W : World} {base : Nat} {sp : Nat → Bool} {held : Bool}
def arrK (k : IntKind) (n : Nat) (lo hi : Int) (cs : List Value) : Prop := ∃ l : List Int, l.length = n ∧ cs = l.map (Value.int k) ∧ ∀ x ∈ l, lo ≤ x ∧ x ≤ hi
theorem rds_array {t e : TypeId} {n : Nat} {k : IntKind} (lo hi : Int) (hu : P.underlying t = some (.array n e)) (he : P.underlying e = some (.int k)) (hs : P.cellsOf t = n) (hc : P.cellsOf e = 1) (hlo : k.min = lo) (hhi : k.max = hi) :
    Rds enc P W base sp held t (arrK k n lo hi) := by
  intro fuel cs x h
  obtain ⟨xs, m, _, _, hl, hlen, hf⟩ := DataW.trod_array hu h
  rw [hs] at hl
  have hi1 : ∀ i, i < n → ∃ z : Int, cs[i]? = some (.int k z) ∧ lo ≤ z ∧ z ≤ hi := fun i hi => by
    have h1 := hf i hi
    rw [List.getElem?_eq_getElem (by omega), hc, Nat.mul_one] at h1
    obtain ⟨z, hz, _, hw⟩ := DataW.trod_int he h1
    refine ⟨z, ?_, by rw [← hlo, ← hhi]; simpa [Lit.wf, Bool.and_eq_true, decide_eq_true_eq] using hw⟩
    have := congrArg (fun l : List Value => l[0]?) hz
    simp only [List.getElem?_take_of_lt Nat.zero_lt_one, List.getElem?_drop, Nat.add_zero] at this
    simpa using this
  obtain ⟨l, hll, hp⟩ := listOf n hi1
  refine ⟨l, hll, ?_, fun x hx => ?_⟩
  · apply List.ext_getElem?
    intro i
    by_cases h2 : i < n
    · have h3 := hp i _ (List.getElem?_eq_getElem (by omega))
      rw [h3.1, List.getElem?_map, List.getElem?_eq_getElem (by omega)]
      rfl
    · rw [List.getElem?_eq_none (by omega), List.getElem?_eq_none (by rw [List.length_map]; omega)]
  · obtain ⟨i, h2, rfl⟩ := List.getElem_of_mem hx
    exact (hp i _ (List.getElem?_eq_getElem h2)).2
theorem open_aggA {r : Reach} {b0 : Nat} {t e : TypeId} {n : Nat} {v : Value} {d : DataW T} {p : List MemPlace} {K : List Value → Prop} (hu : P.underlying t = some (.array n e)) (hv : Value.okWide P W r b0 t v) (h : DataW.Trod enc P W base sp held t v d p)
    (rd : Rds enc P W base sp held t K) : ∃ cs : List Value, v = .agg cs.toArray ∧ K cs := by
  simp only [Value.okWide, hu] at hv
  obtain ⟨cs, rfl, h2, _⟩ := hv
  obtain ⟨fuel, hfu⟩ := h
  exact ⟨cs.toList, by simp, rd _ _ _ hfu⟩
end
end Go.Proofs.Ytbhikceekldenaa.Hb

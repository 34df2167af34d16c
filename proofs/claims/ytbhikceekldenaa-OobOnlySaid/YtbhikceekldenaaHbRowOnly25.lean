/- The law OobOnly, of whatever reads as its arguments. -/
import Derived.Test.YtbhikceekldenaaHbOnly2
import Derived.Test.YtbhikceekldenaaHbGrvRd
namespace Go.Proofs.Ytbhikceekldenaa.Hb
open Go.RowKit Go.ChangeShapes Go.WideShapes Go.Deep
def IsTree (w : World) (v : Value) : Prop := ∃ (t : List Nd) (A : Option Addr) (c : Nat), v = .slice A t.length c ∧ t.length ≤ c ∧ c ≤ 9223372036854775807 ∧ RN w A t
set_option maxRecDepth 100000 in
theorem read_tree {T : Type} {enc : TypeId × Value → T} {W : World} {base : Nat} {sp : Nat → Bool} {held : Bool} {r : Reach} {b0 : Nat} {v : Value} {d : DataW T} {p : List MemPlace} (hv : Value.okWide Try.prog W r b0 53 v) (h : DataW.Trod enc Try.prog W base sp held 53 v d p) : IsTree W v := by
  obtain ⟨t, A, c, e, h1, h2, h3⟩ := open_row Try.underlying53 hv h rds_tree
  exact ⟨t, A, c, by simpa using e, h1, h2, h3⟩
set_option maxRecDepth 100000 in
theorem only_row (w : World) (v : Value) (h : IsGrv w v) (p : Int) (wp : (Lit.int .u8 p).wf = true) (u : Value) (ho : IsTree w u) : Calls Try.prog 5 #[v, .int .u8 p, u] w (True0 w) := by
  obtain ⟨g, Ac, At, Aw, Ag, cc, ct, cw, cg, rfl, hr, _, h2, h3, _⟩ := h
  obtain ⟨o, Ao, co, rfl, o1, o2, o3⟩ := ho
  obtain ⟨p0, p1⟩ : 0 ≤ p ∧ p ≤ 255 := by simp [Lit.wf, IntKind.min, IntKind.max, IntKind.signed, IntKind.bits] at wp; omega
  by_cases hx : greatG g = true ∨ 100 < o.length ∨ g.trees.length = 0
  · exact only_great g p o Ac At Aw Ag Ao cc ct cw cg co w hr h2 h3 hx
  · have hx1 : greatG g = false := by cases hh : greatG g with
      | false => rfl
      | true => exact absurd (.inl hh) hx
    exact only_any g p p0 p1 o Ac At Aw Ag Ao cc ct cw cg co w hr o3 o1 o2 hx1 (by
      rcases Nat.lt_or_ge 100 o.length with h | h
      · exact absurd (.inr (.inl h)) hx
      · exact h) (fun h => hx (.inr (.inr h)))
end Go.Proofs.Ytbhikceekldenaa.Hb

/- What the law OobOnly wants: trees, one of them put in another's place. -/
import Derived.Test.YtbhikceekldenaaHbBags
namespace Go.Proofs.Ytbhikceekldenaa.Hb
set_option linter.unusedVariables false
set_option linter.unusedSimpArgs false
open Go.RowKit

def onlyG (k : Nat) (o : List Nd) (g : Grv) : Grv := { g with trees := g.trees.set k o }
theorem only_leaves (row : List Int) (i : Nat) (o : List Nd) : ∀ (ts : List (List Nd)) (ws : List (List Int)) (k : Nat) (w : List Int), ws[k]? = some w → w.getD i 0 ≠ 0 → leavesGo row i (ts.set k o) ws = leavesGo row i ts ws
  | [], ws, k, w, _, _ => by simp
  | _ :: _, [], k, w, h, _ => by simp at h
  | t :: ts, x :: ws, 0, w, h, hw => by
    simp at h; subst h
    rw [List.set_cons_zero, leavesGo, leavesGo, if_pos hw, if_pos hw]
  | t :: ts, x :: ws, k + 1, w, h, hw => by
    rw [List.set_cons_succ, leavesGo, leavesGo, only_leaves row i o ts ws k w (by simpa using h) hw]
theorem only_vote {g : Grv} {k : Nat} {o : List Nd} {i : Nat} {w : List Int} (h : g.weights[k]? = some w) (hw : w.getD i 0 ≠ 0) : voteAt (onlyG k o g) i = voteAt g i := by
  have e : leavesO (onlyG k o g) i = leavesO g i := only_leaves _ _ _ _ _ _ _ h hw
  unfold voteAt
  rw [e]
  rfl
theorem only_there {g : Grv} {k : Nat} {o : List Nd} (h1 : mayG g = true) (i : Nat) : (voteAt (onlyG k o g) i).isSome = (voteAt g i).isSome := by
  obtain ⟨_, _, _, _, hl, _⟩ := head_is (may_is h1).1
  have e : leavesO (onlyG k o g) i = [] ↔ leavesO g i = [] := by
    unfold leavesO
    rw [leaves_nil _ _ _ _ hl.symm, leaves_nil _ _ _ _ (by show (g.trees.set k o).length = g.weights.length; rw [List.length_set]; exact hl.symm)]
    rfl
  unfold voteAt
  by_cases h : leavesO g i = []
  · rw [if_pos h, if_pos (e.2 h)]
  · rw [if_neg h, if_neg (fun x => h (e.1 x))]; rfl
def InT (w : World) (vals : List Value) (ls : List (List Nd)) : Prop := vals.length = ls.length ∧ ∀ (j : Nat) (v : Value) (t : List Nd), vals[j]? = some v → ls[j]? = some t → rowK w 6 ndR t [v]
theorem InT.below {w w' : World} {vals : List Value} {ls : List (List Nd)} (h : InT w vals ls) (hb : Below w.heap.size w w') : InT w' vals ls := ⟨h.1, fun j v t h1 h2 => (h.2 j v t h1 h2).below hb⟩
theorem InT.set {w : World} {vals : List Value} {ls : List (List Nd)} (h : InT w vals ls) (k : Nat) {v : Value} {t : List Nd} (hv : rowK w 6 ndR t [v]) : InT w (vals.set k v) (ls.set k t) := by
  refine ⟨by simp [h.1], fun j u s h1 h2 => ?_⟩
  by_cases hj : k = j
  · subst hj
    rw [List.getElem?_set_self' ] at h1
    rw [List.getElem?_set_self'] at h2
    cases hq : vals[k]? with
    | none => rw [hq] at h1; cases h1
    | some _ =>
      cases hq2 : ls[k]? with
      | none => rw [hq2] at h2; cases h2
      | some _ =>
        rw [hq] at h1; rw [hq2] at h2
        simp at h1 h2
        subst h1 h2
        exact hv
  · rw [List.getElem?_set_ne hj] at h1 h2
    exact h.2 j u s h1 h2
theorem RT.vals {w : World} {A : Option Addr} {l : List (List Nd)} (h : RT w A l) (h0 : 0 < l.length) : ∃ ad vals, A = some ad ∧ (∀ j u, vals[j]? = some u → w.cell? (ad.add j) = some u) ∧ InT w vals l ∧ ∀ u ∈ vals, u.oneCell' = true := by
  obtain ⟨ad, rfl, hc⟩ := h h0
  obtain ⟨vals, h1, h2⟩ := listOf (p := fun j (u : Value) => w.cell? (ad.add j) = some u ∧ (∀ t, l[j]? = some t → rowK w 6 ndR t [u]) ∧ u.oneCell' = true) l.length (fun j hj => by
    obtain ⟨c, e1, e2, e3⟩ := hc j _ (List.getElem?_eq_getElem hj)
    obtain ⟨B, cap, rfl, k1, k2, k3⟩ := e2
    refine ⟨.slice B l[j].length cap, ?_, fun t ht => ?_, rfl⟩
    · have := e3 0 _ rfl
      rwa [Nat.mul_one, Nat.add_zero] at this
    · rw [List.getElem?_eq_getElem hj] at ht
      cases ht
      exact ⟨B, cap, rfl, k1, k2, k3⟩)
  refine ⟨ad, vals, rfl, fun j u hu => (h2 j u hu).1, ⟨h1, fun j v t e1 e2 => (h2 j v e1).2.1 t e2⟩, fun u hu => ?_⟩
  obtain ⟨j, hj, rfl⟩ := List.getElem_of_mem hu
  exact (h2 j _ (List.getElem?_eq_getElem hj)).2.2
theorem RT.own {w : World} {b2 c : Nat} {A : Option Addr} {vals : List Value} {ls : List (List Nd)} (h : w.ownsRow b2 53 1 (.slice A ls.length c) ls.length vals) (hi : InT w vals ls) : RT w A ls := by
  intro hl
  obtain ⟨g, cap, hv, _, _, _, hc⟩ := own_open h hl
  simp only [Value.slice.injEq] at hv
  obtain ⟨rfl, _, _⟩ := hv
  refine ⟨_, rfl, fun i y hy => ?_⟩
  have hi2 : i < vals.length := by rw [hi.1]; exact (List.getElem?_eq_some_iff.1 hy).1
  refine ⟨[vals[i]], rfl, hi.2 i _ y (List.getElem?_eq_getElem hi2) hy, fun j u hj => ?_⟩
  rcases j with _ | j
  · simp at hj; subst hj
    rw [Nat.mul_one, Nat.add_zero, show (⟨g, 0, none⟩ : Addr).add i = ⟨g, i, none⟩ from by unfold Addr.add; split <;> simp_all]
    exact hc i _ (List.getElem?_eq_getElem hi2)
  · simp at hj
theorem info_tree : (Try.prog.info? 53).map (fun i => (i.zero, i.size, i.bytes)) = some (some (.slice none 0 0), 1, 24) := by kernel_rfl
theorem eq_vote (d : Nat) (w : World) (x0 y0 : Bool) (x1 y1 : Int) :
    (Op.equalIn (d + 2) 45 (.agg #[.bool x0, .int .i64 x1]) (.agg #[.bool y0, .int .i64 y1])).run Try.prog w = .ok (x0 == y0 && (x1 == y1 && true)) w := by
  refine eqs_of Try.underlying45 (by kernel_rfl) ?_
  refine eqf_cons (by rfl) (by go_simp; rfl) (by go_simp; rfl) (by go_simp) ?_
  exact eqf_cons (by rfl) (by go_simp; rfl) (by go_simp; rfl) (by go_simp) eqf_nil
end Go.Proofs.Ytbhikceekldenaa.Hb

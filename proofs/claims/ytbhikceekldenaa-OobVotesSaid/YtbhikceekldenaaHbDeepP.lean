/- How deep the nodes of a tree stand: the program's way and the document's are one. -/
import Derived.Test.YtbhikceekldenaaHbNd
namespace Go.Proofs.Ytbhikceekldenaa.Hb
set_option linter.unusedVariables false

/-- The program's way: the nodes that are left, the place, what came. -/
def depGo (L : Nat) : List Nd → Nat → List Int → Option (List Int)
  | [], _, out => if out.length = L then some out else none
  | n :: r, i, out => if out.length ≤ i then none else if n.f = -1 then depGo L r (i + 1) out else if n.l ≠ out.length ∨ L < out.length + 2 then none else depGo L r (i + 1) (out ++ [out.getD i 0 + 1, out.getD i 0 + 1])
def depthsO (t : List Nd) : List Int := if t = [] then [] else (depGo t.length t 0 [0]).getD []
/-- The document's way, its first half. -/
def refLeft : List Nd → Nat → Nat → Option Nat
  | [], _, left => some left
  | n :: r, i, left => if 0 ≤ n.f then (if n.l ≠ left ∨ left ≤ i then none else refLeft r (i + 1) (left + 2)) else refLeft r (i + 1) left
theorem refLeft_mono : ∀ (r : List Nd) (i left l : Nat), refLeft r i left = some l → left ≤ l
  | [], i, left, l, h => by cases h; exact Nat.le_refl _
  | n :: r, i, left, l, h => by
    unfold refLeft at h
    split at h
    · split at h
      · cases h
      · have := refLeft_mono r _ _ l h; omega
    · exact refLeft_mono r _ _ l h
theorem refLeft_late : ∀ (r : List Nd) (i left l : Nat), left ≤ i → refLeft r i left = some l → l = left
  | [], i, left, l, _, h => by cases h; rfl
  | n :: r, i, left, l, hl, h => by
    unfold refLeft at h
    split at h
    · rw [if_pos (.inr hl)] at h; cases h
    · exact refLeft_late r _ _ l (by omega) h
/-- Both ways fail at once. -/
theorem dep_ref {L : Nat} : ∀ (r : List Nd) (i : Nat) (out : List Int), (∀ n ∈ r, -1 ≤ n.f) → i + r.length = L → ((depGo L r i out).isSome ↔ refLeft r i out.length = some L)
  | [], i, out, _, hL => by
    unfold depGo refLeft
    by_cases h : out.length = L <;> simp [h]
  | n :: r, i, out, hf, hL => by
    have hn := hf n (List.mem_cons_self ..)
    have hr : ∀ m ∈ r, -1 ≤ m.f := fun m hm => hf m (List.mem_cons_of_mem _ hm)
    simp only [List.length_cons] at hL
    unfold depGo refLeft
    by_cases h1 : out.length ≤ i
    · rw [if_pos h1]
      refine ⟨fun h => by simp at h, fun h => ?_⟩
      split at h
      · rw [if_pos (.inr h1)] at h; cases h
      · have := refLeft_late r _ _ _ (by omega) h; omega
    · rw [if_neg h1]
      by_cases h2 : n.f = -1
      · rw [if_pos h2, if_neg (by omega)]
        exact dep_ref r (i + 1) out hr (by omega)
      · rw [if_neg h2, if_pos (show 0 ≤ n.f by omega)]
        by_cases h3 : n.l ≠ out.length
        · rw [if_pos (.inl h3), if_pos (.inl h3)]; simp
        · rw [if_neg (show ¬ (n.l ≠ (out.length : Int) ∨ out.length ≤ i) by omega)]
          by_cases h4 : L < out.length + 2
          · rw [if_pos (.inr h4)]
            refine ⟨fun h => by simp at h, fun h => ?_⟩
            have := refLeft_mono r _ _ _ h
            omega
          · rw [if_neg (by omega)]
            have := dep_ref (L := L) r (i + 1) (out ++ [out.getD i 0 + 1, out.getD i 0 + 1]) hr (by omega)
            simpa using this
/-- How many nodes ahead of a place have kids. -/
def kidC : List Nd → Nat → Nat
  | _, 0 => 0
  | [], _ + 1 => 0
  | n :: r, k + 1 => (if n.f = -1 then 0 else 1) + kidC r k
theorem getD_app {l r : List Int} {k : Nat} (h : k < l.length) : (l ++ r).getD k 0 = l.getD k 0 := by
  rw [List.getD_eq_getElem?_getD, List.getD_eq_getElem?_getD, List.getElem?_append_left h]
/-- What came stands at the front of what comes. -/
theorem dep_front {L : Nat} : ∀ (r : List Nd) (i : Nat) (out ds : List Int), depGo L r i out = some ds → out <+: ds ∧ ds.length = L
  | [], i, out, ds, h => by
    unfold depGo at h
    split at h
    · cases h; exact ⟨List.prefix_rfl, by assumption⟩
    · cases h
  | n :: r, i, out, ds, h => by
    unfold depGo at h
    split at h
    · cases h
    · split at h
      · exact dep_front r _ _ _ h
      · split at h
        · cases h
        · obtain ⟨h1, h2⟩ := dep_front r _ _ _ h
          exact ⟨(List.prefix_append _ _).trans h1, h2⟩
theorem pre_getD {l ds : List Int} (h : l <+: ds) {k : Nat} (hk : k < l.length) : ds.getD k 0 = l.getD k 0 := by
  obtain ⟨r, rfl⟩ := h
  exact getD_app hk
/-- Each node that has kids: where these stand, and how deep. -/
theorem dep_kids {L : Nat} : ∀ (r : List Nd) (i : Nat) (out ds : List Int), depGo L r i out = some ds →
    (∀ (j : Nat) (n : Nd), r[j]? = some n → n.f ≠ -1 → n.l = ((out.length + 2 * kidC r j : Nat) : Int) ∧ i + j < out.length + 2 * kidC r j ∧ out.length + 2 * kidC r j + 2 ≤ L ∧
      ds.getD (out.length + 2 * kidC r j) 0 = ds.getD (i + j) 0 + 1 ∧ ds.getD (out.length + 2 * kidC r j + 1) 0 = ds.getD (i + j) 0 + 1) ∧ out.length + 2 * kidC r r.length = L
  | [], i, out, ds, h => by
    unfold depGo at h
    split at h
    · exact ⟨fun j n hj => by simp at hj, by simpa [kidC] using by assumption⟩
    · cases h
  | n :: r, i, out, ds, h => by
    unfold depGo at h
    split at h
    · cases h
    · rename_i h1
      split at h
      · rename_i h2
        obtain ⟨ih1, ih2⟩ := dep_kids r _ _ _ h
        refine ⟨fun j m hj hm => ?_, by simpa [kidC, h2] using ih2⟩
        rcases j with _ | j
        · simp at hj; subst hj; exact absurd h2 hm
        · have := ih1 j m (by simpa using hj) hm
          have e : kidC (n :: r) (j + 1) = kidC r j := by simp [kidC, h2]
          rw [e, show i + (j + 1) = i + 1 + j by omega]
          exact this
      · rename_i h2
        split at h
        · cases h
        · rename_i h3
          obtain ⟨ih1, ih2⟩ := dep_kids r _ _ _ h
          have hp := (dep_front r _ _ _ h).1
          simp only [List.length_append, List.length_cons, List.length_nil] at ih1 ih2
          have e : ∀ j, kidC (n :: r) (j + 1) = 1 + kidC r j := fun j => by simp [kidC, h2]
          refine ⟨fun j m hj hm => ?_, by rw [List.length_cons, e]; omega⟩
          rcases j with _ | j
          · simp at hj; subst hj
            have e0 : kidC (n :: r) 0 = 0 := by simp [kidC]
            rw [e0]
            have g := fun (k : Nat) (hk : k < (out ++ [out.getD i 0 + 1, out.getD i 0 + 1]).length) => pre_getD hp hk
            simp only [List.length_append, List.length_cons, List.length_nil] at g
            have g0 := g i (by omega)
            have g1 := g out.length (by omega)
            have g2 := g (out.length + 1) (by omega)
            rw [getD_app (by omega)] at g0
            have k1 : (out ++ [out.getD i 0 + 1, out.getD i 0 + 1]).getD out.length 0 = out.getD i 0 + 1 := by simp [List.getD_eq_getElem?_getD]
            have k2 : (out ++ [out.getD i 0 + 1, out.getD i 0 + 1]).getD (out.length + 1) 0 = out.getD i 0 + 1 := by simp [List.getD_eq_getElem?_getD]
            rw [k1] at g1
            rw [k2] at g2
            simp only [Nat.mul_zero, Nat.add_zero]
            rw [g0, g1, g2]
            exact ⟨by omega, by omega, by omega, rfl, rfl⟩
          · have := ih1 j m (by simpa using hj) hm
            rw [e, show i + (j + 1) = i + 1 + j by omega, show out.length + 2 * (1 + kidC r j) = out.length + 2 + 2 * kidC r j by omega]
            refine ⟨by have := this.1; omega, this.2.1, this.2.2.1, this.2.2.2⟩
theorem kid_ex : ∀ (t : List Nd) (c : Nat), c < kidC t t.length → ∃ k n, t[k]? = some n ∧ n.f ≠ -1 ∧ kidC t k = c
  | [], c, h => by simp [kidC] at h
  | n :: r, c, h => by
    by_cases hn : n.f = -1
    · have e : ∀ j, kidC (n :: r) (j + 1) = kidC r j := fun j => by simp [kidC, hn]
      rw [List.length_cons, e] at h
      obtain ⟨k, m, h1, h2, h3⟩ := kid_ex r c h
      exact ⟨k + 1, m, by simpa using h1, h2, by rw [e]; exact h3⟩
    · have e : ∀ j, kidC (n :: r) (j + 1) = 1 + kidC r j := fun j => by simp [kidC, hn]
      rcases c with _ | c
      · exact ⟨0, n, rfl, hn, by simp [kidC]⟩
      · rw [List.length_cons, e] at h
        obtain ⟨k, m, h1, h2, h3⟩ := kid_ex r c (by omega)
        exact ⟨k + 1, m, by simpa using h1, h2, by rw [e]; omega⟩
/-- Whose kid a node is: the document's search. -/
def parGo (p : Nat) : List Nd → Nat → Int
  | [], _ => -1
  | n :: r, k => if 0 ≤ n.f ∧ (n.l = p ∨ n.l + 1 = p) then k else parGo p r (k + 1)
def parO (t : List Nd) (p : Nat) : Int := parGo p (t.take p) 0
theorem par_find {p : Nat} : ∀ (r : List Nd) (i j : Nat) (n : Nd), r[j]? = some n → (0 ≤ n.f ∧ (n.l = p ∨ n.l + 1 = p)) → (∀ j' n', j' < j → r[j']? = some n' → ¬ (0 ≤ n'.f ∧ (n'.l = p ∨ n'.l + 1 = p))) → parGo p r i = ((i + j : Nat) : Int)
  | [], i, j, n, hj, _, _ => by simp at hj
  | m :: r, i, j, n, hj, hc, ho => by
    unfold parGo
    rcases j with _ | j
    · simp at hj; subst hj
      rw [if_pos hc]; simp
    · rw [if_neg (ho 0 m (by omega) rfl)]
      have := par_find r (i + 1) j n (by simpa using hj) hc (fun j' n' h1 h2 => ho (j' + 1) n' (by omega) (by simpa using h2))
      rw [this]
      congr 1
      omega
/-- The depths of a tree that stands well: the document's list. -/
structure DepOf (t : List Nd) (ds : List Int) : Prop where
  len : ds.length = t.length
  d0 : ds.getD 0 0 = 0
  par : ∀ p, 0 < p → p < t.length → ∃ k : Nat, parO t p = k ∧ k < p ∧ ds.getD p 0 = ds.getD k 0 + 1
theorem dep_of {t : List Nd} {ds : List Int} (hf : ∀ n ∈ t, -1 ≤ n.f) (h : depGo t.length t 0 [0] = some ds) : DepOf t ds := by
  obtain ⟨hp, hl⟩ := dep_front _ _ _ _ h
  obtain ⟨hk, hL⟩ := dep_kids _ _ _ _ h
  simp only [List.length_cons, List.length_nil, Nat.zero_add] at hk hL
  refine ⟨hl, pre_getD hp (by simp), fun p h0 h1 => ?_⟩
  obtain ⟨k, n, e1, e2, e3⟩ := kid_ex t ((p - 1) / 2) (by omega)
  obtain ⟨a1, a2, a3, a4, a5⟩ := hk k n e1 e2
  rw [e3] at a1 a2 a3 a4 a5
  have hnf : 0 ≤ n.f := by have := hf n (List.mem_of_getElem? e1); omega
  have hkp : k < p := by omega
  refine ⟨k, ?_, hkp, ?_⟩
  · unfold parO
    have := par_find (p := p) (t.take p) 0 k n (by rw [List.getElem?_take, if_pos hkp]; exact e1) ⟨hnf, by omega⟩ (fun j' n' h1' h2' hc => by
      rw [List.getElem?_take, if_pos (by omega)] at h2'
      obtain ⟨b1, b2, b3, _⟩ := hk j' n' h2' (by omega)
      have hm : kidC t j' < kidC t k := by
        have mono : ∀ (t : List Nd) (a b : Nat) (m : Nd), a < b → b ≤ t.length → t[a]? = some m → m.f ≠ -1 → kidC t a < kidC t b := by
          intro t
          induction t with
          | nil => intro a b m _ _ hm _; simp at hm
          | cons q r ih =>
            intro a b m hab hb hm hmf
            rcases b with _ | b
            · omega
            · rcases a with _ | a
              · simp at hm; subst hm
                simp [kidC, hmf]; omega
              · have := ih a b m (by omega) (by simp at hb; omega) (by simpa using hm) hmf
                simp only [kidC]; omega
        exact mono t j' k n' h1' (by have := (List.getElem?_eq_some_iff.1 e1).1; omega) h2' (by omega)
      omega)
    rw [this, Nat.zero_add]
  · rcases (show 1 + 2 * ((p - 1) / 2) = p ∨ 1 + 2 * ((p - 1) / 2) + 1 = p by omega) with e | e
    · rw [e] at a4; exact a4
    · rw [e] at a5; exact a5
end Go.Proofs.Ytbhikceekldenaa.Hb

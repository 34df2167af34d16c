/- The walk of the law OobBags. -/
import Derived.Test.YtbhikceekldenaaHbLaw25
import Derived.Test.YtbhikceekldenaaHbGreat25
namespace Go.Proofs.Ytbhikceekldenaa.Hb
set_option linter.unusedVariables false
set_option linter.unusedSimpArgs false
open Go.RowKit

theorem or_one (a : Int) : bits .or .i64 a 1 ≠ 0 ∧ in64 (bits .or .i64 a 1) := by
  have e : bits .or .i64 a 1 = IntKind.i64.wrap ((BitVec.ofInt 64 a ||| 1#64).toNat : Int) := rfl
  unfold in64
  rw [e]
  generalize hx : BitVec.ofInt 64 a ||| 1#64 = x
  have h1 : x.getLsbD 0 = true := by rw [← hx]; simp
  have h2 : x.toNat % 2 = 1 := by
    have : x.toNat.testBit 0 = true := by simpa [BitVec.getLsbD] using h1
    rw [Nat.testBit_zero] at this
    simpa using this
  have h3 := x.isLt
  rw [IntKind.wrap_i64]
  omega
def oftN (b n : Int) : Int := if n ≠ 0 then b else n
def oftG (b : Int) (g : Grv) : Grv := { g with weights := g.weights.map fun w => w.map (oftN b) }
theorem oft_getD {b : Int} {w : List Int} {i : Nat} : (w.map (oftN b)).getD i 0 = oftN b (w.getD i 0) := by
  rw [List.getD_eq_getElem?_getD, List.getD_eq_getElem?_getD, List.getElem?_map]
  cases w[i]? with
  | none => simp [oftN]
  | some x => rfl
theorem oft_trees {b : Int} {g : Grv} : ∀ (ts : List (List Nd)) (ws : List (List Int)), treesB (oftG b g) ts (ws.map fun w => w.map (oftN b)) = treesB g ts ws
  | [], _ => by simp [treesB]
  | _ :: _, [] => by simp [treesB]
  | t :: ts, w :: ws => by
    rw [List.map_cons, treesB, treesB, oft_trees ts ws, List.length_map]
    rfl
theorem oft_may {b : Int} (g : Grv) : mayG (oftG b g) = mayG g := by
  have e1 : treesB (oftG b g) (oftG b g).trees (oftG b g).weights = treesB g g.trees g.weights := oft_trees _ _
  have e2 : headB (oftG b g) = headB g := by
    unfold headB oftG
    simp only [List.length_map]
  unfold mayG
  rw [e1, e2]
  rfl
theorem oft_leaves {b : Int} (hb : b ≠ 0) (row : List Int) (i : Nat) : ∀ (ts : List (List Nd)) (ws : List (List Int)), leavesGo row i ts (ws.map fun w => w.map (oftN b)) = leavesGo row i ts ws
  | [], _ => by simp [leavesGo]
  | _ :: _, [] => by simp [leavesGo]
  | t :: ts, w :: ws => by
    rw [List.map_cons, leavesGo, leavesGo, oft_leaves hb row i ts ws, oft_getD]
    by_cases h : w.getD i 0 = 0
    · have e0 : oftN b 0 = 0 := by simp [oftN]
      rw [h, e0]
    · rw [if_pos h, if_pos]
      unfold oftN; rw [if_pos h]; exact hb
theorem oft_err {b : Int} (hb : b ≠ 0) (g : Grv) : errO (oftG b g) = errO g := by
  have e : votesO (oftG b g) = votesO g := by
    unfold votesO
    congr 1
    funext i
    unfold voteAt leavesO
    show (if leavesGo (rowO g.rows g.cols g.cells i) i g.trees (g.weights.map fun w => w.map (oftN b)) = [] then none else some (voteO g.k g.cl (leavesGo (rowO g.rows g.cols g.cells i) i g.trees (g.weights.map fun w => w.map (oftN b)))).1) = _
    rw [oft_leaves hb]
  unfold errO
  rw [oft_may, e]
  rfl
/-! Rows of rows that the call makes. -/
theorem own_apart {w : World} {b1 b2 : Nat} {e1 e2 : TypeId} {s1 s2 n1 n2 : Nat} {v1 v2 : Value} {x1 x2 : List Value} (h1 : w.ownsRow b1 e1 s1 v1 n1 x1) (h2 : w.ownsRow b2 e2 s2 v2 n2 x2) (hne : e1 ≠ e2) : ∀ k, v2.ownBlock = some k → ¬ v1.ownBlock = some k := by
  intro k hk hv
  rcases h1.2 with ⟨rfl, _⟩ | ⟨q, cap, cur, rfl, _, hh, _⟩
  · simp [Value.ownBlock] at hv
  · rcases h2.2 with ⟨rfl, _⟩ | ⟨q', cap', cur', rfl, _, hh', _⟩
    · simp [Value.ownBlock] at hk
    · have e1 : q = k := by simpa [Value.ownBlock] using hv
      have e2 : q' = k := by simpa [Value.ownBlock] using hk
      subst e1 e2
      rw [hh] at hh'
      simp at hh'
      exact hne hh'.2
theorem own_ne2 {w w' : World} {base : Nat} {row : Option Nat} (hg : w.grownBy w' row) {e : TypeId} {size n : Nat} {v : Value} {xs : List Value} (h : w.ownsRow base e size v n xs) (hr : ∀ k, row = some k → ¬ v.ownBlock = some k) : w'.ownsRow base e size v n xs := by
  refine h.kept hg ?_
  rcases h.2 with ⟨rfl, _⟩ | ⟨g, cap, cur, rfl, hb, _⟩
  · exact .inl rfl
  · right
    intro e
    exact hr g (by rw [← e]; rfl) rfl
/-- A store into another block leaves what is owned. -/
theorem own_set {w : World} {base : Nat} {e : TypeId} {size n : Nat} {v : Value} {xs : List Value} (h : w.ownsRow base e size v n xs) {p : Addr} (u : Value) (hp : p.block < base) : (w.setCell p u).ownsRow base e size v n xs := by
  refine h.kept (row := some p.block) ⟨rfl, rfl, rfl, by simp, fun k _ hk => Below.heap_setCell w p u k (fun e => hk (by rw [e]))⟩ ?_
  rcases h.2 with ⟨rfl, _⟩ | ⟨g, cap, cur, rfl, hb, _⟩
  · exact .inl rfl
  · refine .inr fun e => ?_
    have : g = p.block := by simpa [Value.ownBlock] using e
    omega
def InR (w : World) (base : Nat) (vals : List Value) (ls : List (List Int)) : Prop :=
  vals.length = ls.length ∧ ∀ (j : Nat) (v : Value) (l : List Int), vals[j]? = some v → ls[j]? = some l → ∃ A c, v = .slice A l.length c ∧ c ≤ 9223372036854775807 ∧ (∀ x ∈ l, in64 x) ∧ w.ownsRow base 3 1 v l.length (ints l)
theorem InR.imp {w w' : World} {base : Nat} {vals : List Value} {ls : List (List Int)} (h : InR w base vals ls) (hk : ∀ (v : Value) (n : Nat) (xs : List Value), w.ownsRow base 3 1 v n xs → w'.ownsRow base 3 1 v n xs) : InR w' base vals ls :=
  ⟨h.1, fun j v l h1 h2 => by obtain ⟨A, c, e1, e2, e3, e4⟩ := h.2 j v l h1 h2; exact ⟨A, c, e1, e2, e3, hk _ _ _ e4⟩⟩
theorem InR.snoc {w : World} {base : Nat} {vals : List Value} {ls : List (List Int)} (h : InR w base vals ls) {l : List Int} {A : Option Addr} {c : Nat} (hc : c ≤ 9223372036854775807) (hl : ∀ x ∈ l, in64 x) (ho : w.ownsRow base 3 1 (.slice A l.length c) l.length (ints l)) : InR w base (vals ++ [.slice A l.length c]) (ls ++ [l]) := by
  refine ⟨by simp [h.1], fun j v l' h1 h2 => ?_⟩
  rcases Nat.lt_or_ge j vals.length with hj | hj
  · rw [List.getElem?_append_left hj] at h1
    rw [List.getElem?_append_left (by rw [← h.1]; exact hj)] at h2
    exact h.2 j v l' h1 h2
  · rw [List.getElem?_append_right hj] at h1
    rw [List.getElem?_append_right (by rw [← h.1]; exact hj)] at h2
    have e : j = vals.length := by
      have := (List.getElem?_eq_some_iff.1 h1).1; simp at this; omega
    subst e
    rw [Nat.sub_self] at h1
    rw [h.1, Nat.sub_self] at h2
    simp at h1 h2
    subst h1 h2
    exact ⟨A, c, rfl, hc, hl, ho⟩
theorem own_cap {w : World} {base : Nat} {e : TypeId} {size n c m : Nat} {A : Option Addr} {xs : List Value} (h : w.ownsRow base e size (.slice A m c) n xs) : m = n ∧ n ≤ c ∧ c ≤ 9223372036854775807 := by
  rcases h.2 with ⟨h1, rfl⟩ | ⟨g, cap, cur, h1, _, _, h2, h3, _⟩
  · simp only [Value.slice.injEq] at h1; omega
  · simp only [Value.slice.injEq] at h1
    unfold maxLen at h3; omega
theorem RW.own {w : World} {base b2 c : Nat} {A : Option Addr} {vals : List Value} {ls : List (List Int)} (h : w.ownsRow b2 54 1 (.slice A ls.length c) ls.length vals) (hi : InR w base vals ls) : RW w A ls := by
  intro hl
  obtain ⟨g, cap, hv, _, _, _, hc⟩ := own_open h hl
  simp only [Value.slice.injEq] at hv
  obtain ⟨rfl, _, _⟩ := hv
  refine ⟨_, rfl, fun i y hy => ?_⟩
  have hi2 : i < vals.length := by rw [hi.1]; exact (List.getElem?_eq_some_iff.1 hy).1
  obtain ⟨A2, c2, e1, e2, e3, e4⟩ := hi.2 i _ y (List.getElem?_eq_getElem hi2) hy
  refine ⟨[vals[i]], rfl, ⟨A2, c2, by rw [e1], ?_, e2, ?_⟩, fun j u hj => ?_⟩
  · rw [e1] at e4; exact (own_cap e4).2.1
  · rw [e1] at e4; exact RI1.own e4 e3
  · rcases j with _ | j
    · simp at hj; subst hj
      rw [Nat.mul_one, Nat.add_zero, show (⟨g, 0, none⟩ : Addr).add i = ⟨g, i, none⟩ from by unfold Addr.add; split <;> simp_all]
      exact hc i _ (List.getElem?_eq_getElem hi2)
    · simp at hj
theorem info_row : (Try.prog.info? 54).map (fun i => (i.zero, i.size, i.bytes)) = some (some (.slice none 0 0), 1, 24) := by kernel_rfl
end Go.Proofs.Ytbhikceekldenaa.Hb

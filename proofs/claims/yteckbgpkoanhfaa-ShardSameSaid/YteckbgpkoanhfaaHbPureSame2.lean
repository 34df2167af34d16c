/- Plain law: merged of parts is the whole's, within the limits. -/
import Derived.Test.YteckbgpkoanhfaaHbPureSame
namespace Go.Proofs.Yteckbgpkoanhfaa.Hb
set_option linter.unusedVariables false
open Go.RowKit

def wOf (s : Smp) (i : Int) : Nat := (s.wgt.getD i.toNat 0).toNat
def wSum (s : Smp) (is : List Int) : Nat := (is.map (wOf s)).sum
/-- Rows whose weights and targets are within. -/
def Wi (s : Smp) (is : List Int) : Prop := ∀ i ∈ is, 0 ≤ s.wgt.getD i.toNat 0 ∧ (s.tgt.getD i.toNat 0).natAbs ≤ 1048576
theorem wSum_cons (s : Smp) (i : Int) (is : List Int) : wSum s (i :: is) = wOf s i + wSum s is := by simp [wSum]
theorem wSum_append (s : Smp) (l m : List Int) : wSum s (l ++ m) = wSum s l + wSum s m := by simp [wSum]
theorem fill2 {s : Smp} {col : Int} : ∀ (is : List Int) {a f r : H} {m : Nat}, PQ a f r m → Wi s is → m + wSum s is ≤ 1048576 →
    (fillO s col is a = .error 5 ∧ fillO s col is r = .error 5) ∨ ∃ a' r', fillO s col is a = .ok a' ∧ fillO s col is r = .ok r' ∧ PQ a' f r' (m + wSum s is)
  | [], a, f, r, m, p, _, _ => .inr ⟨a, r, rfl, rfl, p⟩
  | i :: is, a, f, r, m, p, hw, hm => by
    rw [wSum_cons] at hm ⊢
    by_cases hi : i < 0 ∨ i ≥ s.rows
    · exact .inl ⟨fill_out hi, fill_out hi⟩
    · obtain ⟨h1, h2⟩ := hw i (by simp)
      have hk : s.wgt.getD i.toNat 0 = ((wOf s i : Nat) : Int) := by unfold wOf; omega
      rcases p.swap.add (celAt s col i) (s.tgt.getD i.toNat 0) (wOf s i) (by omega) h2 with ⟨_, ea, er⟩ | ⟨_, a', r', ea, er, p'⟩
      · rw [← hk] at ea er
        exact .inl ⟨fill_err hi ea, fill_err hi er⟩
      · rw [← hk] at ea er
        rw [fill_go hi ea, fill_go hi er, ← Nat.add_assoc]
        exact fill2 is p'.swap (fun x hx => hw x (by simp [hx])) (by omega)
theorem fill_append {s : Smp} {col : Int} : ∀ (l m : List Int) (h : H), fillO s col (l ++ m) h = match fillO s col l h with | .error e => .error e | .ok h' => fillO s col m h'
  | [], m, h => rfl
  | i :: l, m, h => by
    rw [List.cons_append]
    by_cases hi : i < 0 ∨ i ≥ s.rows
    · rw [fill_out hi, fill_out hi]
    · cases ha : addO h (celAt s col i) (s.tgt.getD i.toNat 0) (s.wgt.getD i.toNat 0) with
      | error e => rw [fill_err hi ha, fill_err hi ha]
      | ok h' => rw [fill_go hi ha, fill_go hi ha]; exact fill_append l m h'
theorem pieces {s : Smp} {col : Int} {Z : H} : ∀ (ls : List (List Int)) {f : H} {m : Nat}, PQ f Z f m → Wi s ls.flatten → m + wSum s ls.flatten ≤ 1048576 →
    (collO (fun l => fillO s col l Z) ls = .error 5 ∧ fillO s col ls.flatten f = .error 5) ∨ ∃ hs x, collO (fun l => fillO s col l Z) ls = .ok hs ∧ mergeO f hs = .ok x ∧ fillO s col ls.flatten f = .ok x
  | [], f, m, _, _, _ => .inr ⟨[], f, rfl, rfl, rfl⟩
  | l :: ls, f, m, p, hw, hm => by
    rw [List.flatten_cons] at hw hm ⊢
    rw [wSum_append] at hm
    rw [fill_append]
    have hw1 : Wi s l := fun x hx => hw x (by simp [hx])
    have hw2 : Wi s ls.flatten := fun x hx => hw x (List.mem_append_right _ hx)
    rcases fill2 (col := col) l p hw1 (by omega) with ⟨e1, _⟩ | ⟨a', a2, e1, e2, p1⟩
    · rcases fill2 (col := col) l p.swap hw1 (by omega) with ⟨_, e3⟩ | ⟨a3, r3, e3, _, _⟩
      · left
        rw [collO]
        simp only [e3, e1]
        exact ⟨trivial, trivial⟩
      · rw [e1] at e3; cases e3
    · obtain rfl : a' = a2 := by rw [e1] at e2; exact Except.ok.inj e2
      rcases fill2 (col := col) l p.swap hw1 (by omega) with ⟨e3, _⟩ | ⟨a3, r3, e3, e4, p2⟩
      · rw [e1] at e3; cases e3
      · obtain rfl : a' = a3 := by rw [e1] at e3; exact Except.ok.inj e3
        have hb := p2.merge (by omega)
        rw [collO]
        simp only [e4, e1]
        rcases pieces ls p1 hw2 (by omega) with ⟨e5, e6⟩ | ⟨hs, x, e5, e6, e7⟩
        · left
          exact ⟨by rw [e5], e6⟩
        · right
          exact ⟨r3 :: hs, x, by rw [e5], by rw [mergeO, hb]; exact e6, e7⟩
theorem coll_map {α β : Type} (g : β → α) (f : α → Except Int H) : ∀ (xs : List β), collO (fun x => f (g x)) xs = collO f (xs.map g)
  | [] => rfl
  | x :: xs => by rw [List.map_cons, collO, collO, coll_map g f xs]
theorem coll_congr {α : Type} {f g : α → Except Int H} : ∀ (xs : List α), (∀ x ∈ xs, f x = g x) → collO f xs = collO g xs
  | [], _ => rfl
  | x :: xs, h => by rw [collO, collO, h x (by simp), coll_congr xs (fun y hy => h y (by simp [hy]))]
theorem cut_flat (is : List Int) (n p : Int) (hn : 0 ≤ n) (hp : 1 ≤ p) : ∀ (k : Nat), (k : Int) ≤ p → ((upto n p k).map (cutI is)).flatten = is.take (fromAt n p k).toNat
  | 0, _ => by rw [fromAt_zero n p (by omega)]; rfl
  | k + 1, hk => by
    have h := spn_ok n p hn hp k (by omega)
    rw [upto_succ, List.map_append, List.flatten_append, cut_flat is n p hn hp k (by omega)]
    show is.take (fromAt n p k).toNat ++ ((is.drop (fromAt n p k).toNat).take (fromAt n p (k + 1) - fromAt n p k).toNat ++ []) = _
    rw [List.append_nil, ← List.take_add]
    congr 1
    omega
theorem parts_same {s : Smp} {col p : Int} {is : List Int} (hp : 1 ≤ p ∧ p ≤ 64) (hw : Wi s is) (hm : wSum s is ≤ 1048576) : partsO s col is p = histO s col is := by
  unfold partsO
  rw [if_pos hp]
  have hfl : ((upto is.length p p.toNat).map (cutI is)).flatten = is := by
    rw [cut_flat is is.length p (by omega) hp.1 p.toNat (by omega), fromAt_top _ _ (by omega) _ (by omega), Int.toNat_natCast, List.take_length]
  obtain ⟨k, hk⟩ : ∃ k, p.toNat = k + 1 := ⟨p.toNat - 1, by omega⟩
  rw [coll_map (cutI is) (histO s col)]
  obtain ⟨ls, hls⟩ : ∃ ls, (upto is.length p p.toNat).map (cutI is) = ls := ⟨_, rfl⟩
  have hlen : ls.length = k + 1 := by rw [← hls, List.length_map, upto_length, hk]
  rw [hls] at hfl ⊢
  clear hls
  obtain ⟨l0, lt, rfl⟩ : ∃ l0 lt, ls = l0 :: lt := by
    cases ls with
    | nil => simp at hlen
    | cons a b => exact ⟨a, b, rfl⟩
  by_cases hy : rightS s = true ∧ 0 ≤ col ∧ col < s.cols
  · obtain ⟨Z, hZ⟩ := new_yes (chk_may (rightS_is hy.1).1).1
    rw [hist_go hy hZ, coll_congr (g := fun l => fillO s col l Z) _ (fun l _ => hist_go hy hZ)]
    have pz := PQ.new hZ
    rcases pieces (col := col) (l0 :: lt) pz (by rw [hfl]; exact hw) (by rw [hfl]; omega) with ⟨e1, e2⟩ | ⟨hs, x, e1, e2, e3⟩
    · rw [hfl] at e2
      rw [e1, e2]
      rfl
    · rw [hfl] at e3
      rw [e1, e3]
      rcases fill2 (col := col) l0 pz (fun y hy => hw y (by rw [← hfl]; simp [hy])) (by rw [← hfl, List.flatten_cons, wSum_append] at hm; omega) with ⟨e4, _⟩ | ⟨a', r', e4, e5, p1⟩
      · rw [collO] at e1
        simp only [e4] at e1
        cases e1
      · obtain rfl : a' = r' := by rw [e4] at e5; exact Except.ok.inj e5
        rw [collO] at e1
        simp only [e4] at e1
        cases hc : collO (fun l => fillO s col l Z) lt with
        | error e => rw [hc] at e1; cases e1
        | ok hs' =>
          rw [hc] at e1
          cases e1
          rw [mergeO, p1.merge (by rw [← hfl, List.flatten_cons, wSum_append] at hm; omega)] at e2
          exact e2
  · rw [hist_8 hy, collO, hist_8 hy]
    rfl
end Go.Proofs.Yteckbgpkoanhfaa.Hb

/- What histograms come to: plain functions. No Go. -/
import Derived.Test.YteckbgpkoanhfaaHbNum
namespace Go.Proofs.Yteckbgpkoanhfaa.Hb

structure Mom where
  c : Int
  s : Int
  q : Int
deriving DecidableEq
def m0 : Mom := ⟨0, 0, 0⟩
structure H where
  kind : Int
  bins : Int
  classes : Int
  counts : List Int
  moms : List Mom
deriving DecidableEq
def h0 : H := ⟨0, 0, 0, [], []⟩

/-- A sum, a difference; or the error's number. -/
def opP (a b : Int) (_ : Bool) : Except Int Int := match lim (a + b) with
  | some x => .ok x
  | none => .error 6
def opM (a b : Int) (sg : Bool) : Except Int Int := match lim (a - b) with
  | some x => if x < 0 ∧ sg = false then .error 5 else .ok x
  | none => .error 6
theorem opP_ok {a b x : Int} {sg : Bool} (h : opP a b sg = .ok x) : inR x := by
  unfold opP at h
  cases hl : lim (a + b) with
  | none => rw [hl] at h; cases h
  | some y => rw [hl] at h; cases h; have := lim_some hl; rw [this.1]; exact this.2
theorem opM_ok {a b x : Int} {sg : Bool} (h : opM a b sg = .ok x) : inR x := by
  unfold opM at h
  cases hl : lim (a - b) with
  | none => rw [hl] at h; cases h
  | some y =>
    rw [hl] at h
    simp only at h
    split at h
    · cases h
    · cases h; have := lim_some hl; rw [this.1]; exact this.2
theorem opM_none {a b : Int} (sg : Bool) (h : lim (a - b) = none) : opM a b sg = .error 6 := by unfold opM; rw [h]
theorem opM_neg {a b x : Int} (h : lim (a - b) = some x) (hx : x < 0) : opM a b false = .error 5 := by unfold opM; rw [h]; exact if_pos ⟨hx, rfl⟩
theorem opM_sg {a b x : Int} (h : lim (a - b) = some x) : opM a b true = .ok x := by unfold opM; rw [h]; exact if_neg (fun h => by cases h.2)
theorem opM_pos {a b x : Int} (sg : Bool) (h : lim (a - b) = some x) (hx : ¬ x < 0) : opM a b sg = .ok x := by unfold opM; rw [h]; exact if_neg (fun h => hx h.1)
def momO (op : Int → Int → Bool → Except Int Int) (x y : Mom) : Except Int Mom :=
  match op x.c y.c false with
  | .error e => .error e
  | .ok c => match op x.s y.s true with
    | .error e => .error e
    | .ok s => match op x.q y.q false with
      | .error e => .error e
      | .ok q => .ok ⟨c, s, q⟩
def rowsO {α : Type} (op : α → α → Except Int α) : List α → List α → Except Int (List α)
  | [], _ => .ok []
  | _ :: _, [] => .error 0
  | x :: xs, y :: ys => match op x y with
    | .error e => .error e
    | .ok z => match rowsO op xs ys with
      | .error e => .error e
      | .ok zs => .ok (z :: zs)
theorem rows_ok {α : Type} {op : α → α → Except Int α} (d : α) : ∀ (a b l : List α), a.length ≤ b.length → l.length = a.length → (∀ i, i < a.length → op (a.getD i d) (b.getD i d) = .ok (l.getD i d)) → rowsO op a b = .ok l
  | [], _, l, _, h2, _ => by
    obtain rfl : l = [] := List.length_eq_zero_iff.1 h2
    rfl
  | x :: xs, [], _, h1, _, _ => by simp at h1
  | x :: xs, y :: ys, [], _, h2, _ => by simp at h2
  | x :: xs, y :: ys, z :: zs, h1, h2, h => by
    have h0 := h 0 (by simp)
    simp only [List.getD_cons_zero] at h0
    have ih := rows_ok d xs ys zs (by simpa using h1) (by simpa using h2) (fun i hi => by have := h (i + 1) (by simpa using hi); simpa using this)
    rw [rowsO, h0]
    simp only [ih]
theorem rows_err {α : Type} {op : α → α → Except Int α} (d : α) (e : Int) : ∀ (k : Nat) (a b l : List α), a.length ≤ b.length → k < a.length → (∀ i, i < k → op (a.getD i d) (b.getD i d) = .ok (l.getD i d)) → op (a.getD k d) (b.getD k d) = .error e → rowsO op a b = .error e
  | _, [], _, _, _, hk, _, _ => by simp at hk
  | _, x :: xs, [], _, h1, _, _, _ => by simp at h1
  | 0, x :: xs, y :: ys, _, _, _, _, he => by
    simp only [List.getD_cons_zero] at he
    rw [rowsO, he]
  | k + 1, x :: xs, y :: ys, l, h1, hk, h, he => by
    have h0 := h 0 (by omega)
    simp only [List.getD_cons_zero] at h0
    have ih := rows_err d e k xs ys l.tail (by simpa using h1) (by simpa using hk) (fun i hi => by
      have := h (i + 1) (by omega)
      cases l with
      | nil => simpa using this
      | cons z zs => simpa using this) (by simpa using he)
    rw [rowsO, h0]
    simp only [ih]

def mayP (k b c : Int) : Prop := 1 ≤ b ∧ b ≤ 257 ∧ ((k = 0 ∧ 2 ≤ c ∧ c ≤ 256) ∨ (k = 1 ∧ c = 0))
instance (k b c : Int) : Decidable (mayP k b c) := inferInstanceAs (Decidable (_ ∧ _))
def mayB (k b c : Int) : Bool := decide (mayP k b c)
def rightP (h : H) : Prop := mayP h.kind h.bins h.classes ∧
  ((h.kind = 0 ∧ (h.counts.length : Int) = h.bins * h.classes ∧ h.moms.length = 0) ∨ (¬ h.kind = 0 ∧ h.counts.length = 0 ∧ (h.moms.length : Int) = h.bins))
instance (h : H) : Decidable (rightP h) := inferInstanceAs (Decidable (_ ∧ _))
def rightB (h : H) : Bool := decide (rightP h)
def likeP (a b : H) : Prop := rightP a ∧ rightP b ∧ a.kind = b.kind ∧ a.bins = b.bins ∧ a.classes = b.classes
instance (a b : H) : Decidable (likeP a b) := inferInstanceAs (Decidable (_ ∧ _))
def bothO (op : Int → Int → Bool → Except Int Int) (a b : H) : Except Int H :=
  if likeP a b then
    match rowsO (fun x y => op x y false) a.counts b.counts with
    | .error e => .error e
    | .ok c => match rowsO (momO op) a.moms b.moms with
      | .error e => .error e
      | .ok m => .ok ⟨a.kind, a.bins, a.classes, c, m⟩
  else .error 8
/-- What comes behind an error, and the error's number. -/
def valO {α : Type} (d : α) : Except Int α → α
  | .ok x => x
  | .error _ => d
def errO {α : Type} : Except Int α → Int
  | .ok _ => 0
  | .error e => e
end Go.Proofs.Yteckbgpkoanhfaa.Hb

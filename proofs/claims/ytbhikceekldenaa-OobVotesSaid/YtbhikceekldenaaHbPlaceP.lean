/- The leaf to which a row comes: pure. -/
import Derived.Test.YtbhikceekldenaaHbDeepP
import Derived.Test.YtbhikceekldenaaHbNode
namespace Go.Proofs.Ytbhikceekldenaa.Hb
set_option linter.unusedVariables false
open Go.RowKit

def nd0 : Nd := ⟨0, 0, 0, 0, 0, 0⟩
def ndAt (t : List Nd) (at' : Int) : Nd := t.getD at'.toNat nd0
def nextAt (row : List Int) (n : Nd) : Int := if row.getD n.f.toNat 0 > n.b then IntKind.i64.wrap (n.l + 1) else n.l
def placeGo (t : List Nd) (row : List Int) : Nat → Int → Int
  | 0, _ => -1
  | k + 1, at' => if at' < 0 ∨ (t.length : Int) ≤ at' then -1 else if (ndAt t at').f = -1 then at' else if (ndAt t at').f < 0 ∨ (row.length : Int) ≤ (ndAt t at').f then -1 else placeGo t row k (nextAt row (ndAt t at'))
def placeO (t : List Nd) (row : List Int) : Int := placeGo t row t.length 0
theorem place_out {t : List Nd} {row : List Int} {k : Nat} {a : Int} (h : a < 0 ∨ (t.length : Int) ≤ a) : placeGo t row (k + 1) a = -1 := by rw [placeGo, if_pos h]
theorem place_leaf {t : List Nd} {row : List Int} {k : Nat} {a : Int} (h : ¬ (a < 0 ∨ (t.length : Int) ≤ a)) (h2 : (ndAt t a).f = -1) : placeGo t row (k + 1) a = a := by rw [placeGo, if_neg h, if_pos h2]
theorem place_off {t : List Nd} {row : List Int} {k : Nat} {a : Int} (h : ¬ (a < 0 ∨ (t.length : Int) ≤ a)) (h2 : ¬ (ndAt t a).f = -1) (h3 : (ndAt t a).f < 0 ∨ (row.length : Int) ≤ (ndAt t a).f) : placeGo t row (k + 1) a = -1 := by rw [placeGo, if_neg h, if_neg h2, if_pos h3]
theorem place_go {t : List Nd} {row : List Int} {k : Nat} {a : Int} (h : ¬ (a < 0 ∨ (t.length : Int) ≤ a)) (h2 : ¬ (ndAt t a).f = -1) (h3 : ¬ ((ndAt t a).f < 0 ∨ (row.length : Int) ≤ (ndAt t a).f)) : placeGo t row (k + 1) a = placeGo t row k (nextAt row (ndAt t a)) := by rw [placeGo, if_neg h, if_neg h2, if_neg h3]
/-- Is a tree right? -/
def maxO (l : List Int) : Int := l.foldl max 0
def rightT (cols bins kind classes : Int) (t : List Nd) : Bool := decide (mayS cols bins kind classes) && (!(depthsO t).isEmpty && (decide (maxO (depthsO t) ≤ 32) && t.all fun n => decide (oneP cols bins kind classes n)))
theorem rightT_is {cols bins kind classes : Int} {t : List Nd} (h : rightT cols bins kind classes t = true) :
    mayS cols bins kind classes ∧ t ≠ [] ∧ (∃ ds, depGo t.length t 0 [0] = some ds ∧ depthsO t = ds) ∧ maxO (depthsO t) ≤ 32 ∧ ∀ n ∈ t, oneP cols bins kind classes n := by
  unfold rightT at h
  simp only [Bool.and_eq_true, decide_eq_true_eq, List.all_eq_true, Bool.not_eq_true', List.isEmpty_eq_false_iff] at h
  obtain ⟨h1, h2, h3, h4⟩ := h
  have ht : t ≠ [] := fun e => h2 (by rw [e]; rfl)
  refine ⟨h1, ht, ?_, h3, h4⟩
  unfold depthsO at h2 ⊢
  rw [if_neg ht] at h2 ⊢
  cases hd : depGo t.length t 0 [0] with
  | none => rw [hd] at h2; exact absurd rfl h2
  | some ds => exact ⟨ds, rfl, rfl⟩
theorem oneP_f {cols bins kind classes : Int} {n : Nd} (h : oneP cols bins kind classes n) : -1 ≤ n.f := by
  unfold oneP at h
  split at h
  · omega
  · omega
theorem ndAt_get {t : List Nd} {a : Int} (h0 : 0 ≤ a) (h : a < t.length) : t[a.toNat]? = some (ndAt t a) := by
  unfold ndAt
  rw [List.getD_eq_getElem?_getD, List.getElem?_eq_getElem (by omega)]
  rfl
/-- A row of a right tree comes to a leaf. -/
theorem place_right {cols bins kind classes : Int} {t : List Nd} (h : rightT cols bins kind classes t = true) (hlen : t.length ≤ 9223372036854775807) (row : List Int) (hrow : cols ≤ row.length) :
    0 ≤ placeO t row ∧ placeO t row < t.length ∧ (ndAt t (placeO t row)).f = -1 := by
  obtain ⟨_, ht, ⟨ds, hd, _⟩, _, h4⟩ := rightT_is h
  obtain ⟨hk, _⟩ := dep_kids _ _ _ _ hd
  simp only [List.length_cons, List.length_nil, Nat.zero_add] at hk
  have key : ∀ (k : Nat) (a : Nat), a < t.length → t.length ≤ a + k → 0 ≤ placeGo t row k a ∧ placeGo t row k a < t.length ∧ (ndAt t (placeGo t row k a)).f = -1 := by
    intro k
    induction k with
    | zero => intro a h1 h2; omega
    | succ k ih =>
      intro a h1 h2
      have hn := ndAt_get (t := t) (a := (a : Int)) (by omega) (by omega)
      have ho := h4 _ (List.mem_of_getElem? hn)
      rw [Int.toNat_natCast] at hn
      by_cases hf : (ndAt t a).f = -1
      · rw [place_leaf (by omega) hf]
        exact ⟨by omega, by omega, hf⟩
      · have hb : ¬ ((ndAt t a).f < 0 ∨ (row.length : Int) ≤ (ndAt t a).f) := by
          unfold oneP at ho
          rw [if_neg hf] at ho
          omega
        rw [place_go (by omega) hf hb]
        obtain ⟨b1, b2, b3, _⟩ := hk a _ hn hf
        obtain ⟨L, hL⟩ : ∃ L : Nat, 1 + 2 * kidC t a = L := ⟨_, rfl⟩
        have e1 : (ndAt t a).l = (L : Int) := by omega
        unfold nextAt
        split
        · rename_i hgt
          have e3 : IntKind.i64.wrap ((ndAt t a).l + 1) = ((L + 1 : Nat) : Int) := by
            rw [e1, IntKind.wrap_i64]; omega
          rw [e3]
          exact ih (L + 1) (by omega) (by omega)
        · rw [e1]
          exact ih L (by omega) (by omega)
  have := key t.length 0 (by have := List.length_pos_iff.2 ht; omega) (by omega)
  exact this
end Go.Proofs.Ytbhikceekldenaa.Hb

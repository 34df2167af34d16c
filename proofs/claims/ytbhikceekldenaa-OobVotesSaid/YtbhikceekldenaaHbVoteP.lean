/- The vote of leaves: pure. -/
import Derived.Test.YtbhikceekldenaaHbPlaceP
import Derived.Test.YtbhikceekldenaaHbNum
namespace Go.Proofs.Ytbhikceekldenaa.Hb
set_option linter.unusedVariables false
open Go.RowKit

def cntC (l : List Nd) (c : Nat) : Nat := (l.filter fun n => decide (n.c = (c : Int))).length
/-- The first class that most told: going up. -/
def bestUp (f : Nat → Nat) : Nat → Nat
  | 0 => 0
  | k + 1 => if f (bestUp f k) < f k then k else bestUp f k
def IsBest (f : Nat → Nat) (N b : Nat) : Prop := b < N ∧ (∀ c, c < N → f c ≤ f b) ∧ ∀ c, c < b → f c < f b
theorem best_up (f : Nat → Nat) : ∀ k, 0 < k → IsBest f k (bestUp f k)
  | 0, h => absurd h (by omega)
  | 1, _ => by
    have e : bestUp f 1 = 0 := by simp [bestUp]
    rw [e]
    exact ⟨by omega, fun c hc => (show c = 0 by omega) ▸ Nat.le_refl _, fun c hc => absurd hc (Nat.not_lt_zero _)⟩
  | k + 2, _ => by
    obtain ⟨h1, h2, h3⟩ := best_up f (k + 1) (by omega)
    rw [bestUp]
    split
    · rename_i h
      refine ⟨by omega, fun c hc => ?_, fun c hc => ?_⟩
      · rcases Nat.lt_or_ge c (k + 1) with hc' | hc'
        · have := h2 c hc'; omega
        · have : c = k + 1 := by omega
          subst this; exact Nat.le_refl _
      · have := h2 c hc; omega
    · rename_i h
      refine ⟨by omega, fun c hc => ?_, h3⟩
      rcases Nat.lt_or_ge c (k + 1) with hc' | hc'
      · exact h2 c hc'
      · have : c = k + 1 := by omega
        subst this; omega
theorem best_one {f : Nat → Nat} {N a b : Nat} (h : IsBest f N a) (k : IsBest f N b) : a = b := by
  rcases Nat.lt_trichotomy a b with hl | hl | hl
  · have := k.2.2 a hl; have := h.2.1 b k.1; omega
  · exact hl
  · have := h.2.2 b hl; have := k.2.1 a h.1; omega
/-- Going down. -/
def bestDn (f : Nat → Nat) : Nat → Nat → Int → Nat
  | 0, b, _ => b
  | k + 1, b, m => if m ≤ (f k : Int) then bestDn f k k (f k) else bestDn f k b m
theorem best_dn (f : Nat → Nat) (N : Nat) : ∀ k b, k ≤ b → b < N → (∀ c, k ≤ c → c < N → f c ≤ f b) → (∀ c, k ≤ c → c < b → f c < f b) → IsBest f N (bestDn f k b (f b))
  | 0, b, _, hb, h1, h2 => ⟨hb, fun c hc => h1 c (by omega) hc, fun c hc => h2 c (by omega) hc⟩
  | k + 1, b, hk, hb, h1, h2 => by
    unfold bestDn
    split
    · rename_i h
      refine best_dn f N k k (Nat.le_refl _) (by omega) (fun c hc hc' => ?_) (fun c hc hc' => by omega)
      rcases Nat.eq_or_lt_of_le hc with rfl | hl
      · exact Nat.le_refl _
      · have := h1 c (by omega) hc'; omega
    · rename_i h
      refine best_dn f N k b (by omega) hb (fun c hc hc' => ?_) (fun c hc hc' => ?_)
      · rcases Nat.eq_or_lt_of_le hc with rfl | hl
        · omega
        · exact h1 c (by omega) hc'
      · rcases Nat.eq_or_lt_of_le hc with rfl | hl
        · omega
        · exact h2 c (by omega) hc'
theorem best_down (f : Nat → Nat) (N : Nat) (hN : 0 < N) : IsBest f N (bestDn f N 0 (-1)) := by
  obtain ⟨k, rfl⟩ : ∃ k, N = k + 1 := ⟨N - 1, by omega⟩
  unfold bestDn
  rw [if_pos (by omega)]
  exact best_dn f (k + 1) k k (Nat.le_refl _) (by omega) (fun c hc hc' => (show c = k by omega) ▸ Nat.le_refl _) (fun c hc hc' => absurd hc' (by omega))
def offC (classes : Int) (n : Nd) : Bool := decide (n.c < 0 ∨ classes ≤ n.c)
def classO (l : List Nd) (classes : Int) : Int × Int :=
  if l = [] ∨ classes < 1 ∨ 256 < classes then (0, 1) else if l.any (offC classes) then (0, 5) else ((bestUp (cntC l) 256 : Nat), 0)
theorem cnt_off {l : List Nd} {classes : Int} (h : l.any (offC classes) = false) {c : Nat} (hc : classes ≤ c) : cntC l c = 0 := by
  unfold cntC
  rw [List.length_eq_zero_iff, List.filter_eq_nil_iff]
  intro n hn
  have := (List.any_eq_false.1 h) n hn
  unfold offC at this
  simp at this ⊢
  omega
theorem best_both {l : List Nd} {classes : Int} (h0 : l ≠ []) (h1 : 1 ≤ classes) (h2 : classes ≤ 256) (h : l.any (offC classes) = false) : bestDn (cntC l) classes.toNat 0 (-1) = bestUp (cntC l) 256 ∧ bestUp (cntC l) 256 < classes.toNat := by
  have a := best_down (cntC l) classes.toNat (by omega)
  have b := best_up (cntC l) 256 (by omega)
  obtain ⟨x, xs, rfl⟩ : ∃ x xs, l = x :: xs := by cases l with | nil => exact absurd rfl h0 | cons x xs => exact ⟨x, xs, rfl⟩
  have hx := (List.any_eq_false.1 h) x (List.mem_cons_self ..)
  unfold offC at hx
  simp at hx
  have hpos : 0 < cntC (x :: xs) x.c.toNat := by
    unfold cntC
    rw [List.filter_cons, if_pos (by simp; omega)]
    simp
  have hb : bestUp (cntC (x :: xs)) 256 < classes.toNat := by
    rcases Nat.lt_or_ge (bestUp (cntC (x :: xs)) 256) classes.toNat with hl | hl
    · exact hl
    · have e := cnt_off h (c := bestUp (cntC (x :: xs)) 256) (by omega)
      have := b.2.1 x.c.toNat (by omega)
      omega
  exact ⟨best_one a ⟨hb, fun c hc => b.2.1 c (by omega), b.2.2⟩, hb⟩
def floorO (s c : Int) : Int × Int := if c < 1 then (0, 1) else (s / c, 0)
def meanGo : List Nd → Int → Int → Int × Int
  | [], c, s => floorO s c
  | n :: r, c, s => if n.k < 1 then (0, 5) else match lim (c + n.k) with
    | none => (0, 6)
    | some c' => match lim (s + n.s) with
      | none => (0, 6)
      | some s' => meanGo r c' s'
theorem mean_5 {n : Nd} {r : List Nd} {c s : Int} (h : n.k < 1) : meanGo (n :: r) c s = (0, 5) := by rw [meanGo, if_pos h]
theorem mean_6 {n : Nd} {r : List Nd} {c s : Int} (h : ¬ n.k < 1) (h1 : lim (c + n.k) = none) : meanGo (n :: r) c s = (0, 6) := by rw [meanGo, if_neg h, h1]
theorem mean_6' {n : Nd} {r : List Nd} {c s c' : Int} (h : ¬ n.k < 1) (h1 : lim (c + n.k) = some c') (h2 : lim (s + n.s) = none) : meanGo (n :: r) c s = (0, 6) := by rw [meanGo, if_neg h, h1]; simp only [h2]
theorem mean_go {n : Nd} {r : List Nd} {c s c' s' : Int} (h : ¬ n.k < 1) (h1 : lim (c + n.k) = some c') (h2 : lim (s + n.s) = some s') : meanGo (n :: r) c s = meanGo r c' s' := by rw [meanGo, if_neg h, h1]; simp only [h2]
def meanO (l : List Nd) : Int × Int := if l = [] then (0, 1) else meanGo l 0 0
def voteO (kind classes : Int) (l : List Nd) : Int × Int := if kind = 0 then classO l classes else if kind = 1 then meanO l else (0, 1)
theorem mean_within : ∀ (l : List Nd) (m : Nat) (c s : Int), (∀ n ∈ l, 1 ≤ n.k ∧ n.k ≤ 1048576 ∧ -(1048576 * n.k) ≤ n.s ∧ n.s ≤ 1048576 * n.k) → m + l.length ≤ 1048576 → 0 ≤ c → c ≤ 1048576 * m → -(1048576 * c) ≤ s → s ≤ 1048576 * c → (l ≠ [] ∨ 1 ≤ c) →
    ∃ v, meanGo l c s = (v, 0) ∧ -1048576 ≤ v ∧ v ≤ 1048576
  | [], m, c, s, _, hm, h0, h1, h2, h3, h4 => by
    have hc : 1 ≤ c := by rcases h4 with h | h
                          · exact absurd rfl h
                          · exact h
    refine ⟨s / c, ?_, ?_, ?_⟩
    · unfold meanGo floorO; rw [if_neg (by omega)]
    · exact (Int.le_ediv_iff_mul_le (by omega)).2 (by omega)
    · have : s / c < 1048577 := (Int.ediv_lt_iff_lt_mul (by omega)).2 (by omega)
      omega
  | n :: r, m, c, s, hl, hm, h0, h1, h2, h3, _ => by
    obtain ⟨a1, a2, a3, a4⟩ := hl n (List.mem_cons_self ..)
    simp only [List.length_cons] at hm
    have b1 : inR (c + n.k) := by unfold inR; omega
    have b2 : inR (s + n.s) := by unfold inR; omega
    rw [mean_go (by omega) (lim_in b1) (lim_in b2)]
    exact mean_within r (m + 1) _ _ (fun x hx => hl x (List.mem_cons_of_mem _ hx)) (by omega) (by omega) (by omega) (by omega) (by omega) (.inr (by omega))
/-- What right leaves vote. -/
theorem vote_right {cols bins kind classes : Int} (hm : mayS cols bins kind classes) {l : List Nd} (h0 : l ≠ []) (hlen : l.length ≤ 1048576) (hl : ∀ n ∈ l, oneP cols bins kind classes n ∧ n.f = -1) :
    ∃ v, voteO kind classes l = (v, 0) ∧ (kind = 0 → 0 ≤ v ∧ v < classes) ∧ (kind = 1 → -1048576 ≤ v ∧ v ≤ 1048576) := by
  unfold mayS at hm
  obtain ⟨_, _, _, _, hk | hk⟩ := hm
  · obtain ⟨rfl, hk1, hk2⟩ := hk
    have ha : l.any (offC classes) = false := by
      rw [List.any_eq_false]
      intro n hn
      obtain ⟨h1, h2⟩ := hl n hn
      unfold oneP at h1
      rw [if_pos h2, if_pos rfl] at h1
      unfold offC
      simp; omega
    have hb := (best_both h0 (by omega) hk2 ha).2
    refine ⟨((bestUp (cntC l) 256 : Nat) : Int), ?_, fun _ => ?_, fun h => absurd h (by omega)⟩
    · show (if (0 : Int) = 0 then classO l classes else _) = _
      rw [if_pos rfl]
      unfold classO
      rw [if_neg (by rintro (h | h | h); exact h0 h; omega; omega), ha, if_neg (by simp)]
    · omega
  · obtain ⟨rfl, _⟩ := hk
    obtain ⟨v, h1, h2⟩ := mean_within l 0 0 0 (fun n hn => by
      obtain ⟨h1, h2⟩ := hl n hn
      unfold oneP at h1
      rw [if_pos h2, if_neg (by omega)] at h1
      omega) (by omega) (by omega) (by omega) (by omega) (by omega) (.inl h0)
    refine ⟨v, ?_, fun h => absurd h (by omega), fun _ => h2⟩
    show (if (1 : Int) = 0 then classO l classes else if (1 : Int) = 1 then meanO l else _) = _
    rw [if_neg (by omega), if_pos rfl]
    unfold meanO
    rw [if_neg h0]
    exact h1
end Go.Proofs.Ytbhikceekldenaa.Hb

/- Unlike draws make unlike permutations: plain. -/
import Derived.Test.YtbhikceekldenaaHbDealQ
namespace Go.Proofs.Ytbhikceekldenaa.Hb
set_option linter.unusedVariables false

def foldP (n : Nat) : List Int → Nat → List Int → List Int
  | [], _, p => p
  | x :: xs, i, p => foldP n xs (i + 1) (stepPerm n p i x)
theorem swap_far {p : List Int} {i j t : Nat} (h1 : t ≠ i) (h2 : t ≠ j) : (swapL p i j).getD t 0 = p.getD t 0 := by
  unfold swapL
  rw [List.getD_eq_getElem?_getD, List.getElem?_set_ne (Ne.symm h2), List.getElem?_set_ne (Ne.symm h1), ← List.getD_eq_getElem?_getD]
theorem swap_at {p : List Int} {i j : Nat} (hi : i < p.length) : (swapL p i j).getD i 0 = p.getD j 0 := by
  unfold swapL
  by_cases h : i = j
  · subst h
    rw [List.getD_eq_getElem?_getD, List.getElem?_set_self (by rw [List.length_set]; exact hi)]
    rfl
  · rw [List.getD_eq_getElem?_getD, List.getElem?_set_ne (Ne.symm h), List.getElem?_set_self hi]
    rfl
/-- Draws below their bounds. -/
def okD (n : Nat) : List Int → Nat → Prop
  | [], _ => True
  | x :: xs, i => 0 ≤ x ∧ x + i < n ∧ okD n xs (i + 1)
theorem fold_far {n : Nat} : ∀ {xs : List Int} {i t : Nat} {p : List Int}, okD n xs i → n ≤ t + i → (foldP n xs i p).getD t 0 = p.getD t 0
  | [], i, t, p, _, _ => rfl
  | x :: xs, i, t, p, h, ht => by
    obtain ⟨h0, h1, h2⟩ := h
    rw [foldP, fold_far h2 (by omega), stepPerm, swap_far (by omega) (by omega)]
theorem fold_inj {n : Nat} : ∀ {xs ys : List Int} {i : Nat} {p : List Int}, xs.length = ys.length → okD n xs i → okD n ys i → p.length = n → p.Nodup → foldP n xs i p = foldP n ys i p → xs = ys
  | [], [], _, _, _, _, _, _, _, _ => rfl
  | x :: xs, y :: ys, i, p, hl, hx, hy, hp, hn, h => by
    obtain ⟨x0, x1, x2⟩ := hx
    obtain ⟨y0, y1, y2⟩ := hy
    have e1 : (foldP n (x :: xs) i p).getD (n - 1 - i) 0 = p.getD x.toNat 0 := by
      rw [foldP, fold_far x2 (by omega), stepPerm, swap_at (by omega)]
    have e2 : (foldP n (y :: ys) i p).getD (n - 1 - i) 0 = p.getD y.toNat 0 := by
      rw [foldP, fold_far y2 (by omega), stepPerm, swap_at (by omega)]
    rw [h, e2] at e1
    have hxl : x.toNat < p.length := by omega
    have hyl : y.toNat < p.length := by omega
    rw [List.getD_eq_getElem?_getD, List.getElem?_eq_getElem hyl, List.getD_eq_getElem?_getD, List.getElem?_eq_getElem hxl] at e1
    simp only [Option.getD_some] at e1
    have exy : x = y := by
      rcases Nat.lt_trichotomy x.toNat y.toNat with hlt | heq | hgt
      · exact absurd e1.symm (List.pairwise_iff_getElem.1 (List.nodup_iff_pairwise_ne.1 hn) _ _ hxl hyl hlt)
      · omega
      · exact absurd e1 (List.pairwise_iff_getElem.1 (List.nodup_iff_pairwise_ne.1 hn) _ _ hyl hxl hgt)
    subst exy
    rw [foldP, foldP] at h
    have hsw := swap_perm (p := p) (i := n - 1 - i) (j := x.toNat) (by omega) hxl
    rw [fold_inj (by simpa using hl) x2 y2 (by unfold stepPerm; rw [swap_len]; exact hp) (by unfold stepPerm; exact hsw.nodup_iff.2 hn) h]
theorem limD_ge (n : Int) (h : 0 < n) : 18446744073709551616 - n < limD n := by
  have := Int.emod_lt_of_pos 18446744073709551616 h
  unfold limD
  omega
/-- A draw that is below its bound serves as it is. -/
theorem draw_low {num : Nat → Int} {n : Int} {k : Nat} (h0 : 0 ≤ num k) (h1 : num k < n) (h2 : n ≤ 1048576) : drawO num n 64 k = (some (num k), k + 1) := by
  have := limD_ge n (by omega)
  rw [show 64 = 63 + 1 from rfl, draw_hit (by omega), Int.emod_eq_of_lt h0 h1]
theorem run_low {n : Nat} (hn : n ≤ 1048576) (L : List Int) : ∀ (t : Nat) (i : Nat) (p : List Int), i + t = n - 1 → okD n (L.drop i) i → L.length = n - 1 →
    runO (numL L) (stepPerm n) ((bndPerm n).drop i) i p i = (some (foldP n (L.drop i) i p), n - 1)
  | 0, i, p, hi, _, hL => by
    rw [List.drop_of_length_le (by rw [bndPerm_len]; omega), List.drop_of_length_le (by omega), run_nil]
    rw [show i = n - 1 by omega]; rfl
  | t + 1, i, p, hi, ho, hL => by
    have hiL : i < L.length := by omega
    have hb : i < n - 1 := by omega
    rw [drop_at' (l := bndPerm n) (by rw [bndPerm_len]; exact hb), bndPerm_get n i hb]
    rw [drop_at' hiL] at ho ⊢
    obtain ⟨h0, h1, h2⟩ := ho
    have hd : drawO (numL L) ((n - i : Nat) : Int) 64 i = (some (L.getD i 0), i + 1) := draw_low (num := numL L) h0 (by unfold numL; omega) (by omega)
    rw [run_some hd, foldP]
    exact run_low hn L t (i + 1) _ (by omega) h2 hL
theorem perm_low {n : Nat} (hn : n ≤ 1048576) (L : List Int) (ho : okD n L 0) (hL : L.length = n - 1) : runO (numL L) (stepPerm n) (bndPerm n) 0 (rowI n) 0 = (some (foldP n L 0 (rowI n)), n - 1) := by
  have := run_low hn L (n - 1) 0 (rowI n) (by omega) (by rw [List.drop_zero]; exact ho) hL
  rwa [List.drop_zero, List.drop_zero] at this
theorem perm_apart {n : Nat} (X Y : List Int) (hx : okD n X 0) (hy : okD n Y 0) (hlx : X.length = n - 1) (hly : Y.length = n - 1) : decide (foldP n X 0 (rowI n) = foldP n Y 0 (rowI n)) = decide (X = Y) :=
  decide_eq_decide.2 ⟨fold_inj (by omega) hx hy (rowI_len n) (rowI_nodup n), fun h => by rw [h]⟩
end Go.Proofs.Ytbhikceekldenaa.Hb

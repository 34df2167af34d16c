/- Plain laws on what is dealt: each number once, rising ones, sums. -/
import Derived.Test.YtbhikceekldenaaHbOpenU
namespace Go.Proofs.Ytbhikceekldenaa.Hb
set_option linter.unusedVariables false
open Go.RowKit

theorem swap_perm {p : List Int} {i j : Nat} (hi : i < p.length) (hj : j < p.length) : (swapL p i j).Perm p := by
  rw [List.perm_iff_count]
  intro z
  unfold swapL
  have ei : p.getD i 0 = p[i] := by rw [List.getD_eq_getElem?_getD, List.getElem?_eq_getElem hi]; rfl
  have ej : p.getD j 0 = p[j] := by rw [List.getD_eq_getElem?_getD, List.getElem?_eq_getElem hj]; rfl
  rw [ei, ej]
  have hj' : j < (p.set i p[j]).length := by rw [List.length_set]; exact hj
  have e1 : (p.set i p[j])[j] = p[j] := by
    rw [List.getElem_set]; split
    · rfl
    · rfl
  rw [List.count_set (h := hj'), e1, List.count_set (h := hi)]
  have h1 : (if p[i] == z then 1 else 0) ≤ List.count z p := by
    split
    · rename_i h
      have : p[i] = z := by simpa using h
      exact List.count_pos_iff.2 (this ▸ List.getElem_mem hi)
    · omega
  omega
theorem rowI_nodup (n : Nat) : (rowI n).Nodup := by
  unfold rowI
  rw [List.nodup_iff_pairwise_ne, List.pairwise_map]
  exact (List.nodup_iff_pairwise_ne.1 List.nodup_range).imp (fun h e => h (by omega))
theorem rowI_sorted (n : Nat) : (rowI n).Pairwise (· ≤ ·) := by
  unfold rowI
  rw [List.pairwise_map]
  exact (List.pairwise_lt_range).imp (fun h => by omega)
theorem rowI_mem (n : Nat) (x : Int) : x ∈ rowI n ↔ 0 ≤ x ∧ x < n := by
  simp only [rowI, List.mem_map, List.mem_range]
  constructor
  · rintro ⟨i, hi, rfl⟩; omega
  · intro h; exact ⟨x.toNat, by omega, by omega⟩
theorem draw_some_k {num : Nat → Int} {n : Int} : ∀ {f k : Nat} {x : Int} {k' : Nat}, drawO num n f k = (some x, k') → k < k'
  | 0, k, x, k', h => by cases h
  | f + 1, k, x, k', h => by
    by_cases hc : num k < limD n
    · rw [draw_hit hc] at h; cases h; omega
    · rw [draw_miss hc] at h
      have := draw_some_k h
      omega
theorem run_k {num : Nat → Int} {step : List Int → Nat → Int → List Int} : ∀ (ns : List Int) (i k : Nat) (p q : List Int) (k' : Nat), runO num step ns i p k = (some q, k') → k + ns.length ≤ k'
  | [], i, k, p, q, k', h => by rw [run_nil] at h; cases h; exact Nat.le_refl _
  | n :: ns, i, k, p, q, k', h => by
    rcases hd : drawO num n 64 k with ⟨_ | x, k1⟩
    · rw [run_none hd] at h; cases h
    · rw [run_some hd] at h
      have h1 := draw_some_k hd
      have h2 := run_k ns _ _ _ _ _ h
      simp only [List.length_cons]
      omega
theorem permR_perm {num : Nat → Int} {n k Rk : Nat} {q : List Int} (hn : n ≤ 1048576) (h : runO num (stepPerm n) (bndPerm n) 0 (rowI n) k = (some q, Rk)) : q.Perm (rowI n) := by
  have := run_inv (step := stepPerm n) (fun _ p => p.Perm (rowI n)) (bndPerm n) 0 k (rowI n) q Rk (fun j b r x hj h0 h1 hP => by
    have hjl := (List.getElem?_eq_some_iff.1 hj).1
    rw [bndPerm_len] at hjl
    have hb := bndPerm_get n j hjl
    rw [List.getD_eq_getElem?_getD, hj] at hb
    simp only [Option.getD_some] at hb
    have hlen : r.length = n := by rw [hP.length_eq, rowI_len]
    exact (swap_perm (by rw [hlen]; omega) (by rw [hlen]; omega)).trans hP) (fun z hz => (bndPerm_in n hn z hz).1) (List.Perm.refl _) h
  exact this
theorem chooseR_perm {num : Nat → Int} {n m k k' : Nat} {r : List Int} (hn : n ≤ 1048576) (hm : m ≤ n) (h : runO num stepChoose (bndChoose n m) 0 (rowI n) k = (some r, k')) : r.Perm (rowI n) := by
  have := run_inv (step := stepChoose) (fun _ p => p.Perm (rowI n)) (bndChoose n m) 0 k (rowI n) r k' (fun j b r x hj h0 h1 hP => by
    have hjl := (List.getElem?_eq_some_iff.1 hj).1
    rw [bndChoose_len] at hjl
    have hb := bndChoose_get n m j hjl
    rw [List.getD_eq_getElem?_getD, hj] at hb
    simp only [Option.getD_some] at hb
    have hlen : r.length = n := by rw [hP.length_eq, rowI_len]
    rw [Nat.zero_add]
    exact (swap_perm (by rw [hlen]; omega) (by rw [hlen]; omega)).trans hP) (fun z hz => (bndChoose_in n m hn hm z hz).1) (List.Perm.refl _) h
  exact this
theorem mapR_some {f : List Int → List Int} {R : Option (List Int) × Nat} {q : List Int} {k : Nat} (h : mapR f R = (some q, k)) : ∃ r, R = (some r, k) ∧ q = f r := by
  obtain ⟨_ | r, k'⟩ := R
  · cases h
  · simp only [mapR, Option.map_some, Prod.mk.injEq, Option.some.injEq] at h
    obtain ⟨rfl, rfl⟩ := h
    exact ⟨r, rfl, rfl⟩
theorem mapR_none {f : List Int → List Int} {R : Option (List Int) × Nat} {k : Nat} (h : mapR f R = (none, k)) : R = (none, k) := by
  obtain ⟨_ | r, k'⟩ := R
  · simp only [mapR, Option.map_none, Prod.mk.injEq, true_and] at h
    rw [h]
  · cases h
/-- All of n. -/
theorem choose_all {num : Nat → Int} {n k Rk : Nat} {q : List Int} (hn : n ≤ 1048576) (h : mapR (fun q => sortedO (q.take n)) (runO num stepChoose (bndChoose n n) 0 (rowI n) k) = (some q, Rk)) : q = rowI n ∧ k + n ≤ Rk := by
  obtain ⟨r, hr, rfl⟩ := mapR_some h
  have hp := chooseR_perm hn (Nat.le_refl n) hr
  have hk := run_k _ _ _ _ _ _ hr
  rw [bndChoose_len] at hk
  have hlen : r.length = n := by rw [hp.length_eq, rowI_len]
  refine ⟨?_, hk⟩
  rw [List.take_of_length_le (by omega)]
  exact sorted_one ((sorted_perm r).trans hp) (sorted_sorted r) (rowI_sorted n)
theorem choose_none {num : Nat → Int} {n k : Nat} : mapR (fun q => sortedO (q.take 0)) (runO num stepChoose (bndChoose n 0) 0 (rowI n) k) = (some [], k) := rfl
/-- k of n: rising, each below n. -/
theorem choose_up {num : Nat → Int} {n m k Rk : Nat} {q : List Int} (hn : n ≤ 1048576) (hm : m ≤ n) (h : mapR (fun q => sortedO (q.take m)) (runO num stepChoose (bndChoose n m) 0 (rowI n) k) = (some q, Rk)) :
    q.length = m ∧ (∀ x ∈ q, 0 ≤ x ∧ x < n) ∧ ∀ i, i + 1 < q.length → q.getD i 0 < q.getD (i + 1) 0 := by
  obtain ⟨r, hr, rfl⟩ := mapR_some h
  have hp := chooseR_perm hn hm hr
  have hlen : r.length = n := by rw [hp.length_eq, rowI_len]
  have hs := sorted_perm (r.take m)
  refine ⟨by rw [sorted_len, List.length_take]; omega, fun x hx => (rowI_mem n x).1 (hp.mem_iff.1 (List.mem_of_mem_take (hs.mem_iff.1 hx))), fun i hi => ?_⟩
  have hnd : (sortedO (r.take m)).Nodup := hs.nodup_iff.2 (((hp.nodup_iff.2 (rowI_nodup n))).sublist (List.take_sublist _ _))
  have h1 := List.pairwise_iff_getElem.1 (sorted_sorted (r.take m)) i (i + 1) (by omega) hi (by omega)
  have h2 := List.pairwise_iff_getElem.1 (List.nodup_iff_pairwise_ne.1 hnd) i (i + 1) (by omega) hi (by omega)
  rw [List.getD_eq_getElem?_getD, List.getElem?_eq_getElem (show i < _ by omega), List.getD_eq_getElem?_getD, List.getElem?_eq_getElem hi]
  simp only [Option.getD_some]
  omega
theorem sum_set {p : List Int} {i : Nat} {v : Int} (hi : i < p.length) : (p.set i v).sum = p.sum + v - p.getD i 0 := by
  induction p generalizing i with
  | nil => simp at hi
  | cons a p ih =>
    cases i with
    | zero => simp; omega
    | succ i =>
      have := ih (i := i) (by simpa using hi)
      simp only [List.set_cons_succ, List.sum_cons, List.getD_cons_succ]
      omega
/-- Weights: n together. -/
theorem deal_sum {num : Nat → Int} {n k Rk : Nat} {q : List Int} (hn : n ≤ 1048576) (h : runO num stepDeal (List.replicate n (n : Int)) 0 (List.replicate n 0) k = (some q, Rk)) :
    q.length = n ∧ (∀ x ∈ q, 0 ≤ x ∧ x ≤ n) ∧ q.sum = n := by
  have := run_inv (step := stepDeal) (fun i p => small p i ∧ p.length = n ∧ p.sum = i) (List.replicate n (n : Int)) 0 k (List.replicate n 0) q Rk (fun j b r x hj h0 h1 hP => by
    have hb := (List.mem_replicate.1 (List.mem_of_getElem? hj)).2
    refine ⟨small_step hP.1, by unfold stepDeal; rw [List.length_set]; exact hP.2.1, ?_⟩
    unfold stepDeal
    rw [sum_set (by rw [hP.2.1]; omega), hP.2.2]
    omega) (fun z hz => (rep_in n hn z hz).1) ⟨small_zero n, List.length_replicate, by simp⟩ h
  simp only [List.length_replicate, Nat.zero_add] at this
  refine ⟨this.2.1, fun x hx => ?_, this.2.2⟩
  obtain ⟨i, hi, rfl⟩ := List.getElem_of_mem hx
  have h2 := this.1 i
  rw [List.getD_eq_getElem?_getD, List.getElem?_eq_getElem hi] at h2
  simpa using h2
end Go.Proofs.Ytbhikceekldenaa.Hb

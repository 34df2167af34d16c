/- A row, sorted by insertion: plain functions. -/
import Derived.Test.YtbhikceekldenaaHbDealP
namespace Go.Proofs.Ytbhikceekldenaa.Hb
set_option linter.unusedVariables false

/-- Where a number is put in, from a place downward. -/
def insK (out : List Int) (x : Int) : Nat → Nat
  | 0 => 0
  | k + 1 => if x < out.getD k 0 then insK out x k else k + 1
def insO (out : List Int) (x : Int) : List Int := out.take (insK out x out.length) ++ [x] ++ out.drop (insK out x out.length)
def sortedO (l : List Int) : List Int := l.foldl insO []
theorem insK_le (out : List Int) (x : Int) : ∀ k, insK out x k ≤ k
  | 0 => Nat.le_refl _
  | k + 1 => by
    rw [insK]; split
    · exact Nat.le_succ_of_le (insK_le out x k)
    · exact Nat.le_refl _
theorem insO_len (out : List Int) (x : Int) : (insO out x).length = out.length + 1 := by
  have := insK_le out x out.length
  simp [insO]; omega
theorem sorted_snoc (l : List Int) (x : Int) : sortedO (l ++ [x]) = insO (sortedO l) x := by simp [sortedO]
theorem foldl_len : ∀ (l a : List Int), (l.foldl insO a).length = a.length + l.length
  | [], a => rfl
  | x :: l, a => by rw [List.foldl_cons, foldl_len l, insO_len, List.length_cons]; omega
theorem sorted_len (l : List Int) : (sortedO l).length = l.length := by rw [sortedO, foldl_len]; simp
theorem insO_perm (out : List Int) (x : Int) : (insO out x).Perm (x :: out) := by
  unfold insO
  have h := List.take_append_drop (insK out x out.length) out
  have : (List.take (insK out x out.length) out ++ [x] ++ List.drop (insK out x out.length) out).Perm (x :: (List.take (insK out x out.length) out ++ List.drop (insK out x out.length) out)) := by
    rw [List.append_assoc]; exact List.perm_middle
  rwa [h] at this
theorem foldl_perm : ∀ (l a : List Int), (l.foldl insO a).Perm (l ++ a)
  | [], a => List.Perm.refl _
  | x :: l, a => by
    rw [List.foldl_cons]
    refine (foldl_perm l _).trans ?_
    exact ((insO_perm a x).append_left l).trans (by rw [List.cons_append]; exact List.perm_middle)
theorem sorted_perm (l : List Int) : (sortedO l).Perm l := by have := foldl_perm l []; rwa [List.append_nil] at this
theorem insK_low (out : List Int) (x : Int) : ∀ k, insK out x k = 0 ∨ out.getD (insK out x k - 1) 0 ≤ x
  | 0 => .inl rfl
  | k + 1 => by
    rw [insK]; split
    · exact insK_low out x k
    · right; rw [Nat.add_sub_cancel]; omega
theorem insK_high (out : List Int) (x : Int) : ∀ k j, insK out x k ≤ j → j < k → x < out.getD j 0
  | 0, j, _, h => by omega
  | k + 1, j, h1, h2 => by
    rw [insK] at h1; split at h1
    · by_cases hj : j = k
      · subst hj; assumption
      · exact insK_high out x k j h1 (by omega)
    · omega
theorem insO_sorted {out : List Int} {x : Int} (h : out.Pairwise (· ≤ ·)) : (insO out x).Pairwise (· ≤ ·) := by
  have hk := insK_le out x out.length
  have hl := insK_low out x out.length
  have hh := insK_high out x out.length
  unfold insO
  obtain ⟨k, e⟩ : ∃ k, insK out x out.length = k := ⟨_, rfl⟩
  rw [e] at hk hl hh ⊢
  have hg := List.pairwise_iff_getElem.1 h
  have h1 : ∀ y ∈ out.take k, y ≤ x := by
    intro y hy
    obtain ⟨i, hi, rfl⟩ := List.getElem_of_mem hy
    rw [List.getElem_take]
    have hi' : i < k := by simp at hi; omega
    rcases hl with h0 | h0
    · omega
    · have hb : k - 1 < out.length := by omega
      rw [List.getD_eq_getElem?_getD, List.getElem?_eq_getElem hb] at h0
      simp only [Option.getD_some] at h0
      rcases Nat.lt_or_ge i (k - 1) with hlt | hge
      · exact Int.le_trans (hg i (k - 1) (by omega) hb hlt) h0
      · have : i = k - 1 := by omega
        subst this
        exact h0
  have h2 : ∀ y ∈ out.drop k, x ≤ y := by
    intro y hy
    obtain ⟨i, hi, rfl⟩ := List.getElem_of_mem hy
    rw [List.getElem_drop]
    have hi' : k + i < out.length := by simp at hi; omega
    have := hh (k + i) (by omega) hi'
    rw [List.getD_eq_getElem?_getD, List.getElem?_eq_getElem hi'] at this
    simp only [Option.getD_some] at this
    omega
  rw [List.append_assoc, List.pairwise_append]
  refine ⟨h.sublist (List.take_sublist _ _), ?_, ?_⟩
  · rw [List.singleton_append, List.pairwise_cons]
    exact ⟨h2, h.sublist (List.drop_sublist _ _)⟩
  · intro a ha b hb
    rw [List.singleton_append, List.mem_cons] at hb
    rcases hb with rfl | hb
    · exact h1 a ha
    · exact Int.le_trans (h1 a ha) (h2 b hb)
theorem foldl_sorted : ∀ (l a : List Int), a.Pairwise (· ≤ ·) → (l.foldl insO a).Pairwise (· ≤ ·)
  | [], a, h => h
  | x :: l, a, h => foldl_sorted l _ (insO_sorted h)
theorem sorted_sorted (l : List Int) : (sortedO l).Pairwise (· ≤ ·) := foldl_sorted l [] List.Pairwise.nil
/-- Only one row is sorted and of the same numbers. -/
theorem sorted_one {a b : List Int} (h : a.Perm b) (ha : a.Pairwise (· ≤ ·)) (hb : b.Pairwise (· ≤ ·)) : a = b :=
  h.eq_of_pairwise (fun x y _ _ h1 h2 => Int.le_antisymm h1 h2) ha hb
end Go.Proofs.Ytbhikceekldenaa.Hb

/- What is dealt is within; how a list of numbers is read. -/
import Derived.Test.YtbhikceekldenaaHbFix03
import Derived.Test.YtbhikceekldenaaHbOpen
namespace Go.Proofs.Ytbhikceekldenaa.Hb
set_option linter.unusedVariables false
open Go.RowKit Go.ChangeShapes Go.WideShapes Go.Deep

theorem swap_all {p : List Int} {i j : Nat} {M : Int} (h : ∀ x ∈ p, 0 ≤ x ∧ x ≤ M) (hM : 0 ≤ M) : ∀ x ∈ swapL p i j, 0 ≤ x ∧ x ≤ M := by
  intro x hx
  rcases mem_swap hx with h1 | rfl
  · exact h x h1
  · exact ⟨Int.le_refl _, hM⟩
theorem rowI_all (n : Nat) (hn : n ≤ 1048576) : ∀ x ∈ rowI n, 0 ≤ x ∧ x ≤ 1048576 := by
  intro z hz
  simp only [rowI, List.mem_map, List.mem_range] at hz
  obtain ⟨i, hi, rfl⟩ := hz
  omega
theorem in_of {q : List Int} (h : ∀ x ∈ q, 0 ≤ x ∧ x ≤ 1048576) : ∀ x ∈ q, inR x := fun x hx => by have := h x hx; unfold inR; omega
theorem permR_in {num : Nat → Int} {n k : Nat} {q : List Int} {Rk : Nat} (hn : n ≤ 1048576) (h : runO num (stepPerm n) (bndPerm n) 0 (rowI n) k = (some q, Rk)) : (∀ x ∈ q, inR x) ∧ q.length ≤ 1048576 := by
  have := run_inv (step := stepPerm n) (fun _ p => (∀ x ∈ p, 0 ≤ x ∧ x ≤ 1048576) ∧ p.length = n) (bndPerm n) 0 k (rowI n) q Rk (fun _ _ r _ _ _ _ hP => ⟨swap_all hP.1 (by omega), by unfold stepPerm; rw [swap_len]; exact hP.2⟩) (fun z hz => (bndPerm_in n hn z hz).1) ⟨rowI_all n hn, rowI_len n⟩ h
  exact ⟨in_of this.1, by omega⟩
theorem chooseR_in {num : Nat → Int} {n m k : Nat} {q : List Int} {Rk : Nat} (hn : n ≤ 1048576) (hm : m ≤ n) (h : mapR (fun q => sortedO (q.take m)) (runO num stepChoose (bndChoose n m) 0 (rowI n) k) = (some q, Rk)) : (∀ x ∈ q, inR x) ∧ q.length ≤ 1048576 := by
  rcases hr : runO num stepChoose (bndChoose n m) 0 (rowI n) k with ⟨_ | r, k'⟩
  · rw [hr] at h; cases h
  · rw [hr] at h
    simp only [mapR, Option.map_some, Prod.mk.injEq, Option.some.injEq] at h
    obtain ⟨rfl, rfl⟩ := h
    have := run_inv (step := stepChoose) (fun _ p => (∀ x ∈ p, 0 ≤ x ∧ x ≤ 1048576) ∧ p.length = n) (bndChoose n m) 0 k (rowI n) r k' (fun _ _ r _ _ _ _ hP => ⟨swap_all hP.1 (by omega), by unfold stepChoose; rw [swap_len]; exact hP.2⟩) (fun z hz => (bndChoose_in n m hn hm z hz).1) ⟨rowI_all n hn, rowI_len n⟩ hr
    refine ⟨in_of (fun x hx => this.1 x (List.mem_of_mem_take ((sorted_perm _).mem_iff.1 hx))), ?_⟩
    rw [sorted_len, List.length_take]
    omega
theorem dealR_in {num : Nat → Int} {n k : Nat} {q : List Int} {Rk : Nat} (hn : n ≤ 1048576) (h : runO num stepDeal (List.replicate n (n : Int)) 0 (List.replicate n 0) k = (some q, Rk)) : (∀ x ∈ q, inR x) ∧ q.length ≤ 1048576 := by
  have := run_inv (step := stepDeal) (fun i p => small p i ∧ p.length = n) (List.replicate n (n : Int)) 0 k (List.replicate n 0) q Rk (fun _ _ r _ _ _ _ hP => ⟨small_step hP.1, by unfold stepDeal; rw [List.length_set]; exact hP.2⟩) (fun z hz => (rep_in n hn z hz).1) ⟨small_zero n, List.length_replicate⟩ h
  refine ⟨in_of (fun x hx => ?_), by omega⟩
  obtain ⟨i, hi, rfl⟩ := List.getElem_of_mem hx
  have h2 := this.1 i
  rw [List.getD_eq_getElem?_getD, List.getElem?_eq_getElem hi] at h2
  simp only [Option.getD_some, List.length_replicate] at h2
  omega
set_option maxRecDepth 100000 in
theorem read_u64s {T : Type} {enc : TypeId × Value → T} {W : World} {base : Nat} {sp : Nat → Bool} {held : Bool} {r : Reach} {b0 : Nat} {v : Value} {d : DataW T} {p : List MemPlace} (hv : Value.okWide Try.prog W r b0 58 v) (h : DataW.Trod enc Try.prog W base sp held 58 v d p) :
    ∃ (A : Option Addr) (l : List Int) (cap : Nat), v = .slice A l.length cap ∧ RdU W A l ∧ l.length ≤ 9223372036854775807 := by
  obtain ⟨l, A, cap, e, h1, h2, h3⟩ := open_row Try.underlying58 hv h (rds_slice (R := fun y c => c = [.int .u64 y] ∧ 0 ≤ y ∧ y ≤ 18446744073709551615) 1 Try.underlying58 (by kernel_rfl) (rds_int 0 18446744073709551615 Try.underlying72 rfl rfl))
  simp only [List.cons.injEq, and_true] at e
  exact ⟨A, l, cap, e, h3.ints, Nat.le_trans h1 h2⟩
end Go.Proofs.Ytbhikceekldenaa.Hb

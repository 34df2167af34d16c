/- Plain laws on how n things are cut into p parts. No Go. -/
import Derived.WalkKit
namespace Go.Proofs.Yteckbgpkoanhfaa.Hb

/-- Where part i begins. -/
def fromAt (n p : Int) (i : Nat) : Int := (i : Int) * (n / p) + min (i : Int) (n % p)
/-- The parts up to the k-th. -/
def upto (n p : Int) (k : Nat) : List (Int × Int) := (List.range k).map fun i => (fromAt n p i, fromAt n p (i + 1))

theorem fromAt_zero (n p : Int) (hp : 0 < p) : fromAt n p 0 = 0 := by
  have := Int.emod_nonneg n (show p ≠ 0 by omega)
  unfold fromAt; simp; omega
theorem fromAt_succ_lt (n p : Int) (i : Nat) (h : (i : Int) < n % p) : fromAt n p (i + 1) = fromAt n p i + n / p + 1 := by
  unfold fromAt
  have e : ((i + 1 : Nat) : Int) * (n / p) = (i : Int) * (n / p) + n / p := by rw [Int.natCast_add, Int.add_mul]; simp
  rw [e]; omega
theorem fromAt_succ_ge (n p : Int) (i : Nat) (h : n % p ≤ (i : Int)) : fromAt n p (i + 1) = fromAt n p i + n / p := by
  unfold fromAt
  have e : ((i + 1 : Nat) : Int) * (n / p) = (i : Int) * (n / p) + n / p := by rw [Int.natCast_add, Int.add_mul]; simp
  rw [e]; omega
theorem fromAt_top (n p : Int) (hp : 0 < p) (i : Nat) (hi : (i : Int) = p) : fromAt n p i = n := by
  have h1 := Int.emod_lt_of_pos n hp
  have h2 := Int.mul_ediv_add_emod n p
  unfold fromAt; rw [hi]; omega
theorem fromAt_nonneg (n p : Int) (hn : 0 ≤ n) (hp : 0 < p) (i : Nat) : 0 ≤ fromAt n p i := by
  have h1 := Int.emod_nonneg n (show p ≠ 0 by omega)
  have h3 : 0 ≤ n / p := Int.ediv_nonneg hn (by omega)
  have h4 : 0 ≤ (i : Int) * (n / p) := Int.mul_nonneg (by omega) h3
  unfold fromAt; omega
theorem fromAt_le (n p : Int) (hn : 0 ≤ n) (hp : 0 < p) (i : Nat) (hi : (i : Int) ≤ p) : fromAt n p i ≤ n := by
  have h1 := Int.emod_nonneg n (show p ≠ 0 by omega)
  have h2 := Int.mul_ediv_add_emod n p
  have h3 : 0 ≤ n / p := Int.ediv_nonneg hn (by omega)
  have h4 : (i : Int) * (n / p) ≤ p * (n / p) := Int.mul_le_mul_of_nonneg_right hi h3
  unfold fromAt; omega
theorem div_le (n p : Int) (hn : 0 ≤ n) (hp : 0 < p) : 0 ≤ n / p ∧ n / p ≤ n :=
  ⟨Int.ediv_nonneg hn (by omega), Int.ediv_le_self p hn⟩
theorem upto_succ (n p : Int) (k : Nat) : upto n p (k + 1) = upto n p k ++ [(fromAt n p k, fromAt n p (k + 1))] := by
  unfold upto; rw [List.range_succ, List.map_append]; rfl
theorem upto_length (n p : Int) (k : Nat) : (upto n p k).length = k := by simp [upto]
theorem upto_prefix (n p : Int) (k m : Nat) (h : k ≤ m) : upto n p k <+: upto n p m := by
  obtain ⟨d, rfl⟩ := Nat.exists_eq_add_of_le h
  unfold upto; rw [List.range_add, List.map_append]; exact List.prefix_append _ _
end Go.Proofs.Yteckbgpkoanhfaa.Hb

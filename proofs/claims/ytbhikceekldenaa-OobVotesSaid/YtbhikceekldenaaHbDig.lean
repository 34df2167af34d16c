/- Digits of 65536, the lowest first. No Go. -/
import Derived.WalkKit
namespace Go.Proofs.Ytbhikceekldenaa.Hb

/-- What the first n digits come to. -/
def val (D : Nat → Nat) : Nat → Nat
  | 0 => 0
  | n + 1 => val D n + D n * 65536 ^ n
theorem val_congr {D E : Nat → Nat} : ∀ n, (∀ j, j < n → D j = E j) → val D n = val E n
  | 0, _ => rfl
  | n + 1, h => by rw [val, val, val_congr n (fun j hj => h j (by omega)), h n (by omega)]
theorem val_put (D : Nat → Nat) (k v : Nat) : ∀ n, k < n → val (fun j => if j = k then v else D j) n + D k * 65536 ^ k = val D n + v * 65536 ^ k
  | 0, h => by omega
  | n + 1, h => by
    by_cases e : k = n
    · subst e
      have : val (fun j => if j = k then v else D j) k = val D k := val_congr k (fun j hj => by rw [if_neg (by omega)])
      simp only [val, if_true, this]; omega
    · have := val_put D k v n (by omega)
      simp only [val, if_neg (show ¬ n = k by omega)]; omega
theorem val_lt (D : Nat → Nat) (h : ∀ j, D j < 65536) : ∀ n, val D n < 65536 ^ n
  | 0 => by simp [val]
  | n + 1 => by
    have h1 := val_lt D h n
    have h2 : D n * 65536 ^ n ≤ 65535 * 65536 ^ n := Nat.mul_le_mul_right _ (by have := h n; omega)
    rw [val, Nat.pow_succ]; omega
theorem val_le_more (D : Nat → Nat) (n : Nat) : ∀ m, n ≤ m → val D n ≤ val D m
  | 0, h => by obtain rfl : n = 0 := by omega
               exact Nat.le_refl _
  | m + 1, h => by
    by_cases e : n = m + 1
    · subst e; exact Nat.le_refl _
    · have := val_le_more D n m (by omega); rw [val]; omega
theorem val_zeros (D : Nat → Nat) (n : Nat) : ∀ m, n ≤ m → (∀ j, n ≤ j → j < m → D j = 0) → val D m = val D n
  | 0, h, _ => by obtain rfl : n = 0 := by omega
                  rfl
  | m + 1, h, hz => by
    by_cases e : n = m + 1
    · subst e; rfl
    · rw [val, val_zeros D n m (by omega) (fun j h1 h2 => hz j h1 (by omega)), hz m (by omega) (by omega)]; simp
theorem val_big (D : Nat → Nat) (n j : Nat) (h1 : j < n) (h2 : D j ≠ 0) : 65536 ^ j ≤ val D n := by
  have h3 := val_le_more D (j + 1) n h1
  have h4 : 1 * 65536 ^ j ≤ D j * 65536 ^ j := Nat.mul_le_mul_right _ (by omega)
  rw [val] at h3; omega
theorem carry_step (n P : Nat) : n % 65536 * P + n / 65536 * (P * 65536) = n * P := by
  have h := Nat.mod_add_div n 65536
  calc n % 65536 * P + n / 65536 * (P * 65536) = (n % 65536 + 65536 * (n / 65536)) * P := by rw [Nat.add_mul, Nat.mul_comm P 65536, ← Nat.mul_assoc, Nat.mul_comm (n / 65536) 65536]
    _ = n * P := by rw [h]
/-- Four digits of a number. -/
def dig (n : Nat) (j : Nat) : Nat := if j = 0 then n % 65536 else if j = 1 then n / 65536 % 65536 else if j = 2 then n / 4294967296 % 65536 else if j = 3 then n / 281474976710656 else 0
theorem dig_lt (n : Nat) (h : n < 18446744073709551616) (j : Nat) : dig n j < 65536 := by unfold dig; (repeat' split) <;> omega
theorem dig_val (n : Nat) : val (dig n) 4 = n := by simp only [val, dig]; simp; omega
theorem val4 (D : Nat → Nat) : val D 4 = D 0 + D 1 * 65536 + D 2 * 4294967296 + D 3 * 281474976710656 := by simp [val]
/-- The step of a sum. -/
theorem sum_step (E D1 D2 : Nat → Nat) (k c : Nat) (h : val E k + c * 65536 ^ k = val D1 k + val D2 k) :
    val (fun j => if j = k then (D1 k + D2 k + c) % 65536 else E j) (k + 1) + (D1 k + D2 k + c) / 65536 * 65536 ^ (k + 1) = val D1 (k + 1) + val D2 (k + 1) := by
  have e1 : val (fun j => if j = k then (D1 k + D2 k + c) % 65536 else E j) k = val E k := val_congr k (fun j hj => by rw [if_neg (by omega)])
  have e2 := carry_step (D1 k + D2 k + c) (65536 ^ k)
  rw [Nat.add_mul, Nat.add_mul] at e2
  simp only [val, if_true, e1, Nat.pow_succ]
  omega
/-- The steps of a product: a digit; a row's end. -/
theorem prod_step (O D2 : Nat → Nat) (i k a c X : Nat) (hk : i + k < 8) (h : val O 8 + c * 65536 ^ (i + k) = X + a * 65536 ^ i * val D2 k) :
    val (fun j => if j = i + k then (O (i + k) + a * D2 k + c) % 65536 else O j) 8 + (O (i + k) + a * D2 k + c) / 65536 * 65536 ^ (i + (k + 1)) = X + a * 65536 ^ i * val D2 (k + 1) := by
  have e1 := val_put O (i + k) ((O (i + k) + a * D2 k + c) % 65536) 8 hk
  have e2 := carry_step (O (i + k) + a * D2 k + c) (65536 ^ (i + k))
  rw [Nat.add_mul, Nat.add_mul] at e2
  have e3 : a * 65536 ^ i * val D2 (k + 1) = a * 65536 ^ i * val D2 k + a * D2 k * 65536 ^ (i + k) := by
    rw [val, Nat.mul_add, Nat.pow_add]; congr 1
    rw [Nat.mul_assoc, Nat.mul_assoc, Nat.mul_left_comm (65536 ^ i)]
  have e4 : 65536 ^ (i + (k + 1)) = 65536 ^ (i + k) * 65536 := by rw [← Nat.add_assoc, Nat.pow_succ]
  rw [e3, e4]
  omega
theorem prod_end (O D1 D2 : Nat → Nat) (i c : Nat) (hi : i + 4 < 8) (h0 : O (i + 4) = 0) (h : val O 8 + c * 65536 ^ (i + 4) = val D1 i * val D2 4 + D1 i * 65536 ^ i * val D2 4) :
    val (fun j => if j = i + 4 then c else O j) 8 = val D1 (i + 1) * val D2 4 := by
  have e1 := val_put O (i + 4) c 8 hi
  rw [h0] at e1
  rw [show val D1 (i + 1) = val D1 i + D1 i * 65536 ^ i from rfl, Nat.add_mul]
  omega
theorem prod_fits (o a b c : Nat) (ho : o < 65536) (ha : a < 65536) (hb : b < 65536) (hc : c < 65536) : a * b ≤ 4294836225 ∧ (o + a * b + c) / 65536 < 65536 := by
  have : a * b ≤ 65535 * 65535 := Nat.mul_le_mul (by omega) (by omega)
  exact ⟨by omega, by omega⟩
end Go.Proofs.Ytbhikceekldenaa.Hb

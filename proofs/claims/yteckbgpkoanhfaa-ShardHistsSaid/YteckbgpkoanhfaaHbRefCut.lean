/- The walk of the reference's Cut. -/
import Derived.Test.YteckbgpkoanhfaaHbBase
import Derived.Test.YteckbgpkoanhfaaHbCut
namespace Go.Proofs.Yteckbgpkoanhfaa.Hb
open Go.RowKit

theorem mod_alt (n p : Int) : n - n / p * p = n % p := by have := Int.mul_ediv_add_emod n p; rw [Int.mul_comm] at this; omega

set_option maxRecDepth 100000 in
set_option maxHeartbeats 1000000 in
theorem rcut_yes (n p : Int) (hn : 0 ≤ n) (hn2 : n ≤ 9223372036854775807) (hp : 1 ≤ p) (hp2 : p ≤ 64) (w : World) :
    Calls Try.prog 14 #[.int .i64 n, .int .i64 p] w (Spans n p w) := by
  obtain ⟨i0, hi, hz0, hz1, hz2⟩ := info_parts info_span
  have h1 : decide (n < 0) = false := decide_eq_false (by omega)
  have h2 : decide (p < 1) = false := decide_eq_false (by omega)
  have h3 : decide (64 < p) = false := decide_eq_false (by omega)
  have hpz : (p == 0) = false := beq_eq_false_iff_ne.2 (by omega)
  have hma := mod_alt n p
  have hm0 := Int.emod_nonneg n (show p ≠ 0 by omega)
  have hm1 := Int.emod_lt_of_pos n (show 0 < p by omega)
  have b1 : 0 ≤ n / p * p := Int.mul_nonneg (Int.ediv_nonneg hn (by omega)) (by omega)
  have b2 : n / p * p ≤ n := by omega
  have HM := Lib.hid hma
  clear hma hm0 hm1
  go_enter Try.func14, Try.ntmps14
  go_wp2
  go_loopw [5, 6, 7] (fun o f c wr => ∃ k : Nat, k ≤ p.toNat ∧ f = .int .i64 (fromAt n p k) ∧ c = .int .i64 k ∧ wr.ownsRow w.heap.size 25 2 o k (spanCells (upto n p k)) ∧ Below w.heap.size w wr) (fun _ _ c _ => p.toNat - (intOf c).toNat)
  case atStart => exact ⟨0, Nat.zero_le _, by rw [fromAt_zero n p (by omega)], rfl, World.ownsRow_made w #[] 0 (Nat.le_refl _) (by unfold maxLen; omega) rfl, (Below.refl _ _).alloc (Nat.le_refl _) _⟩
  case round =>
    obtain ⟨k, hk, rfl, rfl, hrow, hB⟩ := hrel
    have hBs := hB.size
    by_cases hlt : (k : Int) < p
    · have d1 := div_le n p hn (by omega)
      have f1 := fromAt_nonneg n p hn (by omega) k
      have f2 := fromAt_le n p hn (by omega) (k + 1) (by omega)
      have f3 := fromAt_nonneg n p hn (by omega) (k + 1)
      have hk2 : k + 1 ≤ p.toNat := by omega
      by_cases hm' : (k : Int) < n % p
      · have hs := fromAt_succ_lt n p k hm'
        have f4 : fromAt n p k + n / p + 1 ≤ 9223372036854775807 := by omega
        have f5 : fromAt n p k + (n / p + 1) ≤ 9223372036854775807 := by omega
        have f6 : n / p + 1 ≤ 9223372036854775807 := by omega
        have t1 : decide ((k : Int) < n - n / p * p) = true := decide_eq_true (by rw [HM.out]; exact hm')
        have HS := Lib.hid (show fromAt n p (k + 1) = fromAt n p k + (n / p + 1) by omega)
        clear hs f2 f3 hm'
        go_wp2_with (at_builtin; refine wpList_append_own _ rfl _ _ 22 rfl w.heap.size 25 i0 (.agg #[(.int .i64 0), (.int .i64 0)]) 2 16 Try.underlying22 hi hz0 hz1 hz2 rfl (by decide) _ _ _ rfl (hrow.alloc _) ⟨wr.heap.size, 0, none⟩ 1 1 [.int .i64 (fromAt n p k), .int .i64 (fromAt n p k + (n / p + 1))] rfl rfl (cell_two_new _ _ _ _) (by simp [Value.oneCell']) (by unfold maxLen; omega) (by omega) (by simp; omega) ?_; intro v' w1 hown' hgrow _)
        go_roundw
        case rel => exact ⟨k + 1, hk2, by rw [HS.out], by go_num, by rw [upto_succ, spanCells_snoc, HS.out]; exact hown', (hB.alloc hBs _).grown hgrow (by simp; omega) (fun j e => (hrow.lt j e).1)⟩
        case measure => simp [intOf]; omega
      · have hs := fromAt_succ_ge n p k (by omega)
        have f5 : fromAt n p k + n / p ≤ 9223372036854775807 := by omega
        have t1 : decide ((k : Int) < n - n / p * p) = false := decide_eq_false (by rw [HM.out]; exact hm')
        have HS := Lib.hid hs
        clear hs f2 f3 hm'
        go_wp2_with (at_builtin; refine wpList_append_own _ rfl _ _ 22 rfl w.heap.size 25 i0 (.agg #[(.int .i64 0), (.int .i64 0)]) 2 16 Try.underlying22 hi hz0 hz1 hz2 rfl (by decide) _ _ _ rfl (hrow.alloc _) ⟨wr.heap.size, 0, none⟩ 1 1 [.int .i64 (fromAt n p k), .int .i64 (fromAt n p k + n / p)] rfl rfl (cell_two_new _ _ _ _) (by simp [Value.oneCell']) (by unfold maxLen; omega) (by omega) (by simp; omega) ?_; intro v' w1 hown' hgrow _)
        go_roundw
        case rel => exact ⟨k + 1, hk2, by rw [HS.out], by go_num, by rw [upto_succ, spanCells_snoc, HS.out]; exact hown', (hB.alloc hBs _).grown hgrow (by simp; omega) (fun j e => (hrow.lt j e).1)⟩
        case measure => simp [intOf]; omega
    · obtain rfl : k = p.toNat := by omega
      go_wp2
      go_ret
      exact ⟨_, rfl, hrow, hB⟩

theorem rcut_no (n p : Int) (h : n < 0 ∨ p < 1 ∨ 64 < p) (w : World) :
    Calls Try.prog 14 #[.int .i64 n, .int .i64 p] w fun e w' => (∃ a c, e = .returned (.slice a 0 c)) ∧ Below w.heap.size w w' := by
  by_cases h1 : n < 0
  · have h1' : decide (n < 0) = true := decide_eq_true h1
    clear h h1
    go_enter Try.func14, Try.ntmps14
    go_wp2
    go_ret
    exact ⟨⟨_, _, rfl⟩, (Below.refl _ _).alloc (Nat.le_refl _) _⟩
  · have h1' : decide (n < 0) = false := decide_eq_false h1
    by_cases h2 : p < 1
    · have h2' : decide (p < 1) = true := decide_eq_true h2
      clear h h1 h2
      go_enter Try.func14, Try.ntmps14
      go_wp2
      go_ret
      exact ⟨⟨_, _, rfl⟩, (Below.refl _ _).alloc (Nat.le_refl _) _⟩
    · have h2' : decide (p < 1) = false := decide_eq_false h2
      have h3' : decide (64 < p) = true := decide_eq_true (by omega)
      clear h h1 h2
      go_enter Try.func14, Try.ntmps14
      go_wp2
      go_ret
      exact ⟨⟨_, _, rfl⟩, (Below.refl _ _).alloc (Nat.le_refl _) _⟩
end Go.Proofs.Yteckbgpkoanhfaa.Hb

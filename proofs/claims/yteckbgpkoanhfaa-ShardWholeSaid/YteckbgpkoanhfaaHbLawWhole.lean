/- The walk of the law ShardWhole. -/
import Derived.IntWalk
import Derived.Test.YteckbgpkoanhfaaHbLawCuts
namespace Go.Proofs.Yteckbgpkoanhfaa.Hb
open Go.RowKit

/-- How great a part is. -/
theorem size_of (n p : Int) (i : Nat) : fromAt n p (i + 1) - fromAt n p i = n / p ∨ fromAt n p (i + 1) - fromAt n p i = n / p + 1 := by
  by_cases h : (i : Int) < n % p
  · have := fromAt_succ_lt n p i h; omega
  · have := fromAt_succ_ge n p i (by omega); omega
theorem size_falls (n p : Int) (i : Nat) : fromAt n p (i + 1 + 1) - fromAt n p (i + 1) ≤ fromAt n p (i + 1) - fromAt n p i := by
  by_cases h : ((i + 1 : Nat) : Int) < n % p
  · have := fromAt_succ_lt n p (i + 1) h; have := fromAt_succ_lt n p i (by omega); omega
  · have := fromAt_succ_ge n p (i + 1) (by omega); have := size_of n p i; omega

set_option maxRecDepth 100000 in
set_option maxHeartbeats 2000000 in
theorem whole_walk (n b : Int) (m : Nat) (hn : 0 ≤ n) (hn2 : n ≤ 4294967295) (hb0 : 0 ≤ b) (hb1 : b ≤ 255) (hm : ((m : Nat) : Int) + 1 = 1 + b % 64) (hp2 : m ≤ 63) (w : World) :
    Calls Try.prog 4 #[.int .u32 n, .int .u8 b] w (True0 w) := by
  have HM := Lib.hid hm
  clear hm
  go_enter Try.func4, Try.ntmps4
  go_wp2_with fail
  rw [show 1 + b % 64 = ((m + 1 : Nat) : Int) from by rw [← HM.out]; simp]
  refine (cut_yes n ((m + 1 : Nat) : Int) hn (by omega) (by omega) (by omega) w).mono ?_
  rintro e w1 ⟨v, rfl, ho, hb⟩
  rw [Int.toNat_natCast] at ho
  obtain ⟨g, cap, rfl, hcap, hg1, hg2, hcell⟩ := own_open ho (by omega)
  have hcellk : ∀ k, k < m + 1 → w1.cell? ⟨g, k * 2, none⟩ = some (.int .i64 (fromAt n (m + 1 : Nat) k)) ∧ w1.cell? ⟨g, k * 2 + 1, none⟩ = some (.int .i64 (fromAt n (m + 1 : Nat) (k + 1))) := fun k hk => by
    obtain ⟨a1, a2⟩ := spanCells_get _ _ _ (upto_get n (m + 1 : Nat) (m + 1) k hk)
    exact ⟨hcell _ _ a1, hcell _ _ a2⟩
  clear hcell ho
  have c0 := (hcellk 0 (by omega)).1
  have c1 := (hcellk m (by omega)).2
  rw [fromAt_zero n _ (by omega), Nat.zero_mul] at c0
  rw [fromAt_top n _ (by omega) (m + 1) rfl] at c1
  have HC := Lib.hid hcellk
  clear hcellk
  have HL := Lib.hid hb
  clear hb
  go_wp2
  go_loopw [43] (fun c wr => ∃ k : Nat, k ≤ m + 1 ∧ c = .int .i64 k ∧ Below w1.heap.size w1 wr) (fun c _ => m + 1 - (intOf c).toNat)
  case atStart => exact ⟨0, Nat.zero_le _, rfl, Below.refl _ _⟩
  case round =>
    obtain ⟨k, hk, rfl, hB⟩ := hrel
    by_cases hlt : k < m + 1
    · obtain ⟨d1, d2⟩ := HC.out k hlt
      have d1 := (hB.cell (p := ⟨g, k * 2, none⟩) hg2).trans d1
      have d2 := (hB.cell (p := ⟨g, k * 2 + 1, none⟩) hg2).trans d2
      have e1 := size_of n (m + 1 : Nat) k
      have e2 := fromAt_nonneg n (m + 1 : Nat) hn (by omega) k
      have e3 := fromAt_le n (m + 1 : Nat) hn (by omega) (k + 1) (by omega)
      have e4 := div_le n (m + 1 : Nat) hn (by omega)
      have t1 : decide (fromAt n (m + 1 : Nat) (k + 1) - fromAt n (m + 1 : Nat) k < n / (m + 1 : Nat)) = false := decide_eq_false (by omega)
      have t2 : decide (n / (m + 1 : Nat) + 1 < fromAt n (m + 1 : Nat) (k + 1) - fromAt n (m + 1 : Nat) k) = false := decide_eq_false (by omega)
      have t3 : (((m + 1 : Nat) : Int) == 0) = false := beq_eq_false_iff_ne.2 (by omega)
      rw [show ((m + 1 : Nat) : Int) = (m : Int) + 1 from by omega] at d1 d2 t1 t2 e1 e2 e3 e4 t3
      have e5 : 0 ≤ fromAt n (↑m + 1) (k + 1) - fromAt n (↑m + 1) k := by omega
      clear e1
      cases k with
      | zero =>
        generalize fromAt n (↑m + 1) (0 + 1) = x1 at *
        generalize fromAt n (↑m + 1) 0 = x0 at *
        rw [show ((0 : Nat) : Int) = 0 from rfl]
        go_wp2
        go_quiet (fail)
        go_wp2
        exact ⟨⟨1, by omega, rfl, below_drewN (hB.alloc hB.size _) _⟩, by simp [intOf]⟩
      | succ k =>
        obtain ⟨p1, p2⟩ := HC.out k (by omega)
        have p1 := (hB.cell (p := ⟨g, k * 2, none⟩) hg2).trans p1
        have p2 := (hB.cell (p := ⟨g, k * 2 + 1, none⟩) hg2).trans p2
        have s1 := size_of n ((m : Int) + 1) k
        have s2 := size_falls n ((m : Int) + 1) k
        have s3 := fromAt_nonneg n ((m : Int) + 1) hn (by omega) k
        have s4 := fromAt_le n ((m : Int) + 1) hn (by omega) (k + 1) (by omega)
        rw [show ((m + 1 : Nat) : Int) = (m : Int) + 1 from by omega] at p1 p2
        have s5 : 0 ≤ fromAt n (↑m + 1) (k + 1) - fromAt n (↑m + 1) k := by omega
        have t4 : decide (fromAt n (↑m + 1) (k + 1) - fromAt n (↑m + 1) k < fromAt n (↑m + 1) (k + 1 + 1) - fromAt n (↑m + 1) (k + 1)) = false := decide_eq_false (by omega)
        clear s1
        generalize fromAt n (↑m + 1) (k + 1 + 1) = x2 at *
        generalize fromAt n (↑m + 1) (k + 1) = x1 at *
        generalize fromAt n (↑m + 1) k = x0 at *
        have hkm : k < m + 1 := by omega
        have hkm' : (k : Int) < (m : Int) + 1 := by omega
        have q1 : IntKind.i64.wrap ((k : Int) + 1 - 1) = (k : Int) := by rw [show (k : Int) + 1 - 1 = k from by omega]; exact IntWalk.i64_in _ (by omega)
        have q2 : IntKind.i64.wrap (k : Int) = (k : Int) := IntWalk.i64_in _ (by omega)
        have q3 : IntKind.i64.wrap (x1 - x0) = x1 - x0 := IntWalk.i64_in _ (by omega)
        have q4 : IntKind.i64.wrap (n / (↑m + 1) + 1) = n / (↑m + 1) + 1 := IntWalk.i64_in _ (by omega)
        have hBa := (Below.refl wr.heap.size wr).alloc (Nat.le_refl _) (.cells #[.int .i64 x1, .int .i64 x2] 25)
        have hgs : g < wr.heap.size := Nat.lt_of_lt_of_le hg2 hB.size
        have p1' := (hBa.cell (p := ⟨g, k * 2, none⟩) hgs).trans p1
        have p2' := (hBa.cell (p := ⟨g, k * 2 + 1, none⟩) hgs).trans p2
        clear hBa
        go_wp2
        go_quiet (fail)
        clear q1 q2 q3 q4
        go_wp2
        exact ⟨⟨k + 1 + 1, by omega, by go_num, below_drewN (hB.alloc hB.size _) _⟩, by simp [intOf]; omega⟩
    · obtain rfl : k = m + 1 := by omega
      go_wp2_with (go_at_call 15; refine (fixed13_any _).mono ?_; rintro e w3 ⟨rfl, hb3⟩)
      go_ret
      exact ⟨rfl, (HL.out.trans (hB.mono HL.out.size)).trans (hb3.mono (Nat.le_trans HL.out.size hB.size))⟩

theorem whole_any (n : Int) (hw : (Lit.int .u32 n).wf = true) (b : Int) (hw' : (Lit.int .u8 b).wf = true) (w : World) : Calls Try.prog 4 #[.int .u32 n, .int .u8 b] w (True0 w) := by
  obtain ⟨h1, h2⟩ : 0 ≤ n ∧ n ≤ 4294967295 := by simp [Lit.wf, IntKind.min, IntKind.max, IntKind.signed, IntKind.bits] at hw; omega
  obtain ⟨h3, h4⟩ : 0 ≤ b ∧ b ≤ 255 := by simp [Lit.wf, IntKind.min, IntKind.max, IntKind.signed, IntKind.bits] at hw'; omega
  obtain ⟨m, hm⟩ := Int.eq_ofNat_of_zero_le (show 0 ≤ b % 64 by omega)
  exact whole_walk n b m h1 h2 h3 h4 (by omega) (by omega) w
end Go.Proofs.Yteckbgpkoanhfaa.Hb

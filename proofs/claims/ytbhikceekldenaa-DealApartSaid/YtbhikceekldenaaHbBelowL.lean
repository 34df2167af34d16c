/- A draw below a bound, of a source that is a list. -/
import Derived.Test.YtbhikceekldenaaHbSrc
namespace Go.Proofs.Ytbhikceekldenaa.Hb
set_option linter.unusedVariables false
open Go.RowKit

set_option maxRecDepth 100000 in
set_option maxHeartbeats 1000000 in
theorem belowL_any (b : Nat) (num : Nat → Int) (J : Nat → World → Prop) (hnum : ∀ k, 0 ≤ num k)
    (hnext : ∀ k W, k ≤ 4611686018427387968 → J k W → Calls Try.prog 134 #[.pointer (some ⟨b, 0, none⟩)] W fun e W' => e = .returned (.int .u64 (num k)) ∧ J (k + 1) W' ∧ W.grownBy W' (some b))
    (n : Int) (k : Nat) (w : World) (h1 : 0 < n) (h2 : n ≤ 1048576) (hk : k ≤ 4611686018427387904) (hJ : J k w) :
    Calls Try.prog 79 #[.iface 60 (.pointer (some ⟨b, 0, none⟩)), .int .u64 n] w fun e W' => e = .returned (belV (drawO num n 64 k)) ∧ J (drawO num n 64 k).2 W' ∧ w.grownBy W' (some b) := by
  have hz : (n == 0) = false := beq_eq_false_iff_ne.2 (by omega)
  have hsp := spare_is n h1 h2
  obtain ⟨L, hL⟩ : ∃ L, limD n - 1 = L := ⟨_, rfl⟩
  rw [hL] at hsp
  have HL := Lib.hid hL
  clear hL
  have HJ := Lib.hid hJ
  have HK := Lib.hid hk
  have HN := Lib.hid hnext
  have HU := Lib.hid hnum
  clear hJ hk hnext hnum
  go_enter Try.func79, Try.ntmps79
  go_wp2_with fail
  go_loopw [14] (fun iv wr => ∃ i kk : Nat, i ≤ 64 ∧ iv = .int .i64 i ∧ Hid (kk ≤ k + i ∧ drawO num n 64 k = drawO num n (64 - i) kk ∧ J kk wr ∧ w.grownBy wr (some b))) (fun iv _ => 64 - (intOf iv).toNat)
  case atStart => exact ⟨0, k, Nat.zero_le _, rfl, Lib.hid ⟨Nat.le_refl _, rfl, HJ.out, grown_refl _ _⟩⟩
  case round =>
    obtain ⟨i, kk, hi, rfl, HR⟩ := hrel
    by_cases hlt : i < 64
    · have hlt' : (i : Int) < 64 := by omega
      go_wp2_with fail
      refine (HN.out kk _ (by have := HR.out.1; have := HK.out; omega) HR.out.2.2.1).mono ?_
      rintro e w1 ⟨rfl, hJ1, hg1⟩
      obtain ⟨x, hx⟩ : ∃ x, num kk = x := ⟨_, rfl⟩
      rw [hx]
      have hx0 : 0 ≤ x := by rw [← hx]; exact HU.out kk
      by_cases hc : x ≤ L
      · have hd : decide (x ≤ L) = true := decide_eq_true hc
        have hhit : drawO num n 64 k = (some (x % n), kk + 1) := by
          rw [HR.out.2.1, show 64 - i = (64 - i - 1) + 1 by omega, draw_hit (by rw [hx]; have := HL.out; omega), hx]
        have HH := Lib.hid hhit
        have HG := Lib.hid (grown_trans HR.out.2.2.2 hg1)
        have HJ1 := Lib.hid hJ1
        clear hhit hg1 hJ1 hc hx
        go_wp2_with fail
        go_ret2
        rw [HH.out]
        exact ⟨rfl, HJ1.out, HG.out⟩
      · have hd : decide (x ≤ L) = false := decide_eq_false hc
        have hhit : drawO num n 64 k = drawO num n (64 - (i + 1)) (kk + 1) := by
          rw [HR.out.2.1, show 64 - i = (64 - (i + 1)) + 1 by omega, draw_miss (by rw [hx]; have := HL.out; omega)]
        have HH : Hid (kk + 1 ≤ k + (i + 1) ∧ drawO num n 64 k = drawO num n (64 - (i + 1)) (kk + 1) ∧ J (kk + 1) w1 ∧ w.grownBy w1 (some b)) := Lib.hid ⟨by have := HR.out.1; omega, hhit, hJ1, grown_trans HR.out.2.2.2 hg1⟩
        clear hhit hg1 hJ1 hc hx
        go_wp2_with fail
        go_roundw
        case rel => exact ⟨i + 1, kk + 1, hlt, by go_num, HH⟩
        case measure => simp [intOf]; omega
    · obtain rfl : i = 64 := by omega
      have hhit : drawO num n 64 k = (none, kk) := by rw [HR.out.2.1]; rfl
      have HH := Lib.hid hhit
      clear hhit
      go_wp2_with fail
      go_ret2
      rw [HH.out]
      exact ⟨rfl, HR.out.2.2.1, HR.out.2.2.2⟩
end Go.Proofs.Ytbhikceekldenaa.Hb

/- The walks of layer prod: Plus, Minus, Product. -/
import Derived.Test.YtbhikceekldenaaHbNum
import Derived.Test.YtbhikceekldenaaHbBase
namespace Go.Proofs.Ytbhikceekldenaa.Hb
open Go.RowKit

theorem pplus_any (a b : Int) (ha : inR a) (hb : inR b) (w : World) :
    Calls Try.prog 86 #[.int .i64 a, .int .i64 b] w fun e w' => e = .returned (res (lim (a + b))) ∧ w = w' := by
  obtain ⟨a1, a2⟩ := ha
  obtain ⟨b1, b2⟩ := hb
  by_cases h : inR (a + b)
  · rw [lim_in h]
    obtain ⟨h1, h2⟩ := h
    by_cases ca : a < 0 <;> by_cases cb : b < 0 <;> by_cases cs : a + b < 0 <;> first | (exfalso; omega) | skip
    all_goals
      first | have ca' : decide (a < 0) = true := decide_eq_true ca | have ca' : decide (a < 0) = false := decide_eq_false ca
      first | have cb' : decide (b < 0) = true := decide_eq_true cb | have cb' : decide (b < 0) = false := decide_eq_false cb
      first | have cs' : decide (a + b < 0) = true := decide_eq_true cs | have cs' : decide (a + b < 0) = false := decide_eq_false cs
      clear ca cb cs
      go_enter Try.func86, Try.ntmps86
      go_wp2
      go_ret2
      exact ⟨rfl, rfl⟩
  · rw [lim_out h]
    unfold inR at h
    by_cases ca : a < 0
    · have cb : b < 0 := by omega
      have cs : ¬ wrap64 (a + b) < 0 := by unfold wrap64; omega
      have ca' : decide (a < 0) = true := decide_eq_true ca
      have cb' : decide (b < 0) = true := decide_eq_true cb
      have cs' : decide (wrap64 (a + b) < 0) = false := decide_eq_false cs
      clear ca cb cs h
      go_enter Try.func86, Try.ntmps86
      go_wp2
      go_ret2
      exact ⟨rfl, rfl⟩
    · have cb : ¬ b < 0 := by omega
      have cs : wrap64 (a + b) < 0 := by unfold wrap64; omega
      have ca' : decide (a < 0) = false := decide_eq_false ca
      have cb' : decide (b < 0) = false := decide_eq_false cb
      have cs' : decide (wrap64 (a + b) < 0) = true := decide_eq_true cs
      clear ca cb cs h
      go_enter Try.func86, Try.ntmps86
      go_wp2
      go_ret2
      exact ⟨rfl, rfl⟩
theorem natAbs_le {a : Int} (h : inR a) : a.natAbs ≤ 9223372036854775808 := by unfold inR at h; omega
end Go.Proofs.Ytbhikceekldenaa.Hb

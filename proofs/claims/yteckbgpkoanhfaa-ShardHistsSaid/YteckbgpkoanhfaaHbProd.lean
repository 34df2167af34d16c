/- The walks of layer prod: Plus, Minus, Product. -/
import Derived.Test.YteckbgpkoanhfaaHbNum
import Derived.Test.YteckbgpkoanhfaaHbBase
import Derived.Shelf.Bits.Mul64
namespace Go.Proofs.Yteckbgpkoanhfaa.Hb
open Go.RowKit Go.Shelf

theorem pplus_any (a b : Int) (ha : inR a) (hb : inR b) (w : World) :
    Calls Try.prog 45 #[.int .i64 a, .int .i64 b] w fun e w' => e = .returned (res (lim (a + b))) ∧ w = w' := by
  obtain ⟨a1, a2⟩ := ha
  obtain ⟨b1, b2⟩ := hb
  by_cases h : inR (a + b)
  · rw [lim_in h]
    obtain ⟨h1, h2⟩ := h
    by_cases ca : a < 0 <;> by_cases cb : b < 0 <;> by_cases cs : a + b < 0 <;> first | (exfalso; omega) | skip
    all_goals
      first | have ca' : decide (a < 0) = true := decide_eq_true ca | have ca' : decide (a < 0) = false := decide_eq_false ca
      first | have cb' : decide (b < 0) = true := decide_eq_true cb | have cb' : decide (b < 0) = false := decide_eq_false cb
      first | have cs' : decide (a + b < 0) = true := decide_eq_true cs | have cs' : decide (a + b < 0) = false := decide_eq_false cs
      clear ca cb cs
      go_enter Try.func45, Try.ntmps45
      go_wp2
      go_ret2
      exact ⟨rfl, rfl⟩
  · rw [lim_out h]
    unfold inR at h
    by_cases ca : a < 0
    · have cb : b < 0 := by omega
      have cs : ¬ wrap64 (a + b) < 0 := by unfold wrap64; omega
      have ca' : decide (a < 0) = true := decide_eq_true ca
      have cb' : decide (b < 0) = true := decide_eq_true cb
      have cs' : decide (wrap64 (a + b) < 0) = false := decide_eq_false cs
      clear ca cb cs h
      go_enter Try.func45, Try.ntmps45
      go_wp2
      go_ret2
      exact ⟨rfl, rfl⟩
    · have cb : ¬ b < 0 := by omega
      have cs : wrap64 (a + b) < 0 := by unfold wrap64; omega
      have ca' : decide (a < 0) = false := decide_eq_false ca
      have cb' : decide (b < 0) = false := decide_eq_false cb
      have cs' : decide (wrap64 (a + b) < 0) = true := decide_eq_true cs
      clear ca cb cs h
      go_enter Try.func45, Try.ntmps45
      go_wp2
      go_ret2
      exact ⟨rfl, rfl⟩
theorem pminus_any (a b : Int) (ha : inR a) (hb : inR b) (w : World) :
    Calls Try.prog 76 #[.int .i64 a, .int .i64 b] w fun e w' => e = .returned (res (lim (a - b))) ∧ w = w' := by
  obtain ⟨a1, a2⟩ := ha
  obtain ⟨b1, b2⟩ := hb
  by_cases h : inR (a - b)
  · rw [lim_in h]
    obtain ⟨h1, h2⟩ := h
    by_cases ca : a < 0 <;> by_cases cb : b < 0 <;> by_cases cs : a - b < 0 <;> first | (exfalso; omega) | skip
    all_goals
      first | have ca' : decide (a < 0) = true := decide_eq_true ca | have ca' : decide (a < 0) = false := decide_eq_false ca
      first | have cb' : decide (b < 0) = true := decide_eq_true cb | have cb' : decide (b < 0) = false := decide_eq_false cb
      first | have cs' : decide (a - b < 0) = true := decide_eq_true cs | have cs' : decide (a - b < 0) = false := decide_eq_false cs
      clear ca cb cs
      go_enter Try.func76, Try.ntmps76
      go_wp2
      go_ret2
      exact ⟨rfl, rfl⟩
  · rw [lim_out h]
    unfold inR at h
    by_cases ca : a < 0
    · have cb : ¬ b < 0 := by omega
      have cs : ¬ wrap64 (a - b) < 0 := by unfold wrap64; omega
      have ca' : decide (a < 0) = true := decide_eq_true ca
      have cb' : decide (b < 0) = false := decide_eq_false cb
      have cs' : decide (wrap64 (a - b) < 0) = false := decide_eq_false cs
      clear ca cb cs h
      go_enter Try.func76, Try.ntmps76
      go_wp2
      go_ret2
      exact ⟨rfl, rfl⟩
    · have cb : b < 0 := by omega
      have cs : wrap64 (a - b) < 0 := by unfold wrap64; omega
      have ca' : decide (a < 0) = false := decide_eq_false ca
      have cb' : decide (b < 0) = true := decide_eq_true cb
      have cs' : decide (wrap64 (a - b) < 0) = true := decide_eq_true cs
      clear ca cb cs h
      go_enter Try.func76, Try.ntmps76
      go_wp2
      go_ret2
      exact ⟨rfl, rfl⟩

def lays264_ren : Go.Shelf.Ren := ⟨fun | 264 => 83 | n => n, fun | 53 => 110 | 46 => 131 | n => n, fun | n => n⟩
theorem lays264 : Go.Proofs.Lays.n264 Try.prog lays264_ren := {
  mixed := by kernel_rfl
  f264 := Try.func83.trans (congrArg some (by kernel_rfl))
  t46 := Try.underlying131
  a46 := Try.isAgg131
  z46 := Try.sizeOf131
  v46 := Try.zeroValue131
  t53 := Try.underlying110
  a53 := Try.isAgg110
  z53 := Try.sizeOf110
  v53 := Try.zeroValue110 }
theorem mul64_any (x y : Nat) (hx : x < 18446744073709551616) (hy : y < 18446744073709551616) (w : World) :
    Calls Try.prog 83 #[.int .u64 x, .int .u64 y] w fun e w' => e = .returned (.tuple #[.int .u64 ((x * y / 18446744073709551616 : Nat) : Int), .int .u64 ((x * y % 18446744073709551616 : Nat) : Int)]) ∧ w' = w := Any.bits_Mul64 lays264 x y hx hy w

theorem ret_u64 {a b : Int} (h : a = b) : Ending.returned (.int .u64 a) = .returned (.int .u64 b) := by rw [h]
theorem size_neg (a : Int) (h : -9223372036854775808 ≤ a) (c : a < 0) : IntKind.u64.wrap (-IntKind.u64.wrap a) = (a.natAbs : Int) := by
  simp [IntKind.wrap, IntKind.bits, IntKind.signed]; omega
theorem psize_any (a : Int) (ha : inR a) (w : World) :
    Calls Try.prog 81 #[.int .i64 a] w fun e w' => e = .returned (.int .u64 (a.natAbs : Int)) ∧ w = w' := by
  obtain ⟨a1, a2⟩ := ha
  by_cases c : a < 0
  · have c' : decide (a < 0) = true := decide_eq_true c
    go_enter Try.func81, Try.ntmps81
    go_wp2
    go_ret
    exact ⟨ret_u64 (size_neg a a1 c), rfl⟩
  · have c' : decide (a < 0) = false := decide_eq_false c
    go_enter Try.func81, Try.ntmps81
    go_wp2
    go_ret
    exact ⟨ret_u64 (by omega), rfl⟩

theorem pmul_any (x y hi lo : Nat) (hx : x < 18446744073709551616) (hy : y < 18446744073709551616) (hhi : hi = x * y / 18446744073709551616) (hlo : lo = x * y % 18446744073709551616) (w : World) :
    Calls Try.prog 80 #[.int .u64 x, .int .u64 y] w fun e w' => e = .returned (.agg #[.int .u64 hi, .int .u64 lo]) ∧ Below w.heap.size w w' := by
  have HH := Lib.hid hhi
  have HL := Lib.hid hlo
  clear hhi hlo
  go_enter Try.func80, Try.ntmps80
  go_wp2_with (go_at_call 83; refine (mul64_any x y hx hy _).mono ?_; rintro e w1 ⟨rfl, rfl⟩; rw [← HH.out, ← HL.out])
  exact bodyPost_ret (v := .agg #[.int .u64 hi, .int .u64 lo]) (by simp [results, Try.results80, go_sem]) rfl ⟨rfl, (Below.refl _ _).alloc (Nat.le_refl _) _⟩

theorem natAbs_le {a : Int} (h : inR a) : a.natAbs ≤ 9223372036854775808 := by unfold inR at h; omega
theorem lo_pos (lo : Nat) (h : (lo : Int) ≤ 9223372036854775807) : wrap64 (lo : Int) = lo := by unfold wrap64; omega
theorem lo_neg (lo : Nat) (h : (lo : Int) ≤ 9223372036854775808) : wrap64 (-wrap64 (lo : Int)) = -(lo : Int) := by unfold wrap64; omega

/-- What the product of the sizes tells of the product. -/
theorem prod_signs (a b : Int) : a * b = if (decide (a < 0) != decide (b < 0)) = true then -((a.natAbs * b.natAbs : Nat) : Int) else ((a.natAbs * b.natAbs : Nat) : Int) := by
  have e : ((a.natAbs * b.natAbs : Nat) : Int) = (a.natAbs : Int) * (b.natAbs : Int) := by simp
  rw [e]
  by_cases ca : a < 0 <;> by_cases cb : b < 0
  · rw [show (a.natAbs : Int) = -a from by omega, show (b.natAbs : Int) = -b from by omega, Int.neg_mul_neg]; simp [ca, cb]
  · rw [show (a.natAbs : Int) = -a from by omega, show (b.natAbs : Int) = b from by omega]; simp [ca, cb, Int.neg_mul]
  · rw [show (a.natAbs : Int) = a from by omega, show (b.natAbs : Int) = -b from by omega]; simp [ca, cb, Int.mul_neg]
  · rw [show (a.natAbs : Int) = a from by omega, show (b.natAbs : Int) = b from by omega]; simp [ca, cb]

theorem res_neg (lo : Nat) (h : (lo : Int) ≤ 9223372036854775808) : Value.tuple #[.int .i64 (wrap64 (-wrap64 (lo : Int))), .int .i64 0] = res (some (-(lo : Int))) := by rw [lo_neg lo h]; rfl

/-- The walk of Product, all of whose tests are decided. -/
def PProd (a b : Int) (v : Option Int) (w : World) : Prop := Calls Try.prog 66 #[.int .i64 a, .int .i64 b] w fun e w' => e = .returned (res v) ∧ Below w.heap.size w w'
section
variable (a b : Int) (ha : inR a) (hb : inR b) (sa sb : Bool) (h1 : decide (a < 0) = sa) (h2 : decide (b < 0) = sb) (hi lo : Nat)
  (HX : Hid (a.natAbs < 18446744073709551616)) (HY : Hid (b.natAbs < 18446744073709551616)) (HH : Hid (hi = a.natAbs * b.natAbs / 18446744073709551616)) (HL : Hid (lo = a.natAbs * b.natAbs % 18446744073709551616)) (w : World)
include ha hb h1 h2 HX HY HH HL
set_option maxHeartbeats 1000000 in
theorem pprod_hi (h0 : (((hi : Nat) : Int) != 0) = true) : PProd a b none w := by
  unfold PProd
  cases sa <;> cases sb
  all_goals
    go_enter Try.func66, Try.ntmps66
    go_wp2_with (first | (go_at_call 81; refine (psize_any _ (by assumption) _).mono ?_; rintro e w1 ⟨rfl, rfl⟩) | (go_at_call 80; refine (pmul_any _ _ hi lo HX.out HY.out HH.out HL.out _).mono ?_; rintro e w2 ⟨rfl, hb2⟩))
    go_ret2
    exact ⟨rfl, hb2.trans ((Below.refl _ _).alloc hb2.size _)⟩
set_option maxHeartbeats 1000000 in
theorem pprod_up (h0 : (((hi : Nat) : Int) != 0) = false) (hs : (sa == sb) = true) (hm : (lo : Int) ≤ 9223372036854775807) : PProd a b (some lo) w := by
  unfold PProd
  cases sa <;> cases sb <;> first | (exact absurd hs (by decide)) | skip
  all_goals
    clear hs
    go_enter Try.func66, Try.ntmps66
    go_wp2_with (first | (go_at_call 81; refine (psize_any _ (by assumption) _).mono ?_; rintro e w1 ⟨rfl, rfl⟩) | (go_at_call 80; refine (pmul_any _ _ hi lo HX.out HY.out HH.out HL.out _).mono ?_; rintro e w2 ⟨rfl, hb2⟩))
    go_ret2
    exact ⟨rfl, hb2.trans ((Below.refl _ _).alloc hb2.size _)⟩
set_option maxHeartbeats 1000000 in
theorem pprod_up_no (h0 : (((hi : Nat) : Int) != 0) = false) (hs : (sa == sb) = true) (hm : decide ((lo : Int) ≤ 9223372036854775807) = false) : PProd a b none w := by
  unfold PProd
  cases sa <;> cases sb <;> first | (exact absurd hs (by decide)) | skip
  all_goals
    clear hs
    go_enter Try.func66, Try.ntmps66
    go_wp2_with (first | (go_at_call 81; refine (psize_any _ (by assumption) _).mono ?_; rintro e w1 ⟨rfl, rfl⟩) | (go_at_call 80; refine (pmul_any _ _ hi lo HX.out HY.out HH.out HL.out _).mono ?_; rintro e w2 ⟨rfl, hb2⟩))
    go_ret2
    exact ⟨rfl, hb2.trans ((Below.refl _ _).alloc hb2.size _)⟩
set_option maxHeartbeats 1000000 in
theorem pprod_down (h0 : (((hi : Nat) : Int) != 0) = false) (hs : (sa == sb) = false) (hm : (lo : Int) ≤ 9223372036854775808) : PProd a b (some (-(lo : Int))) w := by
  unfold PProd
  rw [← res_neg lo hm]
  cases sa <;> cases sb <;> first | (exact absurd hs (by decide)) | skip
  all_goals
    clear hs
    go_enter Try.func66, Try.ntmps66
    go_wp2_with (first | (go_at_call 81; refine (psize_any _ (by assumption) _).mono ?_; rintro e w1 ⟨rfl, rfl⟩) | (go_at_call 80; refine (pmul_any _ _ hi lo HX.out HY.out HH.out HL.out _).mono ?_; rintro e w2 ⟨rfl, hb2⟩))
    go_ret2
    refine ⟨?_, hb2.trans ((Below.refl _ _).alloc hb2.size _)⟩
    first | rfl | (simp; done)
set_option maxHeartbeats 1000000 in
theorem pprod_down_no (h0 : (((hi : Nat) : Int) != 0) = false) (hs : (sa == sb) = false) (hm : decide ((lo : Int) ≤ 9223372036854775808) = false) : PProd a b none w := by
  unfold PProd
  cases sa <;> cases sb <;> first | (exact absurd hs (by decide)) | skip
  all_goals
    clear hs
    go_enter Try.func66, Try.ntmps66
    go_wp2_with (first | (go_at_call 81; refine (psize_any _ (by assumption) _).mono ?_; rintro e w1 ⟨rfl, rfl⟩) | (go_at_call 80; refine (pmul_any _ _ hi lo HX.out HY.out HH.out HL.out _).mono ?_; rintro e w2 ⟨rfl, hb2⟩))
    go_ret2
    exact ⟨rfl, hb2.trans ((Below.refl _ _).alloc hb2.size _)⟩
end

theorem pproduct_any (a b : Int) (ha : inR a) (hb : inR b) (w : World) : PProd a b (lim (a * b)) w := by
  have hs := prod_signs a b
  have hx := natAbs_le ha
  have hy := natAbs_le hb
  obtain ⟨hi, hhi⟩ : ∃ hi, hi = a.natAbs * b.natAbs / 18446744073709551616 := ⟨_, rfl⟩
  obtain ⟨lo, hlo⟩ : ∃ lo, lo = a.natAbs * b.natAbs % 18446744073709551616 := ⟨_, rfl⟩
  have hpm : a.natAbs * b.natAbs = hi * 18446744073709551616 + lo := by omega
  have HX : Hid (a.natAbs < 18446744073709551616) := Lib.hid (by omega)
  have HY : Hid (b.natAbs < 18446744073709551616) := Lib.hid (by omega)
  have HH := Lib.hid hhi
  have HL := Lib.hid hlo
  rw [hpm] at hs
  clear hx hy hhi hlo hpm
  obtain ⟨sa, h1⟩ : ∃ sa, decide (a < 0) = sa := ⟨_, rfl⟩
  obtain ⟨sb, h2⟩ : ∃ sb, decide (b < 0) = sb := ⟨_, rfl⟩
  rw [h1, h2] at hs
  have hsb : (sa != sb) = !(sa == sb) := rfl
  rw [hsb] at hs
  by_cases h0 : hi = 0
  · have h0' : (((hi : Nat) : Int) != 0) = false := by rw [h0]; rfl
    rw [h0, Nat.zero_mul, Nat.zero_add] at hs
    cases he : (sa == sb)
    · rw [he] at hs
      simp only [Bool.not_false, if_true] at hs
      by_cases hm : (lo : Int) ≤ 9223372036854775808
      · rw [show lim (a * b) = some (-(lo : Int)) from by rw [hs]; exact lim_in ⟨by omega, by omega⟩]
        exact pprod_down a b ha hb sa sb h1 h2 hi lo HX HY HH HL w h0' he hm
      · rw [show lim (a * b) = none from by rw [hs]; exact lim_out (fun h => by unfold inR at h; omega)]
        exact pprod_down_no a b ha hb sa sb h1 h2 hi lo HX HY HH HL w h0' he (decide_eq_false hm)
    · rw [he] at hs
      simp only [Bool.not_true, Bool.false_eq_true, if_false] at hs
      by_cases hm : (lo : Int) ≤ 9223372036854775807
      · rw [show lim (a * b) = some (lo : Int) from by rw [hs]; exact lim_in ⟨by omega, by omega⟩]
        exact pprod_up a b ha hb sa sb h1 h2 hi lo HX HY HH HL w h0' he hm
      · rw [show lim (a * b) = none from by rw [hs]; exact lim_out (fun h => by unfold inR at h; omega)]
        exact pprod_up_no a b ha hb sa sb h1 h2 hi lo HX HY HH HL w h0' he (decide_eq_false hm)
  · rw [show lim (a * b) = none from by rw [hs]; refine lim_out (fun h => ?_); unfold inR at h; split at h <;> omega]
    exact pprod_hi a b ha hb sa sb h1 h2 hi lo HX HY HH HL w (by rw [bne_iff_ne]; omega)
end Go.Proofs.Yteckbgpkoanhfaa.Hb

/- The walks of the reference of layer 4: Plus, Minus, Times64. -/
import Derived.Test.YtbhikceekldenaaHbRef4S
import Derived.Test.YtbhikceekldenaaHbProdP
namespace Go.Proofs.Ytbhikceekldenaa.Hb
open Go.RowKit

/-- What an operation of the reference on two numbers comes to. -/
def RefOp (f : Nat) (a b : Int) (v : Option Int) (w : World) : Prop := Calls Try.prog f #[.int .i64 a, .int .i64 b] w fun e w' => e = .returned (res v) ∧ Below w.heap.size w w'
theorem rsize_x (a : Int) (X : Nat) (ha : inR a) (hX : Hid (a.natAbs = X)) (w : World) :
    Calls Try.prog 92 #[.int .i64 a] w fun e w' => e = .returned (.int .u64 (X : Int)) ∧ w = w' := by
  have := rsize_any a ha w
  rwa [hX.out] at this

section
variable (a b : Int) (X Y : Nat) (ha : inR a) (hb : inR b) (hx : X < 18446744073709551616) (hy : Y < 18446744073709551616) (HX : Hid (a.natAbs = X)) (HY : Hid (b.natAbs = Y)) (s t : Bool) (h1 : decide (a < 0) = s) (h2 : decide (b < 0) = t) (v : Option Int) (w : World)
include ha hb hx hy HX HY h1 h2

set_option maxHeartbeats 1000000 in
theorem rplus_same (hst : s = t) (hv : v = lim (if s = true then -((X + Y : Nat) : Int) else ((X + Y : Nat) : Int))) : RefOp 88 a b v w := by
  subst hst
  unfold RefOp
  obtain ⟨x, y, hxy⟩ := res_form v
  rw [hxy]
  rw [hv] at hxy
  have HXY := Lib.hid hxy
  clear hv hxy
  go_enter Try.func88, Try.ntmps88
  go_wp2_with (go_at_call 92; refine (rsize_x _ _ (by assumption) (by assumption) _).mono ?_; rintro e w1 ⟨rfl, rfl⟩)
  refine (rdigits_any X hx _).mono ?_
  rintro e w1 ⟨D1, v1, rfl, e1, r1, b1⟩
  have E1 := Lib.hid e1
  clear e1
  go_wp2_with fail
  refine (rdigits_any Y hy _).mono ?_
  rintro e w2 ⟨D2, v2, rfl, e2, r2, b2⟩
  have E2 := Lib.hid e2
  clear e2
  replace r1 := r1.below b2
  go_wp2_with fail
  refine (rsum_any _ _ D1 D2 v1 v2 _ r1 r2).mono ?_
  rintro e w3 ⟨D3, v3, rfl, e3, r3, b3⟩
  rw [E1.out, E2.out] at e3
  have E3 := Lib.hid e3
  clear e3
  go_wp2_with fail
  refine (rwhole_any s 5 (by omega) (by omega) _ D3 v3 _ r3).mono ?_
  rintro e w4 ⟨rfl, b4⟩
  rw [E3.out, HXY.out]
  go_wp2
  go_ret2
  exact ⟨rfl, b1.trans ((b2.trans ((b3.trans (b4.mono b3.size)).mono b2.size)).mono b1.size)⟩
set_option maxHeartbeats 1000000 in
theorem rplus_ge (hst : (s == t) = false) (hge : Y ≤ X) (hv : v = lim (if s = true then -((X - Y : Nat) : Int) else ((X - Y : Nat) : Int))) : RefOp 88 a b v w := by
  unfold RefOp
  obtain ⟨x, y, hxy⟩ := res_form v
  rw [hxy]
  rw [hv] at hxy
  have HXY := Lib.hid hxy
  clear hv hxy
  have g1 : decide ((Y : Int) ≤ (X : Int)) = true := decide_eq_true (by omega)
  have g2 : decide (Y ≤ X) = true := decide_eq_true hge
  have EI := Lib.hid (show ((X : Nat) : Int) - (Y : Nat) = ((X - Y : Nat) : Int) by omega)
  go_enter Try.func88, Try.ntmps88
  go_wp2_with (go_at_call 92; refine (rsize_x _ _ (by assumption) (by assumption) _).mono ?_; rintro e w1 ⟨rfl, rfl⟩)
  rw [EI.out]
  refine (rdigits_any (X - Y) (by omega) _).mono ?_
  rintro e w1 ⟨D1, v1, rfl, e1, r1, b1⟩
  have E1 := Lib.hid e1
  clear e1
  go_wp2_with fail
  refine (rwhole_any s 4 (by omega) (by omega) _ D1 v1 _ r1).mono ?_
  rintro e w4 ⟨rfl, b4⟩
  rw [E1.out, HXY.out]
  go_wp2
  go_ret2
  exact ⟨rfl, b1.trans (b4.mono b1.size)⟩
set_option maxHeartbeats 1000000 in
theorem rplus_lt (hst : (s == t) = false) (hge : X < Y) (hv : v = lim (if t = true then -((Y - X : Nat) : Int) else ((Y - X : Nat) : Int))) : RefOp 88 a b v w := by
  unfold RefOp
  obtain ⟨x, y, hxy⟩ := res_form v
  rw [hxy]
  rw [hv] at hxy
  have HXY := Lib.hid hxy
  clear hv hxy
  have g1 : decide ((Y : Int) ≤ (X : Int)) = false := decide_eq_false (by omega)
  have g2 : decide (Y ≤ X) = false := decide_eq_false (by omega)
  have EI := Lib.hid (show ((Y : Nat) : Int) - (X : Nat) = ((Y - X : Nat) : Int) by omega)
  go_enter Try.func88, Try.ntmps88
  go_wp2_with (go_at_call 92; refine (rsize_x _ _ (by assumption) (by assumption) _).mono ?_; rintro e w1 ⟨rfl, rfl⟩)
  rw [EI.out]
  refine (rdigits_any (Y - X) (by omega) _).mono ?_
  rintro e w1 ⟨D1, v1, rfl, e1, r1, b1⟩
  have E1 := Lib.hid e1
  clear e1
  go_wp2_with fail
  refine (rwhole_any t 4 (by omega) (by omega) _ D1 v1 _ r1).mono ?_
  rintro e w4 ⟨rfl, b4⟩
  rw [E1.out, HXY.out]
  go_wp2
  go_ret2
  exact ⟨rfl, b1.trans (b4.mono b1.size)⟩
end

theorem rplus_any (a b : Int) (ha : inR a) (hb : inR b) (w : World) : RefOp 88 a b (lim (a + b)) w := by
  have hx := natAbs_le ha
  have hy := natAbs_le hb
  have HX : Hid (a.natAbs = a.natAbs) := Lib.hid rfl
  have HY : Hid (b.natAbs = b.natAbs) := Lib.hid rfl
  by_cases ca : a < 0 <;> by_cases cb : b < 0
  · exact rplus_same a b _ _ ha hb (by omega) (by omega) HX HY true true (decide_eq_true ca) (decide_eq_true cb) _ w rfl (by simp only [if_true]; congr 1; omega)
  · rcases Nat.lt_or_ge a.natAbs b.natAbs with h | h
    · exact rplus_lt a b _ _ ha hb (by omega) (by omega) HX HY true false (decide_eq_true ca) (decide_eq_false cb) _ w rfl h (by simp only [Bool.false_eq_true, if_false]; congr 1; omega)
    · exact rplus_ge a b _ _ ha hb (by omega) (by omega) HX HY true false (decide_eq_true ca) (decide_eq_false cb) _ w rfl h (by simp only [if_true]; congr 1; omega)
  · rcases Nat.lt_or_ge a.natAbs b.natAbs with h | h
    · exact rplus_lt a b _ _ ha hb (by omega) (by omega) HX HY false true (decide_eq_false ca) (decide_eq_true cb) _ w rfl h (by simp only [if_true]; congr 1; omega)
    · exact rplus_ge a b _ _ ha hb (by omega) (by omega) HX HY false true (decide_eq_false ca) (decide_eq_true cb) _ w rfl h (by simp only [Bool.false_eq_true, if_false]; congr 1; omega)
  · exact rplus_same a b _ _ ha hb (by omega) (by omega) HX HY false false (decide_eq_false ca) (decide_eq_false cb) _ w rfl (by simp only [Bool.false_eq_true, if_false]; congr 1; omega)

end Go.Proofs.Ytbhikceekldenaa.Hb

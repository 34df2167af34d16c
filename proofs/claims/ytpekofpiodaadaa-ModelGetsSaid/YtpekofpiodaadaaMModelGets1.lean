/- Texts joined: the walks and the plain laws that the claim ModelGets rests on. -/
import Derived.RowKit
import Derived.Laws.Cover2
import Derived.Laws.Bits64b
import Derived.Laws.Unary
import Derived.Deep.Slices
import Derived.ChangeShapes
import Derived.DataElems
import Derived.OpenShut
import Derived.WideShapes
import Derived.Below
import Derived.WalkKit
import Derived.Lib.SmallJoins
import Derived.OwnWalk
import Derived.WalkSmall
import Derived.Deep.Onto
import Derived.Lib.Hide
import Derived.Laws.AppendOwn
import Derived.RangeFuncBox
import Derived.Laws.StructEq
import Derived.Laws.Rows
import Derived.Test.YtpekofpiodaadaaProg
import Derived.Laws.CopyRow
import Derived.Deep.DeepCutAuto
import Derived.Sort.AtCall
import Derived.Deep.RegionHeld3
import Derived.Laws.OwnMore
import Derived.Maps.AppendAt
import Derived.WalkMore
import Derived.Deep.AppendLies
import Derived.RangeFuncNested
import Derived.OrdersIn
import Derived.Deep.RegionHeld
import Derived.RangeFuncBound
import Derived.RangeFuncCalls
import Derived.RangeFuncLeaves
import Derived.Shelf.Abstract
import Derived.Shelf.RegionOpen
import Derived.OwnWalkIn
import Derived.TacticsInMore
import Derived.LoopNIn
import Derived.LoopIn
import Derived.Deep.QuietTactic
import Derived.BigQuiet
import Derived.IntWalk
section
/- Floats by their bits: how two stand to one another, the clean value, a value's key: pure. -/
namespace Go.Proofs.Ytpekofpiodaadaa.Hb
open Ieee
/-- Comparison of float64's by bits. -/
def ordF (a b : Nat) : Option Ordering := FloatKind.f64.format.order a b
def magF (a : Nat) : Nat := a % 9223372036854775808
def sgnF (a : Nat) : Bool := a / 9223372036854775808 % 2 == 1
def nanF (a : Nat) : Bool := decide (9218868437227405312 < magF a)
def srF (a : Nat) : Int := if sgnF a then -(magF a : Int) else magF a
/-- How great a number is, in the least units. -/
def valF (r : Nat) : Nat := if r < 4503599627370496 then r else (4503599627370496 + r % 4503599627370496) * 2 ^ (r / 4503599627370496 - 1)
theorem fval_succ (r : Nat) : valF r < valF (r + 1) := by
  unfold valF
  obtain ⟨e, he⟩ : ∃ e, r / 4503599627370496 = e := ⟨_, rfl⟩
  obtain ⟨f, hf⟩ : ∃ f, r % 4503599627370496 = f := ⟨_, rfl⟩
  have hr : r = 4503599627370496 * e + f := by omega
  have hfl : f < 4503599627370496 := by omega
  by_cases h : f + 1 < 4503599627370496
  · have e1 : (r + 1) / 4503599627370496 = e := by omega
    have e2 : (r + 1) % 4503599627370496 = f + 1 := by omega
    rw [he, hf, e1, e2]
    by_cases h0 : e = 0
    · subst h0
      rw [if_pos (by omega), if_pos (by omega)]
      omega
    · rw [if_neg (by omega), if_neg (by omega)]
      exact Nat.mul_lt_mul_of_pos_right (by omega) (Nat.two_pow_pos _)
  · have e1 : (r + 1) / 4503599627370496 = e + 1 := by omega
    have e2 : (r + 1) % 4503599627370496 = 0 := by omega
    rw [he, hf, e1, e2, if_neg (show ¬ r + 1 < 4503599627370496 by omega)]
    by_cases h0 : e = 0
    · subst h0
      rw [if_pos (by omega)]
      simp
      omega
    · rw [if_neg (by omega)]
      obtain ⟨k, rfl⟩ : ∃ k, e = k + 1 := ⟨e - 1, by omega⟩
      rw [Nat.add_sub_cancel, Nat.add_sub_cancel, Nat.pow_succ, Nat.add_zero, Nat.mul_comm (2 ^ k) 2, ← Nat.mul_assoc]
      exact Nat.mul_lt_mul_of_pos_right (by omega) (Nat.two_pow_pos _)
theorem fval_lt {r s : Nat} (h : r < s) : valF r < valF s := by
  induction s with
  | zero => omega
  | succ s ih =>
    by_cases e : r = s
    · subst e; exact fval_succ _
    · exact Nat.lt_trans (ih (by omega)) (fval_succ _)
theorem fval_iff {r s : Nat} : valF r < valF s ↔ r < s := by
  constructor
  · intro h
    rcases Nat.lt_trichotomy r s with h1 | h1 | h1
    · exact h1
    · subst h1; omega
    · have := fval_lt h1; omega
  · exact fval_lt
theorem fw : FloatKind.f64.format.signWeight = 9223372036854775808 := by decide +kernel
theorem fb : FloatKind.f64.format.binade = 4503599627370496 := by decide +kernel
theorem fi : FloatKind.f64.format.infRung = 9218868437227405312 := by decide +kernel
theorem fl : FloatKind.f64.format.leastPlace = -1074 := by decide +kernel
theorem read_is (a : Nat) : FloatKind.f64.format.read a = if magF a < 4503599627370496 then .number (sgnF a) (magF a) (-1074) else if magF a < 9218868437227405312 then .number (sgnF a) (4503599627370496 + magF a % 4503599627370496) (-1074 + (magF a / 4503599627370496 - 1 : Nat)) else if magF a = 9218868437227405312 then .infinity (sgnF a) else .nan (sgnF a) (magF a - 9218868437227405312) := by
  unfold Format.read
  rw [fw, fb, fi, fl]
  rfl
theorem read_nan {a : Nat} (h : nanF a = true) : ∃ s t, FloatKind.f64.format.read a = .nan s t := by
  unfold nanF at h
  have h := of_decide_eq_true h
  exact ⟨_, _, by rw [read_is, if_neg (by omega), if_neg (by omega), if_neg (by omega)]⟩
/-- What a number that isn't NaN reads as. -/
theorem read_num {a : Nat} (h : nanF a = false) : (magF a = 9218868437227405312 ∧ FloatKind.f64.format.read a = .infinity (sgnF a)) ∨
    (magF a < 9218868437227405312 ∧ ∃ (m u : Nat), FloatKind.f64.format.read a = .number (sgnF a) m (-1074 + (u : Nat)) ∧ m * 2 ^ u = valF (magF a)) := by
  have h := of_decide_eq_false h
  rw [read_is]
  by_cases h1 : magF a < 4503599627370496
  · refine .inr ⟨by omega, magF a, 0, by rw [if_pos h1]; rfl, ?_⟩
    unfold valF
    rw [if_pos h1]; omega
  · by_cases h2 : magF a < 9218868437227405312
    · refine .inr ⟨h2, _, _, by rw [if_neg h1, if_pos h2], ?_⟩
      unfold valF
      rw [if_neg h1]
    · exact .inl ⟨by omega, by rw [if_neg h1, if_neg h2, if_pos (by omega)]⟩
theorem cmp_int {a b c d : Int} (h : a < b ↔ c < d) (h2 : b < a ↔ d < c) : compare a b = compare c d := by
  rcases Int.lt_trichotomy a b with h1 | h1 | h1
  · rw [Int.compare_eq_lt.2 h1, Int.compare_eq_lt.2 (h.1 h1)]
  · have : c = d := by omega
    rw [Int.compare_eq_eq.2 h1, Int.compare_eq_eq.2 this]
  · rw [Int.compare_eq_gt.2 h1, Int.compare_eq_gt.2 (h2.1 h1)]
theorem ord_nan {a b : Nat} (h : nanF a = true ∨ nanF b = true) : ordF a b = none := by
  unfold ordF Format.order
  rcases h with h | h
  · obtain ⟨s, t, e⟩ := read_nan h
    rw [e]; rfl
  · obtain ⟨s, t, e⟩ := read_nan h
    rw [e]
    cases FloatKind.f64.format.read a <;> rfl
theorem ord_is {a b : Nat} (ha : nanF a = false) (hb : nanF b = false) : ordF a b = some (compare (srF a) (srF b)) := by
  have ha' := of_decide_eq_false ha
  have hb' := of_decide_eq_false hb
  unfold ordF Format.order srF
  rcases read_num ha with ⟨ha1, ea⟩ | ⟨ha1, m, u, ea, va⟩ <;> rcases read_num hb with ⟨hb1, eb⟩ | ⟨hb1, n, v, eb, vb⟩
  · rw [ea, eb, ha1, hb1]
    cases sgnF a <;> cases sgnF b <;> rfl
  · rw [ea, eb, ha1]
    show some _ = some _
    congr 1
    cases sgnF a
    · simp only [Bool.false_eq_true, if_false]
      exact (Int.compare_eq_gt.2 (by split <;> omega)).symm
    · simp only [if_true]
      exact (Int.compare_eq_lt.2 (by split <;> omega)).symm
  · rw [ea, eb, hb1]
    show some _ = some _
    congr 1
    cases sgnF b
    · simp only [Bool.false_eq_true, if_false]
      exact (Int.compare_eq_lt.2 (by split <;> omega)).symm
    · simp only [if_true]
      exact (Int.compare_eq_gt.2 (by split <;> omega)).symm
  · rw [ea, eb]
    show some (compare _ _) = some _
    congr 1
    obtain ⟨d, hd⟩ : ∃ d : Nat, min (-1074 + (u : Int)) (-1074 + (v : Int)) = -1074 + (d : Int) := ⟨min u v, by omega⟩
    rw [hd]
    have e1 : (-1074 + (u : Int) - (-1074 + (d : Int))).toNat = u - d := by omega
    have e2 : (-1074 + (v : Int) - (-1074 + (d : Int))).toNat = v - d := by omega
    rw [e1, e2]
    have hdu : d ≤ u := by omega
    have hdv : d ≤ v := by omega
    have pm : m * 2 ^ (u - d) * 2 ^ d = valF (magF a) := by rw [Nat.mul_assoc, ← Nat.pow_add, Nat.sub_add_cancel hdu, va]
    have pn : n * 2 ^ (v - d) * 2 ^ d = valF (magF b) := by rw [Nat.mul_assoc, ← Nat.pow_add, Nat.sub_add_cancel hdv, vb]
    unfold signed
    rw [Nat.shiftLeft_eq, Nat.shiftLeft_eq]
    obtain ⟨M, hM⟩ : ∃ M, m * 2 ^ (u - d) = M := ⟨_, rfl⟩
    obtain ⟨Nn, hN⟩ : ∃ M, n * 2 ^ (v - d) = M := ⟨_, rfl⟩
    rw [hM, hN]
    rw [hM] at pm
    rw [hN] at pn
    have hp : 0 < 2 ^ d := Nat.two_pow_pos d
    have k1 : M < Nn ↔ magF a < magF b := by
      rw [← fval_iff (r := magF a), ← pm, ← pn]
      exact (Nat.mul_lt_mul_right hp).symm
    have k2 : Nn < M ↔ magF b < magF a := by
      rw [← fval_iff (r := magF b), ← pm, ← pn]
      exact (Nat.mul_lt_mul_right hp).symm
    have z1 : 0 < M ↔ 0 < magF a := by
      have e0 : valF 0 = 0 := rfl
      have : 0 < valF (magF a) ↔ 0 < magF a := by rw [← e0]; exact fval_iff
      rw [← this, ← pm]
      exact ⟨fun h => Nat.mul_pos h hp, fun h => Nat.pos_of_mul_pos_right h⟩
    have z2 : 0 < Nn ↔ 0 < magF b := by
      have e0 : valF 0 = 0 := rfl
      have : 0 < valF (magF b) ↔ 0 < magF b := by rw [← e0]; exact fval_iff
      rw [← this, ← pn]
      exact ⟨fun h => Nat.mul_pos h hp, fun h => Nat.pos_of_mul_pos_right h⟩
    cases sgnF a <;> cases sgnF b <;> simp only [Bool.false_eq_true, if_false, if_true] <;> exact cmp_int (by omega) (by omega)
/-- The clean value's bits, a value's key, how two stand to one another. -/
def cleanF (a : Nat) : Nat := if nanF a then 9221120237041090561 else if magF a = 0 then 0 else a
def keyF (a : Nat) : Nat := if nanF a then 0 else if 9223372036854775808 ≤ cleanF a then 18446744073709551615 - cleanF a else cleanF a + 9223372036854775808
def cmpN (x y : Nat) : Int := if x < y then -1 else if y < x then 1 else 0
def cmpF (a b : Nat) : Int := cmpN (keyF a) (keyF b)
/-- The document's way. -/
def rcmpF (a b : Nat) : Int := if nanF a ∧ nanF b then 0 else if nanF a then -1 else if nanF b then 1 else if srF a < srF b then -1 else if srF b < srF a then 1 else 0
theorem key_num {a : Nat} (hw : a < 18446744073709551616) (h : nanF a = false) : (keyF a : Int) = 9223372036854775808 + srF a - (if srF a < 0 then 1 else 0) ∧ 0 < keyF a := by
  have h' := of_decide_eq_false h
  have e1 : magF a = a % 9223372036854775808 := rfl
  unfold keyF cleanF srF
  rw [h]
  simp only [Bool.false_eq_true, if_false]
  cases hs : sgnF a with
  | false =>
    have : a / 9223372036854775808 = 0 := by
      unfold sgnF at hs
      simp at hs
      omega
    simp only [Bool.false_eq_true, if_false]
    by_cases h0 : magF a = 0
    · rw [if_pos h0, if_neg (by omega), if_neg (by omega)]; omega
    · rw [if_neg h0, if_neg (by omega), if_neg (by omega)]; omega
  | true =>
    have : a / 9223372036854775808 = 1 := by
      unfold sgnF at hs
      simp at hs
      omega
    simp only [if_true]
    by_cases h0 : magF a = 0
    · rw [if_pos h0, if_neg (by omega), if_neg (by omega)]; omega
    · rw [if_neg h0, if_pos (by omega), if_pos (by omega)]; omega
theorem rcmp_is {a b : Nat} (ha : a < 18446744073709551616) (hb : b < 18446744073709551616) : rcmpF a b = cmpF a b := by
  unfold rcmpF cmpF cmpN
  cases hna : nanF a with
  | true =>
    have ka : keyF a = 0 := by unfold keyF; rw [hna]; rfl
    cases hnb : nanF b with
    | true =>
      have kb : keyF b = 0 := by unfold keyF; rw [hnb]; rfl
      rw [ka, kb]; rfl
    | false =>
      have := (key_num hb hnb).2
      rw [ka, if_neg (by simp), if_pos rfl, if_pos this]
  | false =>
    obtain ⟨k1, k2⟩ := key_num ha hna
    cases hnb : nanF b with
    | true =>
      have kb : keyF b = 0 := by unfold keyF; rw [hnb]; rfl
      rw [kb, if_neg (by simp), if_neg (by simp), if_pos rfl, if_neg (by omega), if_pos k2]
    | false =>
      obtain ⟨l1, l2⟩ := key_num hb hnb
      rw [if_neg (by simp), if_neg (by simp), if_neg (by simp)]
      have kab : keyF a < keyF b ↔ srF a < srF b := by split at k1 <;> split at l1 <;> omega
      have kba : keyF b < keyF a ↔ srF b < srF a := by split at k1 <;> split at l1 <;> omega
      simp only [kab, kba]
theorem and_top {c : Nat} (h : c < 18446744073709551616) : (bits .and .u64 (c : Int) 9223372036854775808 != 0) = decide (9223372036854775808 ≤ c) := by
  have e := bits_and_u64_nat c 9223372036854775808 h (by omega)
  rw [show ((9223372036854775808 : Nat) : Int) = 9223372036854775808 from rfl] at e
  rw [e]
  by_cases hc : 9223372036854775808 ≤ c
  · rw [decide_eq_true hc]
    have ht : (c &&& 2 ^ 63).testBit 63 = true := by
      rw [Nat.testBit_and, Nat.testBit_two_pow_self, Nat.testBit_eq_decide_div_mod_eq]
      simp
      omega
    have : c &&& 9223372036854775808 ≠ 0 := fun h0 => by
      rw [show (9223372036854775808 : Nat) = 2 ^ 63 from rfl] at h0
      rw [h0] at ht
      simp at ht
    simp
    exact_mod_cast this
  · rw [decide_eq_false hc]
    have : c &&& 9223372036854775808 = 0 := by
      apply Nat.eq_of_testBit_eq
      intro i
      rw [Nat.testBit_and, show (9223372036854775808 : Nat) = 2 ^ 63 from rfl, Nat.testBit_two_pow]
      by_cases hi : 63 = i
      · subst hi
        rw [Nat.testBit_lt_two_pow (by omega)]
        simp
      · simp [hi]
    rw [this]; rfl
theorem or_top {c : Nat} (h : c < 9223372036854775808) : bits .or .u64 (c : Int) 9223372036854775808 = ((c + 9223372036854775808 : Nat) : Int) := by
  have e := bits_or_u64_nat c 9223372036854775808 (by omega) (by omega)
  rw [show ((9223372036854775808 : Nat) : Int) = 9223372036854775808 from rfl] at e
  rw [e]
  congr 1
  have := Nat.two_pow_add_eq_or_of_lt (i := 63) (b := c) (by omega) 1
  rw [Nat.mul_one, show 2 ^ 63 = 9223372036854775808 from rfl] at this
  rw [Nat.or_comm]
  omega
theorem xor_all {c : Nat} (h : c < 18446744073709551616) : bits .xor .u64 18446744073709551615 (c : Int) = ((18446744073709551615 - c : Nat) : Int) := by
  have e : bits .xor .u64 18446744073709551615 (c : Int) = IntKind.u64.wrap ((BitVec.allOnes 64 ^^^ BitVec.ofInt 64 (c : Int)).toNat : Int) := rfl
  rw [e, BitVec.allOnes_xor, BitVec.toNat_not, BitVec.toNat_ofInt, IntKind.wrap_u64]
  omega
theorem kmax : (if IntKind.u64.signed = true then (-1 : Int) else IntKind.u64.max) = 18446744073709551615 := by decide
theorem nan_self (b : Nat) : (FloatKind.f64.format.order b b != some Ordering.eq) = nanF b := by
  cases h : nanF b with
  | true => rw [show FloatKind.f64.format.order b b = none from ord_nan (.inl h)]; rfl
  | false => rw [show FloatKind.f64.format.order b b = _ from ord_is h h, Int.compare_eq_eq.2 rfl]; rfl
theorem sr_zero (b : Nat) : srF b = 0 ↔ magF b = 0 := by unfold srF; split <;> omega
theorem feq_zero {b : Nat} (h : nanF b = false) : (FloatKind.f64.format.order b 0 == some Ordering.eq) = decide (magF b = 0) := by
  rw [show FloatKind.f64.format.order b 0 = _ from ord_is h (by rfl), show srF 0 = 0 from rfl]
  by_cases hz : magF b = 0
  · rw [decide_eq_true hz, (sr_zero b).2 hz]; rfl
  · rw [decide_eq_false hz]
    have : srF b ≠ 0 := fun e => hz ((sr_zero b).1 e)
    rcases Int.lt_or_gt_of_ne this with h1 | h1
    · rw [Int.compare_eq_lt.2 h1]; rfl
    · rw [Int.compare_eq_gt.2 h1]; rfl
theorem nan_two (b : Nat) : ((!(FloatKind.f64.format.order b 0 == some Ordering.lt || FloatKind.f64.format.order b 0 == some Ordering.eq)) && (!(FloatKind.f64.format.order b 0 == some Ordering.gt || FloatKind.f64.format.order b 0 == some Ordering.eq))) = nanF b := by
  cases h : nanF b with
  | true => rw [show FloatKind.f64.format.order b 0 = none from ord_nan (.inl h)]; rfl
  | false =>
    rw [show FloatKind.f64.format.order b 0 = _ from ord_is h (by rfl)]
    cases compare (srF b) (srF 0) <;> rfl
theorem zero_two {b : Nat} (h : nanF b = false) : ((FloatKind.f64.format.order b 0 == some Ordering.gt || FloatKind.f64.format.order b 0 == some Ordering.eq) && (FloatKind.f64.format.order b 0 == some Ordering.lt || FloatKind.f64.format.order b 0 == some Ordering.eq)) = decide (magF b = 0) := by
  rw [← feq_zero h, show FloatKind.f64.format.order b 0 = _ from ord_is h (by rfl)]
  cases compare (srF b) (srF 0) <;> rfl
theorem lt_num {a b : Nat} (ha : nanF a = false) (hb : nanF b = false) : (FloatKind.f64.format.order a b == some Ordering.lt) = decide (srF a < srF b) := by
  rw [show FloatKind.f64.format.order a b = _ from ord_is ha hb]
  by_cases h : srF a < srF b
  · rw [decide_eq_true h, Int.compare_eq_lt.2 h]; rfl
  · rw [decide_eq_false h]
    cases e : compare (srF a) (srF b) with
    | lt => exact absurd (Int.compare_eq_lt.1 e) h
    | eq => rfl
    | gt => rfl
theorem gt_num {a b : Nat} (ha : nanF a = false) (hb : nanF b = false) : (FloatKind.f64.format.order a b == some Ordering.gt) = decide (srF b < srF a) := by
  rw [show FloatKind.f64.format.order a b = _ from ord_is ha hb]
  by_cases h : srF b < srF a
  · rw [decide_eq_true h, Int.compare_eq_gt.2 h]; rfl
  · rw [decide_eq_false h]
    cases e : compare (srF a) (srF b) with
    | gt => exact absurd (Int.compare_eq_gt.1 e) h
    | eq => rfl
    | lt => rfl
theorem clean_lt {b : Nat} (h : b < 18446744073709551616) : cleanF b < 18446744073709551616 := by unfold cleanF; split; omega; split <;> omega
theorem key_lt {b : Nat} (h : b < 18446744073709551616) : keyF b < 18446744073709551616 := by
  have := clean_lt h
  unfold keyF
  split; omega; split <;> omega
end Go.Proofs.Ytpekofpiodaadaa.Hb
end

section
/- How arguments are read as plain data, whatever their type: numbers, rows, structs, rows of rows. -/
namespace Go.Proofs.Ytpekofpiodaadaa.Hb
open Go.RowKit Go.ChangeShapes Go.WideShapes Go.Deep

section
variable {T : Type} (enc : TypeId × Value → T) (P : Program) (W : World) (base : Nat) (sp : Nat → Bool) (held : Bool)
/-- What reads as data of a type has such cells. -/
def Rds (t : TypeId) (K : List Value → Prop) : Prop := ∀ fuel cs x, DataW.trod enc P W base sp held fuel t cs = some x → K cs
variable {enc P W base sp held}
theorem Rds.mono {t : TypeId} {K L : List Value → Prop} (h : Rds enc P W base sp held t K) (hk : ∀ cs, K cs → L cs) : Rds enc P W base sp held t L := fun f cs x e => hk _ (h f cs x e)
def intK (k : IntKind) (lo hi : Int) (cs : List Value) : Prop := ∃ n : Int, cs = [.int k n] ∧ lo ≤ n ∧ n ≤ hi
theorem rds_int {t : TypeId} {k : IntKind} (lo hi : Int) (hu : P.underlying t = some (.int k)) (hlo : k.min = lo) (hhi : k.max = hi) : Rds enc P W base sp held t (intK k lo hi) := by
  intro fuel cs x h
  obtain ⟨z, hz, _, hw⟩ := DataW.trod_int hu h
  refine ⟨z, hz, ?_⟩
  rw [← hlo, ← hhi]
  simpa [Lit.wf, Bool.and_eq_true, decide_eq_true_eq] using hw
def boolK (cs : List Value) : Prop := ∃ b : Bool, cs = [.bool b]
theorem rds_bool {t : TypeId} (hu : P.underlying t = some .bool) : Rds enc P W base sp held t boolK := by
  intro fuel cs x h
  obtain ⟨z, hz, _⟩ := DataW.trod_bool hu h
  exact ⟨z, hz⟩
/-- The cells of a struct, field by field. -/
def Parts : List (List Value → Prop) → List Value → Prop
  | [], cs => cs = []
  | K :: Ks, cs => ∃ a b, cs = a ++ b ∧ K a ∧ Parts Ks b
variable (enc P W base sp held) in
def RdsF : List Field → Nat → List (List Value → Prop) → Prop
  | [], _, [] => True
  | f :: fs, o, K :: Ks => f.offset = o ∧ Rds enc P W base sp held f.type K ∧ RdsF fs (o + P.cellsOf f.type) Ks
  | _, _, _ => False
def sizesF (P : Program) (fs : List Field) : Nat := (fs.map fun f => P.cellsOf f.type).sum
theorem rds_parts : ∀ (fs : List Field) (o : Nat) (Ks : List (List Value → Prop)) (n : Nat) (cs : List Value), RdsF enc P W base sp held fs o Ks → cs.length = o + sizesF P fs →
    (∀ f ∈ fs, ∃ y, DataW.trod enc P W base sp held n f.type ((cs.drop f.offset).take (P.cellsOf f.type)) = some y) → Parts Ks (cs.drop o)
  | [], o, [], n, cs, _, hl, _ => by
    simp [sizesF] at hl
    show cs.drop o = []
    simp [hl]
  | f :: fs, o, K :: Ks, n, cs, hr, hl, hx => by
    obtain ⟨ho, hk, hrest⟩ := hr
    obtain ⟨y, hy⟩ := hx f (List.mem_cons_self ..)
    rw [ho] at hy
    have e : sizesF P (f :: fs) = P.cellsOf f.type + sizesF P fs := by simp [sizesF]
    refine ⟨(cs.drop o).take (P.cellsOf f.type), cs.drop (o + P.cellsOf f.type), ?_, hk _ _ _ hy, rds_parts fs _ Ks n cs hrest (by omega) (fun g hg => hx g (List.mem_cons_of_mem _ hg))⟩
    rw [← List.drop_drop, List.take_append_drop]
  | [], _, _ :: _, _, _, hr, _, _ => hr.elim
  | _ :: _, _, [], _, _, hr, _, _ => hr.elim
theorem rds_struct {t : TypeId} {fs : Array Field} {Ks : List (List Value → Prop)} (hu : P.underlying t = some (.struct fs)) (hs : P.cellsOf t = sizesF P fs.toList) (hr : RdsF enc P W base sp held fs.toList 0 Ks) : Rds enc P W base sp held t (Parts Ks) := by
  intro fuel cs x h
  obtain ⟨xs, n, _, _, hl, hlen, hf⟩ := DataW.trod_struct hu h
  have := rds_parts fs.toList 0 Ks n cs hr (by omega) (fun f hm => by
    obtain ⟨i, hi, rfl⟩ := List.getElem_of_mem hm
    have hi' : i < fs.size := by simpa using hi
    have h2 := hf i _ (Array.getElem?_eq_getElem hi')
    rw [List.getElem?_eq_getElem (by omega)] at h2
    rw [Array.getElem_toList]
    exact ⟨_, h2⟩)
  rwa [List.drop_zero] at this
end
/-- A row: its elements, each of so many cells, each as R says. -/
def RowAt (w : World) (sz : Nat) {α : Type} (R : α → List Value → Prop) (A : Option Addr) (l : List α) : Prop :=
  0 < l.length → ∃ ad, A = some ad ∧ ∀ i y, l[i]? = some y → ∃ c, c.length = sz ∧ R y c ∧ ∀ j u, c[j]? = some u → w.cell? (ad.add (i * sz + j)) = some u
def rowK (w : World) (sz : Nat) {α : Type} (R : α → List Value → Prop) (l : List α) (cs : List Value) : Prop :=
  ∃ A cap, cs = [.slice A l.length cap] ∧ l.length ≤ cap ∧ cap ≤ 9223372036854775807 ∧ RowAt w sz R A l
theorem listOf {α : Type} {p : Nat → α → Prop} : ∀ (n : Nat), (∀ i, i < n → ∃ y, p i y) → ∃ l : List α, l.length = n ∧ ∀ i y, l[i]? = some y → p i y
  | 0, _ => ⟨[], rfl, by simp⟩
  | n + 1, h => by
    obtain ⟨l, hl, hp⟩ := listOf n (fun i hi => h i (by omega))
    obtain ⟨y, hy⟩ := h n (by omega)
    refine ⟨l ++ [y], by simp [hl], fun i z hz => ?_⟩
    rcases Nat.lt_or_ge i n with hi | hi
    · rw [List.getElem?_append_left (by omega)] at hz
      exact hp i z hz
    · rw [List.getElem?_append_right (by omega)] at hz
      have e : i = n := by
        have := (List.getElem?_eq_some_iff.1 hz).1
        simp at this
        omega
      subst e
      rw [hl, Nat.sub_self] at hz
      simp at hz
      subst hz
      exact hy
section
variable {T : Type} {enc : TypeId × Value → T} {P : Program} {W : World} {base : Nat} {sp : Nat → Bool} {held : Bool}
theorem rds_slice {α : Type} {R : α → List Value → Prop} {t e : TypeId} (sz : Nat) (hu : P.underlying t = some (.slice e)) (hs : P.cellsOf e = sz) (r : Rds enc P W base sp held e (fun cs => ∃ y, R y cs)) :
    Rds enc P W base sp held t (fun cs => ∃ l : List α, rowK W sz R l cs) := by
  intro fuel cs x h
  rcases open_slice hu h with ⟨hc, _⟩ | ⟨a, len, cap, m, n, D, Pl, hc, hb, hl, hm, hmm, _, hx⟩
  · exact ⟨[], none, 0, hc, Nat.le_refl _, by omega, fun h => by simp at h⟩
  · have hml : len ≤ m := by rw [hmm]; split <;> omega
    obtain ⟨l, hll, hp⟩ := listOf (p := fun i y => ∃ c, c.length = sz ∧ R y c ∧ ∀ j u, c[j]? = some u → W.cell? (a.add (i * sz + j)) = some u) len (fun i hi => by
      obtain ⟨cs', h1, h2⟩ := hx i (by omega)
      obtain ⟨y, hk⟩ := r _ _ _ h2
      rw [hs] at h1
      obtain ⟨_, hlen, hcell⟩ := World.cells?_some h1
      refine ⟨y, cs', hlen, hk, fun j u hj => ?_⟩
      have hj' : j < sz := by rw [← hlen]; exact (List.getElem?_eq_some_iff.1 hj).1
      have := hcell j hj'
      rw [hj] at this
      rw [Go.Addr.add_add] at this
      exact this)
    subst hll
    exact ⟨l, some a, cap, hc, hl, by unfold maxLen at hm; omega, fun _ => ⟨a, rfl, hp⟩⟩
theorem open_agg {r : Reach} {b0 : Nat} {t : TypeId} {v : Value} {d : DataW T} {p : List MemPlace} {K : List Value → Prop} {fs : Array Field} (hu : P.underlying t = some (.struct fs)) (hv : Value.okWide P W r b0 t v) (h : DataW.Trod enc P W base sp held t v d p)
    (rd : Rds enc P W base sp held t K) : ∃ cs : List Value, v = .agg cs.toArray ∧ K cs := by
  obtain ⟨cs, rfl, hsz⟩ := okWide_struct hu hv
  obtain ⟨fuel, hfu⟩ := h
  exact ⟨cs.toList, by simp, rd _ _ _ hfu⟩
theorem open_row {r : Reach} {b0 : Nat} {t e : TypeId} {v : Value} {d : DataW T} {p : List MemPlace} {K : List Value → Prop} (hu : P.underlying t = some (.slice e)) (hv : Value.okWide P W r b0 t v) (h : DataW.Trod enc P W base sp held t v d p)
    (rd : Rds enc P W base sp held t K) : K [v] := by
  obtain ⟨a, n, cap, rfl, _⟩ := okWide_slice hu hv
  obtain ⟨fuel, hfu⟩ := h
  exact rd _ _ _ hfu
end
theorem RowAt.mono {w w1 : World} {sz : Nat} {α : Type} {R S : α → List Value → Prop} {A : Option Addr} {l : List α} (h : RowAt w sz R A l) (hb : Below w.heap.size w w1) (hrs : ∀ y c, y ∈ l → R y c → S y c) : RowAt w1 sz S A l := fun hl => by
  obtain ⟨ad, e, hc⟩ := h hl
  refine ⟨ad, e, fun i y hi => ?_⟩
  obtain ⟨c, h1, h2, h3⟩ := hc i y hi
  exact ⟨c, h1, hrs _ _ (List.mem_of_getElem? hi) h2, fun j u hj => (hb.cell (World.block_lt_of_cell? w _ (h3 j u hj))).trans (h3 j u hj)⟩
theorem RowAt.below {w w1 : World} {sz : Nat} {α : Type} {R : α → List Value → Prop} {A : Option Addr} {l : List α} (h : RowAt w sz R A l) (hb : Below w.heap.size w w1) : RowAt w1 sz R A l := h.mono hb fun _ _ _ => id
/-- A row of numbers. -/
theorem RowAt.ints {w : World} {k : IntKind} {lo hi : Int} {A : Option Addr} {l : List Int} (h : RowAt w 1 (fun y c => c = [.int k y] ∧ lo ≤ y ∧ y ≤ hi) A l) :
    (∀ x ∈ l, lo ≤ x ∧ x ≤ hi) ∧ (l = [] ∨ ∃ ad, A = some ad ∧ ∀ i, i < l.length → w.cell? (ad.add i) = some (.int k (l.getD i 0))) := by
  rcases l with _ | ⟨x, l⟩
  · exact ⟨by simp, .inl rfl⟩
  · obtain ⟨ad, e, hc⟩ := h (by simp)
    refine ⟨fun y hy => ?_, .inr ⟨ad, e, fun i hi => ?_⟩⟩
    · obtain ⟨i, hi, rfl⟩ := List.getElem_of_mem hy
      obtain ⟨c, _, h2, _⟩ := hc i _ (List.getElem?_eq_getElem hi)
      exact h2.2
    · obtain ⟨c, _, h2, h3⟩ := hc i _ (List.getElem?_eq_getElem hi)
      have := h3 0 _ (by rw [h2.1]; rfl)
      rw [Nat.mul_one, Nat.add_zero] at this
      rw [this, List.getD_eq_getElem?_getD, List.getElem?_eq_getElem hi]
      rfl
end Go.Proofs.Ytpekofpiodaadaa.Hb
end

section
/- Small lemmas on worlds, rows and values that the walks use. -/
namespace Go.Proofs.Ytpekofpiodaadaa.Hb
open Go.RowKit

/-- A row that is owned, laid open. -/
theorem own_open {w : World} {base : Nat} {e : TypeId} {size : Nat} {v : Value} {n : Nat} {xs : List Value} (h : w.ownsRow base e size v n xs) (hn : 0 < n) :
    ∃ g cap, v = .slice (some ⟨g, 0, none⟩) n cap ∧ n ≤ cap ∧ base ≤ g ∧ g < w.heap.size ∧ ∀ j u, xs[j]? = some u → w.cell? ⟨g, j, none⟩ = some u := by
  rcases h.2 with ⟨_, h0⟩ | ⟨g, cap, cur, rfl, hb, hgb, hcap, _⟩
  · omega
  · refine ⟨g, cap, rfl, by first | exact hcap | omega, hb, (Array.getElem?_eq_some_iff.1 hgb).1, fun j u hj => ?_⟩
    have := World.ownsRow.cells h (g := g) rfl j u hj
    rw [show (⟨g, 0, none⟩ : Addr).add j = ⟨g, j, none⟩ from by unfold Addr.add; split <;> simp_all] at this
    exact this
theorem own_zero {w : World} {base : Nat} {e : TypeId} {size : Nat} {v : Value} {xs : List Value} (h : w.ownsRow base e size v 0 xs) : ∃ a cap, v = .slice a 0 cap := by
  rcases h.2 with ⟨rfl, _⟩ | ⟨g, cap, cur, rfl, _⟩
  · exact ⟨_, _, rfl⟩
  · exact ⟨_, _, rfl⟩
theorem own_slice {w : World} {base : Nat} {e : TypeId} {size : Nat} {v : Value} {n : Nat} {xs : List Value} (h : w.ownsRow base e size v n xs) : ∃ a cap, v = .slice a n cap := by
  rcases h.2 with ⟨rfl, rfl⟩ | ⟨g, cap, cur, rfl, _⟩
  · exact ⟨_, _, rfl⟩
  · exact ⟨_, _, rfl⟩
/-- What is owned stays so behind a call. -/
theorem own_below {w w1 : World} {base : Nat} {e : TypeId} {size n : Nat} {v : Value} {xs : List Value} (h : w.ownsRow base e size v n xs) (hb : Below w.heap.size w w1) : w1.ownsRow base e size v n xs :=
  h.kept (row := none) ⟨hb.os, hb.tape, hb.output, hb.size, fun i hi _ => hb.block i hi⟩ (by
    rcases h.2 with ⟨rfl, _⟩ | ⟨g, cap, cur, rfl, _, hgb, _⟩
    · exact .inl rfl
    · exact .inr (by simp [Value.ownBlock]))

theorem own_drewN {w : World} {base : Nat} {e : TypeId} {size n : Nat} {v : Value} {xs : List Value} (h : w.ownsRow base e size v n xs) (k : Nat) : (w.drewN k).ownsRow base e size v n xs := h
/-- A block of cells, known whole. -/
def Blk (w : World) (g : Nat) (cs : Array Value) (t : TypeId) : Prop := w.heap[g]? = some (.cells cs t (0, 0))
theorem Blk.lt {w : World} {g : Nat} {cs : Array Value} {t : TypeId} (h : Blk w g cs t) : g < w.heap.size := (Array.getElem?_eq_some_iff.1 h).1
theorem Blk.cell {w : World} {g : Nat} {cs : Array Value} {t : TypeId} (h : Blk w g cs t) (i : Nat) : w.cell? ⟨g, i, none⟩ = cs[i]? := cell_of_row w g i cs t (0, 0) h
theorem Blk.frozen {w : World} {g : Nat} {cs : Array Value} {t : TypeId} (h : Blk w g cs t) (i : Nat) : w.frozen? ⟨g, i, none⟩ = false := by simp [World.frozen?, show w.heap[g]? = _ from h]
theorem Blk.new (w : World) (cs : Array Value) (t : TypeId) : Blk (w.alloc (.cells cs t)) w.heap.size cs t := World.alloc_heap_new w _
theorem Blk.below {w w1 : World} {g : Nat} {cs : Array Value} {t : TypeId} (h : Blk w g cs t) (hb : Below w.heap.size w w1) : Blk w1 g cs t := (hb.block g h.lt).trans h
theorem Blk.drewN {w : World} {g : Nat} {cs : Array Value} {t : TypeId} (h : Blk w g cs t) (n : Nat) : Blk (w.drewN n) g cs t := h
theorem Blk.set {w : World} {g : Nat} {cs : Array Value} {t : TypeId} (h : Blk w g cs t) (i : Nat) (u : Value) : Blk (w.setCell ⟨g, i, none⟩ u) g (cs.setIfInBounds i u) t := by
  obtain ⟨hlt, hk⟩ := Array.getElem?_eq_some_iff.1 h
  show (w.heap.modify g _)[g]? = _
  rw [Array.getElem?_eq_getElem (by rw [Array.size_modify]; exact hlt), Array.getElem_modify_self, hk]
  rfl
theorem Blk.other {w : World} {g : Nat} {cs : Array Value} {t : TypeId} (h : Blk w g cs t) {p : Addr} (hne : g ≠ p.block) (u : Value) : Blk (w.setCell p u) g cs t := (Below.heap_setCell w p u g hne).trans h

theorem Blk.cells5 {w : World} {g : Nat} {a b c d e : Value} {t : TypeId} (h : Blk w g #[a, b, c, d, e] t) :
    w.cell? ⟨g, 0, none⟩ = some a ∧ w.cell? ⟨g, 1, none⟩ = some b ∧ w.cell? ⟨g, 2, none⟩ = some c ∧ w.cell? ⟨g, 3, none⟩ = some d ∧ w.cell? ⟨g, 4, none⟩ = some e :=
  ⟨h.cell 0, h.cell 1, h.cell 2, h.cell 3, h.cell 4⟩
theorem Blk.cells1 {w : World} {g : Nat} {a : Value} {t : TypeId} (h : Blk w g #[a] t) : w.cell? ⟨g, 0, none⟩ = some a := h.cell 0
/-- Results that lie in memory beside another one. -/
theorem results_ct {P : Program} {fn : Func} {p u : Tmp} {ty : TypeId} (h : fn.results = #[.cell p ty, .tmp u]) (tmps : Array Value) (w : World) (g : Nat) (t : TypeId) (cs : Array Value) (d : TypeDesc)
    (hp : tmps.getD p undef = .pointer (some ⟨g, 0, none⟩)) (hg : Blk w g cs t)
    (hu : P.underlying ty = some d) (hd : (match d with | .struct _ | .array _ _ => true | _ => false) = true) (hi : (P.info? ty).map (·.size) = some cs.size) :
    (results fn tmps).run P w = .ok (.tuple #[.agg cs, tmps.getD u undef]) w := by
  have hp' : tmps[p]?.getD undef = .pointer (some ⟨g, 0, none⟩) := by simpa using hp
  simp [results, h, hp', asAddr, run_loadVar_row w g t ty cs (0, 0) d hg hu hd hi]

/-! '==' of two structs as one Bool. -/
section
variable {P : Program} {d : Nat} {xs ys : Array Value} {f : Field} {fs : List Field} {a b : Value} {r s : Bool} {w : World}
theorem eqf_nil : (Op.eqFields d xs ys []).run P w = .ok true w := by simp [Op.eqFields]
theorem eqf_cons (hn : (f.name == "_") = false) (ha : (part f.type xs f.offset).run P w = .ok a w) (hb : (part f.type ys f.offset).run P w = .ok b w) (he : (Op.equalIn d f.type a b).run P w = .ok r w)
    (hr : (Op.eqFields d xs ys fs).run P w = .ok s w) : (Op.eqFields d xs ys (f :: fs)).run P w = .ok (r && s) w := by
  have hn' : f.name ≠ "_" := by simpa using hn
  rw [Op.eqFields]
  simp only [if_pos hn', Sem.run_bind, ha, hb, he, Result.andThen_ok]
  cases r
  · simp
  · simpa using hr
theorem eqs_of {t : TypeId} {fs : Array Field} (hu : P.underlying t = some (.struct fs)) (hp : P.stoodInHeld t = false) (h : (Op.eqFields d xs ys fs.toList).run P w = .ok r w) : (Op.equalIn (d + 1) t (.agg xs) (.agg ys)).run P w = .ok r w := by
  have hf : P.fieldsOf t = fs := by simp [Program.fieldsOf, hu]
  rw [run_equalIn_struct (P := P) w d t xs ys (by rw [hf]; exact hu) hp, hf]
  exact h
end
end Go.Proofs.Ytpekofpiodaadaa.Hb
end

section
/- Nodes, trees, rows of rows: how they are read. -/
namespace Go.Proofs.Ytpekofpiodaadaa.Hb
set_option linter.unusedVariables false
open Go.RowKit

structure Nd where
  f : Int
  b : Int
  l : Int
  c : Int
  s : Int
  k : Int
deriving DecidableEq
def ndC (x : Nd) : List Value := [.int .i64 x.f, .int .i64 x.b, .int .i64 x.l, .int .i64 x.c, .int .i64 x.s, .int .i64 x.k]
def ndV (x : Nd) : Value := .agg #[.int .i64 x.f, .int .i64 x.b, .int .i64 x.l, .int .i64 x.c, .int .i64 x.s, .int .i64 x.k]
def in64 (x : Int) : Prop := -9223372036854775808 ≤ x ∧ x ≤ 9223372036854775807
def Nd.ok (x : Nd) : Prop := in64 x.f ∧ in64 x.b ∧ in64 x.l ∧ in64 x.c ∧ in64 x.s ∧ in64 x.k
def ndR (x : Nd) (c : List Value) : Prop := c = ndC x ∧ x.ok
def intR1 (x : Int) (c : List Value) : Prop := c = [.int .i64 x] ∧ in64 x
theorem RowAt.belowR {w w1 : World} {sz : Nat} {α : Type} {R R' : α → List Value → Prop} {A : Option Addr} {l : List α} (h : RowAt w sz R A l) (hb : Below w.heap.size w w1) (hR : ∀ x c, R x c → R' x c) : RowAt w1 sz R' A l := by
  intro hl
  obtain ⟨ad, rfl, ha⟩ := h hl
  refine ⟨ad, rfl, fun i y hy => ?_⟩
  obtain ⟨c, h1, h2, h3⟩ := ha i y hy
  exact ⟨c, h1, hR _ _ h2, fun j u hu => (hb.cell (World.block_lt_of_cell? w _ (h3 j u hu))).trans (h3 j u hu)⟩
theorem rowK.below {w w1 : World} {sz : Nat} {α : Type} {R : α → List Value → Prop} {l : List α} {cs : List Value} (h : rowK w sz R l cs) (hb : Below w.heap.size w w1) : rowK w1 sz R l cs := by
  obtain ⟨A, cap, h1, h2, h3, h4⟩ := h
  exact ⟨A, cap, h1, h2, h3, h4.below hb⟩
/-- Nodes in a row. -/
def RN (w : World) (A : Option Addr) (l : List Nd) : Prop := RowAt w 6 ndR A l
def RI1 (w : World) (A : Option Addr) (l : List Int) : Prop := RowAt w 1 intR1 A l
def RT (w : World) (A : Option Addr) (l : List (List Nd)) : Prop := RowAt w 1 (rowK w 6 ndR) A l
def RW (w : World) (A : Option Addr) (l : List (List Int)) : Prop := RowAt w 1 (rowK w 1 intR1) A l
theorem RN.below {w w1 : World} {A : Option Addr} {l : List Nd} (h : RN w A l) (hb : Below w.heap.size w w1) : RN w1 A l := RowAt.below h hb
theorem RI1.below {w w1 : World} {A : Option Addr} {l : List Int} (h : RI1 w A l) (hb : Below w.heap.size w w1) : RI1 w1 A l := RowAt.below h hb
theorem RT.below {w w1 : World} {A : Option Addr} {l : List (List Nd)} (h : RT w A l) (hb : Below w.heap.size w w1) : RT w1 A l := RowAt.belowR h hb (fun _ _ h => h.below hb)
theorem RW.below {w w1 : World} {A : Option Addr} {l : List (List Int)} (h : RW w A l) (hb : Below w.heap.size w w1) : RW w1 A l := RowAt.belowR h hb (fun _ _ h => h.below hb)
theorem add_k (ad : Addr) (i k n : Nat) (hk : 0 < k) (hn : 0 < n) : ad.add (i * n + k) = ⟨(ad.add (i * n)).block, (ad.add (i * n)).off + k, none⟩ := by
  unfold Addr.add
  by_cases hi : i = 0
  · subst hi
    have : ¬ k = 0 := by omega
    simp [this]
  · have h1 : ¬ i * n = 0 := by simp [Nat.mul_eq_zero]; omega
    have h2 : ¬ i * n + k = 0 := by omega
    rw [if_neg h1, if_neg h2, Nat.add_assoc]
/-- The cells of one node. -/
structure NdAt (w : World) (a : Addr) (x : Nd) : Prop where
  p0 : w.cell? a = some (.int .i64 x.f)
  p1 : w.cell? ⟨a.block, a.off + 1, none⟩ = some (.int .i64 x.b)
  p2 : w.cell? ⟨a.block, a.off + 2, none⟩ = some (.int .i64 x.l)
  p3 : w.cell? ⟨a.block, a.off + 3, none⟩ = some (.int .i64 x.c)
  p4 : w.cell? ⟨a.block, a.off + 4, none⟩ = some (.int .i64 x.s)
  p5 : w.cell? ⟨a.block, a.off + 5, none⟩ = some (.int .i64 x.k)
theorem NdAt.below {w w1 : World} {a : Addr} {x : Nd} (h : NdAt w a x) (hb : Below w.heap.size w w1) : NdAt w1 a x :=
  ⟨(hb.cell (World.block_lt_of_cell? w _ h.p0)).trans h.p0, (hb.cell (World.block_lt_of_cell? w _ h.p1)).trans h.p1, (hb.cell (World.block_lt_of_cell? w _ h.p2)).trans h.p2, (hb.cell (World.block_lt_of_cell? w _ h.p3)).trans h.p3, (hb.cell (World.block_lt_of_cell? w _ h.p4)).trans h.p4, (hb.cell (World.block_lt_of_cell? w _ h.p5)).trans h.p5⟩
theorem RN.at {w : World} {A : Option Addr} {l : List Nd} (h : RN w A l) {i : Nat} (hi : i < l.length) : ∃ ad, A = some ad ∧ ∃ x, l[i]? = some x ∧ x.ok ∧ NdAt w (ad.add (i * 6)) x := by
  obtain ⟨ad, rfl, ha⟩ := h (by omega)
  obtain ⟨c, h1, ⟨rfl, hok⟩, h3⟩ := ha i _ (List.getElem?_eq_getElem hi)
  refine ⟨ad, rfl, _, List.getElem?_eq_getElem hi, hok, ?_⟩
  have e1 := h3 1 _ rfl
  have e2 := h3 2 _ rfl
  have e3 := h3 3 _ rfl
  have e4 := h3 4 _ rfl
  have e5 := h3 5 _ rfl
  rw [add_k _ _ _ _ (by omega) (by omega)] at e1 e2 e3 e4 e5
  exact ⟨h3 0 _ rfl, e1, e2, e3, e4, e5⟩
theorem RI1.at {w : World} {A : Option Addr} {l : List Int} (h : RI1 w A l) {i : Nat} (hi : i < l.length) : ∃ ad, A = some ad ∧ in64 (l.getD i 0) ∧ w.cell? (ad.add i) = some (.int .i64 (l.getD i 0)) := by
  obtain ⟨ad, rfl, ha⟩ := h (by omega)
  obtain ⟨c, h1, ⟨rfl, hok⟩, h3⟩ := ha i _ (List.getElem?_eq_getElem hi)
  have e := h3 0 _ rfl
  rw [Nat.mul_one, Nat.add_zero] at e
  rw [List.getD_eq_getElem?_getD, List.getElem?_eq_getElem hi]
  exact ⟨ad, rfl, hok, e⟩
/-- A tree of a row of trees. -/
theorem RT.at {w : World} {A : Option Addr} {l : List (List Nd)} (h : RT w A l) {i : Nat} (hi : i < l.length) : ∃ ad, A = some ad ∧ ∃ t B cap, l[i]? = some t ∧ w.cell? (ad.add i) = some (.slice B t.length cap) ∧ t.length ≤ cap ∧ cap ≤ 9223372036854775807 ∧ RN w B t := by
  obtain ⟨ad, rfl, ha⟩ := h (by omega)
  obtain ⟨c, h1, ⟨B, cap, rfl, k1, k2, k3⟩, h3⟩ := ha i _ (List.getElem?_eq_getElem hi)
  have e := h3 0 _ rfl
  rw [Nat.mul_one, Nat.add_zero] at e
  exact ⟨ad, rfl, _, B, cap, List.getElem?_eq_getElem hi, e, k1, k2, k3⟩
theorem RW.at {w : World} {A : Option Addr} {l : List (List Int)} (h : RW w A l) {i : Nat} (hi : i < l.length) : ∃ ad, A = some ad ∧ ∃ t B cap, l[i]? = some t ∧ w.cell? (ad.add i) = some (.slice B t.length cap) ∧ t.length ≤ cap ∧ cap ≤ 9223372036854775807 ∧ RI1 w B t := by
  obtain ⟨ad, rfl, ha⟩ := h (by omega)
  obtain ⟨c, h1, ⟨B, cap, rfl, k1, k2, k3⟩, h3⟩ := ha i _ (List.getElem?_eq_getElem hi)
  have e := h3 0 _ rfl
  rw [Nat.mul_one, Nat.add_zero] at e
  exact ⟨ad, rfl, _, B, cap, List.getElem?_eq_getElem hi, e, k1, k2, k3⟩
end Go.Proofs.Ytpekofpiodaadaa.Hb
end

section
/- How deep the nodes of a tree stand: the program's way and the document's are one. -/
namespace Go.Proofs.Ytpekofpiodaadaa.Hb
set_option linter.unusedVariables false

/-- The program's way: the nodes that are left, the place, what came. -/
def depGo (L : Nat) : List Nd → Nat → List Int → Option (List Int)
  | [], _, out => if out.length = L then some out else none
  | n :: r, i, out => if out.length ≤ i then none else if n.f = -1 then depGo L r (i + 1) out else if n.l ≠ out.length ∨ L < out.length + 2 then none else depGo L r (i + 1) (out ++ [out.getD i 0 + 1, out.getD i 0 + 1])
def depthsO (t : List Nd) : List Int := if t = [] then [] else (depGo t.length t 0 [0]).getD []
/-- The document's way, its first half. -/
def refLeft : List Nd → Nat → Nat → Option Nat
  | [], _, left => some left
  | n :: r, i, left => if 0 ≤ n.f then (if n.l ≠ left ∨ left ≤ i then none else refLeft r (i + 1) (left + 2)) else refLeft r (i + 1) left
theorem refLeft_mono : ∀ (r : List Nd) (i left l : Nat), refLeft r i left = some l → left ≤ l
  | [], i, left, l, h => by cases h; exact Nat.le_refl _
  | n :: r, i, left, l, h => by
    unfold refLeft at h
    split at h
    · split at h
      · cases h
      · have := refLeft_mono r _ _ l h; omega
    · exact refLeft_mono r _ _ l h
theorem refLeft_late : ∀ (r : List Nd) (i left l : Nat), left ≤ i → refLeft r i left = some l → l = left
  | [], i, left, l, _, h => by cases h; rfl
  | n :: r, i, left, l, hl, h => by
    unfold refLeft at h
    split at h
    · rw [if_pos (.inr hl)] at h; cases h
    · exact refLeft_late r _ _ l (by omega) h
/-- Both ways fail at once. -/
theorem dep_ref {L : Nat} : ∀ (r : List Nd) (i : Nat) (out : List Int), (∀ n ∈ r, -1 ≤ n.f) → i + r.length = L → ((depGo L r i out).isSome ↔ refLeft r i out.length = some L)
  | [], i, out, _, hL => by
    unfold depGo refLeft
    by_cases h : out.length = L <;> simp [h]
  | n :: r, i, out, hf, hL => by
    have hn := hf n (List.mem_cons_self ..)
    have hr : ∀ m ∈ r, -1 ≤ m.f := fun m hm => hf m (List.mem_cons_of_mem _ hm)
    simp only [List.length_cons] at hL
    unfold depGo refLeft
    by_cases h1 : out.length ≤ i
    · rw [if_pos h1]
      refine ⟨fun h => by simp at h, fun h => ?_⟩
      split at h
      · rw [if_pos (.inr h1)] at h; cases h
      · have := refLeft_late r _ _ _ (by omega) h; omega
    · rw [if_neg h1]
      by_cases h2 : n.f = -1
      · rw [if_pos h2, if_neg (by omega)]
        exact dep_ref r (i + 1) out hr (by omega)
      · rw [if_neg h2, if_pos (show 0 ≤ n.f by omega)]
        by_cases h3 : n.l ≠ out.length
        · rw [if_pos (.inl h3), if_pos (.inl h3)]; simp
        · rw [if_neg (show ¬ (n.l ≠ (out.length : Int) ∨ out.length ≤ i) by omega)]
          by_cases h4 : L < out.length + 2
          · rw [if_pos (.inr h4)]
            refine ⟨fun h => by simp at h, fun h => ?_⟩
            have := refLeft_mono r _ _ _ h
            omega
          · rw [if_neg (by omega)]
            have := dep_ref (L := L) r (i + 1) (out ++ [out.getD i 0 + 1, out.getD i 0 + 1]) hr (by omega)
            simpa using this
/-- How many nodes ahead of a place have kids. -/
def kidC : List Nd → Nat → Nat
  | _, 0 => 0
  | [], _ + 1 => 0
  | n :: r, k + 1 => (if n.f = -1 then 0 else 1) + kidC r k
theorem getD_app {l r : List Int} {k : Nat} (h : k < l.length) : (l ++ r).getD k 0 = l.getD k 0 := by
  rw [List.getD_eq_getElem?_getD, List.getD_eq_getElem?_getD, List.getElem?_append_left h]
/-- What came stands at the front of what comes. -/
theorem dep_front {L : Nat} : ∀ (r : List Nd) (i : Nat) (out ds : List Int), depGo L r i out = some ds → out <+: ds ∧ ds.length = L
  | [], i, out, ds, h => by
    unfold depGo at h
    split at h
    · cases h; exact ⟨List.prefix_rfl, by assumption⟩
    · cases h
  | n :: r, i, out, ds, h => by
    unfold depGo at h
    split at h
    · cases h
    · split at h
      · exact dep_front r _ _ _ h
      · split at h
        · cases h
        · obtain ⟨h1, h2⟩ := dep_front r _ _ _ h
          exact ⟨(List.prefix_append _ _).trans h1, h2⟩
theorem pre_getD {l ds : List Int} (h : l <+: ds) {k : Nat} (hk : k < l.length) : ds.getD k 0 = l.getD k 0 := by
  obtain ⟨r, rfl⟩ := h
  exact getD_app hk
/-- Each node that has kids: where these stand, and how deep. -/
theorem dep_kids {L : Nat} : ∀ (r : List Nd) (i : Nat) (out ds : List Int), depGo L r i out = some ds →
    (∀ (j : Nat) (n : Nd), r[j]? = some n → n.f ≠ -1 → n.l = ((out.length + 2 * kidC r j : Nat) : Int) ∧ i + j < out.length + 2 * kidC r j ∧ out.length + 2 * kidC r j + 2 ≤ L ∧
      ds.getD (out.length + 2 * kidC r j) 0 = ds.getD (i + j) 0 + 1 ∧ ds.getD (out.length + 2 * kidC r j + 1) 0 = ds.getD (i + j) 0 + 1) ∧ out.length + 2 * kidC r r.length = L
  | [], i, out, ds, h => by
    unfold depGo at h
    split at h
    · exact ⟨fun j n hj => by simp at hj, by simpa [kidC] using by assumption⟩
    · cases h
  | n :: r, i, out, ds, h => by
    unfold depGo at h
    split at h
    · cases h
    · rename_i h1
      split at h
      · rename_i h2
        obtain ⟨ih1, ih2⟩ := dep_kids r _ _ _ h
        refine ⟨fun j m hj hm => ?_, by simpa [kidC, h2] using ih2⟩
        rcases j with _ | j
        · simp at hj; subst hj; exact absurd h2 hm
        · have := ih1 j m (by simpa using hj) hm
          have e : kidC (n :: r) (j + 1) = kidC r j := by simp [kidC, h2]
          rw [e, show i + (j + 1) = i + 1 + j by omega]
          exact this
      · rename_i h2
        split at h
        · cases h
        · rename_i h3
          obtain ⟨ih1, ih2⟩ := dep_kids r _ _ _ h
          have hp := (dep_front r _ _ _ h).1
          simp only [List.length_append, List.length_cons, List.length_nil] at ih1 ih2
          have e : ∀ j, kidC (n :: r) (j + 1) = 1 + kidC r j := fun j => by simp [kidC, h2]
          refine ⟨fun j m hj hm => ?_, by rw [List.length_cons, e]; omega⟩
          rcases j with _ | j
          · simp at hj; subst hj
            have e0 : kidC (n :: r) 0 = 0 := by simp [kidC]
            rw [e0]
            have g := fun (k : Nat) (hk : k < (out ++ [out.getD i 0 + 1, out.getD i 0 + 1]).length) => pre_getD hp hk
            simp only [List.length_append, List.length_cons, List.length_nil] at g
            have g0 := g i (by omega)
            have g1 := g out.length (by omega)
            have g2 := g (out.length + 1) (by omega)
            rw [getD_app (by omega)] at g0
            have k1 : (out ++ [out.getD i 0 + 1, out.getD i 0 + 1]).getD out.length 0 = out.getD i 0 + 1 := by simp [List.getD_eq_getElem?_getD]
            have k2 : (out ++ [out.getD i 0 + 1, out.getD i 0 + 1]).getD (out.length + 1) 0 = out.getD i 0 + 1 := by simp [List.getD_eq_getElem?_getD]
            rw [k1] at g1
            rw [k2] at g2
            simp only [Nat.mul_zero, Nat.add_zero]
            rw [g0, g1, g2]
            exact ⟨by omega, by omega, by omega, rfl, rfl⟩
          · have := ih1 j m (by simpa using hj) hm
            rw [e, show i + (j + 1) = i + 1 + j by omega, show out.length + 2 * (1 + kidC r j) = out.length + 2 + 2 * kidC r j by omega]
            refine ⟨by have := this.1; omega, this.2.1, this.2.2.1, this.2.2.2⟩
theorem kid_ex : ∀ (t : List Nd) (c : Nat), c < kidC t t.length → ∃ k n, t[k]? = some n ∧ n.f ≠ -1 ∧ kidC t k = c
  | [], c, h => by simp [kidC] at h
  | n :: r, c, h => by
    by_cases hn : n.f = -1
    · have e : ∀ j, kidC (n :: r) (j + 1) = kidC r j := fun j => by simp [kidC, hn]
      rw [List.length_cons, e] at h
      obtain ⟨k, m, h1, h2, h3⟩ := kid_ex r c h
      exact ⟨k + 1, m, by simpa using h1, h2, by rw [e]; exact h3⟩
    · have e : ∀ j, kidC (n :: r) (j + 1) = 1 + kidC r j := fun j => by simp [kidC, hn]
      rcases c with _ | c
      · exact ⟨0, n, rfl, hn, by simp [kidC]⟩
      · rw [List.length_cons, e] at h
        obtain ⟨k, m, h1, h2, h3⟩ := kid_ex r c (by omega)
        exact ⟨k + 1, m, by simpa using h1, h2, by rw [e]; omega⟩
/-- Whose kid a node is: the document's search. -/
def parGo (p : Nat) : List Nd → Nat → Int
  | [], _ => -1
  | n :: r, k => if 0 ≤ n.f ∧ (n.l = p ∨ n.l + 1 = p) then k else parGo p r (k + 1)
def parO (t : List Nd) (p : Nat) : Int := parGo p (t.take p) 0
theorem par_find {p : Nat} : ∀ (r : List Nd) (i j : Nat) (n : Nd), r[j]? = some n → (0 ≤ n.f ∧ (n.l = p ∨ n.l + 1 = p)) → (∀ j' n', j' < j → r[j']? = some n' → ¬ (0 ≤ n'.f ∧ (n'.l = p ∨ n'.l + 1 = p))) → parGo p r i = ((i + j : Nat) : Int)
  | [], i, j, n, hj, _, _ => by simp at hj
  | m :: r, i, j, n, hj, hc, ho => by
    unfold parGo
    rcases j with _ | j
    · simp at hj; subst hj
      rw [if_pos hc]; simp
    · rw [if_neg (ho 0 m (by omega) rfl)]
      have := par_find r (i + 1) j n (by simpa using hj) hc (fun j' n' h1 h2 => ho (j' + 1) n' (by omega) (by simpa using h2))
      rw [this]
      congr 1
      omega
/-- The depths of a tree that stands well: the document's list. -/
structure DepOf (t : List Nd) (ds : List Int) : Prop where
  len : ds.length = t.length
  d0 : ds.getD 0 0 = 0
  par : ∀ p, 0 < p → p < t.length → ∃ k : Nat, parO t p = k ∧ k < p ∧ ds.getD p 0 = ds.getD k 0 + 1
theorem dep_of {t : List Nd} {ds : List Int} (hf : ∀ n ∈ t, -1 ≤ n.f) (h : depGo t.length t 0 [0] = some ds) : DepOf t ds := by
  obtain ⟨hp, hl⟩ := dep_front _ _ _ _ h
  obtain ⟨hk, hL⟩ := dep_kids _ _ _ _ h
  simp only [List.length_cons, List.length_nil, Nat.zero_add] at hk hL
  refine ⟨hl, pre_getD hp (by simp), fun p h0 h1 => ?_⟩
  obtain ⟨k, n, e1, e2, e3⟩ := kid_ex t ((p - 1) / 2) (by omega)
  obtain ⟨a1, a2, a3, a4, a5⟩ := hk k n e1 e2
  rw [e3] at a1 a2 a3 a4 a5
  have hnf : 0 ≤ n.f := by have := hf n (List.mem_of_getElem? e1); omega
  have hkp : k < p := by omega
  refine ⟨k, ?_, hkp, ?_⟩
  · unfold parO
    have := par_find (p := p) (t.take p) 0 k n (by rw [List.getElem?_take, if_pos hkp]; exact e1) ⟨hnf, by omega⟩ (fun j' n' h1' h2' hc => by
      rw [List.getElem?_take, if_pos (by omega)] at h2'
      obtain ⟨b1, b2, b3, _⟩ := hk j' n' h2' (by omega)
      have hm : kidC t j' < kidC t k := by
        have mono : ∀ (t : List Nd) (a b : Nat) (m : Nd), a < b → b ≤ t.length → t[a]? = some m → m.f ≠ -1 → kidC t a < kidC t b := by
          intro t
          induction t with
          | nil => intro a b m _ _ hm _; simp at hm
          | cons q r ih =>
            intro a b m hab hb hm hmf
            rcases b with _ | b
            · omega
            · rcases a with _ | a
              · simp at hm; subst hm
                simp [kidC, hmf]; omega
              · have := ih a b m (by omega) (by simp at hb; omega) (by simpa using hm) hmf
                simp only [kidC]; omega
        exact mono t j' k n' h1' (by have := (List.getElem?_eq_some_iff.1 e1).1; omega) h2' (by omega)
      omega)
    rw [this, Nat.zero_add]
  · rcases (show 1 + 2 * ((p - 1) / 2) = p ∨ 1 + 2 * ((p - 1) / 2) + 1 = p by omega) with e | e
    · rw [e] at a4; exact a4
    · rw [e] at a5; exact a5
end Go.Proofs.Ytpekofpiodaadaa.Hb
end

section
/- Whether a node is right, by itself. -/
namespace Go.Proofs.Ytpekofpiodaadaa.Hb
set_option linter.unusedVariables false
set_option linter.unusedSimpArgs false
open Go.RowKit

theorem nleaf_any (x : Nd) (w : World) : Calls Try.prog 125 #[ndV x] w fun e w' => e = .returned (.bool (x.f == -1)) ∧ Below w.heap.size w w' := by
  unfold ndV
  go_enter Try.func125, Try.ntmps125
  go_wp2
  go_ret
  exact ⟨rfl, (Below.refl _ _).alloc (Nat.le_refl _) _⟩
theorem eq_nd (d : Nat) (w : World) (x0 x1 x2 x3 x4 x5 y0 y1 y2 y3 y4 y5 : Int) :
    (Op.equalIn (d + 2) 90 (.agg #[.int .i64 x0, .int .i64 x1, .int .i64 x2, .int .i64 x3, .int .i64 x4, .int .i64 x5]) (.agg #[.int .i64 y0, .int .i64 y1, .int .i64 y2, .int .i64 y3, .int .i64 y4, .int .i64 y5])).run Try.prog w = .ok (x0 == y0 && (x1 == y1 && (x2 == y2 && (x3 == y3 && (x4 == y4 && (x5 == y5 && true)))))) w := by
  refine eqs_of Try.underlying90 (by kernel_rfl) ?_
  refine eqf_cons (by rfl) (by go_simp; rfl) (by go_simp; rfl) (by go_simp) ?_
  refine eqf_cons (by rfl) (by go_simp; rfl) (by go_simp; rfl) (by go_simp) ?_
  refine eqf_cons (by rfl) (by go_simp; rfl) (by go_simp; rfl) (by go_simp) ?_
  refine eqf_cons (by rfl) (by go_simp; rfl) (by go_simp; rfl) (by go_simp) ?_
  refine eqf_cons (by rfl) (by go_simp; rfl) (by go_simp; rfl) (by go_simp) ?_
  exact eqf_cons (by rfl) (by go_simp; rfl) (by go_simp; rfl) (by go_simp) eqf_nil
/-- Is a node right? -/
def oneP (cols bins kind classes : Int) (x : Nd) : Prop :=
  if x.f = -1 then
    (if kind = 0 then x.b = 0 ∧ x.l = 0 ∧ x.s = 0 ∧ x.k = 0 ∧ 0 ≤ x.c ∧ x.c < classes
    else x.b = 0 ∧ x.l = 0 ∧ x.c = 0 ∧ 1 ≤ x.k ∧ x.k ≤ 1048576 ∧ -(1048576 * x.k) ≤ x.s ∧ x.s ≤ 1048576 * x.k)
  else x.c = 0 ∧ x.s = 0 ∧ x.k = 0 ∧ 0 ≤ x.f ∧ x.f < cols ∧ 0 ≤ x.b ∧ x.b < bins
instance (cols bins kind classes : Int) (x : Nd) : Decidable (oneP cols bins kind classes x) := by unfold oneP; infer_instance
def mayS (cols bins kind classes : Int) : Prop := 1 ≤ cols ∧ cols ≤ 1024 ∧ 2 ≤ bins ∧ bins ≤ 256 ∧ ((kind = 0 ∧ 2 ≤ classes ∧ classes ≤ 256) ∨ (kind = 1 ∧ classes = 0))
instance (cols bins kind classes : Int) : Decidable (mayS cols bins kind classes) := by unfold mayS; infer_instance
set_option maxRecDepth 100000 in
set_option maxHeartbeats 1000000 in
theorem nmay_any (cols bins kind classes : Int) (w : World) : Calls Try.prog 171 #[.agg #[.int .i64 cols, .int .i64 bins, .int .i64 kind, .int .i64 classes]] w fun e w' => e = .returned (.bool (decide (mayS cols bins kind classes))) ∧ Below w.heap.size w w' := by
  go_enter Try.func171, Try.ntmps171
  go_wp2
  all_goals
    go_ret
    refine ⟨congrArg (fun b => Ending.returned (.bool b)) ?_, (Below.refl _ _).alloc (Nat.le_refl _) _⟩
    try unfold mayS
    first
    | (refine (decide_eq_false ?_).symm; omega)
    | (refine (decide_eq_true ?_).symm; omega)
    | (refine decide_eq_decide.2 ?_; omega)
    | (rw [Bool.eq_iff_iff]; simp; omega)
end Go.Proofs.Ytpekofpiodaadaa.Hb
end

section
/- The leaf to which a row comes: pure. -/
namespace Go.Proofs.Ytpekofpiodaadaa.Hb
set_option linter.unusedVariables false
open Go.RowKit

def nd0 : Nd := ⟨0, 0, 0, 0, 0, 0⟩
def ndAt (t : List Nd) (at' : Int) : Nd := t.getD at'.toNat nd0
def nextAt (row : List Int) (n : Nd) : Int := if row.getD n.f.toNat 0 > n.b then IntKind.i64.wrap (n.l + 1) else n.l
def placeGo (t : List Nd) (row : List Int) : Nat → Int → Int
  | 0, _ => -1
  | k + 1, at' => if at' < 0 ∨ (t.length : Int) ≤ at' then -1 else if (ndAt t at').f = -1 then at' else if (ndAt t at').f < 0 ∨ (row.length : Int) ≤ (ndAt t at').f then -1 else placeGo t row k (nextAt row (ndAt t at'))
def placeO (t : List Nd) (row : List Int) : Int := placeGo t row t.length 0
theorem place_out {t : List Nd} {row : List Int} {k : Nat} {a : Int} (h : a < 0 ∨ (t.length : Int) ≤ a) : placeGo t row (k + 1) a = -1 := by rw [placeGo, if_pos h]
theorem place_leaf {t : List Nd} {row : List Int} {k : Nat} {a : Int} (h : ¬ (a < 0 ∨ (t.length : Int) ≤ a)) (h2 : (ndAt t a).f = -1) : placeGo t row (k + 1) a = a := by rw [placeGo, if_neg h, if_pos h2]
theorem place_off {t : List Nd} {row : List Int} {k : Nat} {a : Int} (h : ¬ (a < 0 ∨ (t.length : Int) ≤ a)) (h2 : ¬ (ndAt t a).f = -1) (h3 : (ndAt t a).f < 0 ∨ (row.length : Int) ≤ (ndAt t a).f) : placeGo t row (k + 1) a = -1 := by rw [placeGo, if_neg h, if_neg h2, if_pos h3]
theorem place_go {t : List Nd} {row : List Int} {k : Nat} {a : Int} (h : ¬ (a < 0 ∨ (t.length : Int) ≤ a)) (h2 : ¬ (ndAt t a).f = -1) (h3 : ¬ ((ndAt t a).f < 0 ∨ (row.length : Int) ≤ (ndAt t a).f)) : placeGo t row (k + 1) a = placeGo t row k (nextAt row (ndAt t a)) := by rw [placeGo, if_neg h, if_neg h2, if_neg h3]
/-- Is a tree right? -/
def maxO (l : List Int) : Int := l.foldl max 0
def rightT (cols bins kind classes : Int) (t : List Nd) : Bool := decide (mayS cols bins kind classes) && (!(depthsO t).isEmpty && (decide (maxO (depthsO t) ≤ 32) && t.all fun n => decide (oneP cols bins kind classes n)))
theorem rightT_is {cols bins kind classes : Int} {t : List Nd} (h : rightT cols bins kind classes t = true) :
    mayS cols bins kind classes ∧ t ≠ [] ∧ (∃ ds, depGo t.length t 0 [0] = some ds ∧ depthsO t = ds) ∧ maxO (depthsO t) ≤ 32 ∧ ∀ n ∈ t, oneP cols bins kind classes n := by
  unfold rightT at h
  simp only [Bool.and_eq_true, decide_eq_true_eq, List.all_eq_true, Bool.not_eq_true', List.isEmpty_eq_false_iff] at h
  obtain ⟨h1, h2, h3, h4⟩ := h
  have ht : t ≠ [] := fun e => h2 (by rw [e]; rfl)
  refine ⟨h1, ht, ?_, h3, h4⟩
  unfold depthsO at h2 ⊢
  rw [if_neg ht] at h2 ⊢
  cases hd : depGo t.length t 0 [0] with
  | none => rw [hd] at h2; exact absurd rfl h2
  | some ds => exact ⟨ds, rfl, rfl⟩
theorem oneP_f {cols bins kind classes : Int} {n : Nd} (h : oneP cols bins kind classes n) : -1 ≤ n.f := by
  unfold oneP at h
  split at h
  · omega
  · omega
theorem ndAt_get {t : List Nd} {a : Int} (h0 : 0 ≤ a) (h : a < t.length) : t[a.toNat]? = some (ndAt t a) := by
  unfold ndAt
  rw [List.getD_eq_getElem?_getD, List.getElem?_eq_getElem (by omega)]
  rfl
/-- A row of a right tree comes to a leaf. -/
theorem place_right {cols bins kind classes : Int} {t : List Nd} (h : rightT cols bins kind classes t = true) (hlen : t.length ≤ 9223372036854775807) (row : List Int) (hrow : cols ≤ row.length) :
    0 ≤ placeO t row ∧ placeO t row < t.length ∧ (ndAt t (placeO t row)).f = -1 := by
  obtain ⟨_, ht, ⟨ds, hd, _⟩, _, h4⟩ := rightT_is h
  obtain ⟨hk, _⟩ := dep_kids _ _ _ _ hd
  simp only [List.length_cons, List.length_nil, Nat.zero_add] at hk
  have key : ∀ (k : Nat) (a : Nat), a < t.length → t.length ≤ a + k → 0 ≤ placeGo t row k a ∧ placeGo t row k a < t.length ∧ (ndAt t (placeGo t row k a)).f = -1 := by
    intro k
    induction k with
    | zero => intro a h1 h2; omega
    | succ k ih =>
      intro a h1 h2
      have hn := ndAt_get (t := t) (a := (a : Int)) (by omega) (by omega)
      have ho := h4 _ (List.mem_of_getElem? hn)
      rw [Int.toNat_natCast] at hn
      by_cases hf : (ndAt t a).f = -1
      · rw [place_leaf (by omega) hf]
        exact ⟨by omega, by omega, hf⟩
      · have hb : ¬ ((ndAt t a).f < 0 ∨ (row.length : Int) ≤ (ndAt t a).f) := by
          unfold oneP at ho
          rw [if_neg hf] at ho
          omega
        rw [place_go (by omega) hf hb]
        obtain ⟨b1, b2, b3, _⟩ := hk a _ hn hf
        obtain ⟨L, hL⟩ : ∃ L : Nat, 1 + 2 * kidC t a = L := ⟨_, rfl⟩
        have e1 : (ndAt t a).l = (L : Int) := by omega
        unfold nextAt
        split
        · rename_i hgt
          have e3 : IntKind.i64.wrap ((ndAt t a).l + 1) = ((L + 1 : Nat) : Int) := by
            rw [e1, IntKind.wrap_i64]; omega
          rw [e3]
          exact ih (L + 1) (by omega) (by omega)
        · rw [e1]
          exact ih L (by omega) (by omega)
  have := key t.length 0 (by have := List.length_pos_iff.2 ht; omega) (by omega)
  exact this
end Go.Proofs.Ytpekofpiodaadaa.Hb
end

section
/- Numbers of 64 bits: sums, differences, products that may go beyond. No Go. -/
namespace Go.Proofs.Ytpekofpiodaadaa.Hb

def inR (x : Int) : Prop := -9223372036854775808 ≤ x ∧ x ≤ 9223372036854775807
instance (x : Int) : Decidable (inR x) := inferInstanceAs (Decidable (_ ∧ _))
/-- A number that is within, or none. -/
def lim (x : Int) : Option Int := if inR x then some x else none
theorem lim_in {x : Int} (h : inR x) : lim x = some x := if_pos h
theorem lim_out {x : Int} (h : ¬ inR x) : lim x = none := if_neg h
theorem lim_some {x y : Int} (h : lim x = some y) : y = x ∧ inR x := by
  unfold lim at h; split at h
  · exact ⟨(Option.some.inj h).symm, ‹_›⟩
  · cases h
theorem lim_none {x : Int} (h : lim x = none) : ¬ inR x := by
  unfold lim at h; split at h
  · cases h
  · assumption
/-- What a function of a number and an error hands back. -/
def res : Option Int → Value
  | some x => .tuple #[.int .i64 x, .int .i64 0]
  | none => .tuple #[.int .i64 0, .int .i64 6]
theorem res_form (v : Option Int) : ∃ x y, res v = .tuple #[.int .i64 x, .int .i64 y] := by cases v <;> exact ⟨_, _, rfl⟩
theorem ret_res {v : Value} {a b : Int} (h : v = .tuple #[.int .i64 a, .int .i64 b]) : Ending.returned (.tuple #[.int .i64 a, .int .i64 b]) = .returned v := by rw [h]
end Go.Proofs.Ytpekofpiodaadaa.Hb
end

section
/- The vote of leaves: pure. -/
namespace Go.Proofs.Ytpekofpiodaadaa.Hb
set_option linter.unusedVariables false
open Go.RowKit

def cntC (l : List Nd) (c : Nat) : Nat := (l.filter fun n => decide (n.c = (c : Int))).length
/-- The first class that most told: going up. -/
def bestUp (f : Nat → Nat) : Nat → Nat
  | 0 => 0
  | k + 1 => if f (bestUp f k) < f k then k else bestUp f k
def IsBest (f : Nat → Nat) (N b : Nat) : Prop := b < N ∧ (∀ c, c < N → f c ≤ f b) ∧ ∀ c, c < b → f c < f b
theorem best_up (f : Nat → Nat) : ∀ k, 0 < k → IsBest f k (bestUp f k)
  | 0, h => absurd h (by omega)
  | 1, _ => by
    have e : bestUp f 1 = 0 := by simp [bestUp]
    rw [e]
    exact ⟨by omega, fun c hc => (show c = 0 by omega) ▸ Nat.le_refl _, fun c hc => absurd hc (Nat.not_lt_zero _)⟩
  | k + 2, _ => by
    obtain ⟨h1, h2, h3⟩ := best_up f (k + 1) (by omega)
    rw [bestUp]
    split
    · rename_i h
      refine ⟨by omega, fun c hc => ?_, fun c hc => ?_⟩
      · rcases Nat.lt_or_ge c (k + 1) with hc' | hc'
        · have := h2 c hc'; omega
        · have : c = k + 1 := by omega
          subst this; exact Nat.le_refl _
      · have := h2 c hc; omega
    · rename_i h
      refine ⟨by omega, fun c hc => ?_, h3⟩
      rcases Nat.lt_or_ge c (k + 1) with hc' | hc'
      · exact h2 c hc'
      · have : c = k + 1 := by omega
        subst this; omega
theorem best_one {f : Nat → Nat} {N a b : Nat} (h : IsBest f N a) (k : IsBest f N b) : a = b := by
  rcases Nat.lt_trichotomy a b with hl | hl | hl
  · have := k.2.2 a hl; have := h.2.1 b k.1; omega
  · exact hl
  · have := h.2.2 b hl; have := k.2.1 a h.1; omega
/-- Going down. -/
def bestDn (f : Nat → Nat) : Nat → Nat → Int → Nat
  | 0, b, _ => b
  | k + 1, b, m => if m ≤ (f k : Int) then bestDn f k k (f k) else bestDn f k b m
theorem best_dn (f : Nat → Nat) (N : Nat) : ∀ k b, k ≤ b → b < N → (∀ c, k ≤ c → c < N → f c ≤ f b) → (∀ c, k ≤ c → c < b → f c < f b) → IsBest f N (bestDn f k b (f b))
  | 0, b, _, hb, h1, h2 => ⟨hb, fun c hc => h1 c (by omega) hc, fun c hc => h2 c (by omega) hc⟩
  | k + 1, b, hk, hb, h1, h2 => by
    unfold bestDn
    split
    · rename_i h
      refine best_dn f N k k (Nat.le_refl _) (by omega) (fun c hc hc' => ?_) (fun c hc hc' => by omega)
      rcases Nat.eq_or_lt_of_le hc with rfl | hl
      · exact Nat.le_refl _
      · have := h1 c (by omega) hc'; omega
    · rename_i h
      refine best_dn f N k b (by omega) hb (fun c hc hc' => ?_) (fun c hc hc' => ?_)
      · rcases Nat.eq_or_lt_of_le hc with rfl | hl
        · omega
        · exact h1 c (by omega) hc'
      · rcases Nat.eq_or_lt_of_le hc with rfl | hl
        · omega
        · exact h2 c (by omega) hc'
theorem best_down (f : Nat → Nat) (N : Nat) (hN : 0 < N) : IsBest f N (bestDn f N 0 (-1)) := by
  obtain ⟨k, rfl⟩ : ∃ k, N = k + 1 := ⟨N - 1, by omega⟩
  unfold bestDn
  rw [if_pos (by omega)]
  exact best_dn f (k + 1) k k (Nat.le_refl _) (by omega) (fun c hc hc' => (show c = k by omega) ▸ Nat.le_refl _) (fun c hc hc' => absurd hc' (by omega))
def offC (classes : Int) (n : Nd) : Bool := decide (n.c < 0 ∨ classes ≤ n.c)
def classO (l : List Nd) (classes : Int) : Int × Int :=
  if l = [] ∨ classes < 1 ∨ 256 < classes then (0, 1) else if l.any (offC classes) then (0, 5) else ((bestUp (cntC l) 256 : Nat), 0)
theorem cnt_off {l : List Nd} {classes : Int} (h : l.any (offC classes) = false) {c : Nat} (hc : classes ≤ c) : cntC l c = 0 := by
  unfold cntC
  rw [List.length_eq_zero_iff, List.filter_eq_nil_iff]
  intro n hn
  have := (List.any_eq_false.1 h) n hn
  unfold offC at this
  simp at this ⊢
  omega
theorem best_both {l : List Nd} {classes : Int} (h0 : l ≠ []) (h1 : 1 ≤ classes) (h2 : classes ≤ 256) (h : l.any (offC classes) = false) : bestDn (cntC l) classes.toNat 0 (-1) = bestUp (cntC l) 256 ∧ bestUp (cntC l) 256 < classes.toNat := by
  have a := best_down (cntC l) classes.toNat (by omega)
  have b := best_up (cntC l) 256 (by omega)
  obtain ⟨x, xs, rfl⟩ : ∃ x xs, l = x :: xs := by cases l with | nil => exact absurd rfl h0 | cons x xs => exact ⟨x, xs, rfl⟩
  have hx := (List.any_eq_false.1 h) x (List.mem_cons_self ..)
  unfold offC at hx
  simp at hx
  have hpos : 0 < cntC (x :: xs) x.c.toNat := by
    unfold cntC
    rw [List.filter_cons, if_pos (by simp; omega)]
    simp
  have hb : bestUp (cntC (x :: xs)) 256 < classes.toNat := by
    rcases Nat.lt_or_ge (bestUp (cntC (x :: xs)) 256) classes.toNat with hl | hl
    · exact hl
    · have e := cnt_off h (c := bestUp (cntC (x :: xs)) 256) (by omega)
      have := b.2.1 x.c.toNat (by omega)
      omega
  exact ⟨best_one a ⟨hb, fun c hc => b.2.1 c (by omega), b.2.2⟩, hb⟩
def floorO (s c : Int) : Int × Int := if c < 1 then (0, 1) else (s / c, 0)
def meanGo : List Nd → Int → Int → Int × Int
  | [], c, s => floorO s c
  | n :: r, c, s => if n.k < 1 then (0, 5) else match lim (c + n.k) with
    | none => (0, 6)
    | some c' => match lim (s + n.s) with
      | none => (0, 6)
      | some s' => meanGo r c' s'
theorem mean_5 {n : Nd} {r : List Nd} {c s : Int} (h : n.k < 1) : meanGo (n :: r) c s = (0, 5) := by rw [meanGo, if_pos h]
theorem mean_6 {n : Nd} {r : List Nd} {c s : Int} (h : ¬ n.k < 1) (h1 : lim (c + n.k) = none) : meanGo (n :: r) c s = (0, 6) := by rw [meanGo, if_neg h, h1]
theorem mean_6' {n : Nd} {r : List Nd} {c s c' : Int} (h : ¬ n.k < 1) (h1 : lim (c + n.k) = some c') (h2 : lim (s + n.s) = none) : meanGo (n :: r) c s = (0, 6) := by rw [meanGo, if_neg h, h1]; simp only [h2]
theorem mean_go {n : Nd} {r : List Nd} {c s c' s' : Int} (h : ¬ n.k < 1) (h1 : lim (c + n.k) = some c') (h2 : lim (s + n.s) = some s') : meanGo (n :: r) c s = meanGo r c' s' := by rw [meanGo, if_neg h, h1]; simp only [h2]
def meanO (l : List Nd) : Int × Int := if l = [] then (0, 1) else meanGo l 0 0
def voteO (kind classes : Int) (l : List Nd) : Int × Int := if kind = 0 then classO l classes else if kind = 1 then meanO l else (0, 1)
theorem mean_within : ∀ (l : List Nd) (m : Nat) (c s : Int), (∀ n ∈ l, 1 ≤ n.k ∧ n.k ≤ 1048576 ∧ -(1048576 * n.k) ≤ n.s ∧ n.s ≤ 1048576 * n.k) → m + l.length ≤ 1048576 → 0 ≤ c → c ≤ 1048576 * m → -(1048576 * c) ≤ s → s ≤ 1048576 * c → (l ≠ [] ∨ 1 ≤ c) →
    ∃ v, meanGo l c s = (v, 0) ∧ -1048576 ≤ v ∧ v ≤ 1048576
  | [], m, c, s, _, hm, h0, h1, h2, h3, h4 => by
    have hc : 1 ≤ c := by rcases h4 with h | h
                          · exact absurd rfl h
                          · exact h
    refine ⟨s / c, ?_, ?_, ?_⟩
    · unfold meanGo floorO; rw [if_neg (by omega)]
    · exact (Int.le_ediv_iff_mul_le (by omega)).2 (by omega)
    · have : s / c < 1048577 := (Int.ediv_lt_iff_lt_mul (by omega)).2 (by omega)
      omega
  | n :: r, m, c, s, hl, hm, h0, h1, h2, h3, _ => by
    obtain ⟨a1, a2, a3, a4⟩ := hl n (List.mem_cons_self ..)
    simp only [List.length_cons] at hm
    have b1 : inR (c + n.k) := by unfold inR; omega
    have b2 : inR (s + n.s) := by unfold inR; omega
    rw [mean_go (by omega) (lim_in b1) (lim_in b2)]
    exact mean_within r (m + 1) _ _ (fun x hx => hl x (List.mem_cons_of_mem _ hx)) (by omega) (by omega) (by omega) (by omega) (by omega) (.inr (by omega))
/-- What right leaves vote. -/
theorem vote_right {cols bins kind classes : Int} (hm : mayS cols bins kind classes) {l : List Nd} (h0 : l ≠ []) (hlen : l.length ≤ 1048576) (hl : ∀ n ∈ l, oneP cols bins kind classes n ∧ n.f = -1) :
    ∃ v, voteO kind classes l = (v, 0) ∧ (kind = 0 → 0 ≤ v ∧ v < classes) ∧ (kind = 1 → -1048576 ≤ v ∧ v ≤ 1048576) := by
  unfold mayS at hm
  obtain ⟨_, _, _, _, hk | hk⟩ := hm
  · obtain ⟨rfl, hk1, hk2⟩ := hk
    have ha : l.any (offC classes) = false := by
      rw [List.any_eq_false]
      intro n hn
      obtain ⟨h1, h2⟩ := hl n hn
      unfold oneP at h1
      rw [if_pos h2, if_pos rfl] at h1
      unfold offC
      simp; omega
    have hb := (best_both h0 (by omega) hk2 ha).2
    refine ⟨((bestUp (cntC l) 256 : Nat) : Int), ?_, fun _ => ?_, fun h => absurd h (by omega)⟩
    · show (if (0 : Int) = 0 then classO l classes else _) = _
      rw [if_pos rfl]
      unfold classO
      rw [if_neg (by rintro (h | h | h); exact h0 h; omega; omega), ha, if_neg (by simp)]
    · omega
  · obtain ⟨rfl, _⟩ := hk
    obtain ⟨v, h1, h2⟩ := mean_within l 0 0 0 (fun n hn => by
      obtain ⟨h1, h2⟩ := hl n hn
      unfold oneP at h1
      rw [if_pos h2, if_neg (by omega)] at h1
      omega) (by omega) (by omega) (by omega) (by omega) (by omega) (.inl h0)
    refine ⟨v, ?_, fun h => absurd h (by omega), fun _ => h2⟩
    show (if (1 : Int) = 0 then classO l classes else if (1 : Int) = 1 then meanO l else _) = _
    rw [if_neg (by omega), if_pos rfl]
    unfold meanO
    rw [if_neg h0]
    exact h1
end Go.Proofs.Ytpekofpiodaadaa.Hb
end

section
/- A whole row stored at once. -/
namespace Go.Proofs.Ytpekofpiodaadaa.Hb
open Go.RowKit
section
variable {P : Program}
theorem run_storeAt_row (w : World) (g : Nat) (t ty : TypeId) (cs cs' : Array Value) (hg : Blk w g cs t) (hi : (P.info? ty).map (·.size) = some cs'.size) (ho : cs.size = cs'.size) (h1 : ∀ v ∈ cs'.toList, v.oneCell' = true) :
    (Instr.storeAt ty (.pointer (some ⟨g, 0, none⟩)) (.agg cs')).run P w = .ok () (w.setRow g cs') := by
  have h := run_storeCells_at (P := P) g 0 t cs'.toList 0 cs w hg (by simp; omega) h1
  have e : (cs.toList.take (0 + 0) ++ cs'.toList ++ cs.toList.drop (0 + 0 + cs'.toList.length)).toArray = cs' := by
    simp [List.drop_of_length_le (show cs.toList.length ≤ cs'.size by simp; omega)]
  rw [e] at h
  simp only [Instr.storeAt, Instr.sureAddr, Sem.run_bind, Sem.run_pure, Result.andThen_ok]
  cases hq : P.info? ty with
  | none => simp [hq] at hi
  | some i =>
    have hs : cs'.size = i.size := by simp [hq] at hi; omega
    simpa [storeVar, sizeOf, typeInfo, hq, Value.cells, hs] using h
theorem Blk.row {w : World} {g : Nat} {cs cs' : Array Value} {t : TypeId} (h : Blk w g cs t) : Blk (w.setRow g cs') g cs' t := setRow_heap w g cs cs' t (0, 0) h
theorem row_other {w : World} {g k : Nat} {cs' : Array Value} (h : k ≠ g) : (w.setRow g cs').heap[k]? = w.heap[k]? := by
  show (w.heap.modify g _)[k]? = _
  rw [Array.getElem?_modify]
  simp [Ne.symm h]
theorem below_row0 {B : Nat} {w w1 : World} {g : Nat} {cs' : Array Value} (hb : Below B w w1) (hg : B ≤ g) : Below B w (w1.setRow g cs') :=
  ⟨hb.os, hb.tape, hb.output, by rw [size_setRow]; exact hb.size, fun i hi => (row_other (by omega)).trans (hb.block i hi)⟩
theorem wpList_store_row {ops : Array Oper} {rest : List Oper} {o : Oper} {a : Act} {w : World} {Q : Exit → Act → World → Prop} (hgd : o.guard = none) (ty : TypeId) (p x : Operand) (ho : o.op = .store ty p x)
    (g : Nat) (hp : a.eval p = .pointer (some ⟨g, 0, none⟩)) (t : TypeId) (cs cs' : Array Value) (hx : a.eval x = .agg cs') (hg : Blk w g cs t) (hi : (P.info? ty).map (·.size) = some cs'.size) (hsz : cs.size = cs'.size) (h1 : ∀ v ∈ cs'.toList, v.oneCell' = true)
    (h : wpList P ops Q rest (a.put o.dst undef) (w.setRow g cs')) : wpList P ops Q (o :: rest) a w := by
  refine wpList_plain hgd fun K hK => ?_
  unfold Oper.wp execOp
  simp only [ho, hp, hx, Sem.run_bind, run_storeAt_row w g t ty cs cs' hg hi hsz h1, Result.andThen_ok, Sem.run_pure]
  exact hK _ _ h
end
end Go.Proofs.Ytpekofpiodaadaa.Hb
end

section
/- The walk of layer config: Check. -/
namespace Go.Proofs.Ytpekofpiodaadaa.Hb
open Go.RowKit

def stepC (n low high rest : Int) : Int := if n < low then 3 else if n > high then 4 else rest
def lowC (k : Int) : Int := if k = 1 then 0 else 2
/-- What is wrong with a config. -/
def checkO (k cl b t d l p : Int) : Int :=
  if k < 0 ∨ k > 1 then 3 else if cl < lowC k then 3 else if k = 1 ∧ cl ≠ 0 then 3 else if cl > 256 then 4
  else stepC b 2 256 (stepC t 1 4096 (stepC d 0 32 (stepC l 1 1048576 (stepC p 1 1024 0))))
/-- .. and what is left of that behind some fields. -/
def tailC (k cl b t d l p : Int) : Nat → Int
  | 0 => checkO k cl b t d l p
  | 1 => if cl < lowC k then 3 else if k = 1 ∧ cl ≠ 0 then 3 else if cl > 256 then 4 else stepC b 2 256 (stepC t 1 4096 (stepC d 0 32 (stepC l 1 1048576 (stepC p 1 1024 0))))
  | 2 => stepC b 2 256 (stepC t 1 4096 (stepC d 0 32 (stepC l 1 1048576 (stepC p 1 1024 0))))
  | 3 => stepC t 1 4096 (stepC d 0 32 (stepC l 1 1048576 (stepC p 1 1024 0)))
  | 4 => stepC d 0 32 (stepC l 1 1048576 (stepC p 1 1024 0))
  | 5 => stepC l 1 1048576 (stepC p 1 1024 0)
  | 6 => stepC p 1 1024 0
  | _ => 0
def fieldsV (k cl b t d l p : Int) : Value :=
  .agg #[.int .i64 k, .int .i64 0, .int .i64 1, .int .i64 1, .int .i64 cl, .int .i64 (lowC k), .int .i64 256, .int .i64 2, .int .i64 b, .int .i64 2, .int .i64 256, .int .i64 2, .int .i64 t, .int .i64 1, .int .i64 4096, .int .i64 2,
    .int .i64 d, .int .i64 0, .int .i64 32, .int .i64 1, .int .i64 l, .int .i64 1, .int .i64 1048576, .int .i64 4, .int .i64 p, .int .i64 1, .int .i64 1024, .int .i64 2]
theorem ret_i64 {a b : Int} (h : a = b) : Ending.returned (.int .i64 a) = .returned (.int .i64 b) := by rw [h]
/-- A result that lies in memory. -/
theorem results_cell {P : Program} {fn : Func} {p : Tmp} {ty : TypeId} (h : fn.results = #[.cell p ty]) (tmps : Array Value) (w : World) (g : Nat) (t : TypeId) (cs : Array Value) (d : TypeDesc)
    (hp : tmps.getD p undef = .pointer (some ⟨g, 0, none⟩)) (hg : Blk w g cs t)
    (hu : P.underlying ty = some d) (hd : (match d with | .struct _ | .array _ _ => true | _ => false) = true) (hi : (P.info? ty).map (·.size) = some cs.size) :
    (results fn tmps).run P w = .ok (.agg cs) w := by
  have hp' : tmps[p]?.getD undef = .pointer (some ⟨g, 0, none⟩) := by simpa using hp
  simp [results, h, hp', asAddr, run_loadVar_row w g t ty cs (0, 0) d hg hu hd hi]

theorem size_fields : (Try.prog.info? 204).map (·.size) = some 28 := by kernel_rfl
theorem fields_tail (k cl lo b t d l p : Int) : ∀ v ∈ (#[.int .i64 k, .int .i64 0, .int .i64 1, .int .i64 1, .int .i64 cl, .int .i64 lo, .int .i64 256, .int .i64 2, .int .i64 b, .int .i64 2, .int .i64 256, .int .i64 2, .int .i64 t, .int .i64 1, .int .i64 4096, .int .i64 2,
    .int .i64 d, .int .i64 0, .int .i64 32, .int .i64 1, .int .i64 l, .int .i64 1, .int .i64 1048576, .int .i64 4, .int .i64 p, .int .i64 1, .int .i64 1024, .int .i64 2] : Array Value).toList, v.oneCell' = true := by
  simp [Value.oneCell']
theorem boxes_f (w : World) (X1 X2 X3 : Array Value) (t1 t2 t3 : TypeId) (W : World) (h : W = ((w.alloc (.cells X1 t1)).alloc (.cells X2 t2)).alloc (.cells X3 t3)) :
    Blk W w.heap.size X1 t1 ∧ Blk W (w.heap.size + 1) X2 t2 ∧ Blk W (w.heap.size + 1 + 1) X3 t3 ∧ Below w.heap.size w W := by
  subst h
  refine ⟨?_, ?_, ?_, ?_⟩
  · exact ((Blk.new w X1 t1).below ((Below.refl _ _).alloc (Nat.le_refl _) _)).below ((Below.refl _ _).alloc (Nat.le_refl _) _)
  · have := (Blk.new (w.alloc (.cells X1 t1)) X2 t2).below ((Below.refl _ _).alloc (Nat.le_refl _) (.cells X3 t3))
    simpa using this
  · have := Blk.new ((w.alloc (.cells X1 t1)).alloc (.cells X2 t2)) X3 t3
    simpa using this
  · exact (((Below.refl _ w).alloc (Nat.le_refl _) _).alloc (by simp) _).alloc (by simp; omega) _
def zero28 : Array Value := #[.int .i64 0, .int .i64 0, .int .i64 0, .int .i64 0, .int .i64 0, .int .i64 0, .int .i64 0, .int .i64 0, .int .i64 0, .int .i64 0, .int .i64 0, .int .i64 0, .int .i64 0, .int .i64 0, .int .i64 0, .int .i64 0, .int .i64 0, .int .i64 0, .int .i64 0, .int .i64 0, .int .i64 0, .int .i64 0, .int .i64 0, .int .i64 0, .int .i64 0, .int .i64 0, .int .i64 0, .int .i64 0]

set_option maxRecDepth 100000 in
set_option maxHeartbeats 4000000 in
theorem fields_any (k cl b t d l p : Int) (w : World) : Calls Try.prog 128 #[.agg #[.int .i64 k, .int .i64 cl, .int .i64 b, .int .i64 t, .int .i64 d, .int .i64 l, .int .i64 p]] w fun e w' => e = .returned (fieldsV k cl b t d l p) ∧ Below w.heap.size w w' := by
  obtain ⟨lo, hlo⟩ : ∃ lo, lowC k = lo := ⟨_, rfl⟩
  unfold fieldsV
  rw [hlo]
  by_cases hk : k = 1
  · obtain rfl : lo = 0 := by rw [← hlo]; exact if_pos hk
    have k1 : (k == 1) = true := beq_iff_eq.2 hk
    clear hk hlo
    go_enter Try.func128, Try.ntmps128
    go_upto_region 4 with (fail)
    obtain ⟨W, e⟩ : ∃ W, W = ((w.alloc (.cells #[.int .i64 k, .int .i64 cl, .int .i64 b, .int .i64 t, .int .i64 d, .int .i64 l, .int .i64 p] 45)).alloc (.cells zero28 204)).alloc (.cells #[.int .i64 cl, .int .i64 0, .int .i64 256, .int .i64 2] 203) := ⟨_, rfl⟩
    have e' := e
    unfold zero28 at e'
    rw [← e']
    obtain ⟨kA, kB, kC, be⟩ := boxes_f w _ _ _ _ _ _ W e
    clear e e'
    have a0 := kA.cell 0
    have a1 := kA.cell 1
    have a2 := kA.cell 2
    have a3 := kA.cell 3
    have a4 := kA.cell 4
    have a5 := kA.cell 5
    have a6 := kA.cell 6
    have c0 := kC.cell 0
    have c1 := kC.cell 1
    have c2 := kC.cell 2
    have c3 := kC.cell 3
    simp only [List.getElem?_toArray, List.getElem?_cons_zero, List.getElem?_cons_succ] at a0 a1 a2 a3 a4 a5 a6 c0 c1 c2 c3
    go_wp2_with (refine wpList_store_row rfl 204 (.tmp 2) (.tmp 30) rfl (w.heap.size + 1) rfl 204 _ _ rfl kB size_fields rfl (fields_tail k cl 0 b t d l p) ?_)
    exact bodyPost_ret (results_cell rfl _ _ (w.heap.size + 1) 204 _ _ rfl kB.row Try.underlying204 rfl size_fields) rfl ⟨rfl, below_row0 be (by omega)⟩
  · obtain rfl : lo = 2 := by rw [← hlo]; exact if_neg hk
    have k1 : (k == 1) = false := beq_eq_false_iff_ne.2 hk
    clear hk hlo
    go_enter Try.func128, Try.ntmps128
    go_upto_region 4 with (fail)
    obtain ⟨W, e⟩ : ∃ W, W = ((w.alloc (.cells #[.int .i64 k, .int .i64 cl, .int .i64 b, .int .i64 t, .int .i64 d, .int .i64 l, .int .i64 p] 45)).alloc (.cells zero28 204)).alloc (.cells #[.int .i64 cl, .int .i64 2, .int .i64 256, .int .i64 2] 203) := ⟨_, rfl⟩
    have e' := e
    unfold zero28 at e'
    rw [← e']
    obtain ⟨kA, kB, kC, be⟩ := boxes_f w _ _ _ _ _ _ W e
    clear e e'
    have a0 := kA.cell 0
    have a1 := kA.cell 1
    have a2 := kA.cell 2
    have a3 := kA.cell 3
    have a4 := kA.cell 4
    have a5 := kA.cell 5
    have a6 := kA.cell 6
    have c0 := kC.cell 0
    have c1 := kC.cell 1
    have c2 := kC.cell 2
    have c3 := kC.cell 3
    simp only [List.getElem?_toArray, List.getElem?_cons_zero, List.getElem?_cons_succ] at a0 a1 a2 a3 a4 a5 a6 c0 c1 c2 c3
    go_wp2_with (refine wpList_store_row rfl 204 (.tmp 2) (.tmp 30) rfl (w.heap.size + 1) rfl 204 _ _ rfl kB size_fields rfl (fields_tail k cl 2 b t d l p) ?_)
    exact bodyPost_ret (results_cell rfl _ _ (w.heap.size + 1) 204 _ _ rfl kB.row Try.underlying204 rfl size_fields) rfl ⟨rfl, below_row0 be (by omega)⟩
end Go.Proofs.Ytpekofpiodaadaa.Hb
end

section
/- The walk of layer config: Check, its loop. -/
namespace Go.Proofs.Ytpekofpiodaadaa.Hb
open Go.RowKit

def fieldC (k cl b t d l p : Int) : Nat → Array Value
  | 0 => #[.int .i64 k, .int .i64 0, .int .i64 1, .int .i64 1]
  | 1 => #[.int .i64 cl, .int .i64 (lowC k), .int .i64 256, .int .i64 2]
  | 2 => #[.int .i64 b, .int .i64 2, .int .i64 256, .int .i64 2]
  | 3 => #[.int .i64 t, .int .i64 1, .int .i64 4096, .int .i64 2]
  | 4 => #[.int .i64 d, .int .i64 0, .int .i64 32, .int .i64 1]
  | 5 => #[.int .i64 l, .int .i64 1, .int .i64 1048576, .int .i64 4]
  | _ => #[.int .i64 p, .int .i64 1, .int .i64 1024, .int .i64 2]
theorem index_f (k cl b t d l p : Int) (w : World) (i : Nat) (hi : i < 7) : (Instr.index 204 (fieldsV k cl b t d l p) (.int .i64 i)).run Try.prog w = .ok (.agg (fieldC k cl b t d l p i)) w := by
  unfold fieldsV
  obtain e | e | e | e | e | e | e : i = 0 ∨ i = 1 ∨ i = 2 ∨ i = 3 ∨ i = 4 ∨ i = 5 ∨ i = 6 := by omega
  all_goals
    subst e
    kernel_rfl
section
variable {k cl b t d l p : Int}
theorem tail0_3 (h : k < 0 ∨ k > 1) : tailC k cl b t d l p 0 = 3 := if_pos h
theorem tail0_4 (h : False) (_ : False) : tailC k cl b t d l p 0 = 4 := h.elim
theorem tail0_mid (h : ¬ (k < 0 ∨ k > 1)) : tailC k cl b t d l p 0 = tailC k cl b t d l p 1 := if_neg h
theorem tail1_3 (h : cl < lowC k ∨ (k = 1 ∧ cl ≠ 0)) : tailC k cl b t d l p 1 = 3 := by
  show (if cl < lowC k then 3 else if k = 1 ∧ cl ≠ 0 then 3 else _) = 3
  by_cases h1 : cl < lowC k
  · rw [if_pos h1]
  · rw [if_neg h1, if_pos (by omega)]
theorem tail1_4 (h : ¬ (cl < lowC k ∨ (k = 1 ∧ cl ≠ 0))) (h' : cl > 256) : tailC k cl b t d l p 1 = 4 := by
  show (if cl < lowC k then 3 else if k = 1 ∧ cl ≠ 0 then 3 else if cl > 256 then 4 else _) = 4
  rw [if_neg (by omega), if_neg (by omega), if_pos h']
theorem tail1_mid (h : ¬ (cl < lowC k ∨ (k = 1 ∧ cl ≠ 0)) ∧ ¬ cl > 256) : tailC k cl b t d l p 1 = tailC k cl b t d l p 2 := by
  show (if cl < lowC k then 3 else if k = 1 ∧ cl ≠ 0 then 3 else if cl > 256 then 4 else _) = _
  rw [if_neg (by omega), if_neg (by omega), if_neg h.2]
  rfl
theorem tail2_3 (h : b < 2) : tailC k cl b t d l p 2 = 3 := if_pos h
theorem tail2_4 (h : ¬ b < 2) (h' : b > 256) : tailC k cl b t d l p 2 = 4 := (if_neg h).trans (if_pos h')
theorem tail2_mid (h : ¬ b < 2 ∧ ¬ b > 256) : tailC k cl b t d l p 2 = tailC k cl b t d l p 3 := (if_neg h.1).trans (if_neg h.2)
theorem tail3_3 (h : t < 1) : tailC k cl b t d l p 3 = 3 := if_pos h
theorem tail3_4 (h : ¬ t < 1) (h' : t > 4096) : tailC k cl b t d l p 3 = 4 := (if_neg h).trans (if_pos h')
theorem tail3_mid (h : ¬ t < 1 ∧ ¬ t > 4096) : tailC k cl b t d l p 3 = tailC k cl b t d l p 4 := (if_neg h.1).trans (if_neg h.2)
theorem tail4_3 (h : d < 0) : tailC k cl b t d l p 4 = 3 := if_pos h
theorem tail4_4 (h : ¬ d < 0) (h' : d > 32) : tailC k cl b t d l p 4 = 4 := (if_neg h).trans (if_pos h')
theorem tail4_mid (h : ¬ d < 0 ∧ ¬ d > 32) : tailC k cl b t d l p 4 = tailC k cl b t d l p 5 := (if_neg h.1).trans (if_neg h.2)
theorem tail5_3 (h : l < 1) : tailC k cl b t d l p 5 = 3 := if_pos h
theorem tail5_4 (h : ¬ l < 1) (h' : l > 1048576) : tailC k cl b t d l p 5 = 4 := (if_neg h).trans (if_pos h')
theorem tail5_mid (h : ¬ l < 1 ∧ ¬ l > 1048576) : tailC k cl b t d l p 5 = tailC k cl b t d l p 6 := (if_neg h.1).trans (if_neg h.2)
theorem tail6_3 (h : p < 1) : tailC k cl b t d l p 6 = 3 := if_pos h
theorem tail6_4 (h : ¬ p < 1) (h' : p > 1024) : tailC k cl b t d l p 6 = 4 := (if_neg h).trans (if_pos h')
theorem tail6_mid (h : ¬ p < 1 ∧ ¬ p > 1024) : tailC k cl b t d l p 6 = tailC k cl b t d l p 7 := (if_neg h.1).trans (if_neg h.2)
end
theorem tail_end (k cl b t d l p : Int) (j : Nat) (h : 7 ≤ j) : tailC k cl b t d l p j = 0 := by
  match j, h with
  | j + 7, _ => rfl
set_option maxRecDepth 100000 in
set_option maxHeartbeats 8000000 in
theorem check_any (k cl b t d l p : Int) (w : World) : Calls Try.prog 70 #[.agg #[.int .i64 k, .int .i64 cl, .int .i64 b, .int .i64 t, .int .i64 d, .int .i64 l, .int .i64 p]] w fun e w' => e = .returned (.int .i64 (checkO k cl b t d l p)) ∧ Below w.heap.size w w' := by
  have FA := Lib.hid (fun w => fields_any k cl b t d l p w)
  obtain ⟨R, hR⟩ : ∃ R, checkO k cl b t d l p = R := ⟨_, rfl⟩
  rw [hR]
  have HR := Lib.hid hR
  clear hR
  obtain ⟨lo, hlo⟩ : ∃ lo, lowC k = lo := ⟨_, rfl⟩
  have HLO := Lib.hid hlo
  clear hlo
  obtain ⟨fv, hfv⟩ : ∃ fv, fieldsV k cl b t d l p = fv := ⟨_, rfl⟩
  have IX := Lib.hid (fun (w : World) (i : Nat) (hi : i < 7) => index_f k cl b t d l p w i hi)
  rw [hfv] at FA IX
  clear hfv
  go_enter Try.func70, Try.ntmps70
  go_wp2_with (go_at_call 128; refine (FA.out _).mono ?_; rintro e w1 ⟨rfl, hb⟩)
  have kA := (Blk.new w #[.int .i64 k, .int .i64 cl, .int .i64 b, .int .i64 t, .int .i64 d, .int .i64 l, .int .i64 p] 45).below hb
  have be : Below w.heap.size w w1 := ((Below.refl _ w).alloc (Nat.le_refl _) _).trans (hb.mono (by simp))
  clear hb
  go_loopw [7] (fun iv wr => ∃ j : Nat, j ≤ 7 ∧ iv = .int .i64 j ∧ Hid (tailC k cl b t d l p j = R) ∧ Blk wr w.heap.size #[.int .i64 k, .int .i64 cl, .int .i64 b, .int .i64 t, .int .i64 d, .int .i64 l, .int .i64 p] 45 ∧ Below w.heap.size w wr) (fun iv _ => 7 - (intOf iv).toNat)
  case atStart => exact ⟨0, by omega, rfl, HR, kA, be⟩
  case round =>
    obtain ⟨j, hj, rfl, HT, hk, hB⟩ := hrel
    clear kA be
    have a0 := hk.cell 0
    have hkl := hk.lt
    have hk1 : w.heap.size ≠ wr.heap.size := by omega
    have hk2 : wr.heap.size ≠ w.heap.size := by omega
    simp only [List.getElem?_toArray, List.getElem?_cons_zero] at a0
    by_cases hlt : j < 7
    · have ix := fun w => IX.out w j hlt
      obtain e | e | e | e | e | e | e : j = 0 ∨ j = 1 ∨ j = 2 ∨ j = 3 ∨ j = 4 ∨ j = 5 ∨ j = 6 := by omega
      · subst e
        have ix' : ∀ w, (Instr.index 204 fv (.int .i64 0)).run Try.prog w = .ok (.agg #[.int .i64 k, .int .i64 0, .int .i64 1, .int .i64 1]) w := ix
        clear ix
        go_wp2
        all_goals first
          | (go_ret
             refine ⟨ret_i64 ?_, hB.alloc hB.size _⟩
             rw [← HT.out]
             first | (exact (tail0_3 (by omega)).symm) | (exact (tail0_4 (by omega) (by omega)).symm))
          | (go_roundw
             case rel => exact ⟨1, by omega, rfl, Lib.hid (by rw [← HT.out]; exact (tail0_mid (by omega)).symm), hk.below ((Below.refl _ _).alloc (Nat.le_refl _) _), hB.alloc hB.size _⟩
             case measure => simp [intOf])
      · subst e
        have ix' : ∀ w, (Instr.index 204 fv (.int .i64 1)).run Try.prog w = .ok (.agg #[.int .i64 cl, .int .i64 (lowC k), .int .i64 256, .int .i64 2]) w := ix
        clear ix
        by_cases hq : k = 1
        · have b1 : (k == 1) = true := beq_iff_eq.2 hq
          have HLK := Lib.hid (show lowC k = 0 from if_pos hq)
          have HK := Lib.hid hq
          by_cases hc : cl = 0
          · have b2 : (cl != 0) = false := bne_eq_false_iff_eq.2 hc
            have b3 : decide (cl < lowC k) = false := decide_eq_false (by rw [HLK.out]; omega)
            have b4 : decide (256 < cl) = false := decide_eq_false (by omega)
            have HC := Lib.hid hc
            have HX := Lib.hid (show ¬ (cl < lowC k ∨ (k = 1 ∧ cl ≠ 0)) ∧ ¬ cl > 256 by rw [HLK.out]; omega)
            clear hq hc
            go_wp2
            go_roundw
            case rel => exact ⟨2, by omega, rfl, Lib.hid (by rw [← HT.out]; exact (tail1_mid HX.out).symm), hk.below ((Below.refl _ _).alloc (Nat.le_refl _) _), hB.alloc hB.size _⟩
            case measure => simp [intOf]
          · have b2 : (cl != 0) = true := bne_iff_ne.2 hc
            have HX := Lib.hid (show cl < lowC k ∨ (k = 1 ∧ cl ≠ 0) from .inr ⟨hq, hc⟩)
            clear hq hc
            go_wp2
            all_goals
              go_ret
              refine ⟨ret_i64 ?_, hB.alloc hB.size _⟩
              rw [← HT.out]
              exact (tail1_3 HX.out).symm
        · have b1 : (k == 1) = false := beq_eq_false_iff_ne.2 hq
          have HK := Lib.hid hq
          have HC := HK
          clear hq
          go_wp2
          all_goals first
            | (go_ret
               refine ⟨ret_i64 ?_, hB.alloc hB.size _⟩
               rw [← HT.out]
               first | (exact (tail1_3 (by have e1 := HK.out; have e2 := HC.out; omega)).symm) | (exact (tail1_4 (by have e1 := HK.out; have e2 := HC.out; omega) (by omega)).symm))
            | (go_roundw
               case rel => exact ⟨2, by omega, rfl, Lib.hid (by rw [← HT.out]; exact (tail1_mid (by have e1 := HK.out; have e2 := HC.out; omega)).symm), hk.below ((Below.refl _ _).alloc (Nat.le_refl _) _), hB.alloc hB.size _⟩
               case measure => simp [intOf])
      · subst e
        have ix' : ∀ w, (Instr.index 204 fv (.int .i64 2)).run Try.prog w = .ok (.agg #[.int .i64 b, .int .i64 2, .int .i64 256, .int .i64 2]) w := ix
        clear ix
        go_wp2
        all_goals first
          | (go_ret
             refine ⟨ret_i64 ?_, hB.alloc hB.size _⟩
             rw [← HT.out]
             first | (exact (tail2_3 (by omega)).symm) | (exact (tail2_4 (by omega) (by omega)).symm))
          | (go_roundw
             case rel => exact ⟨3, by omega, rfl, Lib.hid (by rw [← HT.out]; exact (tail2_mid (by omega)).symm), hk.below ((Below.refl _ _).alloc (Nat.le_refl _) _), hB.alloc hB.size _⟩
             case measure => simp [intOf])
      · subst e
        have ix' : ∀ w, (Instr.index 204 fv (.int .i64 3)).run Try.prog w = .ok (.agg #[.int .i64 t, .int .i64 1, .int .i64 4096, .int .i64 2]) w := ix
        clear ix
        go_wp2
        all_goals first
          | (go_ret
             refine ⟨ret_i64 ?_, hB.alloc hB.size _⟩
             rw [← HT.out]
             first | (exact (tail3_3 (by omega)).symm) | (exact (tail3_4 (by omega) (by omega)).symm))
          | (go_roundw
             case rel => exact ⟨4, by omega, rfl, Lib.hid (by rw [← HT.out]; exact (tail3_mid (by omega)).symm), hk.below ((Below.refl _ _).alloc (Nat.le_refl _) _), hB.alloc hB.size _⟩
             case measure => simp [intOf])
      · subst e
        have ix' : ∀ w, (Instr.index 204 fv (.int .i64 4)).run Try.prog w = .ok (.agg #[.int .i64 d, .int .i64 0, .int .i64 32, .int .i64 1]) w := ix
        clear ix
        go_wp2
        all_goals first
          | (go_ret
             refine ⟨ret_i64 ?_, hB.alloc hB.size _⟩
             rw [← HT.out]
             first | (exact (tail4_3 (by omega)).symm) | (exact (tail4_4 (by omega) (by omega)).symm))
          | (go_roundw
             case rel => exact ⟨5, by omega, rfl, Lib.hid (by rw [← HT.out]; exact (tail4_mid (by omega)).symm), hk.below ((Below.refl _ _).alloc (Nat.le_refl _) _), hB.alloc hB.size _⟩
             case measure => simp [intOf])
      · subst e
        have ix' : ∀ w, (Instr.index 204 fv (.int .i64 5)).run Try.prog w = .ok (.agg #[.int .i64 l, .int .i64 1, .int .i64 1048576, .int .i64 4]) w := ix
        clear ix
        go_wp2
        all_goals first
          | (go_ret
             refine ⟨ret_i64 ?_, hB.alloc hB.size _⟩
             rw [← HT.out]
             first | (exact (tail5_3 (by omega)).symm) | (exact (tail5_4 (by omega) (by omega)).symm))
          | (go_roundw
             case rel => exact ⟨6, by omega, rfl, Lib.hid (by rw [← HT.out]; exact (tail5_mid (by omega)).symm), hk.below ((Below.refl _ _).alloc (Nat.le_refl _) _), hB.alloc hB.size _⟩
             case measure => simp [intOf])
      · subst e
        have ix' : ∀ w, (Instr.index 204 fv (.int .i64 6)).run Try.prog w = .ok (.agg #[.int .i64 p, .int .i64 1, .int .i64 1024, .int .i64 2]) w := ix
        clear ix
        go_wp2
        all_goals first
          | (go_ret
             refine ⟨ret_i64 ?_, hB.alloc hB.size _⟩
             rw [← HT.out]
             first | (exact (tail6_3 (by omega)).symm) | (exact (tail6_4 (by omega) (by omega)).symm))
          | (go_roundw
             case rel => exact ⟨7, by omega, rfl, Lib.hid (by rw [← HT.out]; exact (tail6_mid (by omega)).symm), hk.below ((Below.refl _ _).alloc (Nat.le_refl _) _), hB.alloc hB.size _⟩
             case measure => simp [intOf])
    · obtain rfl : j = 7 := by omega
      go_wp2
      go_ret
      exact ⟨ret_i64 HT.out, hB⟩
end Go.Proofs.Ytpekofpiodaadaa.Hb
end

section
/- A row of numbers that is read (for seats without the histograms' texts). -/
namespace Go.Proofs.Ytpekofpiodaadaa.Hb
open Go.RowKit
def ints (l : List Int) : List Value := l.map fun x => Value.int .i64 x
def RdI (w : World) (A : Option Addr) (l : List Int) : Prop := (∀ x ∈ l, inR x) ∧ (l = [] ∨ ∃ ad, A = some ad ∧ ∀ i, i < l.length → w.cell? (ad.add i) = some (.int .i64 (l.getD i 0)))
theorem RdI.below {w w1 : World} {A : Option Addr} {l : List Int} (h : RdI w A l) (hb : Below w.heap.size w w1) : RdI w1 A l :=
  ⟨h.1, h.2.imp id fun ⟨ad, e, hc⟩ => ⟨ad, e, fun i hi => (hb.cell (World.block_lt_of_cell? w _ (hc i hi))).trans (hc i hi)⟩⟩
theorem RdI.at {w : World} {A : Option Addr} {l : List Int} (h : RdI w A l) {k : Nat} (hk : k < l.length) : ∃ ad, A = some ad ∧ ∀ i, i < l.length → w.cell? (ad.add i) = some (.int .i64 (l.getD i 0)) := by
  rcases h.2 with rfl | h
  · simp at hk
  · exact h
/-- What is owned is read. -/
theorem RdI.own {w : World} {base n c : Nat} {A : Option Addr} {l : List Int} (h : w.ownsRow base 3 1 (.slice A n c) l.length (ints l)) (ho : ∀ x ∈ l, Hb.inR x) : RdI w A l := by
  refine ⟨ho, ?_⟩
  by_cases h0 : l = []
  · exact .inl h0
  · obtain ⟨g, cap, hv, _, _, _, hc⟩ := own_open h (List.length_pos_iff.2 h0)
    simp only [Value.slice.injEq] at hv
    obtain ⟨rfl, _, _⟩ := hv
    refine .inr ⟨_, rfl, fun i hi => ?_⟩
    rw [show (⟨g, 0, none⟩ : Addr).add i = ⟨g, i, none⟩ from by unfold Addr.add; split <;> simp_all]
    refine hc i _ ?_
    simp [ints, List.getD_eq_getElem?_getD, List.getElem?_eq_getElem hi]
theorem info_int : (Try.prog.info? 3).map (fun i => (i.zero, i.size, i.bytes)) = some (some (.int .i64 0), 1, 8) := by kernel_rfl
theorem ints_zeros (n : Nat) : ints (List.replicate n 0) = List.replicate n (.int .i64 0) := by simp [ints]
theorem ints_snoc (l : List Int) (x : Int) : ints (l ++ [x]) = ints l ++ [.int .i64 x] := by simp [ints]
theorem ints_len (l : List Int) : (ints l).length = l.length := by simp [ints]
theorem ints_get {l : List Int} {i : Nat} (h : i < l.length) : (ints l)[i]? = some (.int .i64 (l.getD i 0)) := by
  simp [ints, List.getD_eq_getElem?_getD, List.getElem?_eq_getElem h]
end Go.Proofs.Ytpekofpiodaadaa.Hb
end

section
/- Whether a matrix, and a sample, is right: the program's answer and the document's. -/
namespace Go.Proofs.Ytpekofpiodaadaa.Hb
set_option linter.unusedVariables false
open Go.RowKit

theorem ret_bool {a b : Bool} (h : a = b) : Ending.returned (.bool a) = .returned (.bool b) := by rw [h]
def countB (n : Int) : Bool := decide (0 ≤ n ∧ n ≤ 16777216)
def matB (r c : Int) (n : Nat) : Bool := decide ((0 ≤ r ∧ r ≤ 16777216) ∧ (0 ≤ c ∧ c ≤ 16777216) ∧ (n : Int) = r * c)
theorem matB_r {r c : Int} {n : Nat} (h : countB r = false) : matB r c n = false := decide_eq_false fun e => absurd e.1 (of_decide_eq_false h)
theorem matB_c {r c : Int} {n : Nat} (h : countB c = false) : matB r c n = false := decide_eq_false fun e => absurd e.2.1 (of_decide_eq_false h)
theorem matB_n {r c : Int} {n : Nat} (h1 : countB r = true) (h2 : countB c = true) : matB r c n = ((n : Int) == r * c) := by
  have a := of_decide_eq_true h1
  have b := of_decide_eq_true h2
  unfold matB
  rw [Bool.eq_iff_iff, beq_iff_eq, decide_eq_true_iff]
  exact ⟨fun e => e.2.2, fun e => ⟨a, b, e⟩⟩
theorem matB_is {r c : Int} {n : Nat} (h : matB r c n = true) : (0 ≤ r ∧ r ≤ 16777216) ∧ (0 ≤ c ∧ c ≤ 16777216) ∧ (n : Int) = r * c := of_decide_eq_true h
theorem prod_bound {r c : Int} (h1 : countB r = true) (h2 : countB c = true) : 0 ≤ r * c ∧ r * c ≤ 281474976710656 := by
  have a := of_decide_eq_true h1
  have b := of_decide_eq_true h2
  refine ⟨Int.mul_nonneg a.1 b.1, ?_⟩
  have := Int.mul_le_mul a.2 b.2 b.1 (by omega)
  omega
set_option maxHeartbeats 400000 in
theorem count_any (n : Int) (w : World) : Calls Try.prog 213 #[.int .i64 n] w fun e w' => e = .returned (.bool (countB n)) ∧ w = w' := by
  go_enter Try.func213, Try.ntmps213
  go_wp2
  all_goals
    go_ret
    refine ⟨ret_bool ?_, rfl⟩
    unfold countB
    first
    | (refine (decide_eq_false ?_).symm; omega)
    | (refine (decide_eq_true ?_).symm; omega)
    | (refine decide_eq_decide.2 ?_; omega)
theorem few_any (n : Int) (w : World) : Calls Try.prog 155 #[.int .i64 n] w fun e w' => e = .returned (.bool (countB n)) ∧ w = w' := by
  go_enter Try.func155, Try.ntmps155
  go_wp2
  all_goals
    go_ret
    refine ⟨ret_bool ?_, rfl⟩
    unfold countB
    first
    | (refine (decide_eq_false ?_).symm; omega)
    | (refine (decide_eq_true ?_).symm; omega)
    | (refine decide_eq_decide.2 ?_; omega)
set_option maxRecDepth 100000 in
set_option maxHeartbeats 400000 in
theorem mright_any (r c : Int) (n : Nat) (A : Option Addr) (cap : Nat) (hn : n ≤ 9223372036854775807) (w : World) : Calls Try.prog 189 #[.agg #[.int .i64 r, .int .i64 c, .slice A n cap]] w fun e w' => e = .returned (.bool (matB r c n)) ∧ Below w.heap.size w w' := by
  have K1 := Lib.hid (fun w => count_any r w)
  have K2 := Lib.hid (fun w => count_any c w)
  obtain ⟨x1, h1⟩ : ∃ x, countB r = x := ⟨_, rfl⟩
  obtain ⟨x2, h2⟩ : ∃ x, countB c = x := ⟨_, rfl⟩
  rw [h1] at K1
  rw [h2] at K2
  cases x1 with
  | false =>
    rw [matB_r h1]
    clear h1 h2
    go_enter Try.func189, Try.ntmps189
    go_wp2_with (go_at_call_of 213 (r); refine (K1.out _).mono ?_; rintro e w1 ⟨rfl, rfl⟩)
    go_ret
    exact ⟨rfl, (Below.refl _ _).alloc (Nat.le_refl _) _⟩
  | true =>
    cases x2 with
    | false =>
      rw [matB_c h2]
      clear h1 h2
      go_enter Try.func189, Try.ntmps189
      go_wp2_with (first | (go_at_call_of 213 (r); refine (K1.out _).mono ?_; rintro e w1 ⟨rfl, rfl⟩) | (go_at_call_of 213 (c); refine (K2.out _).mono ?_; rintro e w1 ⟨rfl, rfl⟩))
      go_ret
      exact ⟨rfl, (Below.refl _ _).alloc (Nat.le_refl _) _⟩
    | true =>
      rw [matB_n h1 h2]
      obtain ⟨p1, p2⟩ := prod_bound h1 h2
      obtain ⟨P, hP⟩ : ∃ P, r * c = P := ⟨_, rfl⟩
      rw [hP] at p1 p2 ⊢
      have hw : IntKind.i64.wrap (r * c) = P := by rw [hP, IntKind.wrap_i64]; omega
      clear h1 h2 hP
      go_enter Try.func189, Try.ntmps189
      go_wp2_with (first | (go_at_call_of 213 (r); refine (K1.out _).mono ?_; rintro e w1 ⟨rfl, rfl⟩) | (go_at_call_of 213 (c); refine (K2.out _).mono ?_; rintro e w1 ⟨rfl, rfl⟩))
      go_ret
      exact ⟨rfl, (Below.refl _ _).alloc (Nat.le_refl _) _⟩
set_option maxRecDepth 100000 in
set_option maxHeartbeats 400000 in
theorem rmright_any (r c : Int) (n : Nat) (A : Option Addr) (cap : Nat) (hn : n ≤ 9223372036854775807) (w : World) : Calls Try.prog 94 #[.agg #[.int .i64 r, .int .i64 c, .slice A n cap]] w fun e w' => e = .returned (.bool (matB r c n)) ∧ Below w.heap.size w w' := by
  have K1 := Lib.hid (fun w => few_any r w)
  have K2 := Lib.hid (fun w => few_any c w)
  obtain ⟨x1, h1⟩ : ∃ x, countB r = x := ⟨_, rfl⟩
  obtain ⟨x2, h2⟩ : ∃ x, countB c = x := ⟨_, rfl⟩
  rw [h1] at K1
  rw [h2] at K2
  cases x1 with
  | false =>
    rw [matB_r h1]
    clear h1 h2
    go_enter Try.func94, Try.ntmps94
    go_wp2_with (go_at_call_of 155 (r); refine (K1.out _).mono ?_; rintro e w1 ⟨rfl, rfl⟩)
    go_ret
    exact ⟨rfl, (Below.refl _ _).alloc (Nat.le_refl _) _⟩
  | true =>
    cases x2 with
    | false =>
      rw [matB_c h2]
      clear h1 h2
      go_enter Try.func94, Try.ntmps94
      go_wp2_with (first | (go_at_call_of 155 (r); refine (K1.out _).mono ?_; rintro e w1 ⟨rfl, rfl⟩) | (go_at_call_of 155 (c); refine (K2.out _).mono ?_; rintro e w1 ⟨rfl, rfl⟩))
      go_ret
      exact ⟨rfl, (Below.refl _ _).alloc (Nat.le_refl _) _⟩
    | true =>
      rw [matB_n h1 h2]
      obtain ⟨p1, p2⟩ := prod_bound h1 h2
      obtain ⟨P, hP⟩ : ∃ P, r * c = P := ⟨_, rfl⟩
      rw [hP] at p1 p2 ⊢
      have hw : IntKind.i64.wrap (r * c) = P := by rw [hP, IntKind.wrap_i64]; omega
      clear h1 h2 hP
      go_enter Try.func94, Try.ntmps94
      go_wp2_with (first | (go_at_call_of 155 (r); refine (K1.out _).mono ?_; rintro e w1 ⟨rfl, rfl⟩) | (go_at_call_of 155 (c); refine (K2.out _).mono ?_; rintro e w1 ⟨rfl, rfl⟩))
      go_ret
      exact ⟨rfl, (Below.refl _ _).alloc (Nat.le_refl _) _⟩
end Go.Proofs.Ytpekofpiodaadaa.Hb
end

section
/- Groves: whether one may be, the votes on its rows, its error: pure. -/
namespace Go.Proofs.Ytpekofpiodaadaa.Hb
set_option linter.unusedVariables false
open Go.RowKit

theorem chk_shape {k cl b t d l p : Int} (h : checkO k cl b t d l p = 0) : 2 ≤ b ∧ b ≤ 256 ∧ ((k = 0 ∧ 2 ≤ cl ∧ cl ≤ 256) ∨ (k = 1 ∧ cl = 0)) := by
  unfold checkO lowC stepC at h
  repeat' split at h
  all_goals omega
structure Grv where
  k : Int
  cl : Int
  b : Int
  t : Int
  d : Int
  l : Int
  p : Int
  rows : Int
  cols : Int
  cells : List Int
  trees : List (List Nd)
  weights : List (List Int)
  tgt : List Int
def tgtB (kind classes t : Int) : Bool := if kind = 0 then decide (0 ≤ t ∧ t < classes) else decide (-1048576 ≤ t ∧ t ≤ 1048576)
def treesB (g : Grv) : List (List Nd) → List (List Int) → Bool
  | t :: ts, w :: ws => (decide ((w.length : Int) = g.rows) && rightT g.cols g.b g.k g.cl t) && treesB g ts ws
  | _, _ => true
def headB (g : Grv) : Bool := (checkO g.k g.cl g.b g.t g.d g.l g.p == 0) && (matB g.rows g.cols g.cells.length && decide (1 ≤ g.cols ∧ g.cols ≤ 1024 ∧ g.weights.length = g.trees.length ∧ (g.tgt.length : Int) = g.rows))
def mayG (g : Grv) : Bool := headB g && (treesB g g.trees g.weights && g.tgt.all (tgtB g.k g.cl))
def rowO (rows cols : Int) (cells : List Int) (i : Nat) : List Int := (List.range cols.toNat).map fun j => cells.getD (j * rows.toNat + i) 0
theorem row_len (rows cols : Int) (cells : List Int) (i : Nat) : (rowO rows cols cells i).length = cols.toNat := by simp [rowO]
def leavesGo (row : List Int) (i : Nat) : List (List Nd) → List (List Int) → List Nd
  | t :: ts, w :: ws => if w.getD i 0 ≠ 0 then leavesGo row i ts ws else ndAt t (placeO t row) :: leavesGo row i ts ws
  | _, _ => []
def leavesO (g : Grv) (i : Nat) : List Nd := leavesGo (rowO g.rows g.cols g.cells i) i g.trees g.weights
def voteAt (g : Grv) (i : Nat) : Option Int := if leavesO g i = [] then none else some (voteO g.k g.cl (leavesO g i)).1
def votesO (g : Grv) : List (Option Int) := (List.range g.rows.toNat).map (voteAt g)
def errGo (kind : Int) : List (Option Int) → List Int → Int × Int
  | some v :: vs, t :: ts => let r := errGo kind vs ts; (r.1 + (if kind = 1 then (v - t) * (v - t) else if v ≠ t then 1 else 0), r.2 + 1)
  | none :: vs, _ :: ts => errGo kind vs ts
  | _, _ => (0, 0)
theorem trees_is {g : Grv} : ∀ {ts : List (List Nd)} {ws : List (List Int)}, treesB g ts ws = true → ∀ (i : Nat) (t : List Nd) (w : List Int), ts[i]? = some t → ws[i]? = some w → (w.length : Int) = g.rows ∧ rightT g.cols g.b g.k g.cl t = true
  | [], _, _, i, t, w, h1, _ => by simp at h1
  | _ :: _, [], _, i, t, w, _, h2 => by simp at h2
  | t0 :: ts, w0 :: ws, h, i, t, w, h1, h2 => by
    rw [treesB] at h
    simp only [Bool.and_eq_true, decide_eq_true_eq] at h
    rcases i with _ | i
    · simp at h1 h2; subst h1 h2; exact h.1
    · exact trees_is h.2 i t w (by simpa using h1) (by simpa using h2)
theorem head_is {g : Grv} (h : headB g = true) : checkO g.k g.cl g.b g.t g.d g.l g.p = 0 ∧ ((0 ≤ g.rows ∧ g.rows ≤ 16777216) ∧ (0 ≤ g.cols ∧ g.cols ≤ 16777216) ∧ (g.cells.length : Int) = g.rows * g.cols) ∧ 1 ≤ g.cols ∧ g.cols ≤ 1024 ∧ g.weights.length = g.trees.length ∧ (g.tgt.length : Int) = g.rows := by
  unfold headB at h
  simp only [Bool.and_eq_true, decide_eq_true_eq, beq_iff_eq] at h
  exact ⟨h.1, matB_is h.2.1, h.2.2⟩
theorem may_is {g : Grv} (h : mayG g = true) : headB g = true ∧ treesB g g.trees g.weights = true ∧ ∀ t ∈ g.tgt, tgtB g.k g.cl t = true := by
  unfold mayG at h
  simp only [Bool.and_eq_true, List.all_eq_true] at h
  exact ⟨h.1, h.2.1, h.2.2⟩
theorem leaves_mem (row : List Int) (i : Nat) : ∀ (ts : List (List Nd)) (ws : List (List Int)) (n : Nd), n ∈ leavesGo row i ts ws → ∃ (j : Nat) (t : List Nd) (w : List Int), ts[j]? = some t ∧ ws[j]? = some w ∧ n = ndAt t (placeO t row)
  | [], _, n, h => by simp [leavesGo] at h
  | _ :: _, [], n, h => by simp [leavesGo] at h
  | t :: ts, w :: ws, n, h => by
    rw [leavesGo] at h
    split at h
    · obtain ⟨j, t', w', h1, h2, h3⟩ := leaves_mem row i ts ws n h
      exact ⟨j + 1, t', w', by simpa using h1, by simpa using h2, h3⟩
    · rcases List.mem_cons.1 h with rfl | h
      · exact ⟨0, t, w, rfl, rfl, rfl⟩
      · obtain ⟨j, t', w', h1, h2, h3⟩ := leaves_mem row i ts ws n h
        exact ⟨j + 1, t', w', by simpa using h1, by simpa using h2, h3⟩
theorem leaves_len (row : List Int) (i : Nat) : ∀ (ts : List (List Nd)) (ws : List (List Int)), (leavesGo row i ts ws).length ≤ ts.length
  | [], _ => by simp [leavesGo]
  | _ :: _, [] => by simp [leavesGo]
  | t :: ts, w :: ws => by
    rw [leavesGo]
    have := leaves_len row i ts ws
    split <;> simp <;> omega
theorem leaves_nil (row : List Int) (i : Nat) : ∀ (ts : List (List Nd)) (ws : List (List Int)), ts.length = ws.length → (leavesGo row i ts ws = [] ↔ ∀ w ∈ ws, w.getD i 0 ≠ 0)
  | [], [], _ => by simp [leavesGo]
  | [], _ :: _, h => by simp at h
  | _ :: _, [], h => by simp at h
  | t :: ts, w :: ws, h => by
    have ih := leaves_nil row i ts ws (by simpa using h)
    rw [leavesGo]
    split
    · rename_i hw
      rw [ih]
      exact ⟨fun hh x hx => by rcases List.mem_cons.1 hx with rfl | hx; exact hw; exact hh x hx, fun hh x hx => hh x (List.mem_cons_of_mem _ hx)⟩
    · rename_i hw
      exact ⟨fun hh => (by cases hh), fun hh => absurd (hh w (List.mem_cons_self ..)) hw⟩
theorem mayS_of {g : Grv} (h : headB g = true) : mayS g.cols g.b g.k g.cl := by
  obtain ⟨h1, _, h3, h4, _⟩ := head_is h
  obtain ⟨a1, a2, a3⟩ := chk_shape h1
  unfold mayS
  exact ⟨h3, h4, a1, a2, a3⟩
theorem vote_at {g : Grv} (h : mayG g = true) (hl : ∀ t ∈ g.trees, t.length ≤ 9223372036854775807) (hn : g.trees.length ≤ 1048576) {i : Nat} (h0 : leavesO g i ≠ []) :
    ∃ v, voteO g.k g.cl (leavesO g i) = (v, 0) ∧ (g.k = 0 → 0 ≤ v ∧ v < g.cl) ∧ (g.k = 1 → -1048576 ≤ v ∧ v ≤ 1048576) := by
  obtain ⟨a1, a2, _⟩ := may_is h
  obtain ⟨_, _, c1, c2, _⟩ := head_is a1
  refine vote_right (mayS_of a1) h0 (Nat.le_trans (leaves_len _ _ _ _) hn) (fun n hn => ?_)
  obtain ⟨j, t, w, e1, e2, rfl⟩ := leaves_mem _ _ _ _ _ hn
  obtain ⟨_, hr⟩ := trees_is a2 j t w e1 e2
  obtain ⟨p1, p2, p3⟩ := place_right hr (hl t (List.mem_of_getElem? e1)) (rowO g.rows g.cols g.cells i) (by rw [row_len]; omega)
  exact ⟨(rightT_is hr).2.2.2.2 _ (List.mem_of_getElem? (ndAt_get p1 p2)), p3⟩
end Go.Proofs.Ytpekofpiodaadaa.Hb
end

section
/- Whether a node is right, by itself: the walk. -/
namespace Go.Proofs.Ytpekofpiodaadaa.Hb
set_option linter.unusedVariables false
set_option linter.unusedSimpArgs false
open Go.RowKit

theorem Blk.cells6 {w : World} {g : Nat} {a b c d e f : Value} {t : TypeId} (x : Blk w g #[a, b, c, d, e, f] t) :
    w.cell? ⟨g, 0, none⟩ = some a ∧ w.cell? ⟨g, 1, none⟩ = some b ∧ w.cell? ⟨g, 2, none⟩ = some c ∧ w.cell? ⟨g, 3, none⟩ = some d ∧ w.cell? ⟨g, 4, none⟩ = some e ∧ w.cell? ⟨g, 5, none⟩ = some f :=
  ⟨x.cell 0, x.cell 1, x.cell 2, x.cell 3, x.cell 4, x.cell 5⟩
theorem target_any (k cl b t d l p x : Int) (w : World) : Calls Try.prog 228 #[.agg #[.int .i64 k, .int .i64 cl, .int .i64 b, .int .i64 t, .int .i64 d, .int .i64 l, .int .i64 p], .int .i64 x] w fun e w' => e = .returned (.bool (tgtB k cl x)) ∧ Below w.heap.size w w' := by
  by_cases hk : k = 0
  · have k1 : (k == 0) = true := beq_iff_eq.2 hk
    have HK := Lib.hid hk
    clear hk
    go_enter Try.func228, Try.ntmps228
    go_wp2
    all_goals
      go_ret
      refine ⟨ret_bool ?_, (Below.refl _ _).alloc (Nat.le_refl _) _⟩
      unfold tgtB
      rw [if_pos HK.out]
      first
      | (refine (decide_eq_false ?_).symm; omega)
      | (refine (decide_eq_true ?_).symm; omega)
      | (refine decide_eq_decide.2 ?_; omega)
  · have k1 : (k == 0) = false := beq_eq_false_iff_ne.2 hk
    have HK := Lib.hid hk
    clear hk
    go_enter Try.func228, Try.ntmps228
    go_wp2
    all_goals
      go_ret
      refine ⟨ret_bool ?_, (Below.refl _ _).alloc (Nat.le_refl _) _⟩
      unfold tgtB
      rw [if_neg HK.out]
      first
      | (refine (decide_eq_false ?_).symm; omega)
      | (refine (decide_eq_true ?_).symm; omega)
      | (refine decide_eq_decide.2 ?_; omega)
set_option maxRecDepth 100000 in
set_option maxHeartbeats 4000000 in
theorem nright_any (cols bins kind classes : Int) (x : Nd) (hx : x.ok) (w : World) : Calls Try.prog 175 #[.agg #[.int .i64 cols, .int .i64 bins, .int .i64 kind, .int .i64 classes], ndV x] w fun e w' => e = .returned (.bool (decide (oneP cols bins kind classes x))) ∧ Below w.heap.size w w' := by
  have KL := Lib.hid (fun w => nleaf_any x w)
  obtain ⟨R, hR⟩ : ∃ R, decide (oneP cols bins kind classes x) = R := ⟨_, rfl⟩
  rw [hR]
  have HR := Lib.hid hR
  clear hR
  obtain ⟨f, b, l, c, s, k⟩ := x
  simp only [ndV] at KL ⊢
  obtain ⟨lf, hlf⟩ : ∃ lf, (f == -1) = lf := ⟨_, rfl⟩
  rw [hlf] at KL
  go_enter Try.func175, Try.ntmps175
  go_wp2_with fail
  refine (KL.out _).mono ?_
  rintro e w1 ⟨rfl, hb⟩
  obtain ⟨k0, k1, k2, be⟩ := boxes_f w #[.int .i64 cols, .int .i64 bins, .int .i64 kind, .int .i64 classes] #[.int .i64 f, .int .i64 b, .int .i64 l, .int .i64 c, .int .i64 s, .int .i64 k] #[.int .i64 f, .int .i64 b, .int .i64 l, .int .i64 c, .int .i64 s, .int .i64 k] 132 90 90 _ rfl
  replace k0 := k0.below hb
  replace k1 := k1.below hb
  replace k2 := k2.below hb
  replace be := be.trans (hb.mono (by simp; omega))
  clear hb
  have p0 := k0.cell 0
  have p1 := k0.cell 1
  have p2 := k0.cell 2
  have p3 := k0.cell 3
  simp only [List.getElem?_toArray, List.getElem?_cons_zero, List.getElem?_cons_succ] at p0 p1 p2 p3
  obtain ⟨q0, q1, q2, q3, q4, q5⟩ := k1.cells6
  obtain ⟨r0, r1, r2, r3, r4, r5⟩ := k2.cells6
  have r6 := fun i => k2.frozen i
  have hl2 := k2.lt
  have HLF := Lib.hid hlf
  have HX := Lib.hid hx
  cases lf with
  | true =>
    obtain ⟨kc, hkc⟩ : ∃ kc, (kind == 0) = kc := ⟨_, rfl⟩
    have HKC := Lib.hid hkc
    cases kc with
    | true =>
      clear hx hlf
      go_wp2_with fail
      all_goals
        go_ret
        refine ⟨ret_bool ?_, ((be.setCell (p := ⟨w.heap.size + 1 + 1, 0, none⟩) (by simp; omega) _).setCell (p := ⟨w.heap.size + 1 + 1, 3, none⟩) (by simp; omega) _)⟩
        rw [← HR.out]
        have e1 : f = -1 := beq_iff_eq.1 HLF.out
        have e2 : kind = 0 := beq_iff_eq.1 HKC.out
        first
        | (refine (decide_eq_false ?_).symm; unfold oneP; dsimp only; rw [if_pos e1, if_pos e2]; omega)
        | (refine (decide_eq_true ?_).symm; unfold oneP; dsimp only; rw [if_pos e1, if_pos e2]; omega)
        | (refine decide_eq_decide.2 ?_; unfold oneP; dsimp only; rw [if_pos e1, if_pos e2]; omega)
    | false =>
      clear hlf
      go_wp2_with fail
      refine (KL.out _).mono ?_
      rintro e w2 ⟨rfl, hb⟩
      clear p0 p1 p2 p3 q0 q1 q2 q3 q4 q5 r0 r1 r2 r3 r4 r5 r6
      replace k0 := k0.below hb
      replace k1 := k1.below hb
      replace k2 := k2.below hb
      replace be := be.trans (hb.mono be.size)
      clear hb
      have p0 := k0.cell 0
      have p1 := k0.cell 1
      have p2 := k0.cell 2
      have p3 := k0.cell 3
      simp only [List.getElem?_toArray, List.getElem?_cons_zero, List.getElem?_cons_succ] at p0 p1 p2 p3
      obtain ⟨q0, q1, q2, q3, q4, q5⟩ := k1.cells6
      obtain ⟨r0, r1, r2, r3, r4, r5⟩ := k2.cells6
      have r6 := fun i => k2.frozen i
      have hl2 := k2.lt
      by_cases hkb : k < 1 ∨ 1048576 < k
      · clear hx
        go_wp2_with fail
        all_goals
          go_ret
          refine ⟨ret_bool ?_, (((be.setCell (p := ⟨w.heap.size + 1 + 1, 0, none⟩) (by simp; omega) _).setCell (p := ⟨w.heap.size + 1 + 1, 4, none⟩) (by simp; omega) _).setCell (p := ⟨w.heap.size + 1 + 1, 5, none⟩) (by simp; omega) _)⟩
          rw [← HR.out]
          have e1 : f = -1 := beq_iff_eq.1 HLF.out
          have e2 : ¬ kind = 0 := beq_eq_false_iff_ne.1 HKC.out
          first
          | (refine (decide_eq_false ?_).symm; unfold oneP; dsimp only; rw [if_pos e1, if_neg e2]; omega)
          | (refine (decide_eq_true ?_).symm; unfold oneP; dsimp only; rw [if_pos e1, if_neg e2]; omega)
          | (refine decide_eq_decide.2 ?_; unfold oneP; dsimp only; rw [if_pos e1, if_neg e2]; omega)
      · clear hx
        have hkb1 : 1 ≤ k := by omega
        have hkb2 : k ≤ 1048576 := by omega
        clear hkb
        go_wp2_with fail
        all_goals
          go_ret
          refine ⟨ret_bool ?_, (((be.setCell (p := ⟨w.heap.size + 1 + 1, 0, none⟩) (by simp; omega) _).setCell (p := ⟨w.heap.size + 1 + 1, 4, none⟩) (by simp; omega) _).setCell (p := ⟨w.heap.size + 1 + 1, 5, none⟩) (by simp; omega) _)⟩
          rw [← HR.out]
          have e1 : f = -1 := beq_iff_eq.1 HLF.out
          have e2 : ¬ kind = 0 := beq_eq_false_iff_ne.1 HKC.out
          first
          | (refine (decide_eq_false ?_).symm; unfold oneP; dsimp only; rw [if_pos e1, if_neg e2]; omega)
          | (refine (decide_eq_true ?_).symm; unfold oneP; dsimp only; rw [if_pos e1, if_neg e2]; omega)
          | (refine decide_eq_decide.2 ?_; unfold oneP; dsimp only; rw [if_pos e1, if_neg e2]; omega)
  | false =>
    clear hx hlf
    go_wp2_with fail
    refine (KL.out _).mono ?_
    rintro e w2 ⟨rfl, hb⟩
    clear p0 p1 p2 p3 q0 q1 q2 q3 q4 q5 r0 r1 r2 r3 r4 r5 r6
    replace k0 := k0.below hb
    replace k1 := k1.below hb
    replace k2 := k2.below hb
    replace be := be.trans (hb.mono be.size)
    clear hb
    have p0 := k0.cell 0
    have p1 := k0.cell 1
    have p2 := k0.cell 2
    have p3 := k0.cell 3
    simp only [List.getElem?_toArray, List.getElem?_cons_zero, List.getElem?_cons_succ] at p0 p1 p2 p3
    obtain ⟨q0, q1, q2, q3, q4, q5⟩ := k1.cells6
    obtain ⟨r0, r1, r2, r3, r4, r5⟩ := k2.cells6
    have r6 := fun i => k2.frozen i
    have hl2 := k2.lt
    go_wp2_with fail
    all_goals
      go_ret
      refine ⟨ret_bool ?_, (((be.setCell (p := ⟨w.heap.size + 1 + 1, 0, none⟩) (by simp; omega) _).setCell (p := ⟨w.heap.size + 1 + 1, 1, none⟩) (by simp; omega) _).setCell (p := ⟨w.heap.size + 1 + 1, 2, none⟩) (by simp; omega) _)⟩
      rw [← HR.out]
      have e1 : ¬ f = -1 := beq_eq_false_iff_ne.1 HLF.out
      first
      | (refine (decide_eq_false ?_).symm; unfold oneP; dsimp only; rw [if_neg e1]; omega)
      | (refine (decide_eq_true ?_).symm; unfold oneP; dsimp only; rw [if_neg e1]; omega)
      | (refine decide_eq_decide.2 ?_; unfold oneP; dsimp only; rw [if_neg e1]; omega)
end Go.Proofs.Ytpekofpiodaadaa.Hb
end

section
/- The walk of node.depths. -/
namespace Go.Proofs.Ytpekofpiodaadaa.Hb
set_option linter.unusedVariables false
set_option linter.unusedSimpArgs false
open Go.RowKit

theorem made_one (n : Nat) (hn : 1 ≤ n) (h : n ≤ 1099511627776) : ∃ mc : Array Value, mc.size = n ∧ mc.toList.take 1 = [.int .i64 0] ∧
    ∀ w : World, (Instr.makeSlice 24 (.int .i64 1) (.int .i64 n)).run Try.prog w = .ok (.slice (some ⟨w.heap.size, 0, none⟩) 1 n) (w.alloc (.cells mc 3)) := by
  obtain ⟨i0, hi, hz0, hz1, hz2⟩ := info_parts info_int
  refine ⟨madeCells (Value.int .i64 0).cells n, size_madeCells _ _, ?_, fun w => ?_⟩
  · have : (Value.int .i64 0).cells = #[.int .i64 0] := rfl
    rw [this, toList_madeCells_one]
    obtain ⟨m, rfl⟩ : ∃ m, n = m + 1 := ⟨n - 1, by omega⟩
    simp [List.replicate_succ]
  · have := run_make (P := Try.prog) w 24 3 i0 (.int .i64 0) Try.underlying24 hi hz0 .i64 .i64 1 n (by omega) (by omega) (by rw [hz2]; omega) (by omega)
    rw [hz1] at this
    simpa using this
theorem depGo_break {L : Nat} {n : Nd} {r : List Nd} {i : Nat} {out : List Int} (h : out.length ≤ i) : depGo L (n :: r) i out = none := by rw [depGo, if_pos h]
theorem depGo_leaf {L : Nat} {n : Nd} {r : List Nd} {i : Nat} {out : List Int} (h : ¬ out.length ≤ i) (h2 : n.f = -1) : depGo L (n :: r) i out = depGo L r (i + 1) out := by rw [depGo, if_neg h, if_pos h2]
theorem depGo_no {L : Nat} {n : Nd} {r : List Nd} {i : Nat} {out : List Int} (h2 : ¬ n.f = -1) (h3 : n.l ≠ out.length ∨ L < out.length + 2) : depGo L (n :: r) i out = none := by
  rw [depGo, if_neg h2, if_pos h3, ite_self]
theorem depGo_two {L : Nat} {n : Nd} {r : List Nd} {i : Nat} {out : List Int} (h : ¬ out.length ≤ i) (h2 : ¬ n.f = -1) (h3 : ¬ (n.l ≠ out.length ∨ L < out.length + 2)) : depGo L (n :: r) i out = depGo L r (i + 1) (out ++ [out.getD i 0 + 1, out.getD i 0 + 1]) := by rw [depGo, if_neg h, if_neg h2, if_neg h3]
theorem cell_two (w : World) (a b : Value) (t : TypeId) : ∀ j u, [a, b][j]? = some u → (w.alloc (.cells #[a, b] t)).cell? ((⟨w.heap.size, 0, none⟩ : Addr).add j) = some u := by
  intro j u hj
  have k := (Blk.new w #[a, b] t).cell j
  rw [show (⟨w.heap.size, 0, none⟩ : Addr).add j = ⟨w.heap.size, j, none⟩ from by unfold Addr.add; split <;> simp_all]
  rw [k]
  simpa using hj
theorem drop_nd {t : List Nd} {k : Nat} {x : Nd} (h : t[k]? = some x) : t.drop k = x :: t.drop (k + 1) := by
  obtain ⟨hk, rfl⟩ := List.getElem?_eq_some_iff.1 h
  exact List.drop_eq_getElem_cons hk
structure DepI (t : List Nd) (N k m : Nat) (w : World) (D : Option (List Int)) (o : Value) (wr : World) : Prop where
  out : ∃ out : List Int, out.length = m ∧ depGo t.length (t.drop k) k out = D ∧ (∀ x ∈ out, 0 ≤ x ∧ x ≤ m) ∧ wr.ownsRow N 3 1 o m (ints out)
  m1 : 1 ≤ m
  mn : m ≤ t.length
  be : Below N w wr
set_option warningAsError false in
set_option maxRecDepth 100000 in
set_option maxHeartbeats 4000000 in
theorem depths_any (t : List Nd) (A : Option Addr) (cap : Nat) (w : World) (hr : RN w A t) (hl : t.length ≤ 1099511627776) : Calls Try.prog 170 #[.slice A t.length cap] w fun e w' =>
    ∃ v, e = .returned v ∧ w'.ownsRow w.heap.size 3 1 v (depthsO t).length (ints (depthsO t)) ∧ Below w.heap.size w w' := by
  obtain ⟨n, hn⟩ : ∃ n, t.length = n := ⟨_, rfl⟩
  rw [hn] at hl ⊢
  by_cases h0 : n = 0
  · subst h0
    have e0 : t = [] := List.length_eq_zero_iff.1 hn
    subst e0
    go_enter Try.func170, Try.ntmps170
    go_wp2_with fail
    go_step3
    go_wp2_with fail
    rw [Exit.noGoto_ret]
    go_ret
    exact ⟨_, rfl, World.ownsRow_nil _ _ _ _, Below.refl _ _⟩
  obtain ⟨D, hD⟩ : ∃ D, depGo t.length t 0 [0] = D := ⟨_, rfl⟩
  have HD : Hid (depthsO t = D.getD []) := Lib.hid (by unfold depthsO; rw [if_neg (fun e => h0 (by rw [← hn, e]; rfl)), hD])
  have HGO := Lib.hid hD
  obtain ⟨mc, hm1, hm2, hm3⟩ := made_one n (by omega) hl
  have HM1 := Lib.hid hm1
  have HM2 := Lib.hid hm2
  have HN := Lib.hid hn
  have HRN := Lib.hid hr
  obtain ⟨N, hN⟩ : ∃ N, w.heap.size = N := ⟨_, rfl⟩
  have HNN := Lib.hid hN
  have hn0 : ((n : Int) == 0) = false := beq_eq_false_iff_ne.2 (by omega)
  have hn0' : (n == 0) = false := beq_eq_false_iff_ne.2 h0
  have hn1 : 0 < n := by omega
  rw [hN]
  clear hD hm1 hm2 hn hr hN h0
  go_enter Try.func170, Try.ntmps170
  go_wp2_with fail
  go_step3
  go_wp2_with fail
  go_step3
  go_wp2_with fail
  clear hm3 hn0 hn0'
  go_loopw [3, 14] (fun o iv wr => ∃ k m g c : Nat, k ≤ n ∧ iv = .int .i64 k ∧ o = .slice (some ⟨g, 0, none⟩) m c ∧ DepI t N k m w D (.slice (some ⟨g, 0, none⟩) m c) wr) (fun _ iv _ => n - (intOf iv).toNat)
  case atStart =>
    refine ⟨0, 1, w.heap.size, n, by omega, rfl, rfl, ⟨[0], rfl, by rw [List.drop_zero]; exact HGO.out, by simp, rfl, .inr ⟨w.heap.size, n, mc, rfl, by rw [HNN.out]; exact Nat.le_refl _, World.alloc_heap_new w _, by omega, by unfold maxLen; omega, by rw [HM1.out]; omega, HM2.out⟩⟩, Nat.le_refl _, by rw [HN.out]; omega, (Below.refl _ _).alloc (by rw [HNN.out]; exact Nat.le_refl _) _⟩
  case round =>
    obtain ⟨k, m, g, c, hk, rfl, rfl, hI⟩ := hrel
    have b1 := hI.m1
    have b2 : m ≤ n := by have := hI.mn; rw [HN.out] at this; exact this
    have HI := Lib.hid hI
    clear hI
    by_cases hlt : k < n
    · have hlt' : (k : Int) < n := by omega
      have hbe : Below w.heap.size w wr := by rw [HNN.out]; exact HI.out.be
      obtain ⟨ad, rfl, x, hx, hxok, hat⟩ := (HRN.out.below hbe).at (i := k) (by rw [HN.out]; exact hlt)
      have HDR := Lib.hid (drop_nd hx)
      obtain ⟨p0, p1, p2, p3, p4, p5⟩ := hat
      have HXO := Lib.hid hxok
      have hNs : N ≤ wr.heap.size := by have := HI.out.be.size; have := HNN.out; omega
      clear hx hbe hxok
      by_cases hmk : m ≤ k
      · have e1 : decide ((m : Int) ≤ k) = true := decide_eq_true (by omega)
        have e2 : decide (m ≤ k) = true := decide_eq_true hmk
        have e3 : ((m : Int) != n) = true := bne_iff_ne.2 (by omega)
        have e4 : (m != n) = true := bne_iff_ne.2 (by omega)
        go_wp2_with fail
        rw [Exit.noGoto_ret]
        go_ret
        obtain ⟨out, h1, h2, h3, h4⟩ := HI.out.out
        rw [HDR.out, depGo_break (by omega)] at h2
        refine ⟨_, rfl, ?_, HI.out.be.alloc hNs _⟩
        rw [HD.out, ← h2, Option.getD_none]
        exact World.ownsRow_nil _ _ _ _
      · have hmk' : k < m := by omega
        have e1 : decide ((m : Int) ≤ k) = false := decide_eq_false (by omega)
        have e2 : decide (m ≤ k) = false := decide_eq_false hmk
        obtain ⟨f, b, l, cc, s, q⟩ := x
        obtain ⟨lf, hlf⟩ : ∃ lf, (f == -1) = lf := ⟨_, rfl⟩
        have KL := Lib.hid (fun w => nleaf_any ⟨f, b, l, cc, s, q⟩ w)
        simp only [ndV] at KL
        rw [hlf] at KL
        have HLF := Lib.hid hlf
        clear hlf hmk
        simp only at p0 p1 p2 p3 p4 p5
        go_wp2_with fail
        refine (KL.out _).mono ?_
        rintro e w2 ⟨rfl, hb⟩
        have kA := (Blk.new wr #[.int .i64 f, .int .i64 b, .int .i64 l, .int .i64 cc, .int .i64 s, .int .i64 q] 90).below hb
        have hb2 : Below wr.heap.size wr w2 := ((Below.refl _ wr).alloc (Nat.le_refl _) _).trans (hb.mono (by simp))
        obtain ⟨q0, q1, q2, q3, q4, q5⟩ := kA.cells6
        have hB2 := HI.out.be.trans (hb2.mono hNs)
        have HB2 := Lib.hid hB2
        have hOwn : Hid (∃ out : List Int, out.length = m ∧ depGo t.length (t.drop k) k out = D ∧ (∀ x ∈ out, 0 ≤ x ∧ x ≤ m) ∧ w2.ownsRow N 3 1 (.slice (some ⟨g, 0, none⟩) m c) m (ints out)) := Lib.hid (by
          obtain ⟨out, h1, h2, h3, h4⟩ := HI.out.out
          exact ⟨out, h1, h2, h3, own_below h4 hb2⟩)
        have hs2 : N ≤ w2.heap.size := Nat.le_trans hNs hb2.size
        clear hb hb2 p0 p1 p2 p3 p4 p5 kA hB2
        cases lf with
        | true =>
          go_wp2_with fail
          go_roundw
          case rel =>
            refine ⟨k + 1, m, g, c, hlt, by go_num, rfl, ?_, b1, by rw [HN.out]; exact b2, HB2.out⟩
            obtain ⟨out, h1, h2, h3, h4⟩ := hOwn.out
            rw [HDR.out, depGo_leaf (by omega) (beq_iff_eq.1 HLF.out)] at h2
            exact ⟨out, h1, h2, h3, h4⟩
          case measure => simp [intOf]; omega
        | false =>
          have hfn : ¬ f = -1 := beq_eq_false_iff_ne.1 HLF.out
          by_cases hlm : l = m
          · by_cases hroom : n < m + 2
            · have HLM := Lib.hid hlm
              have e3 : (l != (m : Int)) = false := by simpa using hlm
              have e4 : decide ((n : Int) < (m : Int) + 2) = true := decide_eq_true (by omega)
              have HFN := Lib.hid hfn
              clear hlm hfn
              go_wp2_with fail
              rw [Exit.noGoto_ret]
              go_ret
              obtain ⟨out, h1, h2, h3, h4⟩ := hOwn.out
              rw [HDR.out, depGo_no HFN.out (.inr (by rw [HN.out, h1]; exact hroom))] at h2
              refine ⟨_, rfl, ?_, HB2.out⟩
              rw [HD.out, ← h2, Option.getD_none]
              exact World.ownsRow_nil _ _ _ _
            · obtain ⟨y, hy⟩ : ∃ y, Hid (∃ out : List Int, out.length = m ∧ depGo t.length (t.drop k) k out = D ∧ (∀ x ∈ out, 0 ≤ x ∧ x ≤ m) ∧ w2.ownsRow N 3 1 (.slice (some ⟨g, 0, none⟩) m c) m (ints out) ∧ out.getD k 0 = y) := by
                obtain ⟨out, h1, h2, h3, h4⟩ := hOwn.out
                exact ⟨_, Lib.hid ⟨out, h1, h2, h3, h4, rfl⟩⟩
              have z0 : w2.cell? ⟨g, k, none⟩ = some (.int .i64 y) := by
                obtain ⟨out, h1, h2, h3, h4, h5⟩ := hy.out
                rw [World.ownsRow.cellAt h4 k (by omega), ints_get (by omega), h5]
              have hyb : 0 ≤ y ∧ y ≤ m := by
                obtain ⟨out, h1, h2, h3, h4, h5⟩ := hy.out
                rw [← h5, List.getD_eq_getElem?_getD, List.getElem?_eq_getElem (by omega)]
                exact h3 _ (List.getElem_mem _)
              obtain ⟨hy0, hy1⟩ := hyb
              have e3 : (l != (m : Int)) = false := by simpa using hlm
              have e4 : decide ((n : Int) < (m : Int) + 2) = false := decide_eq_false (by omega)
              have HLM := Lib.hid hlm
              have HFN := Lib.hid hfn
              have hw1 : IntKind.i64.wrap (y + 1) = y + 1 := by rw [IntKind.wrap_i64]; omega
              obtain ⟨i0, hi0, hz0, hz1, hz2⟩ := info_parts info_int
              obtain ⟨out, h1, h2, h3, h4, h5⟩ := hy.out
              have HO := Lib.hid h4
              have HO1 := Lib.hid h1
              have HO2 := Lib.hid h2
              have HO3 := Lib.hid h3
              have HO5 := Lib.hid h5
              clear hlm hfn hOwn h1 h2 h3 h4 h5
              go_wp2_with fail
              go_region_held3 (fun _ => True) (first | exact trivial | go_keep)
                ((refine step_append_lies _ (by rfl) _ _ 24 (by rfl) N 3 i0 (.int .i64 0) 1 8 Try.underlying24 hi0 hz0 hz1 hz2 rfl (by decide) (.slice (some ⟨g, 0, none⟩) m c) m (ints out) (by rfl) (by exact HO.out.alloc _) _ 2 2 [.int .i64 (y + 1), .int .i64 (y + 1)] (by rfl) (by rfl) (by exact cell_two _ _ _ _) (by simp [Value.oneCell']) (by decide) (by unfold maxLen; omega) (by omega) (by simp; omega) _ rfl ?_; intro g' c' w3 hown3 hg3 hat3 hlt3))
              all_goals
                go_wp2_with fail
                go_roundw
                case rel =>
                  refine ⟨k + 1, m + 2, g', c', hlt, by go_num, rfl, ?_, by omega, by rw [HN.out]; omega, ?_⟩
                  · have h2 := HO2.out
                    rw [HDR.out, depGo_two (by rw [HO1.out]; omega) HFN.out (by show ¬ (l ≠ (out.length : Int) ∨ t.length < out.length + 2); rw [HN.out, HO1.out]; have := HLM.out; omega), HO5.out] at h2
                    refine ⟨out ++ [y + 1, y + 1], by simp [HO1.out], h2, ?_, by simpa [ints] using hown3⟩
                    intro x hx
                    rcases List.mem_append.1 hx with hx | hx
                    · have := HO3.out x hx; omega
                    · simp at hx; subst hx; omega
                  · exact ((HB2.out.drew).alloc (by simp; omega) _).grown hg3 (by simp; omega) (fun q e => (World.ownsRow.lt HO.out q e).1)
                case measure => simp [intOf]; omega
          · have HLM := Lib.hid hlm
            have e3 : (l != (m : Int)) = true := by simpa using hlm
            have HFN := Lib.hid hfn
            clear hlm hfn
            go_wp2_with fail
            rw [Exit.noGoto_ret]
            go_ret
            obtain ⟨out, h1, h2, h3, h4⟩ := hOwn.out
            rw [HDR.out, depGo_no HFN.out (.inl (by rw [h1]; exact HLM.out))] at h2
            refine ⟨_, rfl, ?_, HB2.out⟩
            rw [HD.out, ← h2, Option.getD_none]
            exact World.ownsRow_nil _ _ _ _
    · obtain rfl : k = n := by omega
      have hf : Hid (∀ out : List Int, out.length = m → depGo t.length (t.drop k) k out = D → (m = k → D = some out) ∧ (m ≠ k → D = none)) := Lib.hid (fun out h1 h2 => by
        rw [List.drop_of_length_le (by rw [HN.out]; exact Nat.le_refl _), depGo, h1, HN.out] at h2
        exact ⟨fun e => by rw [if_pos e] at h2; exact h2.symm, fun e => by rw [if_neg e] at h2; exact h2.symm⟩)
      by_cases hmk : m = k
      · subst hmk
        have e1 : ((m : Int) != m) = false := by simp
        have e2 : (m != m) = false := by simp
        go_wp2_with fail
        go_ret
        obtain ⟨out, h1, h2, h3, h4⟩ := HI.out.out
        have hd := (hf.out out h1 h2).1 (by trivial)
        refine ⟨_, rfl, ?_, HI.out.be⟩
        rw [HD.out, hd, Option.getD_some, h1]
        exact h4
      · have e1 : ((m : Int) != k) = true := bne_iff_ne.2 (by omega)
        have e2 : (m != k) = true := bne_iff_ne.2 hmk
        have HMK := Lib.hid hmk
        clear hmk
        go_wp2_with fail
        rw [Exit.noGoto_ret]
        go_ret
        obtain ⟨out, h1, h2, h3, h4⟩ := HI.out.out
        have hd := (hf.out out h1 h2).2 HMK.out
        refine ⟨_, rfl, ?_, HI.out.be⟩
        rw [HD.out, hd, Option.getD_none]
        exact World.ownsRow_nil _ _ _ _
end Go.Proofs.Ytpekofpiodaadaa.Hb
end

section
/- The walk of node.Right. -/
namespace Go.Proofs.Ytpekofpiodaadaa.Hb
set_option linter.unusedVariables false
set_option linter.unusedSimpArgs false
open Go.RowKit

theorem dep_low {L : Nat} : ∀ (r : List Nd) (i : Nat) (out ds : List Int), depGo L r i out = some ds → (∀ x ∈ out, 0 ≤ x ∧ x ≤ out.length) → ∀ x ∈ ds, 0 ≤ x ∧ x ≤ ds.length
  | [], i, out, ds, h, ho => by
    unfold depGo at h
    split at h
    · cases h; exact ho
    · cases h
  | n :: r, i, out, ds, h, ho => by
    unfold depGo at h
    split at h
    · cases h
    · rename_i h1
      split at h
      · exact dep_low r _ _ _ h ho
      · split at h
        · cases h
        · refine dep_low r _ _ _ h (fun x hx => ?_)
          have hy := ho (out.getD i 0) (by rw [List.getD_eq_getElem?_getD, List.getElem?_eq_getElem (by omega)]; exact List.getElem_mem _)
          simp only [List.length_append, List.length_cons, List.length_nil]
          rcases List.mem_append.1 hx with hx | hx
          · have := ho x hx; omega
          · have hx' : x = out.getD i 0 + 1 := by simpa using hx
            subst hx'; omega
theorem depths_low (t : List Nd) : ∀ x ∈ depthsO t, 0 ≤ x ∧ x ≤ (depthsO t).length := by
  unfold depthsO
  split
  · simp
  · cases h : depGo t.length t 0 [0] with
    | none => simp
    | some ds => exact dep_low t 0 [0] ds h (by simp)
theorem depths_len (t : List Nd) : (depthsO t).length ≤ t.length := by
  unfold depthsO
  split
  · simp
  · cases h : depGo t.length t 0 [0] with
    | none => simp
    | some ds => exact Nat.le_of_eq (dep_front _ _ _ _ h).2
theorem take_snocI {l : List Int} {k : Nat} (h : k < l.length) : l.take (k + 1) = l.take k ++ [l.getD k 0] := by
  rw [List.take_succ_eq_append_getElem h, List.getD_eq_getElem?_getD, List.getElem?_eq_getElem h]; rfl
def maxF (l : List Int) : Int := l.foldl max (l.getD 0 0)
theorem maxF_O {l : List Int} (h : l.getD 0 0 = 0) : maxF l = maxO l := by unfold maxF maxO; rw [h]
set_option maxRecDepth 100000 in
set_option maxHeartbeats 1000000 in
theorem smax_any (l : List Int) (A : Option Addr) (cap : Nat) (w : World) (hr : RdI w A l) (h0 : l ≠ []) (hl : l.length ≤ 9223372036854775807) : Calls Try.prog 172 #[.slice A l.length cap] w fun e w' => e = .returned (.int .i64 (maxF l)) ∧ w = w' := by
  obtain ⟨n, hn⟩ : ∃ n, l.length = n := ⟨_, rfl⟩
  have hpos : 0 < l.length := List.length_pos_iff.2 h0
  obtain ⟨ad, rfl, ha⟩ := hr.at hpos
  obtain ⟨z, hz⟩ : ∃ z, l.getD 0 0 = z := ⟨_, rfl⟩
  have y0 := ha 0 hpos
  have e0 : ad.add 0 = ad := by unfold Addr.add; simp
  rw [e0, hz] at y0
  have HA := Lib.hid ha
  have HZ := Lib.hid hz
  have HM : Hid (maxF l = l.foldl max z) := Lib.hid (by unfold maxF; rw [hz])
  obtain ⟨M, hM⟩ : ∃ M, maxF l = M := ⟨_, rfl⟩
  rw [hM] at HM ⊢
  rw [hn] at hl hpos ⊢
  have HN := Lib.hid hn
  have h1 : decide (n < 1) = false := decide_eq_false (by omega)
  have h2 : decide ((n : Int) < 1) = false := decide_eq_false (by omega)
  clear ha hn hz hM h0 hr
  go_enter Try.func172, Try.ntmps172
  go_wp2_with fail
  go_loop [3, 4] (fun m iv => ∃ k : Nat, 1 ≤ k ∧ k ≤ n ∧ iv = .int .i64 k ∧ ∃ x, m = .int .i64 x ∧ Hid ((l.take k).foldl max z = x)) (fun _ iv => n - (intOf iv).toNat)
  case atStart =>
    refine ⟨1, Nat.le_refl _, hpos, rfl, _, rfl, Lib.hid ?_⟩
    have := take_snocI (l := l) (k := 0) (by rw [HN.out]; exact hpos)
    rw [this, HZ.out]; simp
  case round =>
    obtain ⟨k, hk1, hk, rfl, x, rfl, HX⟩ := hrel
    by_cases hlt : k < n
    · have hlt' : (k : Int) < n := by omega
      have y := HA.out k (by rw [HN.out]; exact hlt)
      obtain ⟨v, hv⟩ : ∃ v, l.getD k 0 = v := ⟨_, rfl⟩
      rw [hv] at y
      have HS : Hid ((l.take (k + 1)).foldl max z = if x < v then v else x) := Lib.hid (by rw [take_snocI (by rw [HN.out]; exact hlt), List.foldl_append, HX.out, hv]; show max x v = _; split <;> omega)
      clear hv HX
      go_wp2_with fail
      go_round
      case rel => exact ⟨k + 1, by omega, hlt, by go_num, _, rfl, HS⟩
      case measure => simp [intOf]; omega
    · obtain rfl : k = n := by omega
      go_wp2_with fail
      go_ret
      refine ⟨ret_i64 ?_, rfl⟩
      have := HX.out
      rw [List.take_of_length_le (by rw [HN.out]; exact Nat.le_refl _)] at this
      rw [HM.out, this]
def shpA (cols bins kind classes : Int) : Array Value := #[.int .i64 cols, .int .i64 bins, .int .i64 kind, .int .i64 classes]
set_option maxRecDepth 100000 in
set_option maxHeartbeats 1000000 in
theorem nr1_any (cols bins kind classes : Int) (x : Nd) (hx : x.ok) (B : Nat) (w : World) (hB : Blk w B (shpA cols bins kind classes) 132) : Calls Try.prog 174 #[ndV x, .pointer (some ⟨B, 0, none⟩)] w fun e w' => e = .returned (.bool (!decide (oneP cols bins kind classes x))) ∧ Below w.heap.size w w' := by
  have KR := Lib.hid (fun w => nright_any cols bins kind classes x hx w)
  obtain ⟨R, hR⟩ : ∃ R, decide (oneP cols bins kind classes x) = R := ⟨_, rfl⟩
  rw [hR] at KR ⊢
  obtain ⟨f, b, l, c, s, k⟩ := x
  simp only [ndV] at KR ⊢
  unfold shpA at hB
  have p0 := hB.cell 0
  have p1 := hB.cell 1
  have p2 := hB.cell 2
  have p3 := hB.cell 3
  have hl := hB.lt
  simp only [List.getElem?_toArray, List.getElem?_cons_zero, List.getElem?_cons_succ] at p0 p1 p2 p3
  clear hR hB hx
  cases R with
  | true =>
    go_enter Try.func174, Try.ntmps174
    go_wp2_with fail
    refine (KR.out _).mono ?_
    rintro e w1 ⟨rfl, hb⟩
    have be : Below w.heap.size w w1 := ((Below.refl _ w).alloc (Nat.le_refl _) _).trans (hb.mono (by simp))
    clear hb
    go_wp2_with fail
    go_ret
    exact ⟨rfl, be⟩
  | false =>
    go_enter Try.func174, Try.ntmps174
    go_wp2_with fail
    refine (KR.out _).mono ?_
    rintro e w1 ⟨rfl, hb⟩
    have be : Below w.heap.size w w1 := ((Below.refl _ w).alloc (Nat.le_refl _) _).trans (hb.mono (by simp))
    clear hb
    go_wp2_with fail
    go_ret
    exact ⟨rfl, be⟩
def idxR (p : Nd → Bool) : List Nd → Nat → Int
  | [], _ => -1
  | n :: r, k => if p n then idxR p r (k + 1) else k
theorem idx_sign (p : Nd → Bool) : ∀ (l : List Nd) (k : Nat), decide (0 ≤ idxR p l k) = !l.all p
  | [], _ => rfl
  | n :: r, k => by
    rw [idxR]
    cases h : p n with
    | true => simp only [if_true, List.all_cons, h, Bool.true_and]; exact idx_sign p r (k + 1)
    | false => simp [h]
set_option maxRecDepth 100000 in
set_option maxHeartbeats 1000000 in
theorem nidx_any (cols bins kind classes : Int) (t : List Nd) (A : Option Addr) (cap : Nat) (B : Nat) (w : World) (hr : RN w A t) (hl : t.length ≤ 1099511627776) (hB : Blk w B (shpA cols bins kind classes) 132) :
    Calls Try.prog 205 #[.slice A t.length cap, .func (.func 174) #[] #[.pointer (some ⟨B, 0, none⟩)]] w fun e w' => e = .returned (.int .i64 (idxR (fun n => decide (oneP cols bins kind classes n)) t 0)) ∧ Below w.heap.size w w' := by
  obtain ⟨n, hn⟩ : ∃ n, t.length = n := ⟨_, rfl⟩
  rw [hn] at hl ⊢
  obtain ⟨p, hp⟩ : ∃ p : Nd → Bool, (fun n => decide (oneP cols bins kind classes n)) = p := ⟨_, rfl⟩
  rw [hp]
  have HP := Lib.hid (fun x => congrFun hp x)
  obtain ⟨R, hR⟩ : ∃ R, idxR p t 0 = R := ⟨_, rfl⟩
  rw [hR]
  have HR := Lib.hid hR
  have HN := Lib.hid hn
  have HRN := Lib.hid hr
  have HB := Lib.hid hB
  clear hp hR hn hr hB
  go_enter Try.func205, Try.ntmps205
  go_wp2_with fail
  go_loopw [8] (fun iv wr => ∃ k : Nat, k ≤ n ∧ iv = .int .i64 k ∧ Hid (idxR p (t.drop k) k = R) ∧ Below w.heap.size w wr) (fun iv _ => n - (intOf iv).toNat)
  case atStart => exact ⟨0, Nat.zero_le _, rfl, Lib.hid (by rw [List.drop_zero]; exact HR.out), Below.refl _ _⟩
  case round =>
    obtain ⟨k, hk, rfl, HT, hbe⟩ := hrel
    by_cases hlt : k < n
    · have hlt' : (k : Int) < n := by omega
      obtain ⟨ad, rfl, x, hx, hxok, hat⟩ := (HRN.out.below hbe).at (i := k) (by rw [HN.out]; exact hlt)
      have HDR := Lib.hid (drop_nd hx)
      obtain ⟨p0, p1, p2, p3, p4, p5⟩ := hat
      have KR := Lib.hid (nr1_any cols bins kind classes x hxok B wr (HB.out.below hbe))
      have hpx := HP.out x
      obtain ⟨z, hz⟩ : ∃ z, p x = z := ⟨_, rfl⟩
      rw [hpx, hz] at KR
      have HZ := Lib.hid hz
      obtain ⟨f, b, l, cc, s, q⟩ := x
      simp only [ndV] at KR
      simp only at p0 p1 p2 p3 p4 p5
      clear hx hxok hpx hz
      cases z with
      | true =>
        go_wp2_with fail
        refine KR.out.mono ?_
        rintro e w1 ⟨rfl, hb⟩
        have hb2 := hbe.trans (hb.mono hbe.size)
        clear hb
        go_wp2_with fail
        go_roundw
        case rel => exact ⟨k + 1, hlt, by go_num, Lib.hid (by have := HT.out; rw [HDR.out, idxR, if_pos HZ.out] at this; exact this), hb2⟩
        case measure => simp [intOf]; omega
      | false =>
        go_wp2_with fail
        refine KR.out.mono ?_
        rintro e w1 ⟨rfl, hb⟩
        have hb2 := hbe.trans (hb.mono hbe.size)
        clear hb
        go_wp2_with fail
        go_ret
        refine ⟨ret_i64 ?_, hb2⟩
        have := HT.out
        rw [HDR.out, idxR, if_neg (by rw [HZ.out]; simp)] at this
        exact this
    · obtain rfl : k = n := by omega
      go_wp2_with fail
      go_ret
      refine ⟨ret_i64 ?_, hbe⟩
      have := HT.out
      rw [List.drop_of_length_le (by rw [HN.out]; exact Nat.le_refl _), idxR] at this
      exact this
theorem ncont_any (cols bins kind classes : Int) (t : List Nd) (A : Option Addr) (cap : Nat) (B : Nat) (w : World) (hr : RN w A t) (hl : t.length ≤ 1099511627776) (hB : Blk w B (shpA cols bins kind classes) 132) :
    Calls Try.prog 173 #[.slice A t.length cap, .func (.func 174) #[] #[.pointer (some ⟨B, 0, none⟩)]] w fun e w' => e = .returned (.bool (!t.all fun n => decide (oneP cols bins kind classes n))) ∧ Below w.heap.size w w' := by
  have KI := Lib.hid (nidx_any cols bins kind classes t A cap B w hr hl hB)
  have hs := idx_sign (fun n => decide (oneP cols bins kind classes n)) t 0
  obtain ⟨R, hR⟩ : ∃ R, idxR (fun n => decide (oneP cols bins kind classes n)) t 0 = R := ⟨_, rfl⟩
  obtain ⟨z, hz⟩ : ∃ z, (!t.all fun n => decide (oneP cols bins kind classes n)) = z := ⟨_, rfl⟩
  obtain ⟨n, hn⟩ : ∃ n, t.length = n := ⟨_, rfl⟩
  rw [hR] at KI hs
  rw [hz] at hs ⊢
  rw [hn] at KI ⊢
  clear hR hz hn hr hl hB
  go_enter Try.func173, Try.ntmps173
  go_wp2_with fail
  refine KI.out.mono ?_
  rintro e w1 ⟨rfl, hb⟩
  go_wp2_with fail
  go_ret
  exact ⟨rfl, hb⟩
theorem dep_zero {t : List Nd} (h : depthsO t ≠ []) : (depthsO t).getD 0 0 = 0 := by
  unfold depthsO at h ⊢
  split
  · rfl
  · rename_i ht
    rw [if_neg ht] at h
    cases hd : depGo t.length t 0 [0] with
    | none => rfl
    | some ds => rw [Option.getD_some]; exact pre_getD (dep_front _ _ _ _ hd).1 (by simp)
set_option maxRecDepth 100000 in
set_option maxHeartbeats 1000000 in
theorem tright_any (cols bins kind classes : Int) (t : List Nd) (A : Option Addr) (cap : Nat) (w : World) (hr : RN w A t) (hl : t.length ≤ 1099511627776) :
    Calls Try.prog 123 #[.slice A t.length cap, .agg (shpA cols bins kind classes)] w fun e w' => e = .returned (.bool (rightT cols bins kind classes t)) ∧ Below w.heap.size w w' := by
  have KD := Lib.hid (fun w hr => depths_any t A cap w hr hl)
  have KM := Lib.hid (fun w => nmay_any cols bins kind classes w)
  have KX := Lib.hid (fun A c w hr h0 => smax_any (depthsO t) A c w hr h0 (by have := depths_len t; omega))
  have KC := Lib.hid (fun B w hr hB => ncont_any cols bins kind classes t A cap B w hr hl hB)
  have HR : Hid (rightT cols bins kind classes t = (decide (mayS cols bins kind classes) && (!(depthsO t).isEmpty && (decide (maxO (depthsO t) ≤ 32) && t.all fun n => decide (oneP cols bins kind classes n))))) := Lib.hid rfl
  obtain ⟨R, hR⟩ : ∃ R, rightT cols bins kind classes t = R := ⟨_, rfl⟩
  obtain ⟨al, hal⟩ : ∃ z, (t.all fun n => decide (oneP cols bins kind classes n)) = z := ⟨_, rfl⟩
  obtain ⟨ma, hma⟩ : ∃ z, decide (mayS cols bins kind classes) = z := ⟨_, rfl⟩
  obtain ⟨n, hn⟩ : ∃ n, t.length = n := ⟨_, rfl⟩
  rw [hR, hal, hma] at HR
  rw [hal] at KC
  rw [hma] at KM
  rw [hn] at KD KC hl ⊢
  rw [hR]
  have HLow := Lib.hid (depths_low t)
  have HLen := Lib.hid (depths_len t)
  have HZero := Lib.hid (dep_zero (t := t))
  obtain ⟨ds, hds⟩ : ∃ ds, depthsO t = ds := ⟨_, rfl⟩
  rw [hds] at KD KX HR HLow HLen HZero
  rw [hn] at HLen
  have HRN := Lib.hid hr
  clear hR hal hma hn hds hr
  unfold shpA at KC ⊢
  go_enter Try.func123, Try.ntmps123
  go_wp2_with fail
  refine (KD.out _ (HRN.out.below ((Below.refl _ w).alloc (Nat.le_refl _) _))).mono ?_
  rintro e w1 ⟨v, rfl, ho, hb⟩
  have be : Below w.heap.size w w1 := ((Below.refl _ w).alloc (Nat.le_refl _) _).trans (hb.mono (by simp))
  have kB := (Blk.new w #[.int .i64 cols, .int .i64 bins, .int .i64 kind, .int .i64 classes] 132).below hb
  have p0 := kB.cell 0
  have p1 := kB.cell 1
  have p2 := kB.cell 2
  have p3 := kB.cell 3
  have hlB := kB.lt
  simp only [List.getElem?_toArray, List.getElem?_cons_zero, List.getElem?_cons_succ] at p0 p1 p2 p3
  clear hb
  obtain ⟨va, vc, rfl⟩ := own_slice ho
  have HO := Lib.hid ho
  clear ho
  obtain ⟨m, hm⟩ : ∃ m, ds.length = m := ⟨_, rfl⟩
  rw [hm] at HO ⊢
  have HM := Lib.hid hm
  clear hm
  cases ma with
  | false =>
    go_wp2_with fail
    refine (KM.out _).mono ?_
    rintro e w2 ⟨rfl, hb⟩
    replace be := be.trans (hb.mono be.size)
    clear hb
    go_wp2_with fail
    go_ret
    exact ⟨ret_bool (by rw [HR.out]; rfl), be⟩
  | true =>
    go_wp2_with fail
    refine (KM.out _).mono ?_
    rintro e w2 ⟨rfl, hb⟩
    have hb1 := hb
    replace be := be.trans (hb.mono be.size)
    replace kB := kB.below hb
    clear p0 p1 p2 p3 hlB hb
    have HO2 := Lib.hid (own_below HO.out hb1)
    by_cases hm0 : m = 0
    · subst hm0
      go_wp2_with fail
      go_ret
      refine ⟨ret_bool ?_, be⟩
      rw [HR.out, List.length_eq_zero_iff.1 HM.out]; rfl
    · have e1 : ((m : Int) == 0) = false := beq_eq_false_iff_ne.2 (by omega)
      have e2 : (m == 0) = false := beq_eq_false_iff_ne.2 hm0
      have hds0 : ds ≠ [] := fun e => hm0 (by rw [← HM.out, e]; rfl)
      have KX2 := Lib.hid (KX.out va vc w2 (RdI.own (by have := HO2.out; rw [← HM.out] at this; exact this) (fun x hx => by have := HLow.out x hx; have := HLen.out; unfold inR; omega)) hds0)
      have hme : maxF ds = maxO ds := maxF_O (HZero.out hds0)
      obtain ⟨M, hM⟩ : ∃ M, maxO ds = M := ⟨_, rfl⟩
      have hie : ds.isEmpty = false := by cases ds with | nil => exact absurd rfl hds0 | cons _ _ => rfl
      rw [hme, hM] at KX2
      rw [HM.out] at KX2
      have HR2 : Hid (R = (decide (M ≤ 32) && al)) := Lib.hid (by rw [HR.out, hM, hie]; rfl)
      clear hds0 hme hM hm0 hie KX HR
      by_cases hbig : M ≤ 32
      · have e3 : decide (32 < M) = false := decide_eq_false (by omega)
        have HR3 : Hid (R = al) := Lib.hid (by rw [HR2.out, decide_eq_true hbig]; rfl)
        have hlB := kB.lt
        have KC2 := Lib.hid (KC.out w.heap.size w2 (HRN.out.below be) kB)
        clear hbig HR2
        go_wp2_with fail
        refine KX2.out.mono ?_
        rintro e w3 ⟨rfl, rfl⟩
        go_wp2_with fail
        refine KC2.out.mono ?_
        rintro e w3 ⟨rfl, hb⟩
        replace be := be.trans (hb.mono be.size)
        clear hb
        cases al with
        | true =>
          go_wp2_with fail
          go_ret
          exact ⟨ret_bool (by rw [HR3.out]), be⟩
        | false =>
          go_wp2_with fail
          go_ret
          exact ⟨ret_bool (by rw [HR3.out]), be⟩
      · have e3 : decide (32 < M) = true := decide_eq_true (by omega)
        have HR3 : Hid (R = false) := Lib.hid (by rw [HR2.out, decide_eq_false hbig]; rfl)
        clear hbig HR2
        go_wp2_with fail
        refine KX2.out.mono ?_
        rintro e w3 ⟨rfl, rfl⟩
        go_wp2_with fail
        go_ret
        exact ⟨ret_bool (by rw [HR3.out]), be⟩
end Go.Proofs.Ytpekofpiodaadaa.Hb
end

section
/- A region that draws its order, in a round of a range over a function: by the plain walk. -/
namespace Go.Proofs.Ytpekofpiodaadaa.Hb
open Go.RowKit

section
variable {P : Program} {ops : Array Oper} {Q : Exit → Act → World → Prop} {l n : Nat}
theorem rowsIn_round {row : String} {args : Array Value} {w : World} {R : Value → World → Prop} (h : Rows P row args w R) : RowsIn (Fence.wide.inRound l) n P row args w R := by
  intro c cs _
  obtain ⟨v, w', hr, hs⟩ := h c cs
  refine ⟨v, w', hr, ?_⟩
  rw [fenced_inRound]
  exact stepsIn_wide.2 hs
theorem upon_round {o : Oper} {a : Act} {next : Act → World → Prop} : ∀ {r : Result Next}, o.upon P a next Q r → o.uponIn (Fence.wide.inRound l) n P a next Q r := by
  intro r h
  cases r with
  | ok x w' =>
    cases x with
    | value v => exact h
    | skip => exact h
    | defer d => exact h
    | enter f args => exact ⟨fun e => (by cases e), CallsIn.inRound l (callsIn_wide.2 h)⟩
    | row row args => exact ⟨fun e => (by cases e), rowsIn_round h⟩
    | _ => exact (h : False).elim
  | halt x w' =>
    cases x with
    | panic v => exact h
    | _ => exact (h : False).elim
def noDefer (ops : Array Oper) : Bool := ops.all fun o => match o.op with | .defer _ => false | _ => true
theorem noDefer_spec (h : noDefer ops = true) {i : Nat} {o : Oper} (hi : ops[i]? = some o) : ∀ c, o.op ≠ .defer c := by
  intro c e
  unfold noDefer at h
  rw [Array.all_eq_true] at h
  obtain ⟨hlt, he⟩ := Array.getElem?_eq_some_iff.1 hi
  have := h i hlt
  rw [he, e] at this
  cases this
theorem opIn_round (hd : noDefer ops = true) (hL : ¬ LetsOut Q) {i : Nat} {K : Act → World → Prop} {a : Act} {w : World} (h : wpOp P ops Q i K a w) : wpOpIn (Fence.wide.inRound l) n P ops Q i K a w := by
  unfold wpOp at h
  unfold wpOpIn
  cases ho : ops[i]? with
  | none => rw [ho] at h; exact h
  | some o =>
    rw [ho] at h
    simp only at h ⊢
    split at h
    · rename_i hw
      rw [if_pos hw]
      rcases h with h | h
      · refine ⟨fun _ _ => trivial, ?_⟩
        rw [Oper.semAt_eq _ _ _ (noDefer_spec hd ho)]
        exact upon_round h
      · exact absurd h.2 hL
    · rename_i hw
      rw [if_neg hw]
      exact ⟨fun _ _ => trivial, h⟩
theorem anyIn_round {md : Region.Mode} (hd : noDefer ops = true) (hL : ¬ LetsOut Q) : ∀ (fuel : Nat) (listed : Array Bool) (a : Act) (w : World), wpAny P md ops Q fuel listed a w → wpAnyIn (Fence.wide.inRound l) n P md ops Q fuel listed a w
  | 0, _, _, _, h => h
  | fuel + 1, _, _, _, h => ⟨h.1, fun i hi => opIn_round hd hL (wpOp_mono (fun a' w' h' => anyIn_round hd hL fuel _ a' w' h') (h.2 i hi))⟩
theorem region_round {id : Nat} {S : World → Prop} {a : Act} {w : World} (hm : P.follows .mixedOrders = true) (hd : noDefer ops = true) (hL : ¬ LetsOut Q) (hS : S w.drew)
    (h : S w.drew → wpAnyH P .any ops Q S ops.size (Array.replicate ops.size false) a w.drew) : (Code.region id ops true).wpIn (Fence.wide.inRound l) n P Q a w :=
  wpIn_region_any hm (anyIn_round hd hL _ _ _ _ (wpAny_of_held _ _ _ _ (h hS)))
end
end Go.Proofs.Ytpekofpiodaadaa.Hb
end

section
/- The walks of walk.steps, walk.Place and ref20.Place. -/
namespace Go.Proofs.Ytpekofpiodaadaa.Hb
set_option linter.unusedVariables false
set_option linter.unusedSimpArgs false
open Go.RowKit Go.Shelf
attribute [local go_sem] Oper.semAt_some

/-- The places to which a walk comes. -/
def pathGo (t : List Nd) (row : List Int) : Nat → Int → List Int
  | 0, _ => []
  | k + 1, a => if a < 0 ∨ (t.length : Int) ≤ a then [] else a :: (if (ndAt t a).f < 0 ∨ (row.length : Int) ≤ (ndAt t a).f then [] else pathGo t row k (nextAt row (ndAt t a)))
theorem path_none {t : List Nd} {row : List Int} : ∀ (k : Nat) (a : Int), (∀ x ∈ pathGo t row k a, (ndAt t x).f ≠ -1) → placeGo t row k a = -1
  | 0, _, _ => rfl
  | k + 1, a, h => by
    unfold pathGo at h
    by_cases h1 : a < 0 ∨ (t.length : Int) ≤ a
    · exact place_out h1
    · rw [if_neg h1] at h
      have h2 := h a (List.mem_cons_self ..)
      by_cases h3 : (ndAt t a).f < 0 ∨ (row.length : Int) ≤ (ndAt t a).f
      · exact place_off h1 h2 h3
      · rw [place_go h1 h2 h3]
        rw [if_neg h3] at h
        exact path_none k _ (fun x hx => h x (List.mem_cons_of_mem _ hx))
theorem path_leaf {t : List Nd} {row : List Int} : ∀ (k : Nat) (a x : Int) (pre : List Int), (pre ++ [x]) <+: pathGo t row k a → (∀ y ∈ pre, (ndAt t y).f ≠ -1) → (ndAt t x).f = -1 → placeGo t row k a = x
  | 0, _, x, pre, h, _, _ => by
    unfold pathGo at h
    have := List.prefix_nil.1 h
    simp at this
  | k + 1, a, x, pre, h, hp, hx => by
    unfold pathGo at h
    by_cases h1 : a < 0 ∨ (t.length : Int) ≤ a
    · rw [if_pos h1] at h
      have := List.prefix_nil.1 h
      simp at this
    · rw [if_neg h1] at h
      cases pre with
      | nil =>
        obtain ⟨r, hr⟩ := h
        simp only [List.nil_append, List.cons_append, List.cons.injEq] at hr
        obtain ⟨rfl, _⟩ := hr
        exact place_leaf h1 hx
      | cons y pre =>
        obtain ⟨r, hr⟩ := h
        simp only [List.cons_append, List.cons.injEq] at hr
        have h2 := hp y (List.mem_cons_self ..)
        rw [hr.1] at h2
        by_cases h3 : (ndAt t a).f < 0 ∨ (row.length : Int) ≤ (ndAt t a).f
        · rw [if_pos h3] at hr
          have := hr.2
          simp at this
        · rw [if_neg h3] at hr
          rw [place_go h1 h2 h3]
          exact path_leaf k _ x pre ⟨r, by simpa using hr.2⟩ (fun z hz => hp z (List.mem_cons_of_mem _ hz)) hx
/-- A place of a tree. -/
abbrev Plc (n : Nat) := { x : Nat // x < n }
theorem path_out {t : List Nd} {row : List Int} {k : Nat} {a : Int} (h : a < 0 ∨ (t.length : Int) ≤ a) : pathGo t row k a = [] := by
  cases k with
  | zero => rfl
  | succ k => rw [pathGo, if_pos h]
theorem path_off {t : List Nd} {row : List Int} {k : Nat} {a : Int} (h : ¬ (a < 0 ∨ (t.length : Int) ≤ a)) (h3 : (ndAt t a).f < 0 ∨ (row.length : Int) ≤ (ndAt t a).f) : pathGo t row (k + 1) a = [a] := by rw [pathGo, if_neg h, if_pos h3]
theorem path_go {t : List Nd} {row : List Int} {k : Nat} {a : Int} (h : ¬ (a < 0 ∨ (t.length : Int) ≤ a)) (h3 : ¬ ((ndAt t a).f < 0 ∨ (row.length : Int) ≤ (ndAt t a).f)) : pathGo t row (k + 1) a = a :: pathGo t row k (nextAt row (ndAt t a)) := by rw [pathGo, if_neg h, if_neg h3]
theorem path_head {t : List Nd} {row : List Int} {k : Nat} {a : Int} (h : ¬ (a < 0 ∨ (t.length : Int) ≤ a)) : [a] <+: pathGo t row (k + 1) a := by
  rw [pathGo, if_neg h]
  exact ⟨_, rfl⟩
/-- What the iterator reads. -/
structure StepP (t : List Nd) (row : List Int) (At Ar : Option Addr) (ct cr : Nat) (B1 B2 : Nat) (w : World) : Prop where
  b1 : w.cell? ⟨B1, 0, none⟩ = some (.slice At t.length ct)
  b2 : w.cell? ⟨B2, 0, none⟩ = some (.slice Ar row.length cr)
  rt : RN w At t
  rr : RI1 w Ar row
  l1 : B1 < w.heap.size
  l2 : B2 < w.heap.size
theorem StepP.below {t : List Nd} {row : List Int} {At Ar : Option Addr} {ct cr : Nat} {B1 B2 : Nat} {w w' : World} (h : StepP t row At Ar ct cr B1 B2 w) (hb : Below w.heap.size w w') : StepP t row At Ar ct cr B1 B2 w' :=
  ⟨(hb.cell (p := ⟨B1, 0, none⟩) h.l1).trans h.b1, (hb.cell (p := ⟨B2, 0, none⟩) h.l2).trans h.b2, h.rt.below hb, h.rr.below hb, Nat.lt_of_lt_of_le h.l1 hb.size, Nat.lt_of_lt_of_le h.l2 hb.size⟩
theorem wrap_64 (x : Int) : IntKind.i64.wrap x = wrap64 x := by rw [IntKind.wrap_i64]; unfold wrap64; omega
def valL {n : Nat} (l : List (Plc n)) : List Int := l.map fun x => ((x.1 : Nat) : Int)
theorem valL_snoc {n : Nat} (l : List (Plc n)) (x : Plc n) : valL (l ++ [x]) = valL l ++ [((x.1 : Nat) : Int)] := by simp [valL]
set_option maxRecDepth 100000 in
set_option maxHeartbeats 4000000 in
theorem steps1_in (m : Nat) (hm : 1 ≤ m) (l B1 B2 : Nat) (t : List Nd) (row : List Int) (At Ar : Option Addr) (ct cr : Nat) (ht : t.length ≤ 1099511627776) (hrl : row.length ≤ 1099511627776)
    (w0 : World) (hS : StepP t row At Ar ct cr B1 B2 w0)
    (J Jx : List (Plc t.length) → World → Prop)
    (nJ : Nat) (hJ : AbidesFrom nJ J)
    (hY : ∀ pre x W, J pre W → pre.length < t.length → YieldAt Fence.wide (m - 1) Try.prog l #[.int .i64 (x.1 : Nat)] W fun e W' =>
      (e = .returned (.bool true) ∧ J (pre ++ [x]) W' ∧ Below w0.heap.size W W') ∨ (e = .returned (.bool false) ∧ Jx (pre ++ [x]) W'))
    (W : World) (hW : Below w0.heap.size w0 W) (h0 : J [] W) :
    CallsIn Fence.wide m Try.prog 215 #[.func (.yield l) #[] #[], .pointer (some ⟨B1, 0, none⟩), .pointer (some ⟨B2, 0, none⟩)] W fun e W' => (∃ v, e = .returned v) ∧
      ((∃ ys : List (Plc t.length), valL ys = pathGo t row t.length 0 ∧ J ys W') ∨ (∃ pre : List (Plc t.length), valL pre <+: pathGo t row t.length 0 ∧ Jx pre W')) := by
  obtain ⟨n, hn⟩ : ∃ n, t.length = n := ⟨_, rfl⟩
  obtain ⟨r, hr⟩ : ∃ r, row.length = r := ⟨_, rfl⟩
  have HN := Lib.hid hn
  have HRL := Lib.hid hr
  have hS0 := hS.below hW
  have HS := Lib.hid hS
  have q1 := hS0.b1
  rw [hn] at q1
  obtain ⟨P, hP⟩ : ∃ P, pathGo t row t.length 0 = P := ⟨_, rfl⟩
  have HP : Hid (pathGo t row n 0 = P) := Lib.hid (by rw [← hn]; exact hP)
  rw [hP]
  have hn2 : n ≤ 1099511627776 := by omega
  have hr2 : r ≤ 1099511627776 := by omega
  have HY := Lib.hid hY
  have HJ := Lib.hid hJ
  have HW := Lib.hid hW
  have H0 := Lib.hid h0
  clear hP hr hS hS0 hY hJ hW h0 ht hrl hn
  refine callsIn_of_wp Try.func215 rfl trivial ?_ rfl
  simp only [Try.ntmps215, List.size_toArray, List.length_cons, List.length_nil, Nat.reduceAdd, Nat.reduceSub, Array.replicate_succ, Array.replicate_zero, List.push_toArray, List.append_toArray, List.nil_append, List.cons_append]
  gi_wp2
  gi_loopw [4, 8] (fun av iv wr => ∃ (k : Nat) (a : Int) (pre : List (Plc t.length)), k ≤ n ∧ iv = .int .i64 k ∧ av = .int .i64 a ∧ J pre wr ∧ Hid (Below w0.heap.size w0 wr ∧ valL pre ++ pathGo t row (n - k) a = P ∧ pre.length = k)) (fun _ iv _ => n - (intOf iv).toNat)
  case atStart => exact ⟨0, 0, [], Nat.zero_le _, rfl, rfl, H0.out, Lib.hid ⟨HW.out, by rw [Nat.sub_zero]; exact HP.out, rfl⟩⟩
  case round =>
    obtain ⟨k, a, pre, hk, rfl, rfl, hJ, HI⟩ := hrel
    have hSw := HS.out.below HI.out.1
    have q1' := hSw.b1
    have q2' := hSw.b2
    rw [HN.out] at q1'
    rw [HRL.out] at q2'
    by_cases hlt : k < n
    · have hlt' : (k : Int) < n := by omega
      by_cases hout : a < 0 ∨ (n : Int) ≤ a
      · have hfin : Hid (valL pre = P) := Lib.hid (by
          have := HI.out.2.1
          rwa [path_out (by rw [HN.out]; exact hout), List.append_nil] at this)
        rcases hout with ho | ho
        · have d1 : decide (a < 0) = true := decide_eq_true ho
          gi_wp2
          refine ⟨fun _ h => (by cases h), ?_⟩
          gi_wp2
          refine bodyPost_ret (results_none rfl _ _ _) rfl ?_
          exact ⟨⟨_, rfl⟩, .inl ⟨pre, hfin.out, hJ⟩⟩
        · have d1 : decide (a < 0) = false := decide_eq_false (by omega)
          have d2 : decide ((n : Int) ≤ a) = true := decide_eq_true ho
          gi_wp2
          refine ⟨fun _ h => (by cases h), ?_⟩
          gi_wp2
          refine bodyPost_ret (results_none rfl _ _ _) rfl ?_
          exact ⟨⟨_, rfl⟩, .inl ⟨pre, hfin.out, hJ⟩⟩
      · obtain ⟨c, hc⟩ := Int.eq_ofNat_of_zero_le (show 0 ≤ a by omega)
        have hcn : c < t.length := by rw [HN.out]; omega
        obtain ⟨fn, tmps, assign, body, hy, hR⟩ := HY.out pre ⟨c, hcn⟩ wr hJ (by rw [HI.out.2.2, HN.out]; exact hlt)
        dsimp only at hy
        subst hc
        have d1 : decide ((c : Int) < 0) = false := decide_eq_false (by omega)
        have d2 : decide ((n : Int) ≤ (c : Int)) = false := decide_eq_false (by omega)
        have d3 : decide (n ≤ c) = false := decide_eq_false (by omega)
        clear hJ q2'
        gi_wp2
        refine hR.mono ?_
        rintro e W3 (⟨rfl, hJ3, hk3⟩ | ⟨rfl, hJx3⟩)
        · have hb3 := HI.out.1.trans hk3
          have hSw3 := HS.out.below hb3
          have q1 := hSw3.b1
          have q2 := hSw3.b2
          rw [HN.out] at q1
          rw [HRL.out] at q2
          obtain ⟨ad, rfl, x, hx, hxok, hat⟩ := hSw3.rt.at (i := c) hcn
          have hnd : Hid (ndAt t (c : Int) = x) := Lib.hid (by
            have := ndAt_get (t := t) (a := (c : Int)) (by omega) (by omega)
            rw [Int.toNat_natCast, hx] at this
            exact (Option.some.inj this).symm)
          have hJ4 := fun o => HJ.out _ _ _ none hJ3 (World.grownBy_alloc W3 o none) (fun r h => by cases h)
          have hB4 : Hid (∀ o, Below w0.heap.size w0 (W3.alloc o)) := Lib.hid (fun o => hb3.alloc hb3.size o)
          have hpre : Hid (valL (pre ++ [⟨c, hcn⟩]) = valL pre ++ [(c : Int)]) := Lib.hid (valL_snoc _ _)
          have HXO := Lib.hid hxok
          have HJ4 := Lib.hid hJ4
          have HRR := Lib.hid hSw3.rr
          obtain ⟨p0, p1, p2, p3, p4, p5⟩ := hat
          have l1 := hSw3.l1
          have l2 := hSw3.l2
          have hB1 : B1 < W3.heap.size := l1
          have hB2 : B2 < W3.heap.size := l2
          obtain ⟨kk, hkk⟩ : ∃ kk, n - k = kk + 1 := ⟨n - k - 1, by omega⟩
          have hno : ¬ ((c : Int) < 0 ∨ (t.length : Int) ≤ (c : Int)) := by omega
          clear hx hxok hJ4 hb3 hSw3 hJ3 hk3 hR hy l1 l2 q1'
          by_cases hoff : x.f < 0 ∨ (r : Int) ≤ x.f
          · have hfin : Hid (valL (pre ++ [⟨c, hcn⟩]) = P) := Lib.hid (by
              have := HI.out.2.1
              rw [hkk, path_off hno (by rw [hnd.out, HRL.out]; exact hoff)] at this
              rw [hpre.out, this])
            obtain ⟨f, b, ll, cc, sx, q⟩ := x
            simp only at p0 p1 p2 p3 p4 p5 hoff
            rcases hoff with ho | ho
            · have d4 : decide (f < 0) = true := decide_eq_true ho
              gi_wp2
              refine bodyPost_ret (results_none rfl _ _ _) rfl ?_
              exact ⟨⟨_, rfl⟩, .inl ⟨_, hfin.out, HJ4.out _⟩⟩
            · have d4 : decide (f < 0) = false := decide_eq_false (by omega)
              have d5 : decide ((r : Int) ≤ f) = true := decide_eq_true ho
              gi_wp2
              refine bodyPost_ret (results_none rfl _ _ _) rfl ?_
              exact ⟨⟨_, rfl⟩, .inl ⟨_, hfin.out, HJ4.out _⟩⟩
          · have hgo : Hid (valL (pre ++ [⟨c, hcn⟩]) ++ pathGo t row (n - (k + 1)) (nextAt row x) = P) := Lib.hid (by
              have := HI.out.2.1
              rw [hkk, path_go hno (by rw [hnd.out, HRL.out]; exact hoff), hnd.out] at this
              rw [hpre.out, show n - (k + 1) = kk by omega, List.append_assoc]
              exact this)
            obtain ⟨fc, hfc⟩ := Int.eq_ofNat_of_zero_le (show 0 ≤ x.f by omega)
            have hfr : fc < row.length := by rw [HRL.out]; omega
            obtain ⟨ad2, rfl, hin, y⟩ := HRR.out.at hfr
            have hnx : Hid (nextAt row x = if row.getD fc 0 > x.b then IntKind.i64.wrap (x.l + 1) else x.l) := Lib.hid (by unfold nextAt; rw [hfc]; rfl)
            obtain ⟨v, hv⟩ : ∃ v, row.getD fc 0 = v := ⟨_, rfl⟩
            rw [hv] at y hnx
            obtain ⟨f, b, ll, cc, sx, q⟩ := x
            simp only at p0 p1 p2 p3 p4 p5 hoff hfc hnx hgo
            subst hfc
            have hfr2 : (fc : Int) < r := by omega
            have d4 : decide ((fc : Int) < 0) = false := decide_eq_false (by omega)
            have d5 : decide ((r : Int) ≤ (fc : Int)) = false := decide_eq_false (by omega)
            have d6 : decide (r ≤ fc) = false := decide_eq_false (by omega)
            have hyB := World.block_lt_of_cell? W3 _ y
            clear hv hoff hin
            by_cases hvb : b < v
            · have d7 : decide (b < v) = true := decide_eq_true hvb
              have hnx2 : Hid (nextAt row { f := (fc : Int), b := b, l := ll, c := cc, s := sx, k := q } = wrap64 (ll + 1)) := Lib.hid (by rw [hnx.out, if_pos hvb, wrap_64])
              have HGO2 : Hid (valL (pre ++ [⟨c, hcn⟩]) ++ pathGo t row (n - (k + 1)) (wrap64 (ll + 1)) = P) := Lib.hid (by rw [← hnx2.out]; exact hgo.out)
              clear hvb hnx hnx2 hgo
              gi_wp2
              refine wpIn_wide.2 ?_
              go_quiet (fail)
              go_wp2_with fail
              gi_wp2
              go_roundw
              case rel => exact ⟨k + 1, _, _, hlt, by go_num, rfl, HJ.out _ _ _ none (HJ4.out _) ⟨rfl, rfl, rfl, Nat.le_refl _, fun _ _ _ => rfl⟩ (fun r h => by cases h), Lib.hid ⟨(hB4.out _).trans ⟨rfl, rfl, rfl, Nat.le_refl _, fun _ _ => rfl⟩, HGO2.out, by rw [List.length_append, HI.out.2.2]; rfl⟩⟩
              case measure => simp [intOf]; omega
            · have d7 : decide (b < v) = false := decide_eq_false hvb
              have hnx2 : Hid (nextAt row { f := (fc : Int), b := b, l := ll, c := cc, s := sx, k := q } = ll) := Lib.hid (by rw [hnx.out, if_neg hvb])
              have HGO2 : Hid (valL (pre ++ [⟨c, hcn⟩]) ++ pathGo t row (n - (k + 1)) (ll) = P) := Lib.hid (by rw [← hnx2.out]; exact hgo.out)
              clear hvb hnx hnx2 hgo
              gi_wp2
              refine wpIn_wide.2 ?_
              go_quiet (fail)
              go_wp2_with fail
              gi_wp2
              go_roundw
              case rel => exact ⟨k + 1, _, _, hlt, by go_num, rfl, HJ.out _ _ _ none (HJ4.out _) ⟨rfl, rfl, rfl, Nat.le_refl _, fun _ _ _ => rfl⟩ (fun r h => by cases h), Lib.hid ⟨(hB4.out _).trans ⟨rfl, rfl, rfl, Nat.le_refl _, fun _ _ => rfl⟩, HGO2.out, by rw [List.length_append, HI.out.2.2]; rfl⟩⟩
              case measure => simp [intOf]; omega
        · gi_wp2
          refine bodyPost_ret (results_none rfl _ _ _) rfl ?_
          refine ⟨⟨_, rfl⟩, .inr ⟨_, ?_, hJx3⟩⟩
          obtain ⟨kk, hkk⟩ : ∃ kk, n - k = kk + 1 := ⟨n - k - 1, by omega⟩
          have := HI.out.2.1
          rw [hkk] at this
          rw [valL_snoc, ← this]
          show valL pre ++ [(c : Int)] <+: _
          exact (List.prefix_append_right_inj _).2 (path_head (by omega))
    · obtain rfl : k = n := by omega
      have hfin : Hid (valL pre = P) := Lib.hid (by
        have := HI.out.2.1
        rwa [Nat.sub_self, pathGo, List.append_nil] at this)
      gi_wp2
      go_end0
      exact ⟨⟨_, rfl⟩, .inl ⟨pre, hfin.out, hJ⟩⟩
theorem steps_stops (m : Nat) (hm : 1 ≤ m) (B1 B2 : Nat) (t : List Nd) (row : List Int) (At Ar : Option Addr) (ct cr : Nat) (ht : t.length ≤ 1099511627776) (hrl : row.length ≤ 1099511627776)
    (w0 : World) (hS : StepP t row At Ar ct cr B1 B2 w0) :
    SeqStopsK Fence.wide m Try.prog 215 #[.pointer (some ⟨B1, 0, none⟩), .pointer (some ⟨B2, 0, none⟩)] (fun x : Plc t.length => #[Value.int .i64 (x.1 : Nat)]) (Below w0.heap.size) (fun ys => valL ys = pathGo t row t.length 0) (fun pre => valL pre <+: pathGo t row t.length 0) t.length w0 :=
  fun l J Jx W hW hJ _ hY h0 => steps1_in m hm l B1 B2 t row At Ar ct cr ht hrl w0 hS J Jx _ hJ hY W hW h0
theorem steps_any (At Ar : Option Addr) (n r ct cr : Nat) (w : World) : Calls Try.prog 195 #[.slice At n ct, .slice Ar r cr] w fun e w' =>
    e = .returned (.func (.func 215) #[] #[.pointer (some ⟨w.heap.size, 0, none⟩), .pointer (some ⟨w.heap.size + 1, 0, none⟩)]) ∧ w' = (w.alloc (.cells #[.slice At n ct] 88)).alloc (.cells #[.slice Ar r cr] 24) := by
  go_enter Try.func195, Try.ntmps195
  go_wp2_with fail
  go_ret
  exact ⟨rfl, rfl⟩
theorem blk_other {W W' : World} {row : Option Nat} {g : Nat} {cs : Array Value} {t : TypeId} (h : Blk W g cs t) (hg : W.grownBy W' row) (hr : ∀ r, row = some r → ∃ o : Obj, W.heap[r]? = some o ∧ o.isCells = false) : Blk W' g cs t := by
  refine (hg.block g h.lt (fun e => ?_)).trans h
  obtain ⟨o, ho, hc⟩ := hr g e.symm
  rw [show W.heap[g]? = _ from h] at ho; cases ho; cases hc
theorem boxes4 (w : World) (X0 X1 X2 X3 : Array Value) (t0 t1 t2 t3 : TypeId) (W : World) (h : W = (((w.alloc (.cells X0 t0)).alloc (.cells X1 t1)).alloc (.cells X2 t2)).alloc (.cells X3 t3)) :
    Blk W w.heap.size X0 t0 ∧ Blk W (w.heap.size + 1) X1 t1 ∧ Blk W (w.heap.size + 1 + 1) X2 t2 ∧ Blk W (w.heap.size + 1 + 1 + 1) X3 t3 ∧ W.heap.size = w.heap.size + 4 ∧ Below w.heap.size w W := by
  subst h
  refine ⟨?_, ?_, ?_, ?_, by simp, ?_⟩
  case refine_5 => exact ((((Below.refl _ w).alloc (Nat.le_refl _) _).alloc (by simp) _).alloc (by simp; omega) _).alloc (by simp; omega) _
  all_goals
    unfold Blk World.alloc
    rw [Array.getElem?_eq_getElem (by simp <;> omega)]
    simp only [Array.getElem_push, Array.size_push]
    congr 1
    simp (disch := omega) only [dif_pos, dif_neg]
def noLeaf {n : Nat} (t : List Nd) (l : List (Plc n)) : Prop := ∀ x ∈ l, (ndAt t ((x.1 : Nat) : Int)).f ≠ -1
theorem noLeaf_val {n : Nat} {t : List Nd} {l : List (Plc n)} (h : noLeaf t l) : ∀ y ∈ valL l, (ndAt t y).f ≠ -1 := by
  intro y hy
  obtain ⟨x, hx, rfl⟩ := List.mem_map.1 hy
  exact h x hx
/-- What the walk to a leaf owns. -/
def PlI (t : List Nd) (B n : Nat) (At : Option Addr) (ct : Nat) (w : World) (pre : List (Plc t.length)) (W : World) : Prop :=
  (Blk W B #[.slice At n ct] 88 ∧ Blk W (B + 1) #[.int .i64 0] 3 ∧ Hid (noLeaf t pre)) ∧ Below B w W
def PlX (t : List Nd) (B : Nat) (w : World) (c : Code) (pre : List (Plc t.length)) (W : World) : Prop :=
  (c = .ret ∧ ∃ (p : List (Plc t.length)) (x : Plc t.length), pre = p ++ [x] ∧ Hid (noLeaf t p ∧ (ndAt t ((x.1 : Nat) : Int)).f = -1) ∧ Blk W (B + 1) #[.int .i64 (x.1 : Nat)] 3) ∧ Below B w W
set_option maxRecDepth 100000 in
set_option maxHeartbeats 4000000 in
theorem place_any (t : List Nd) (row : List Int) (At Ar : Option Addr) (ct cr : Nat) (w : World) (hr : RN w At t) (hrr : RI1 w Ar row) (ht : t.length ≤ 1099511627776) (hrl : row.length ≤ 1099511627776) :
    Calls Try.prog 158 #[.slice At t.length ct, .slice Ar row.length cr] w fun e w' => e = .returned (.int .i64 (placeO t row)) ∧ Below w.heap.size w w' := by
  obtain ⟨W0, hW0⟩ : ∃ W0, W0 = (((w.alloc (.cells #[.slice At t.length ct] 88)).alloc (.cells #[.int .i64 0] 3)).alloc (.cells #[.slice At t.length ct] 88)).alloc (.cells #[.slice Ar row.length cr] 24) := ⟨_, rfl⟩
  obtain ⟨k0, k1, k2, k3, hsz, hbe⟩ := boxes4 w _ _ _ _ _ _ _ _ W0 hW0
  have hSP : StepP t row At Ar ct cr (w.heap.size + 1 + 1) (w.heap.size + 1 + 1 + 1) W0 := ⟨k2.cell 0, k3.cell 0, hr.below hbe, hrr.below hbe, by omega, by omega⟩
  obtain ⟨n, hn⟩ : ∃ n, t.length = n := ⟨_, rfl⟩
  obtain ⟨q, hq⟩ : ∃ q, row.length = q := ⟨_, rfl⟩
  have HST := Lib.hid (steps_stops 4 (by omega) (w.heap.size + 1 + 1) (w.heap.size + 1 + 1 + 1) t row At Ar ct cr ht hrl W0 hSP)
  rw [hn] at k0 k2 hW0 ht ⊢
  rw [hq] at hW0 ⊢
  have HN := Lib.hid hn
  have HR := Lib.hid hr
  have hc : ∀ x : Plc t.length, x.1 < n := fun x => hn ▸ x.2
  clear hn hq hr hrr hSP hrl
  refine (callsIn_wide (n := 5)).1 ?_
  refine callsIn_of_wp_marks Try.func158 rfl trivial ?_ rfl
  simp only [Try.ntmps158, List.size_toArray, List.length_cons, List.length_nil, Nat.reduceAdd, Nat.reduceSub, Array.replicate_succ, Array.replicate_zero, List.push_toArray, List.append_toArray, List.nil_append, List.cons_append]
  gi_wp2
  refine ⟨trivial, ?_⟩
  refine (callsIn_wide.2 (steps_any _ _ _ _ _ _ _)).mono ?_
  rintro e w' ⟨rfl, rfl⟩
  gi_wp2
  rw [← hW0]
  have HBE := Lib.hid hbe
  have HSZ := Lib.hid hsz
  clear hW0 k2 k3 hbe hsz
  refine wpIn_rangeFunc_ownF rfl (by omega) (gf := 215) (lb := #[.pointer (some ⟨w.heap.size + 1 + 1, 0, none⟩), .pointer (some ⟨w.heap.size + 1 + 1 + 1, 0, none⟩)]) rfl trivial (enters_of Try.func215 (by kernel_rfl) rfl)
    HST.out belowK_t (belowK_b (Nat.le_refl _)) (Below.refl _ _) (fun _ => rfl)
    (PlI t w.heap.size n At ct w) (PlX t w.heap.size w)
    (OwnFrom.and (Own.from (fun s A B row hs hg hr => ⟨blk_other hs.1 hg hr, blk_other hs.2.1 hg hr, hs.2.2⟩) _) (ownFrom_below (Nat.le_refl _) (by have := HSZ.out; omega)))
    (fun c => OwnFrom.and (Own.from (fun s A B row hs hg hr => by
      obtain ⟨h1, p, x, h2, h3, h4⟩ := hs
      exact ⟨h1, p, x, h2, h3, blk_other h4 hg hr⟩) _) (ownFrom_below (Nat.le_refl _) (by have := HSZ.out; omega)))
    ⟨⟨k0, k1, Lib.hid (fun x hx => by cases hx)⟩, HBE.out⟩
    (fun x => { tmps := #[.slice At n ct, .slice Ar q cr, .pointer (some ⟨w.heap.size, 0, none⟩), undef, .pointer (some ⟨w.heap.size + 1, 0, none⟩), .int .i64 (x.1 : Nat), .slice At n ct, .slice Ar q cr, .func (.func 215) #[] #[.pointer (some ⟨w.heap.size + 1 + 1, 0, none⟩), .pointer (some ⟨w.heap.size + 1 + 1 + 1, 0, none⟩)], .int .i64 (x.1 : Nat), undef, undef, undef, undef, undef, undef, undef], defers := [] }) ?assign ?body ?done ?stop
  case assign =>
    intro l x W K hK
    gi_wp2
    exact hK
  case body =>
    rintro l pre x W ⟨⟨b0, b1, hne⟩, hB⟩ _
    obtain ⟨ad, rfl, y, hy, hyok, hat⟩ := (HR.out.below hB).at (i := x.1) x.2
    have hnd : Hid (ndAt t ((x.1 : Nat) : Int) = y) := Lib.hid (by
      have := ndAt_get (t := t) (a := ((x.1 : Nat) : Int)) (by omega) (by have := x.2; omega)
      rw [Int.toNat_natCast, hy] at this
      exact (Option.some.inj this).symm)
    obtain ⟨p0, p1, p2, p3, p4, p5⟩ := hat
    have c0 := b0.cell 0
    have c1 := b1.cell 0
    have c2 := b1.frozen 0
    simp only [List.getElem?_toArray, List.getElem?_cons_zero, List.getElem?_cons_succ] at c0 c1
    have hx1 := hc x
    have hx2 : ((x.1 : Nat) : Int) < (n : Int) := by omega
    by_cases hlf : y.f = -1
    · have d1 : (y.f == -1) = true := beq_iff_eq.2 hlf
      have HLF : Hid ((ndAt t ((x.1 : Nat) : Int)).f = -1) := Lib.hid (by rw [hnd.out]; exact hlf)
      have B1 := Lib.hid b1
      have hl1 := b1.lt
      clear hlf hy hyok b0 b1
      gi_wp2
      exact ⟨KeepsOthers.setCell _ _ _, ⟨rfl, pre, x, rfl, Lib.hid ⟨hne.out, HLF.out⟩, B1.out.set 0 _⟩, hB.setCell (p := ⟨w.heap.size + 1, 0, none⟩) (by show w.heap.size ≤ w.heap.size + 1; omega) _⟩
    · have d1 : (y.f == -1) = false := beq_eq_false_iff_ne.2 hlf
      have HNE : Hid (noLeaf t (pre ++ [x])) := Lib.hid (fun z hz => by
        rcases List.mem_append.1 hz with hz | hz
        · exact hne.out z hz
        · simp at hz; subst hz; rw [hnd.out]; exact hlf)
      have BB := Lib.hid (And.intro b0 b1)
      clear hlf hy hyok b0 b1
      gi_wp2
      exact ⟨KeepsOthers.refl _, Below.refl _ _, ⟨BB.out.1, BB.out.2, HNE⟩, hB⟩
  case done =>
    rintro D ys W hD hys ⟨⟨b0, b1, hne⟩, hB⟩ hK
    have hpl : Hid (placeO t row = -1) := Lib.hid (path_none t.length 0 (by rw [← hys]; exact noLeaf_val hne.out))
    have c1 := b1.cell 0
    have c2 := b1.frozen 0
    simp only [List.getElem?_toArray, List.getElem?_cons_zero, List.getElem?_cons_succ] at c1
    clear hys
    gi_wp2
    have hK' := (KeepsOthers.setCell W ⟨w.heap.size + 1, 0, none⟩ (.int .i64 (-1))).same D _ hK rfl
    refine ⟨by simp, .inl ⟨_, _, rfl, run_takeDeferred hK', ?_⟩⟩
    have hc5 := cell_kept (World.cell?_setCell_same' W ⟨w.heap.size + 1, 0, none⟩ (.int .i64 (-1)) (by rw [c1]; rfl)) (grownBy_putObj' _ D (.deferred none)) (fun r e => by cases e; exact ⟨_, hK', rfl⟩)
    refine ⟨.int .i64 (-1), ?_, by rw [hpl.out], ?_⟩
    · simp [results, Try.f158, go_sem, hc5]
    · have hB2 := hB.setCell (p := ⟨w.heap.size + 1, 0, none⟩) (by show w.heap.size ≤ w.heap.size + 1; omega) (.int .i64 (-1))
      exact hB2.trans (belowK_b (w := w) (Nat.le_refl _) _ D _ _ (by have := HSZ.out; omega) hK' rfl rfl)
  case stop =>
    rintro D c pre W hD hpre ⟨⟨rfl, p, x, rfl, hx, b1⟩, hB⟩ hK
    have hpl : Hid (placeO t row = ((x.1 : Nat) : Int)) := Lib.hid (by
      rw [valL_snoc] at hpre
      exact path_leaf t.length 0 _ (valL p) hpre (noLeaf_val hx.out.1) hx.out.2)
    have c1 := b1.cell 0
    simp only [List.getElem?_toArray, List.getElem?_cons_zero, List.getElem?_cons_succ] at c1
    gi_wp2
    refine ⟨by simp, .inl ⟨_, _, rfl, run_takeDeferred hK, ?_⟩⟩
    have hc5 := cell_kept c1 (grownBy_putObj' _ D (.deferred none)) (fun r e => by cases e; exact ⟨_, hK, rfl⟩)
    refine ⟨.int .i64 ((x.1 : Nat) : Int), ?_, by rw [hpl.out], ?_⟩
    · simp [results, Try.f158, go_sem, hc5]
    · exact hB.trans (belowK_b (w := w) (Nat.le_refl _) _ D _ _ (by have := HSZ.out; omega) hK rfl rfl)
end Go.Proofs.Ytpekofpiodaadaa.Hb
end

section
/- The walks of bins.Cell and bins.Row. -/
namespace Go.Proofs.Ytpekofpiodaadaa.Hb
set_option linter.unusedVariables false
set_option linter.unusedSimpArgs false
open Go.RowKit

/-- The cells of a matrix, read. -/
def RC (w : World) (A : Option Addr) (l : List Int) : Prop := (∀ x ∈ l, 0 ≤ x ∧ x ≤ 65535) ∧ (l = [] ∨ ∃ ad : Addr, A = some ad ∧ ∀ i, i < l.length → w.cell? (ad.add i) = some (.int .u16 (l.getD i 0)))
theorem RC.below {w w1 : World} {A : Option Addr} {l : List Int} (h : RC w A l) (hb : Below w.heap.size w w1) : RC w1 A l :=
  ⟨h.1, h.2.imp id fun ⟨ad, e, hc⟩ => ⟨ad, e, fun i hi => (hb.cell (World.block_lt_of_cell? w _ (hc i hi))).trans (hc i hi)⟩⟩
theorem RC.at {w : World} {A : Option Addr} {l : List Int} (h : RC w A l) {k : Nat} (hk : k < l.length) : ∃ ad : Addr, A = some ad ∧ w.cell? (ad.add k) = some (.int .u16 (l.getD k 0)) ∧ 0 ≤ l.getD k 0 ∧ l.getD k 0 ≤ 65535 := by
  rcases h.2 with rfl | ⟨ad, e, hc⟩
  · simp at hk
  · refine ⟨ad, e, hc k hk, ?_⟩
    rw [List.getD_eq_getElem?_getD, List.getElem?_eq_getElem hk]
    exact h.1 _ (List.getElem_mem _)
theorem cell_idx {rows cols j i : Int} (h1 : 0 ≤ j) (h2 : j < cols) (h3 : 0 ≤ i) (h4 : i < rows) : 0 ≤ j * rows ∧ j * rows + i < rows * cols ∧ 0 ≤ j * rows + i := by
  have a : 0 ≤ j * rows := Int.mul_nonneg h1 (by omega)
  have b : (j + 1) * rows ≤ cols * rows := Int.mul_le_mul_of_nonneg_right (by omega) (by omega)
  rw [Int.add_mul, Int.one_mul] at b
  rw [Int.mul_comm rows cols]
  omega
set_option maxRecDepth 100000 in
set_option maxHeartbeats 1000000 in
theorem mcell_any (rows cols : Int) (cells : List Int) (A : Option Addr) (cap : Nat) (i j : Int) (w : World) (hm : matB rows cols cells.length = true) (hr : RC w A cells) (hi0 : 0 ≤ i) (hi : i < rows) (hj0 : 0 ≤ j) (hj : j < cols) :
    Calls Try.prog 234 #[.agg #[.int .i64 rows, .int .i64 cols, .slice A cells.length cap], .int .i64 i, .int .i64 j] w fun e w' => e = .returned (.tuple #[.int .i64 (cells.getD (j * rows + i).toNat 0), .bool true]) ∧ Below w.heap.size w w' := by
  obtain ⟨m1, m2, m3⟩ := matB_is hm
  obtain ⟨c1, c2, c3⟩ := cell_idx hj0 hj hi0 hi
  obtain ⟨n, hn⟩ : ∃ n, cells.length = n := ⟨_, rfl⟩
  have hnb : rows * cols ≤ 281474976710656 := by
    have := Int.mul_le_mul m1.2 m2.2 m2.1 (by omega)
    omega
  have hlt : (j * rows + i).toNat < cells.length := by omega
  have KM := Lib.hid (fun w => mright_any rows cols cells.length A cap (by omega) w)
  obtain ⟨ad, rfl, y, y1, y2⟩ := hr.at hlt
  obtain ⟨x, hx⟩ : ∃ x, cells.getD (j * rows + i).toNat 0 = x := ⟨_, rfl⟩
  rw [hx] at y y1 y2 ⊢
  rw [hm] at KM
  rw [hn] at KM hlt m3 ⊢
  obtain ⟨P, hP⟩ : ∃ P, j * rows = P := ⟨_, rfl⟩
  rw [hP] at c1 c2 c3 hlt y
  obtain ⟨k, hk⟩ := Int.eq_ofNat_of_zero_le c3
  rw [hk, Int.toNat_natCast] at y hlt
  have hw1 : IntKind.i64.wrap (j * rows) = P := by rw [hP, IntKind.wrap_i64]; omega
  have hw2 : IntKind.i64.wrap (P + i) = (k : Int) := by rw [hk, IntKind.wrap_i64]; omega
  have hw3 : IntKind.i64.wrap x = x := by rw [IntKind.wrap_i64]; omega
  have hlt' : (k : Int) < n := by omega
  have e1 : decide (i < 0) = false := decide_eq_false (by omega)
  have e2 : decide (rows ≤ i) = false := decide_eq_false (by omega)
  have e3 : decide (j < 0) = false := decide_eq_false (by omega)
  have e4 : decide (cols ≤ j) = false := decide_eq_false (by omega)
  have hbA := World.block_lt_of_cell? w _ y
  have HP := Lib.hid hP
  have HK := Lib.hid hk
  have HW1 := Lib.hid hw1
  have HW2 := Lib.hid hw2
  clear hm hr hx hn hP hk m3 hw1 hw2 m1 m2
  go_enter Try.func234, Try.ntmps234
  go_wp2_with fail
  refine (KM.out _).mono ?_
  rintro e w1 ⟨rfl, hb⟩
  have be : Below w.heap.size w w1 := ((Below.refl _ w).alloc (Nat.le_refl _) _).trans (hb.mono (by simp))
  have kA := (Blk.new w #[.int .i64 rows, .int .i64 cols, .slice (some ad) n cap] 75).below hb
  have p0 := kA.cell 0
  have p1 := kA.cell 1
  have p2 := kA.cell 2
  simp only [List.getElem?_toArray, List.getElem?_cons_zero, List.getElem?_cons_succ] at p0 p1 p2
  have z := (be.cell hbA).trans y
  have hw1 := HW1.out
  have hw2 := HW2.out
  clear hb y hbA c1 c2 c3
  go_wp2_with fail
  go_ret2
  exact ⟨rfl, be⟩
theorem row_get {rows cols : Int} {cells : List Int} {i k : Nat} (h : k < cols.toNat) : (rowO rows cols cells i).getD k 0 = cells.getD (k * rows.toNat + i) 0 := by
  unfold rowO
  rw [List.getD_eq_getElem?_getD, List.getElem?_map, List.getElem?_range h]
  rfl
theorem own_blk {w w1 : World} {g : Nat} {cs : Array Value} {t : TypeId} {row : Option Nat} (h : Blk w g cs t) (hg : w.grownBy w1 row) (hr : row ≠ some g) : Blk w1 g cs t := (hg.block g h.lt (fun e => hr e.symm)).trans h
theorem own_base {w : World} {base : Nat} {e : TypeId} {size n : Nat} {v : Value} {xs : List Value} {g : Nat} (h : w.ownsRow base e size v n xs) (hg : g < base) : v.ownBlock ≠ some g := fun e => by
  have := (World.ownsRow.lt h g e).1; omega
set_option maxRecDepth 100000 in
set_option maxHeartbeats 1000000 in
theorem mrow_any (rows cols : Int) (cells : List Int) (A : Option Addr) (cap : Nat) (i : Nat) (w : World) (hm : matB rows cols cells.length = true) (hr : RC w A cells) (hi : (i : Int) < rows) :
    Calls Try.prog 230 #[.agg #[.int .i64 rows, .int .i64 cols, .slice A cells.length cap], .int .i64 i] w fun e w' => ∃ v, e = .returned v ∧ w'.ownsRow w.heap.size 3 1 v cols.toNat (ints (rowO rows cols cells i)) ∧ Below w.heap.size w w' := by
  have KC := Lib.hid (fun (j : Nat) w hr (hj : (j : Int) < cols) => mcell_any rows cols cells A cap i j w hm hr (by omega) hi (by omega) hj)
  have hmm := matB_is hm
  obtain ⟨m, hmc⟩ := Int.eq_ofNat_of_zero_le hmm.2.1.1
  have hmb : m ≤ 16777216 := by have := hmm.2.1.2; omega
  have hrl : Hid ((rowO rows cols cells i).length = m) := Lib.hid (by rw [row_len, hmc]; rfl)
  have hrg : Hid (∀ k, k < m → cells.getD ((k : Int) * rows + (i : Int)).toNat 0 = (rowO rows cols cells i).getD k 0) := Lib.hid (fun k hk => by
    rw [row_get (by rw [hmc]; exact hk)]
    congr 1
    obtain ⟨q, hq⟩ := Int.eq_ofNat_of_zero_le hmm.1.1
    subst hq
    show (((k : Int) * (q : Int)) + (i : Int)).toNat = k * ((q : Int)).toNat + i
    rw [Int.toNat_natCast, ← Int.natCast_mul, ← Int.natCast_add, Int.toNat_natCast])
  obtain ⟨R, hR⟩ : ∃ R, rowO rows cols cells i = R := ⟨_, rfl⟩
  rw [hR] at hrl hrg ⊢
  have HIN : Hid (∀ k, k < m → 0 ≤ R.getD k 0 ∧ R.getD k 0 ≤ 65535) := Lib.hid (fun k hk => by
    rw [← hrg.out k hk]
    obtain ⟨c1, c2, c3⟩ := cell_idx (rows := rows) (cols := cols) (j := k) (i := i) (by omega) (by omega) (by omega) hi
    obtain ⟨_, _, _, h⟩ := hr.at (k := ((k : Int) * rows + (i : Int)).toNat) (by omega)
    exact h)
  subst hmc
  rw [Int.toNat_natCast]
  obtain ⟨n, hn⟩ : ∃ n, cells.length = n := ⟨_, rfl⟩
  rw [hn] at KC ⊢
  have HRC := Lib.hid hr
  obtain ⟨i0, hi0, hz0, hz1, hz2⟩ := info_parts info_int
  clear hm hmm hR hn hr
  go_enter Try.func230, Try.ntmps230
  go_wp2_with fail
  go_loopw [5, 6] (fun o jv wr => ∃ (k : Nat) (a : Option Addr) (c : Nat), k ≤ m ∧ jv = .int .i64 k ∧ o = .slice a k c ∧ Hid (wr.ownsRow (w.heap.size + 1) 3 1 (.slice a k c) k (ints (R.take k))) ∧ Blk wr w.heap.size #[.int .i64 rows, .int .i64 m, .slice A n cap] 75 ∧ Hid (Below w.heap.size w wr)) (fun _ jv _ => m - (intOf jv).toNat)
  case atStart =>
    refine ⟨0, none, 0, Nat.zero_le _, rfl, rfl, Lib.hid (World.ownsRow_nil _ _ _ _), Blk.new w _ _, Lib.hid ((Below.refl _ _).alloc (Nat.le_refl _) _)⟩
  case round =>
    obtain ⟨k, a, c, hk, rfl, rfl, HO, kB, HBe⟩ := hrel
    have p0 := kB.cell 0
    have p1 := kB.cell 1
    have p2 := kB.cell 2
    have hlB := kB.lt
    simp only [List.getElem?_toArray, List.getElem?_cons_zero, List.getElem?_cons_succ] at p0 p1 p2
    by_cases hlt : k < m
    · have hlt' : (k : Int) < m := by omega
      have KC2 := Lib.hid (KC.out k wr (HRC.out.below HBe.out) hlt')
      obtain ⟨x, hx⟩ : ∃ x, R.getD k 0 = x := ⟨_, rfl⟩
      have hgx := hrg.out k hlt
      rw [hx] at hgx
      rw [hgx] at KC2
      have HX := Lib.hid hx
      clear hgx hx
      go_wp2_with fail
      refine KC2.out.mono ?_
      rintro e w1 ⟨rfl, hb⟩
      have kB1 := kB.below hb
      have HO1 := Lib.hid (own_below HO.out hb)
      have HBe1 := Lib.hid (HBe.out.trans (hb.mono (by omega)))
      have hl1 := kB1.lt
      clear hb p0 p1 p2 kB hlB
      go_wp2_with (at_builtin; refine wpList_append_lies _ rfl _ _ 24 rfl (w.heap.size + 1) 3 i0 (.int .i64 0) 1 8 Try.underlying24 hi0 hz0 hz1 hz2 rfl (by decide) _ _ _ rfl (HO1.out.alloc _) ⟨w1.heap.size, 0, none⟩ 1 1 [.int .i64 x] rfl rfl (cell_one_new _ _ _) (by simp [Value.oneCell']) (by decide) (by unfold maxLen; omega) (by omega) (by simp; omega) _ rfl ?_; intro g2 c2 w2 hown2 hg2 hat2 hlt2)
      go_roundw
      case rel =>
        refine ⟨k + 1, _, c2, hlt, by go_num, rfl, Lib.hid ?_, ?_, Lib.hid ?_⟩
        · rw [take_snocI (by rw [hrl.out]; exact hlt), HX.out, ints_snoc]; exact hown2
        · exact own_blk (kB1.below ((Below.refl _ _).alloc (Nat.le_refl _) _)) hg2 (own_base HO1.out (Nat.lt_succ_self _))
        · exact (HBe1.out.alloc (by omega) _).grown hg2 (by simp; omega) (fun q e => by have := (World.ownsRow.lt HO1.out q e).1; omega)
      case measure => simp [intOf]; omega
    · obtain rfl : k = m := by omega
      go_wp2_with fail
      go_ret
      refine ⟨_, rfl, ?_, HBe.out⟩
      have := HO.out
      rw [List.take_of_length_le (by rw [hrl.out]; exact Nat.le_refl _)] at this
      exact World.ownsRow.mono this (Nat.le_succ _)
end Go.Proofs.Ytpekofpiodaadaa.Hb
end

section
/- The walks of layer prod: Plus, Minus, Product. -/
namespace Go.Proofs.Ytpekofpiodaadaa.Hb
open Go.RowKit

theorem pplus_any (a b : Int) (ha : inR a) (hb : inR b) (w : World) :
    Calls Try.prog 216 #[.int .i64 a, .int .i64 b] w fun e w' => e = .returned (res (lim (a + b))) ∧ w = w' := by
  obtain ⟨a1, a2⟩ := ha
  obtain ⟨b1, b2⟩ := hb
  by_cases h : inR (a + b)
  · rw [lim_in h]
    obtain ⟨h1, h2⟩ := h
    by_cases ca : a < 0 <;> by_cases cb : b < 0 <;> by_cases cs : a + b < 0 <;> first | (exfalso; omega) | skip
    all_goals
      first | have ca' : decide (a < 0) = true := decide_eq_true ca | have ca' : decide (a < 0) = false := decide_eq_false ca
      first | have cb' : decide (b < 0) = true := decide_eq_true cb | have cb' : decide (b < 0) = false := decide_eq_false cb
      first | have cs' : decide (a + b < 0) = true := decide_eq_true cs | have cs' : decide (a + b < 0) = false := decide_eq_false cs
      clear ca cb cs
      go_enter Try.func216, Try.ntmps216
      go_wp2
      go_ret2
      exact ⟨rfl, rfl⟩
  · rw [lim_out h]
    unfold inR at h
    by_cases ca : a < 0
    · have cb : b < 0 := by omega
      have cs : ¬ wrap64 (a + b) < 0 := by unfold wrap64; omega
      have ca' : decide (a < 0) = true := decide_eq_true ca
      have cb' : decide (b < 0) = true := decide_eq_true cb
      have cs' : decide (wrap64 (a + b) < 0) = false := decide_eq_false cs
      clear ca cb cs h
      go_enter Try.func216, Try.ntmps216
      go_wp2
      go_ret2
      exact ⟨rfl, rfl⟩
    · have cb : ¬ b < 0 := by omega
      have cs : wrap64 (a + b) < 0 := by unfold wrap64; omega
      have ca' : decide (a < 0) = false := decide_eq_false ca
      have cb' : decide (b < 0) = false := decide_eq_false cb
      have cs' : decide (wrap64 (a + b) < 0) = true := decide_eq_true cs
      clear ca cb cs h
      go_enter Try.func216, Try.ntmps216
      go_wp2
      go_ret2
      exact ⟨rfl, rfl⟩
theorem natAbs_le {a : Int} (h : inR a) : a.natAbs ≤ 9223372036854775808 := by unfold inR at h; omega
end Go.Proofs.Ytpekofpiodaadaa.Hb
end

section
/- Digits of 65536, the lowest first. No Go. -/
namespace Go.Proofs.Ytpekofpiodaadaa.Hb

/-- What the first n digits come to. -/
def val (D : Nat → Nat) : Nat → Nat
  | 0 => 0
  | n + 1 => val D n + D n * 65536 ^ n
theorem val_congr {D E : Nat → Nat} : ∀ n, (∀ j, j < n → D j = E j) → val D n = val E n
  | 0, _ => rfl
  | n + 1, h => by rw [val, val, val_congr n (fun j hj => h j (by omega)), h n (by omega)]
theorem val_put (D : Nat → Nat) (k v : Nat) : ∀ n, k < n → val (fun j => if j = k then v else D j) n + D k * 65536 ^ k = val D n + v * 65536 ^ k
  | 0, h => by omega
  | n + 1, h => by
    by_cases e : k = n
    · subst e
      have : val (fun j => if j = k then v else D j) k = val D k := val_congr k (fun j hj => by rw [if_neg (by omega)])
      simp only [val, if_true, this]; omega
    · have := val_put D k v n (by omega)
      simp only [val, if_neg (show ¬ n = k by omega)]; omega
theorem val_lt (D : Nat → Nat) (h : ∀ j, D j < 65536) : ∀ n, val D n < 65536 ^ n
  | 0 => by simp [val]
  | n + 1 => by
    have h1 := val_lt D h n
    have h2 : D n * 65536 ^ n ≤ 65535 * 65536 ^ n := Nat.mul_le_mul_right _ (by have := h n; omega)
    rw [val, Nat.pow_succ]; omega
theorem val_le_more (D : Nat → Nat) (n : Nat) : ∀ m, n ≤ m → val D n ≤ val D m
  | 0, h => by obtain rfl : n = 0 := by omega
               exact Nat.le_refl _
  | m + 1, h => by
    by_cases e : n = m + 1
    · subst e; exact Nat.le_refl _
    · have := val_le_more D n m (by omega); rw [val]; omega
theorem val_zeros (D : Nat → Nat) (n : Nat) : ∀ m, n ≤ m → (∀ j, n ≤ j → j < m → D j = 0) → val D m = val D n
  | 0, h, _ => by obtain rfl : n = 0 := by omega
                  rfl
  | m + 1, h, hz => by
    by_cases e : n = m + 1
    · subst e; rfl
    · rw [val, val_zeros D n m (by omega) (fun j h1 h2 => hz j h1 (by omega)), hz m (by omega) (by omega)]; simp
theorem val_big (D : Nat → Nat) (n j : Nat) (h1 : j < n) (h2 : D j ≠ 0) : 65536 ^ j ≤ val D n := by
  have h3 := val_le_more D (j + 1) n h1
  have h4 : 1 * 65536 ^ j ≤ D j * 65536 ^ j := Nat.mul_le_mul_right _ (by omega)
  rw [val] at h3; omega
theorem carry_step (n P : Nat) : n % 65536 * P + n / 65536 * (P * 65536) = n * P := by
  have h := Nat.mod_add_div n 65536
  calc n % 65536 * P + n / 65536 * (P * 65536) = (n % 65536 + 65536 * (n / 65536)) * P := by rw [Nat.add_mul, Nat.mul_comm P 65536, ← Nat.mul_assoc, Nat.mul_comm (n / 65536) 65536]
    _ = n * P := by rw [h]
/-- Four digits of a number. -/
def dig (n : Nat) (j : Nat) : Nat := if j = 0 then n % 65536 else if j = 1 then n / 65536 % 65536 else if j = 2 then n / 4294967296 % 65536 else if j = 3 then n / 281474976710656 else 0
theorem dig_lt (n : Nat) (h : n < 18446744073709551616) (j : Nat) : dig n j < 65536 := by unfold dig; (repeat' split) <;> omega
theorem dig_val (n : Nat) : val (dig n) 4 = n := by simp only [val, dig]; simp; omega
theorem val4 (D : Nat → Nat) : val D 4 = D 0 + D 1 * 65536 + D 2 * 4294967296 + D 3 * 281474976710656 := by simp [val]
/-- The step of a sum. -/
theorem sum_step (E D1 D2 : Nat → Nat) (k c : Nat) (h : val E k + c * 65536 ^ k = val D1 k + val D2 k) :
    val (fun j => if j = k then (D1 k + D2 k + c) % 65536 else E j) (k + 1) + (D1 k + D2 k + c) / 65536 * 65536 ^ (k + 1) = val D1 (k + 1) + val D2 (k + 1) := by
  have e1 : val (fun j => if j = k then (D1 k + D2 k + c) % 65536 else E j) k = val E k := val_congr k (fun j hj => by rw [if_neg (by omega)])
  have e2 := carry_step (D1 k + D2 k + c) (65536 ^ k)
  rw [Nat.add_mul, Nat.add_mul] at e2
  simp only [val, if_true, e1, Nat.pow_succ]
  omega
/-- The steps of a product: a digit; a row's end. -/
theorem prod_step (O D2 : Nat → Nat) (i k a c X : Nat) (hk : i + k < 8) (h : val O 8 + c * 65536 ^ (i + k) = X + a * 65536 ^ i * val D2 k) :
    val (fun j => if j = i + k then (O (i + k) + a * D2 k + c) % 65536 else O j) 8 + (O (i + k) + a * D2 k + c) / 65536 * 65536 ^ (i + (k + 1)) = X + a * 65536 ^ i * val D2 (k + 1) := by
  have e1 := val_put O (i + k) ((O (i + k) + a * D2 k + c) % 65536) 8 hk
  have e2 := carry_step (O (i + k) + a * D2 k + c) (65536 ^ (i + k))
  rw [Nat.add_mul, Nat.add_mul] at e2
  have e3 : a * 65536 ^ i * val D2 (k + 1) = a * 65536 ^ i * val D2 k + a * D2 k * 65536 ^ (i + k) := by
    rw [val, Nat.mul_add, Nat.pow_add]; congr 1
    rw [Nat.mul_assoc, Nat.mul_assoc, Nat.mul_left_comm (65536 ^ i)]
  have e4 : 65536 ^ (i + (k + 1)) = 65536 ^ (i + k) * 65536 := by rw [← Nat.add_assoc, Nat.pow_succ]
  rw [e3, e4]
  omega
theorem prod_end (O D1 D2 : Nat → Nat) (i c : Nat) (hi : i + 4 < 8) (h0 : O (i + 4) = 0) (h : val O 8 + c * 65536 ^ (i + 4) = val D1 i * val D2 4 + D1 i * 65536 ^ i * val D2 4) :
    val (fun j => if j = i + 4 then c else O j) 8 = val D1 (i + 1) * val D2 4 := by
  have e1 := val_put O (i + 4) c 8 hi
  rw [h0] at e1
  rw [show val D1 (i + 1) = val D1 i + D1 i * 65536 ^ i from rfl, Nat.add_mul]
  omega
theorem prod_fits (o a b c : Nat) (ho : o < 65536) (ha : a < 65536) (hb : b < 65536) (hc : c < 65536) : a * b ≤ 4294836225 ∧ (o + a * b + c) / 65536 < 65536 := by
  have : a * b ≤ 65535 * 65535 := Nat.mul_le_mul (by omega) (by omega)
  exact ⟨by omega, by omega⟩
end Go.Proofs.Ytpekofpiodaadaa.Hb
end

section
/- The walks of the reference of layer 4: sums, differences and products by digits. -/
namespace Go.Proofs.Ytpekofpiodaadaa.Hb
open Go.RowKit

theorem rsize_neg (a : Int) (h : -9223372036854775808 ≤ a) (c : a < 0) : IntKind.u64.wrap (-(a + 1) + 1) = (a.natAbs : Int) := by
  simp [IntKind.wrap, IntKind.bits, IntKind.signed]; omega
theorem ret_u64' {a b : Int} (h : a = b) : Ending.returned (.int .u64 a) = .returned (.int .u64 b) := by rw [h]
theorem rsize_any (a : Int) (ha : inR a) (w : World) :
    Calls Try.prog 77 #[.int .i64 a] w fun e w' => e = .returned (.int .u64 (a.natAbs : Int)) ∧ w = w' := by
  obtain ⟨a1, a2⟩ := ha
  by_cases c : a < 0
  · have c' : decide (0 ≤ a) = false := decide_eq_false (by omega)
    go_enter Try.func77, Try.ntmps77
    go_wp2
    go_ret
    exact ⟨ret_u64' (by omega), rfl⟩
  · have c' : decide (0 ≤ a) = true := decide_eq_true (by omega)
    go_enter Try.func77, Try.ntmps77
    go_wp2
    go_ret
    exact ⟨ret_u64' (by omega), rfl⟩

/-- A slice of n digits, in new memory. -/
def DigRow (B : Nat) (n : Nat) (D : Nat → Nat) (v : Value) (w : World) : Prop :=
  (∀ j, D j < 65536) ∧ ∃ g c, v = .slice (some ⟨g, 0, none⟩) n c ∧ n ≤ c ∧ B ≤ g ∧ g < w.heap.size ∧ ∀ j, j < n → w.cell? ⟨g, j, none⟩ = some (.int .u64 (D j : Nat))
theorem DigRow.below {B n : Nat} {D : Nat → Nat} {v : Value} {w w1 : World} (h : DigRow B n D v w) (hb : Below w.heap.size w w1) : DigRow B n D v w1 := by
  obtain ⟨h0, g, c, h1, h2, h3, h4, h5⟩ := h
  exact ⟨h0, g, c, h1, h2, h3, Nat.lt_of_lt_of_le h4 hb.size, fun j hj => (hb.cell (p := ⟨g, j, none⟩) h4).trans (h5 j hj)⟩
/-- What a call that makes digits comes to. -/
def Digs (B n N : Nat) (w : World) (e : Ending) (w' : World) : Prop := ∃ D v, e = .returned v ∧ val D n = N ∧ DigRow B n D v w' ∧ Below w.heap.size w w'

theorem rdigits_any (n : Nat) (hn : n < 18446744073709551616) (w : World) :
    Calls Try.prog 233 #[.int .u64 n] w (Digs w.heap.size 4 n w) := by
  go_enter Try.func233, Try.ntmps233
  go_wp2
  go_ret
  refine ⟨dig n, _, rfl, dig_val n, ⟨dig_lt n hn, w.heap.size, _, rfl, by omega, by omega, by simp, ?_⟩, (Below.refl _ _).alloc (Nat.le_refl _) _⟩
  intro j hj
  match j, hj with
  | 0, _ => simp [dig]
  | 1, _ => simp [dig]
  | 2, _ => simp [dig]
  | 3, _ => simp [dig]

set_option maxHeartbeats 1000000 in
theorem rnumber_any (c : Nat) (D : Nat → Nat) (g : Nat) (hD : ∀ j, D j < 65536) (w : World) (hc : ∀ j, j < 4 → w.cell? ⟨g, j, none⟩ = some (.int .u64 (D j : Nat))) :
    Calls Try.prog 235 #[.slice (some ⟨g, 0, none⟩) 4 c] w fun e w' => e = .returned (.int .u64 (val D 4 : Nat)) ∧ Below w.heap.size w w' := by
  have c0 := hc 0 (by omega)
  have c1 := hc 1 (by omega)
  have c2 := hc 2 (by omega)
  have c3 := hc 3 (by omega)
  have b0 := hD 0
  have b1 := hD 1
  have b2 := hD 2
  have b3 := hD 3
  clear hc hD
  rw [val4]
  go_enter Try.func235, Try.ntmps235
  go_wp2
  go_quiet (fail)
  go_wp2
  go_ret
  exact ⟨ret_u64' (by omega), below_drewN (Below.refl _ _) _⟩

set_option maxHeartbeats 1000000 in
theorem rwhole_big (bel : Bool) (len c g : Nat) (D : Nat → Nat) (hl : 4 ≤ len) (hl8 : len ≤ 8) (w : World) (hc : ∀ j, j < len → w.cell? ⟨g, j, none⟩ = some (.int .u64 (D j : Nat))) (jj : Nat) (hj : 4 ≤ jj) (hj2 : jj < len) (hj3 : D jj ≠ 0) :
    Calls Try.prog 231 #[.bool bel, .slice (some ⟨g, 0, none⟩) len c] w fun e w' => e = .returned (res none) ∧ Below w.heap.size w w' := by
  have HC := Lib.hid hc
  have HJ := Lib.hid hj3
  clear hc hj3
  go_enter Try.func231, Try.ntmps231
  go_wp2
  go_loop [6] (fun i => ∃ k : Nat, 4 ≤ k ∧ k ≤ len ∧ i = .int .i64 k ∧ Hid (∀ j, 4 ≤ j → j < k → D j = 0)) (fun i => len - (intOf i).toNat)
  case atStart => exact ⟨4, by omega, hl, rfl, Lib.hid (fun j h1 h2 => by omega)⟩
  case round =>
    obtain ⟨k, hk4, hk, rfl, HZ⟩ := hrel
    by_cases hlt : k < len
    · have ck := HC.out k hlt
      by_cases h0 : D k = 0
      · rw [h0] at ck
        go_wp2
        go_round
        case rel => exact ⟨k + 1, by omega, by omega, by go_num, Lib.hid (fun j h1 h2 => by
          by_cases e : j = k
          · rw [e]; exact h0
          · exact HZ.out j h1 (by omega))⟩
        case measure => simp [intOf]; omega
      · have h1 : 0 < D k := by omega
        have h2 : decide (0 < D k) = true := decide_eq_true h1
        clear h0
        go_wp2
        go_ret2
        exact ⟨rfl, Below.refl _ _⟩
    · exact absurd (HZ.out jj hj (by omega)) HJ.out

def RWhole (bel : Bool) (len c g : Nat) (v : Option Int) (w : World) : Prop :=
  Calls Try.prog 231 #[.bool bel, .slice (some ⟨g, 0, none⟩) len c] w fun e w' => e = .returned (res v) ∧ Below w.heap.size w w'

set_option maxHeartbeats 4000000 in
theorem rwhole_small (bel : Bool) (len c g n : Nat) (D : Nat → Nat) (hl : 4 ≤ len) (hl8 : len ≤ 8) (hlc : len ≤ c) (hD : ∀ j, D j < 65536) (w : World) (hc : ∀ j, j < len → w.cell? ⟨g, j, none⟩ = some (.int .u64 (D j : Nat)))
    (hz : ∀ j, 4 ≤ j → j < len → D j = 0) (hn : val D 4 = n) (hn2 : (n : Int) ≤ 18446744073709551615) (v : Option Int)
    (hv : (((n : Int) == 0) = true ∧ v = some 0) ∨ (((n : Int) == 0) = false ∧ 0 < n ∧
      ((bel = false ∧ (n : Int) ≤ 9223372036854775807 ∧ v = some n) ∨ (bel = false ∧ decide ((n : Int) ≤ 9223372036854775807) = false ∧ v = none) ∨
       (bel = true ∧ (n : Int) ≤ 9223372036854775808 ∧ v = some (-(n : Int))) ∨ (bel = true ∧ decide ((n : Int) ≤ 9223372036854775808) = false ∧ v = none)))) : RWhole bel len c g v w := by
  unfold RWhole
  have HC := Lib.hid hc
  have HZ := Lib.hid hz
  have HN := Lib.hid hn
  have hcn : ∀ W, Below w.heap.size w W → Calls Try.prog 235 #[.slice (some ⟨g, 0, none⟩) 4 c] w fun e w' => e = .returned (.int .u64 (n : Nat)) ∧ Below w.heap.size w w' := fun _ _ => by
    have := rnumber_any c D g hD w (fun j hj => hc j (by omega))
    rwa [hn] at this
  have HV := Lib.hid hcn
  clear hc hz hn hcn hD
  go_enter Try.func231, Try.ntmps231
  go_wp2
  go_loop [6] (fun i => ∃ k : Nat, 4 ≤ k ∧ k ≤ len ∧ i = .int .i64 k) (fun i => len - (intOf i).toNat)
  case atStart => exact ⟨4, by omega, hl, rfl⟩
  case round =>
    obtain ⟨k, hk4, hk, rfl⟩ := hrel
    by_cases hlt : k < len
    · have ck := HC.out k hlt
      rw [HZ.out k hk4 hlt] at ck
      clear hv
      go_wp2
      go_round
      case rel => exact ⟨k + 1, by omega, by omega, by go_num⟩
      case measure => simp [intOf]; omega
    · obtain rfl : k = len := by omega
      clear hlt
      rcases hv with ⟨h1, rfl⟩ | ⟨h1, h0, ⟨rfl, h2, rfl⟩ | ⟨rfl, h2, rfl⟩ | ⟨rfl, h2, rfl⟩ | ⟨rfl, h2, rfl⟩⟩
      · go_wp2_with (go_at_call 235; refine (HV.out w (Below.refl _ _)).mono ?_; rintro e w1 ⟨rfl, hb⟩)
        go_ret2
        exact ⟨rfl, hb⟩
      · go_wp2_with (go_at_call 235; refine (HV.out w (Below.refl _ _)).mono ?_; rintro e w1 ⟨rfl, hb⟩)
        go_ret2
        exact ⟨rfl, hb⟩
      · go_wp2_with (go_at_call 235; refine (HV.out w (Below.refl _ _)).mono ?_; rintro e w1 ⟨rfl, hb⟩)
        go_ret2
        exact ⟨rfl, hb⟩
      · go_wp2_with (go_at_call 235; refine (HV.out w (Below.refl _ _)).mono ?_; rintro e w1 ⟨rfl, hb⟩)
        go_ret2
        refine ⟨?_, hb⟩
        rw [show (-(n : Int)) = -((n : Int) - 1) - 1 from by omega]
        rfl
      · go_wp2_with (go_at_call 235; refine (HV.out w (Below.refl _ _)).mono ?_; rintro e w1 ⟨rfl, hb⟩)
        go_ret2
        exact ⟨rfl, hb⟩

/-- whole, of any digits. -/
theorem rwhole_any (bel : Bool) (len : Nat) (hl : 4 ≤ len) (hl8 : len ≤ 8) (B : Nat) (D : Nat → Nat) (v : Value) (w : World) (h : DigRow B len D v w) :
    Calls Try.prog 231 #[.bool bel, v] w fun e w' => e = .returned (res (lim (if bel = true then -((val D len : Nat) : Int) else (val D len : Nat)))) ∧ Below w.heap.size w w' := by
  obtain ⟨hD, g, c, rfl, hlc, _, _, hc⟩ := h
  by_cases hz : ∀ j, 4 ≤ j → j < len → D j = 0
  · have hn := val_zeros D 4 len hl hz
    have hlt := val_lt D hD 4
    rw [hn]
    obtain ⟨n, e⟩ : ∃ n, val D 4 = n := ⟨_, rfl⟩
    rw [e]
    rw [e] at hlt
    refine rwhole_small bel len c g n D hl hl8 hlc hD w hc hz e (by omega) _ ?_
    by_cases h0 : n = 0
    · left; subst h0; exact ⟨by simp, by cases bel <;> rfl⟩
    · right
      refine ⟨beq_eq_false_iff_ne.2 (by omega), by omega, ?_⟩
      cases bel
      · simp only [Bool.false_eq_true, if_false, false_and, or_false, true_and]
        by_cases h1 : (n : Int) ≤ 9223372036854775807
        · exact .inl ⟨h1, lim_in ⟨by omega, h1⟩⟩
        · exact .inr ⟨decide_eq_false h1, lim_out (fun h => h1 h.2)⟩
      · simp only [if_true, false_and, false_or, true_and, Bool.true_eq_false]
        by_cases h1 : (n : Int) ≤ 9223372036854775808
        · exact .inl ⟨h1, lim_in ⟨by omega, by omega⟩⟩
        · exact .inr ⟨decide_eq_false h1, lim_out (fun h => h1 (by have := h.1; omega))⟩
  · obtain ⟨j, h4, hj, h0⟩ : ∃ j, 4 ≤ j ∧ j < len ∧ D j ≠ 0 := by
      refine Classical.byContradiction fun hno => hz fun j h1 h2 => Classical.byContradiction fun h3 => hno ⟨j, h1, h2, h3⟩
    have hb := val_big D len j hj h0
    have hp : 65536 ^ 4 ≤ 65536 ^ j := Nat.pow_le_pow_right (by omega) h4
    rw [show lim (if bel = true then -((val D len : Nat) : Int) else (val D len : Nat)) = none from lim_out (fun h => by unfold inR at h; split at h <;> omega)]
    exact rwhole_big bel len c g D hl hl8 w hc j h4 hj h0

def digL (D : Nat → Nat) (n : Nat) : List Value := (List.range n).map fun j => Value.int .u64 (D j : Nat)
theorem digL_snoc (D : Nat → Nat) (n d : Nat) : digL D n ++ [Value.int .u64 (d : Nat)] = digL (fun j => if j = n then d else D j) (n + 1) := by
  unfold digL
  rw [List.range_succ, List.map_append]
  congr 1
  · refine List.map_congr_left fun j hj => ?_
    have := List.mem_range.1 hj
    show _ = Value.int .u64 ((if j = n then d else D j : Nat) : Int)
    rw [if_neg (by omega)]
  · simp
theorem digL_get (D : Nat → Nat) (n j : Nat) (h : j < n) : (digL D n)[j]? = some (.int .u64 (D j : Nat)) := by simp [digL, h]
theorem digs_of_own {B n : Nat} {E : Nat → Nat} {v : Value} {w1 : World} (hE : ∀ j, E j < 65536) (h : w1.ownsRow B 34 1 v n (digL E n)) (hn : 0 < n) : DigRow B n E v w1 := by
  obtain ⟨g, c, rfl, h1, h2, h3, h4⟩ := own_open h hn
  exact ⟨hE, g, c, rfl, h1, h2, h3, fun j hj => h4 _ _ (digL_get E n j hj)⟩
theorem info_u64 : (Try.prog.info? 34).map (fun i => (i.zero, i.size, i.bytes)) = some (some (.int .u64 0), 1, 8) := by kernel_rfl

set_option maxRecDepth 100000 in
set_option maxHeartbeats 2000000 in
theorem rsum_any (B1 B2 : Nat) (D1 D2 : Nat → Nat) (v1 v2 : Value) (w : World) (h1 : DigRow B1 4 D1 v1 w) (h2 : DigRow B2 4 D2 v2 w) :
    Calls Try.prog 232 #[v1, v2] w (Digs w.heap.size 5 (val D1 4 + val D2 4) w) := by
  obtain ⟨i0, hi, hz0, hz1, hz2⟩ := info_parts info_u64
  obtain ⟨hD1, g1, c1, rfl, hlc1, _, hg1, hc1⟩ := h1
  obtain ⟨hD2, g2, c2, rfl, hlc2, _, hg2, hc2⟩ := h2
  have HC1 := Lib.hid hc1
  have HC2 := Lib.hid hc2
  have HD1 := Lib.hid hD1
  have HD2 := Lib.hid hD2
  clear hc1 hc2 hD1 hD2
  go_enter Try.func232, Try.ntmps232
  go_wp2
  go_loopw [5, 6, 7] (fun o cv i wr => ∃ (k c : Nat) (E : Nat → Nat), k ≤ 4 ∧ i = .int .i64 k ∧ cv = .int .u64 c ∧ c < 65536 ∧ Hid (∀ j, E j < 65536) ∧ Hid (val E k + c * 65536 ^ k = val D1 k + val D2 k) ∧ wr.ownsRow w.heap.size 34 1 o k (digL E k) ∧ Below w.heap.size w wr) (fun _ _ i _ => 4 - (intOf i).toNat)
  case atStart => exact ⟨0, 0, fun _ => 0, by omega, rfl, rfl, by omega, Lib.hid (fun _ => (by decide : 0 < 65536)), Lib.hid (by simp [val]), World.ownsRow_made w #[] 0 (Nat.le_refl _) (by unfold maxLen; omega) rfl, (Below.refl _ _).alloc (Nat.le_refl _) _⟩
  case round =>
    obtain ⟨k, c, E, hk, rfl, rfl, hc, HE, HV, hrow, hB⟩ := hrel
    have hBs := hB.size
    by_cases hlt : k < 4
    · have x1 := (hB.cell (p := ⟨g1, k, none⟩) hg1).trans (HC1.out k hlt)
      have x2 := (hB.cell (p := ⟨g2, k, none⟩) hg2).trans (HC2.out k hlt)
      have b1 := HD1.out k
      have b2 := HD2.out k
      have hstep := Lib.hid (sum_step E D1 D2 k c HV.out)
      have hfit : (D1 k + D2 k + c) / 65536 < 65536 := by omega
      obtain ⟨n, hn⟩ : ∃ n, n = D1 k + D2 k + c := ⟨_, rfl⟩
      have hE : ∀ j, (fun j => if j = k then n % 65536 else E j) j < 65536 := fun j => by
        show (if j = k then n % 65536 else E j) < 65536
        split
        · omega
        · exact HE.out j
      rw [← hn] at hstep hfit
      have hnb : n ≤ 196605 := by omega
      have e0 := Lib.hid (show (D1 k : Int) + D2 k + c = (n : Int) by omega)
      have HE' := Lib.hid hE
      have HF := Lib.hid hfit
      clear hn hE hfit
      go_wp2
      go_quiet (fail)
      rw [e0.out]
      go_wp2_with (at_builtin; refine wpList_append_own _ rfl _ _ 31 rfl w.heap.size 34 i0 (.int .u64 0) 1 8 Try.underlying31 hi hz0 hz1 hz2 rfl (by decide) _ _ _ rfl (World.ownsRow.alloc (own_drewN hrow _) _) ⟨wr.heap.size, 0, none⟩ 1 1 [.int .u64 ((n : Int) % 65536)] rfl rfl (cell_one_new _ _ _) (by simp [Value.oneCell']) (by unfold maxLen; omega) (by omega) (by simp; omega) ?_; intro v' w1 hown' hgrow _)
      go_roundw
      case rel => exact ⟨k + 1, n / 65536, fun j => if j = k then n % 65536 else E j, hlt, by go_num, by simp, HF.out, HE', hstep, by rw [← digL_snoc]; simpa using hown', ((below_drewN hB _).alloc (by simp; omega) _).grown hgrow (by simp; omega) (fun j e => (hrow.lt j e).1)⟩
      case measure => simp [intOf]; omega
    · obtain rfl : k = 4 := by omega
      go_wp2_with (at_builtin; refine wpList_append_own _ rfl _ _ 31 rfl w.heap.size 34 i0 (.int .u64 0) 1 8 Try.underlying31 hi hz0 hz1 hz2 rfl (by decide) _ _ _ rfl (hrow.alloc _) ⟨wr.heap.size, 0, none⟩ 1 1 [.int .u64 (c : Int)] rfl rfl (cell_one_new _ _ _) (by simp [Value.oneCell']) (by unfold maxLen; omega) (by omega) (by simp; omega) ?_; intro v' w1 hown' hgrow _)
      go_ret
      refine ⟨fun j => if j = 4 then c else E j, v', rfl, ?_, digs_of_own (fun j => ?_) (by rw [← digL_snoc]; exact hown') (by omega), (hB.alloc hBs _).grown hgrow (by simp; omega) (fun j e => (hrow.lt j e).1)⟩
      · have e1 : val (fun j => if j = 4 then c else E j) 4 = val E 4 := val_congr 4 (fun j hj => by show (if j = 4 then c else E j) = E j; rw [if_neg (by omega)])
        have e2 := HV.out
        rw [val, e1]
        simpa using e2
      · show (if j = 4 then c else E j) < 65536
        split
        · exact hc
        · exact HE.out j
end Go.Proofs.Ytpekofpiodaadaa.Hb
end

section
/- The walks of the reference of layer 4: Plus, Minus, Times64. -/
namespace Go.Proofs.Ytpekofpiodaadaa.Hb
open Go.RowKit

/-- What an operation of the reference on two numbers comes to. -/
def RefOp (f : Nat) (a b : Int) (v : Option Int) (w : World) : Prop := Calls Try.prog f #[.int .i64 a, .int .i64 b] w fun e w' => e = .returned (res v) ∧ Below w.heap.size w w'
theorem rsize_x (a : Int) (X : Nat) (ha : inR a) (hX : Hid (a.natAbs = X)) (w : World) :
    Calls Try.prog 77 #[.int .i64 a] w fun e w' => e = .returned (.int .u64 (X : Int)) ∧ w = w' := by
  have := rsize_any a ha w
  rwa [hX.out] at this

section
variable (a b : Int) (X Y : Nat) (ha : inR a) (hb : inR b) (hx : X < 18446744073709551616) (hy : Y < 18446744073709551616) (HX : Hid (a.natAbs = X)) (HY : Hid (b.natAbs = Y)) (s t : Bool) (h1 : decide (a < 0) = s) (h2 : decide (b < 0) = t) (v : Option Int) (w : World)
include ha hb hx hy HX HY h1 h2

set_option maxHeartbeats 1000000 in
theorem rplus_same (hst : s = t) (hv : v = lim (if s = true then -((X + Y : Nat) : Int) else ((X + Y : Nat) : Int))) : RefOp 218 a b v w := by
  subst hst
  unfold RefOp
  obtain ⟨x, y, hxy⟩ := res_form v
  rw [hxy]
  rw [hv] at hxy
  have HXY := Lib.hid hxy
  clear hv hxy
  go_enter Try.func218, Try.ntmps218
  go_wp2_with (go_at_call 77; refine (rsize_x _ _ (by assumption) (by assumption) _).mono ?_; rintro e w1 ⟨rfl, rfl⟩)
  refine (rdigits_any X hx _).mono ?_
  rintro e w1 ⟨D1, v1, rfl, e1, r1, b1⟩
  have E1 := Lib.hid e1
  clear e1
  go_wp2_with fail
  refine (rdigits_any Y hy _).mono ?_
  rintro e w2 ⟨D2, v2, rfl, e2, r2, b2⟩
  have E2 := Lib.hid e2
  clear e2
  replace r1 := r1.below b2
  go_wp2_with fail
  refine (rsum_any _ _ D1 D2 v1 v2 _ r1 r2).mono ?_
  rintro e w3 ⟨D3, v3, rfl, e3, r3, b3⟩
  rw [E1.out, E2.out] at e3
  have E3 := Lib.hid e3
  clear e3
  go_wp2_with fail
  refine (rwhole_any s 5 (by omega) (by omega) _ D3 v3 _ r3).mono ?_
  rintro e w4 ⟨rfl, b4⟩
  rw [E3.out, HXY.out]
  go_wp2
  go_ret2
  exact ⟨rfl, b1.trans ((b2.trans ((b3.trans (b4.mono b3.size)).mono b2.size)).mono b1.size)⟩
set_option maxHeartbeats 1000000 in
theorem rplus_ge (hst : (s == t) = false) (hge : Y ≤ X) (hv : v = lim (if s = true then -((X - Y : Nat) : Int) else ((X - Y : Nat) : Int))) : RefOp 218 a b v w := by
  unfold RefOp
  obtain ⟨x, y, hxy⟩ := res_form v
  rw [hxy]
  rw [hv] at hxy
  have HXY := Lib.hid hxy
  clear hv hxy
  have g1 : decide ((Y : Int) ≤ (X : Int)) = true := decide_eq_true (by omega)
  have g2 : decide (Y ≤ X) = true := decide_eq_true hge
  have EI := Lib.hid (show ((X : Nat) : Int) - (Y : Nat) = ((X - Y : Nat) : Int) by omega)
  go_enter Try.func218, Try.ntmps218
  go_wp2_with (go_at_call 77; refine (rsize_x _ _ (by assumption) (by assumption) _).mono ?_; rintro e w1 ⟨rfl, rfl⟩)
  rw [EI.out]
  refine (rdigits_any (X - Y) (by omega) _).mono ?_
  rintro e w1 ⟨D1, v1, rfl, e1, r1, b1⟩
  have E1 := Lib.hid e1
  clear e1
  go_wp2_with fail
  refine (rwhole_any s 4 (by omega) (by omega) _ D1 v1 _ r1).mono ?_
  rintro e w4 ⟨rfl, b4⟩
  rw [E1.out, HXY.out]
  go_wp2
  go_ret2
  exact ⟨rfl, b1.trans (b4.mono b1.size)⟩
set_option maxHeartbeats 1000000 in
theorem rplus_lt (hst : (s == t) = false) (hge : X < Y) (hv : v = lim (if t = true then -((Y - X : Nat) : Int) else ((Y - X : Nat) : Int))) : RefOp 218 a b v w := by
  unfold RefOp
  obtain ⟨x, y, hxy⟩ := res_form v
  rw [hxy]
  rw [hv] at hxy
  have HXY := Lib.hid hxy
  clear hv hxy
  have g1 : decide ((Y : Int) ≤ (X : Int)) = false := decide_eq_false (by omega)
  have g2 : decide (Y ≤ X) = false := decide_eq_false (by omega)
  have EI := Lib.hid (show ((Y : Nat) : Int) - (X : Nat) = ((Y - X : Nat) : Int) by omega)
  go_enter Try.func218, Try.ntmps218
  go_wp2_with (go_at_call 77; refine (rsize_x _ _ (by assumption) (by assumption) _).mono ?_; rintro e w1 ⟨rfl, rfl⟩)
  rw [EI.out]
  refine (rdigits_any (Y - X) (by omega) _).mono ?_
  rintro e w1 ⟨D1, v1, rfl, e1, r1, b1⟩
  have E1 := Lib.hid e1
  clear e1
  go_wp2_with fail
  refine (rwhole_any t 4 (by omega) (by omega) _ D1 v1 _ r1).mono ?_
  rintro e w4 ⟨rfl, b4⟩
  rw [E1.out, HXY.out]
  go_wp2
  go_ret2
  exact ⟨rfl, b1.trans (b4.mono b1.size)⟩
end

theorem rplus_any (a b : Int) (ha : inR a) (hb : inR b) (w : World) : RefOp 218 a b (lim (a + b)) w := by
  have hx := natAbs_le ha
  have hy := natAbs_le hb
  have HX : Hid (a.natAbs = a.natAbs) := Lib.hid rfl
  have HY : Hid (b.natAbs = b.natAbs) := Lib.hid rfl
  by_cases ca : a < 0 <;> by_cases cb : b < 0
  · exact rplus_same a b _ _ ha hb (by omega) (by omega) HX HY true true (decide_eq_true ca) (decide_eq_true cb) _ w rfl (by simp only [if_true]; congr 1; omega)
  · rcases Nat.lt_or_ge a.natAbs b.natAbs with h | h
    · exact rplus_lt a b _ _ ha hb (by omega) (by omega) HX HY true false (decide_eq_true ca) (decide_eq_false cb) _ w rfl h (by simp only [Bool.false_eq_true, if_false]; congr 1; omega)
    · exact rplus_ge a b _ _ ha hb (by omega) (by omega) HX HY true false (decide_eq_true ca) (decide_eq_false cb) _ w rfl h (by simp only [if_true]; congr 1; omega)
  · rcases Nat.lt_or_ge a.natAbs b.natAbs with h | h
    · exact rplus_lt a b _ _ ha hb (by omega) (by omega) HX HY false true (decide_eq_false ca) (decide_eq_true cb) _ w rfl h (by simp only [if_true]; congr 1; omega)
    · exact rplus_ge a b _ _ ha hb (by omega) (by omega) HX HY false true (decide_eq_false ca) (decide_eq_true cb) _ w rfl h (by simp only [Bool.false_eq_true, if_false]; congr 1; omega)
  · exact rplus_same a b _ _ ha hb (by omega) (by omega) HX HY false false (decide_eq_false ca) (decide_eq_false cb) _ w rfl (by simp only [Bool.false_eq_true, if_false]; congr 1; omega)

end Go.Proofs.Ytpekofpiodaadaa.Hb
end

section
/- The walks of prod.Floor, vote.Mean, ref04.Floor, ref24.Mean. -/
namespace Go.Proofs.Ytpekofpiodaadaa.Hb
set_option linter.unusedVariables false
set_option linter.unusedSimpArgs false
open Go.RowKit

def resP (p : Int × Int) : Value := .tuple #[.int .i64 p.1, .int .i64 p.2]
theorem ret_pair {a b c d : Int} (h1 : a = c) (h2 : b = d) : Ending.returned (.tuple #[.int .i64 a, .int .i64 b]) = .returned (.tuple #[.int .i64 c, .int .i64 d]) := by rw [h1, h2]
theorem floor_neg {a b : Int} (ha : a < 0) (hb : 0 < b) : ∃ Q, 0 ≤ Q ∧ Q ≤ -a ∧ a.tdiv b = -Q ∧ ((a.tmod b < 0 ∧ a / b = -Q - 1) ∨ (a.tmod b = 0 ∧ a / b = -Q)) := by
  have e1 := Int.mul_ediv_add_emod (-a) b
  have e2 := Int.emod_nonneg (-a) (show b ≠ 0 by omega)
  have e3 := Int.emod_lt_of_pos (-a) hb
  have e4 : 0 ≤ (-a) / b := Int.ediv_nonneg (by omega) (by omega)
  have e5 : a.tdiv b = -((-a) / b) := by
    have := Int.neg_tdiv (-a) b
    rw [Int.neg_neg] at this
    rw [this, Int.tdiv_eq_ediv_of_nonneg (by omega)]
  have e6 : a.tmod b = -((-a) % b) := by
    rw [Int.tmod_def, e5, Int.mul_neg]
    omega
  have e7 : (-a) / b ≤ -a := Int.ediv_le_self _ (by omega)
  refine ⟨_, e4, e7, e5, ?_⟩
  by_cases h : (-a) % b = 0
  · refine .inr ⟨by omega, ?_⟩
    refine ((Int.ediv_emod_unique (a := a) (b := b) (q := -((-a) / b)) (r := 0) hb).2 ⟨?_, by omega, by omega⟩).1
    rw [Int.mul_neg]; omega
  · refine .inl ⟨by omega, ?_⟩
    refine ((Int.ediv_emod_unique (a := a) (b := b) (q := -((-a) / b) - 1) (r := b - (-a) % b) hb).2 ⟨?_, by omega, by omega⟩).1
    rw [Int.mul_sub, Int.mul_neg, Int.mul_one]; omega
theorem floor_k {a b : Int} (ha : a < 0) (hb : 0 < b) : a / b = -((-(a + 1)) / b) - 1 ∧ 0 ≤ (-(a + 1)) / b ∧ (-(a + 1)) / b ≤ -(a + 1) := by
  have e1 := Int.mul_ediv_add_emod (-(a + 1)) b
  have e2 := Int.emod_nonneg (-(a + 1)) (show b ≠ 0 by omega)
  have e3 := Int.emod_lt_of_pos (-(a + 1)) hb
  refine ⟨?_, Int.ediv_nonneg (by omega) (by omega), Int.ediv_le_self _ (by omega)⟩
  refine ((Int.ediv_emod_unique (a := a) (b := b) (q := -((-(a + 1)) / b) - 1) (r := b - (-(a + 1)) % b - 1) hb).2 ⟨?_, by omega, by omega⟩).1
  rw [Int.mul_sub, Int.mul_neg, Int.mul_one]; omega
set_option maxHeartbeats 1000000 in
theorem pfloor_any (a b : Int) (ha : inR a) (hb : inR b) (w : World) : Calls Try.prog 217 #[.int .i64 a, .int .i64 b] w fun e w' => e = .returned (resP (floorO a b)) ∧ w = w' := by
  obtain ⟨a1, a2⟩ := ha
  obtain ⟨b1, b2⟩ := hb
  unfold resP
  by_cases h1 : b < 1
  · have e : floorO a b = (0, 1) := if_pos h1
    rw [e]
    go_enter Try.func217, Try.ntmps217
    go_wp2_with fail
    go_ret2
    exact ⟨rfl, rfl⟩
  · have e : floorO a b = (a / b, 0) := if_neg h1
    rw [e]
    have hb0 : 0 < b := by omega
    have hbz : (b == 0) = false := beq_eq_false_iff_ne.2 (by omega)
    have hbl : decide (b < 1) = false := decide_eq_false h1
    by_cases h2 : 0 ≤ a
    · have q0 : 0 ≤ a / b := Int.ediv_nonneg h2 (by omega)
      have q1 : a / b ≤ 9223372036854775807 := Int.le_trans (Int.ediv_le_self _ h2) a2
      have m0 : decide (a % b < 0) = false := decide_eq_false (by have := Int.emod_nonneg a (show b ≠ 0 by omega); omega)
      go_enter Try.func217, Try.ntmps217
      go_wp2_with fail
      go_ret2
      exact ⟨rfl, rfl⟩
    · obtain ⟨Q, q0, q1, q2, q3⟩ := floor_neg (show a < 0 by omega) hb0
      have q4 : -9223372036854775808 ≤ -Q := by omega
      rcases q3 with ⟨q3, q5⟩ | ⟨q3, q5⟩
      · have m0 : decide (a.tmod b < 0) = true := decide_eq_true q3
        have q6 : -9223372036854775808 ≤ -Q - 1 := by
          have := (Int.mul_ediv_add_emod a b)
          rw [← q5]
          have h3 : a ≤ a / b := by
            have := Int.mul_le_mul_of_nonneg_left (show (1 : Int) ≤ b by omega) q0
            rw [q5]
            by_cases hb1 : b = 1
            · subst hb1; have : a.tmod 1 = 0 := Int.tmod_one a; omega
            · have e1 := Int.mul_ediv_add_emod a b
              have e2 := Int.emod_nonneg a (show b ≠ 0 by omega)
              rw [q5] at e1
              have e4 : b * (-Q - 1) ≤ (-Q - 1) := by
                have : b * (-Q - 1) ≤ 1 * (-Q - 1) := Int.mul_le_mul_of_nonpos_right (by omega) (by omega)
                omega
              have e3 := Int.emod_lt_of_pos a hb0
              have e5 : b * (-Q - 1) = -(b * Q) - b := by rw [Int.mul_sub, Int.mul_neg, Int.mul_one]
              have e6 : 2 * Q ≤ b * Q := Int.mul_le_mul_of_nonneg_right (by omega) q0
              omega
          omega
        have HQ := Lib.hid q5
        clear q3 q5 h1 h2
        go_enter Try.func217, Try.ntmps217
        go_wp2_with fail
        go_ret2
        exact ⟨ret_pair HQ.out.symm rfl, rfl⟩
      · have m0 : decide (a.tmod b < 0) = false := decide_eq_false (by omega)
        have HQ := Lib.hid q5
        clear q3 q5 h1 h2
        go_enter Try.func217, Try.ntmps217
        go_wp2_with fail
        go_ret2
        exact ⟨ret_pair HQ.out.symm rfl, rfl⟩
set_option maxHeartbeats 1000000 in
theorem rfloor_any (a b : Int) (ha : inR a) (hb : inR b) (w : World) : Calls Try.prog 219 #[.int .i64 a, .int .i64 b] w fun e w' => e = .returned (resP (floorO a b)) ∧ w = w' := by
  obtain ⟨a1, a2⟩ := ha
  obtain ⟨b1, b2⟩ := hb
  unfold resP
  by_cases h1 : b < 1
  · have e : floorO a b = (0, 1) := if_pos h1
    rw [e]
    go_enter Try.func219, Try.ntmps219
    go_wp2_with fail
    go_ret2
    exact ⟨rfl, rfl⟩
  · have e : floorO a b = (a / b, 0) := if_neg h1
    rw [e]
    have hb0 : 0 < b := by omega
    have hbz : (b == 0) = false := beq_eq_false_iff_ne.2 (by omega)
    have hbl : decide (b < 1) = false := decide_eq_false h1
    by_cases h2 : 0 ≤ a
    · have q0 : 0 ≤ a / b := Int.ediv_nonneg h2 (by omega)
      have q1 : a / b ≤ 9223372036854775807 := Int.le_trans (Int.ediv_le_self _ h2) a2
      go_enter Try.func219, Try.ntmps219
      go_wp2_with fail
      go_ret2
      exact ⟨rfl, rfl⟩
    · obtain ⟨q0, q1, q2⟩ := floor_k (show a < 0 by omega) hb0
      have q3 : -(a + 1) ≤ 9223372036854775807 := by omega
      have q4 : 0 ≤ -(a + 1) := by omega
      obtain ⟨k, hk⟩ : ∃ k, -(a + 1) = k := ⟨_, rfl⟩
      rw [hk] at q0 q1 q2 q3 q4
      have HQ := Lib.hid q0
      have hneg : decide (0 ≤ a) = false := decide_eq_false h2
      have ha0 : a < 0 := by omega
      have hx : a + 1 = -k := by omega
      clear q0 h1 h2
      go_enter Try.func219, Try.ntmps219
      go_wp2_with fail
      go_ret2
      exact ⟨ret_pair HQ.out.symm rfl, rfl⟩
end Go.Proofs.Ytpekofpiodaadaa.Hb
end

section
/- The walks of vote.Mean. -/
namespace Go.Proofs.Ytpekofpiodaadaa.Hb
set_option linter.unusedVariables false
set_option linter.unusedSimpArgs false
open Go.RowKit

set_option maxRecDepth 100000 in
set_option maxHeartbeats 2000000 in
theorem mean_any (l : List Nd) (A : Option Addr) (cap : Nat) (w : World) (hr : RN w A l) (hl : l.length ≤ 9223372036854775807) :
    Calls Try.prog 197 #[.slice A l.length cap] w fun e w' => e = .returned (resP (meanO l)) ∧ Below w.heap.size w w' := by
  obtain ⟨n, hn⟩ : ∃ n, l.length = n := ⟨_, rfl⟩
  rw [hn] at hl ⊢
  unfold resP
  by_cases h0 : n = 0
  · subst h0
    have e0 : l = [] := List.length_eq_zero_iff.1 hn
    have e : meanO l = (0, 1) := if_pos e0
    rw [e]
    clear hn hr e e0
    go_enter Try.func197, Try.ntmps197
    go_wp2_with fail
    go_ret2
    exact ⟨rfl, Below.refl _ _⟩
  have e : meanO l = meanGo l 0 0 := if_neg (fun e => h0 (by rw [← hn, e]; rfl))
  obtain ⟨⟨rv, re⟩, hR⟩ : ∃ R, meanO l = R := ⟨_, rfl⟩
  rw [hR]
  rw [e] at hR
  have HGO := Lib.hid hR
  have HN := Lib.hid hn
  have HRN := Lib.hid hr
  have hn0 : ((n : Int) == 0) = false := beq_eq_false_iff_ne.2 (by omega)
  have hn0' : (n == 0) = false := beq_eq_false_iff_ne.2 h0
  clear hR hn hr e h0
  go_enter Try.func197, Try.ntmps197
  go_wp2_with fail
  clear hn0 hn0'
  go_loopw [4, 5, 14] (fun sv cv iv wr => ∃ (k : Nat) (s c : Int), k ≤ n ∧ iv = .int .i64 k ∧ sv = .int .i64 s ∧ cv = .int .i64 c ∧ Hid (meanGo (l.drop k) c s = (rv, re) ∧ inR s ∧ inR c ∧ Below w.heap.size w wr)) (fun _ _ iv _ => n - (intOf iv).toNat)
  case atStart => exact ⟨0, 0, 0, Nat.zero_le _, rfl, rfl, rfl, Lib.hid ⟨by rw [List.drop_zero]; exact HGO.out, by unfold inR; omega, by unfold inR; omega, Below.refl _ _⟩⟩
  case round =>
    obtain ⟨k, s, c, hk, rfl, rfl, rfl, HI⟩ := hrel
    by_cases hlt : k < n
    · have hlt' : (k : Int) < n := by omega
      obtain ⟨ad, rfl, x, hx, hxok, hat⟩ := (HRN.out.below HI.out.2.2.2).at (i := k) (by rw [HN.out]; exact hlt)
      have HDR := Lib.hid (drop_nd hx)
      obtain ⟨p0, p1, p2, p3, p4, p5⟩ := hat
      have HXO := Lib.hid hxok
      have hbe : Hid (∀ o, Below w.heap.size w (wr.alloc o)) := Lib.hid (fun o => HI.out.2.2.2.alloc HI.out.2.2.2.size o)
      clear hx hxok
      by_cases h1 : x.k < 1
      · have HE := Lib.hid h1
        obtain ⟨f, b, ll, cc, sx, q⟩ := x
        simp only at p0 p1 p2 p3 p4 p5 h1
        have hres : Hid ((rv, re) = (0, 5)) := Lib.hid (by rw [← HI.out.1, HDR.out]; exact mean_5 HE.out)
        go_wp2_with fail
        go_ret2
        refine ⟨ret_pair ?_ ?_, hbe.out _⟩
        · have := congrArg Prod.fst hres.out; exact this.symm
        · have := congrArg Prod.snd hres.out; exact this.symm
      · have KP := Lib.hid (pplus_any c x.k HI.out.2.2.1 HXO.out.2.2.2.2.2)
        have KQ := Lib.hid (pplus_any s x.s HI.out.2.1 HXO.out.2.2.2.2.1)
        have HE := Lib.hid h1
        have h2 : decide (x.k < 1) = false := decide_eq_false h1
        cases hc : lim (c + x.k) with
        | none =>
          rw [hc] at KP
          have hres : Hid ((rv, re) = (0, 6)) := Lib.hid (by rw [← HI.out.1, HDR.out]; exact mean_6 HE.out hc)
          obtain ⟨f, b, ll, cc, sx, q⟩ := x
          simp only [res] at p0 p1 p2 p3 p4 p5 h2 KP
          clear hc h1 KQ
          go_wp2_with fail
          refine (KP.out _).mono ?_
          rintro e w1 ⟨rfl, rfl⟩
          go_wp2_with fail
          go_ret2
          refine ⟨ret_pair ?_ ?_, hbe.out _⟩
          · have := congrArg Prod.fst hres.out; exact this.symm
          · have := congrArg Prod.snd hres.out; exact this.symm
        | some c' =>
          rw [hc] at KP
          have hc1 := lim_some hc
          cases hs : lim (s + x.s) with
          | none =>
            rw [hs] at KQ
            have hres : Hid ((rv, re) = (0, 6)) := Lib.hid (by rw [← HI.out.1, HDR.out]; exact mean_6' HE.out hc hs)
            obtain ⟨f, b, ll, cc, sx, q⟩ := x
            simp only [res] at p0 p1 p2 p3 p4 p5 h2 KP KQ
            clear hc h1 hc1 hs
            go_wp2_with fail
            refine (KP.out _).mono ?_
            rintro e w1 ⟨rfl, rfl⟩
            go_wp2_with fail
            refine (KQ.out _).mono ?_
            rintro e w1 ⟨rfl, rfl⟩
            go_wp2_with fail
            go_ret2
            refine ⟨ret_pair ?_ ?_, hbe.out _⟩
            · have := congrArg Prod.fst hres.out; exact this.symm
            · have := congrArg Prod.snd hres.out; exact this.symm
          | some s' =>
            rw [hs] at KQ
            have hs1 := lim_some hs
            have hnew : Hid (meanGo (l.drop (k + 1)) c' s' = (rv, re) ∧ inR s' ∧ inR c') := Lib.hid (by
              refine ⟨?_, by rw [hs1.1]; exact hs1.2, by rw [hc1.1]; exact hc1.2⟩
              rw [← HI.out.1, HDR.out]; exact (mean_go HE.out hc hs).symm)
            obtain ⟨f, b, ll, cc, sx, q⟩ := x
            simp only [res] at p0 p1 p2 p3 p4 p5 h2 KP KQ
            clear hc h1 hc1 hs hs1
            go_wp2_with fail
            refine (KP.out _).mono ?_
            rintro e w1 ⟨rfl, rfl⟩
            go_wp2_with fail
            refine (KQ.out _).mono ?_
            rintro e w1 ⟨rfl, rfl⟩
            go_wp2_with fail
            go_roundw
            case rel => exact ⟨k + 1, s', c', hlt, by go_num, rfl, rfl, Lib.hid ⟨hnew.out.1, hnew.out.2.1, hnew.out.2.2, hbe.out _⟩⟩
            case measure => simp [intOf]; omega
    · obtain rfl : k = n := by omega
      have KF := Lib.hid (pfloor_any s c HI.out.2.1 HI.out.2.2.1)
      have hres : Hid (floorO s c = (rv, re)) := Lib.hid (by
        have := HI.out.1
        rwa [List.drop_of_length_le (by rw [HN.out]; exact Nat.le_refl _), meanGo] at this)
      rw [hres.out] at KF
      unfold resP at KF
      go_wp2_with fail
      refine (KF.out _).mono ?_
      rintro e w1 ⟨rfl, rfl⟩
      go_wp2_with fail
      go_ret2
      exact ⟨rfl, HI.out.2.2.2⟩
end Go.Proofs.Ytpekofpiodaadaa.Hb
end

section
/- The walks of ref24.Mean. -/
namespace Go.Proofs.Ytpekofpiodaadaa.Hb
set_option linter.unusedVariables false
set_option linter.unusedSimpArgs false
open Go.RowKit

set_option maxRecDepth 100000 in
set_option maxHeartbeats 2000000 in
theorem rmean_any (l : List Nd) (A : Option Addr) (cap : Nat) (w : World) (hr : RN w A l) (hl : l.length ≤ 9223372036854775807) :
    Calls Try.prog 200 #[.slice A l.length cap] w fun e w' => e = .returned (resP (meanO l)) ∧ Below w.heap.size w w' := by
  obtain ⟨n, hn⟩ : ∃ n, l.length = n := ⟨_, rfl⟩
  rw [hn] at hl ⊢
  unfold resP
  by_cases h0 : n = 0
  · subst h0
    have e0 : l = [] := List.length_eq_zero_iff.1 hn
    have e : meanO l = (0, 1) := if_pos e0
    rw [e]
    clear hn hr e e0
    go_enter Try.func200, Try.ntmps200
    go_wp2_with fail
    go_ret2
    exact ⟨rfl, Below.refl _ _⟩
  have e : meanO l = meanGo l 0 0 := if_neg (fun e => h0 (by rw [← hn, e]; rfl))
  obtain ⟨⟨rv, re⟩, hR⟩ : ∃ R, meanO l = R := ⟨_, rfl⟩
  rw [hR]
  rw [e] at hR
  have HGO := Lib.hid hR
  have HN := Lib.hid hn
  have HRN := Lib.hid hr
  have hn0 : ((n : Int) == 0) = false := beq_eq_false_iff_ne.2 (by omega)
  have hn0' : (n == 0) = false := beq_eq_false_iff_ne.2 h0
  clear hR hn hr e h0
  go_enter Try.func200, Try.ntmps200
  go_wp2_with fail
  clear hn0 hn0'
  go_loopw [4, 5, 6] (fun sv cv iv wr => ∃ (k : Nat) (s c : Int), k ≤ n ∧ iv = .int .i64 k ∧ sv = .int .i64 s ∧ cv = .int .i64 c ∧ Hid (meanGo (l.drop k) c s = (rv, re) ∧ inR s ∧ inR c ∧ Below w.heap.size w wr)) (fun _ _ iv _ => n - (intOf iv).toNat)
  case atStart => exact ⟨0, 0, 0, Nat.zero_le _, rfl, rfl, rfl, Lib.hid ⟨by rw [List.drop_zero]; exact HGO.out, by unfold inR; omega, by unfold inR; omega, Below.refl _ _⟩⟩
  case round =>
    obtain ⟨k, s, c, hk, rfl, rfl, rfl, HI⟩ := hrel
    by_cases hlt : k < n
    · have hlt' : (k : Int) < n := by omega
      obtain ⟨ad, rfl, x, hx, hxok, hat⟩ := (HRN.out.below HI.out.2.2.2).at (i := k) (by rw [HN.out]; exact hlt)
      have HDR := Lib.hid (drop_nd hx)
      have HAT := Lib.hid hat
      obtain ⟨p0, p1, p2, p3, p4, p5⟩ := hat
      have HXO := Lib.hid hxok
      have hbe : Hid (Below w.heap.size w wr) := Lib.hid HI.out.2.2.2
      clear hx hxok
      by_cases h1 : x.k < 1
      · have HE := Lib.hid h1
        obtain ⟨f, b, ll, cc, sx, q⟩ := x
        simp only at p0 p1 p2 p3 p4 p5 h1
        have hres : Hid ((rv, re) = (0, 5)) := Lib.hid (by rw [← HI.out.1, HDR.out]; exact mean_5 HE.out)
        go_wp2_with fail
        go_ret2
        refine ⟨ret_pair ?_ ?_, hbe.out⟩
        · have := congrArg Prod.fst hres.out; exact this.symm
        · have := congrArg Prod.snd hres.out; exact this.symm
      · have KP := Lib.hid (rplus_any c x.k HI.out.2.2.1 HXO.out.2.2.2.2.2)
        have KQ := Lib.hid (rplus_any s x.s HI.out.2.1 HXO.out.2.2.2.2.1)
        have HE := Lib.hid h1
        have h2 : decide (x.k < 1) = false := decide_eq_false h1
        cases hc : lim (c + x.k) with
        | none =>
          rw [hc] at KP
          have hres : Hid ((rv, re) = (0, 6)) := Lib.hid (by rw [← HI.out.1, HDR.out]; exact mean_6 HE.out hc)
          obtain ⟨f, b, ll, cc, sx, q⟩ := x
          unfold RefOp at KP
          simp only [res] at p0 p1 p2 p3 p4 p5 h2 KP
          clear hc h1 KQ
          go_wp2_with fail
          refine (KP.out _).mono ?_
          rintro e w1 ⟨rfl, hb⟩
          clear p0 p1 p2 p3 p4 p5
          obtain ⟨p0, p1, p2, p3, p4, p5⟩ := HAT.out.below hb
          simp only at p0 p1 p2 p3 p4 p5
          have hbe1 := Lib.hid (hbe.out.trans (hb.mono hbe.out.size))
          clear hb
          go_wp2_with fail
          go_ret2
          refine ⟨ret_pair ?_ ?_, hbe1.out⟩
          · have := congrArg Prod.fst hres.out; exact this.symm
          · have := congrArg Prod.snd hres.out; exact this.symm
        | some c' =>
          rw [hc] at KP
          have hc1 := lim_some hc
          cases hs : lim (s + x.s) with
          | none =>
            rw [hs] at KQ
            have hres : Hid ((rv, re) = (0, 6)) := Lib.hid (by rw [← HI.out.1, HDR.out]; exact mean_6' HE.out hc hs)
            obtain ⟨f, b, ll, cc, sx, q⟩ := x
            unfold RefOp at KP KQ
            simp only [res] at p0 p1 p2 p3 p4 p5 h2 KP KQ
            clear hc h1 hc1 hs
            go_wp2_with fail
            refine (KP.out _).mono ?_
            rintro e w1 ⟨rfl, hb⟩
            clear p0 p1 p2 p3 p4 p5
            obtain ⟨p0, p1, p2, p3, p4, p5⟩ := HAT.out.below hb
            simp only at p0 p1 p2 p3 p4 p5
            have hbe1 := Lib.hid (hbe.out.trans (hb.mono hbe.out.size))
            clear hb
            go_wp2_with fail
            refine (KQ.out _).mono ?_
            rintro e w2 ⟨rfl, hb⟩
            have hbe2 := Lib.hid (hbe1.out.trans (hb.mono hbe1.out.size))
            clear hb
            go_wp2_with fail
            go_ret2
            refine ⟨ret_pair ?_ ?_, hbe2.out⟩
            · have := congrArg Prod.fst hres.out; exact this.symm
            · have := congrArg Prod.snd hres.out; exact this.symm
          | some s' =>
            rw [hs] at KQ
            have hs1 := lim_some hs
            have hnew : Hid (meanGo (l.drop (k + 1)) c' s' = (rv, re) ∧ inR s' ∧ inR c') := Lib.hid (by
              refine ⟨?_, by rw [hs1.1]; exact hs1.2, by rw [hc1.1]; exact hc1.2⟩
              rw [← HI.out.1, HDR.out]; exact (mean_go HE.out hc hs).symm)
            obtain ⟨f, b, ll, cc, sx, q⟩ := x
            unfold RefOp at KP KQ
            simp only [res] at p0 p1 p2 p3 p4 p5 h2 KP KQ
            clear hc h1 hc1 hs hs1
            go_wp2_with fail
            refine (KP.out _).mono ?_
            rintro e w1 ⟨rfl, hb⟩
            clear p0 p1 p2 p3 p4 p5
            obtain ⟨p0, p1, p2, p3, p4, p5⟩ := HAT.out.below hb
            simp only at p0 p1 p2 p3 p4 p5
            have hbe1 := Lib.hid (hbe.out.trans (hb.mono hbe.out.size))
            clear hb
            go_wp2_with fail
            refine (KQ.out _).mono ?_
            rintro e w2 ⟨rfl, hb⟩
            have hbe2 := Lib.hid (hbe1.out.trans (hb.mono hbe1.out.size))
            clear hb
            go_wp2_with fail
            go_roundw
            case rel => exact ⟨k + 1, s', c', hlt, by go_num, rfl, rfl, Lib.hid ⟨hnew.out.1, hnew.out.2.1, hnew.out.2.2, hbe2.out⟩⟩
            case measure => simp [intOf]; omega
    · obtain rfl : k = n := by omega
      have KF := Lib.hid (rfloor_any s c HI.out.2.1 HI.out.2.2.1)
      have hres : Hid (floorO s c = (rv, re)) := Lib.hid (by
        have := HI.out.1
        rwa [List.drop_of_length_le (by rw [HN.out]; exact Nat.le_refl _), meanGo] at this)
      rw [hres.out] at KF
      unfold resP at KF
      go_wp2_with fail
      refine (KF.out _).mono ?_
      rintro e w1 ⟨rfl, rfl⟩
      go_wp2_with fail
      go_ret2
      exact ⟨rfl, HI.out.2.2.2⟩
end Go.Proofs.Ytpekofpiodaadaa.Hb
end

section
/- The walk of vote.Class, with its table of counts. -/
namespace Go.Proofs.Ytpekofpiodaadaa.Hb
set_option linter.unusedVariables false
set_option linter.unusedSimpArgs false
open Go.RowKit

section
variable {P : Program}
theorem run_alloc_row (w : World) (t : TypeId) (i : TypeInfo) (z : Array Value) (hi : P.info? t = some i) (hz : i.zero = some (.agg z)) : (Instr.alloc t true (.tuple #[])).run P w = .ok (.pointer (some ⟨w.heap.size, 0, none⟩)) (w.alloc (.cells z t)) := by
  simp [Instr.alloc, zeroValue, typeInfo, hi, hz, newVar, newRow, Value.cells]
theorem run_index_row (w : World) (t e : TypeId) (n : Nat) (cs : Array Value) (k : Nat) (v : Value) (h : P.underlying t = some (.array n e)) (hk : k < n) (he : P.underlying e = some (.int .i64)) (hs : (P.info? e).map (·.size) = some 1) (hv : cs[k]? = some v) :
    (Instr.index t (.agg cs) (.int .i64 k)).run P w = .ok v w := by
  have hk' : (k : Int) < n := by omega
  cases hq : P.info? e with
  | none => simp [hq] at hs
  | some i =>
    have hs' : i.size = 1 := by simpa [hq] using hs
    simp [Instr.index, asIntOf, run_underlying h, run_underlying he, hk', part, isAgg, sizeOf, typeInfo, hq, hs', hv]
    intro h9; omega
end
def cntV (f : Nat → Nat) : Array Value := ((List.range 256).map fun c => Value.int .i64 (f c : Nat)).toArray
theorem cntV_get (f : Nat → Nat) {c : Nat} (h : c < 256) : (cntV f)[c]? = some (.int .i64 (f c : Nat)) := by
  unfold cntV
  rw [List.getElem?_toArray, List.getElem?_map, List.getElem?_range h]
  rfl
theorem cntV_size (f : Nat → Nat) : (cntV f).size = 256 := by simp [cntV]
theorem cntV_set (f : Nat → Nat) (c v : Nat) : (cntV f).setIfInBounds c (.int .i64 (v : Nat)) = cntV (fun k => if k = c then v else f k) := by
  apply Array.ext_getElem?
  intro k
  rw [Array.getElem?_setIfInBounds]
  by_cases hk : k < 256
  · rw [cntV_get _ hk]
    by_cases hc : c = k
    · subst hc
      rw [if_pos rfl, if_pos (by rw [cntV_size]; exact hk), cntV_get _ hk, if_pos rfl]
    · rw [if_neg hc, cntV_get _ hk, if_neg (fun e => hc e.symm)]
  · have h1 : (cntV f)[k]? = none := by simp [cntV_size]; omega
    have h2 : (cntV (fun k => if k = c then v else f k))[k]? = none := by simp [cntV_size]; omega
    rw [h1, h2]
    split
    · rw [cntV_size, if_neg (by omega)]
    · rfl
theorem cnt_snoc (l : List Nd) (x : Nd) (c : Nat) (hx : x.c = c) : cntC (l ++ [x]) = fun k => if k = c then cntC l c + 1 else cntC l k := by
  funext k
  unfold cntC
  rw [List.filter_append, List.length_append]
  by_cases hk : k = c
  · subst hk
    rw [if_pos rfl, List.filter_cons, if_pos (by simp [hx])]
    rfl
  · rw [if_neg hk, List.filter_cons, if_neg (by simp [hx]; omega)]
    rfl
theorem cnt_le (l : List Nd) (c : Nat) : cntC l c ≤ l.length := List.length_filter_le _ _
theorem zero_cnt : Try.zeroCells298 = cntV fun _ => 0 := by kernel_rfl
theorem info_cnt : (Try.prog.info? 298).map (fun i => (i.zero, i.size)) = some (some (.agg (cntV fun _ => 0)), 256) := by kernel_rfl
theorem take_snocN {l : List Nd} {k : Nat} {x : Nd} (h : l[k]? = some x) : l.take (k + 1) = l.take k ++ [x] := by
  obtain ⟨hk, rfl⟩ := List.getElem?_eq_some_iff.1 h
  exact List.take_succ_eq_append_getElem hk
theorem class_1 {l : List Nd} {classes : Int} (h : l = [] ∨ classes < 1 ∨ 256 < classes) : classO l classes = (0, 1) := if_pos h
theorem class_go {l : List Nd} {classes : Int} (h : ¬ (l = [] ∨ classes < 1 ∨ 256 < classes)) : classO l classes = if l.any (offC classes) = true then ((0, 5) : Int × Int) else (((bestUp (cntC l) 256 : Nat) : Int), 0) := if_neg h
set_option maxRecDepth 100000 in
set_option maxHeartbeats 4000000 in
theorem class_any (l : List Nd) (classes : Int) (A : Option Addr) (cap : Nat) (w : World) (hr : RN w A l) (hl : l.length ≤ 9223372036854775806) :
    Calls Try.prog 196 #[.slice A l.length cap, .int .i64 classes] w fun e w' => e = .returned (resP (classO l classes)) ∧ Below w.heap.size w w' := by
  obtain ⟨n, hn⟩ : ∃ n, l.length = n := ⟨_, rfl⟩
  rw [hn] at hl ⊢
  unfold resP
  by_cases h0 : n = 0
  · subst h0
    have e0 : l = [] := List.length_eq_zero_iff.1 hn
    rw [class_1 (.inl e0)]
    clear hn hr e0
    go_enter Try.func196, Try.ntmps196
    go_wp2_with fail
    go_ret2
    exact ⟨rfl, Below.refl _ _⟩
  have hn0 : ((n : Int) == 0) = false := beq_eq_false_iff_ne.2 (by omega)
  have hn0' : (n == 0) = false := beq_eq_false_iff_ne.2 h0
  by_cases hc : classes < 1 ∨ 256 < classes
  · rw [class_1 (.inr hc)]
    rcases hc with hc | hc
    · have c1 : decide (classes < 1) = true := decide_eq_true hc
      go_enter Try.func196, Try.ntmps196
      go_wp2_with fail
      go_ret2
      exact ⟨rfl, Below.refl _ _⟩
    · have c1 : decide (classes < 1) = false := decide_eq_false (by omega)
      have c2 : decide (256 < classes) = true := decide_eq_true hc
      go_enter Try.func196, Try.ntmps196
      go_wp2_with fail
      go_ret2
      exact ⟨rfl, Below.refl _ _⟩
  have hcl1 : 1 ≤ classes := by omega
  have hcl2 : classes ≤ 256 := by omega
  have hl0 : l ≠ [] := fun e => h0 (by rw [← hn, e]; rfl)
  have HGO : Hid (classO l classes = if l.any (offC classes) = true then ((0, 5) : Int × Int) else (((bestUp (cntC l) 256 : Nat) : Int), 0)) := Lib.hid (class_go (by rintro (h | h); exact hl0 h; exact hc h))
  obtain ⟨⟨rv, re⟩, hR⟩ : ∃ R, classO l classes = R := ⟨_, rfl⟩
  rw [hR] at HGO ⊢
  have HN := Lib.hid hn
  have HRN := Lib.hid hr
  have c1 : decide (classes < 1) = false := decide_eq_false (by omega)
  have c2 : decide (256 < classes) = false := decide_eq_false (by omega)
  clear hR hn hr h0 hc hl0
  go_enter Try.func196, Try.ntmps196
  go_wp2_with fail
  clear hn0 hn0'
  go_loopw [25] (fun iv wr => ∃ k : Nat, k ≤ n ∧ iv = .int .i64 k ∧ Blk wr w.heap.size (cntV (cntC (l.take k))) 298 ∧ Hid ((l.take k).any (offC classes) = false ∧ Below w.heap.size w wr)) (fun iv _ => n - (intOf iv).toNat)
  case atStart =>
    refine ⟨0, Nat.zero_le _, rfl, ?_, Lib.hid ⟨rfl, (Below.refl _ _).alloc (Nat.le_refl _) _⟩⟩
    have := Blk.new w Try.zeroCells298 298
    rw [zero_cnt] at this
    exact this
  case round =>
    obtain ⟨k, hk, rfl, kB, HI⟩ := hrel
    by_cases hlt : k < n
    · have hlt' : (k : Int) < n := by omega
      obtain ⟨ad, rfl, x, hx, hxok, hat⟩ := (HRN.out.below HI.out.2).at (i := k) (by rw [HN.out]; exact hlt)
      have HX := Lib.hid hx
      have hbe : Hid (∀ o, Below w.heap.size w (wr.alloc o)) := Lib.hid (fun o => HI.out.2.alloc HI.out.2.size o)
      have hlB := kB.lt
      by_cases hoff : x.c < 0 ∨ classes ≤ x.c
      · have hres : Hid ((rv, re) = (0, 5)) := Lib.hid (by
          rw [HGO.out, if_pos]
          refine List.any_eq_true.2 ⟨x, List.mem_of_getElem? hx, decide_eq_true hoff⟩)
        obtain ⟨p0, p1, p2, p3, p4, p5⟩ := hat
        obtain ⟨f, b, ll, cc, sx, q⟩ := x
        simp only at p0 p1 p2 p3 p4 p5 hoff
        clear hx hxok kB
        rcases hoff with hoff | hoff
        · have d1 : decide (cc < 0) = true := decide_eq_true hoff
          go_wp2_with fail
          go_ret2
          refine ⟨ret_pair ?_ ?_, hbe.out _⟩
          · have := congrArg Prod.fst hres.out; exact this.symm
          · have := congrArg Prod.snd hres.out; exact this.symm
        · have d1 : decide (cc < 0) = false := decide_eq_false (by omega)
          have d2 : decide (classes ≤ cc) = true := decide_eq_true hoff
          go_wp2_with fail
          go_ret2
          refine ⟨ret_pair ?_ ?_, hbe.out _⟩
          · have := congrArg Prod.fst hres.out; exact this.symm
          · have := congrArg Prod.snd hres.out; exact this.symm
      · have hcc0 : 0 ≤ x.c := by omega
        obtain ⟨c, hc⟩ := Int.eq_ofNat_of_zero_le hcc0
        have hc256 : c < 256 := by omega
        have hany : Hid ((l.take (k + 1)).any (offC classes) = false) := Lib.hid (by
          rw [take_snocN hx, List.any_append, HI.out.1]
          simp [offC]; omega)
        have hcnt : Hid (cntV (cntC (l.take (k + 1))) = (cntV (cntC (l.take k))).setIfInBounds c (.int .i64 (((cntC (l.take k) c : Nat) : Int) + 1))) := Lib.hid (by
          rw [take_snocN hx, cnt_snoc _ _ _ hc, ← Int.natCast_succ, cntV_set])
        have hle := cnt_le (l.take k) c
        have hle2 : (l.take k).length ≤ k := List.length_take_le _ _
        have r0 := kB.cell c
        rw [cntV_get _ hc256] at r0
        obtain ⟨m, hm⟩ : ∃ m, cntC (l.take k) c = m := ⟨_, rfl⟩
        rw [hm] at r0 hle hcnt
        have hm2 : m ≤ 9223372036854775806 := by omega
        obtain ⟨p0, p1, p2, p3, p4, p5⟩ := hat
        obtain ⟨f, b, ll, cc, sx, q⟩ := x
        simp only at p0 p1 p2 p3 p4 p5 hoff hc hcc0
        subst hc
        have d1 : decide ((c : Int) < 0) = false := decide_eq_false (by omega)
        have d2 : decide (classes ≤ (c : Int)) = false := decide_eq_false (by omega)
        have hc256' : (c : Int) < 256 := by omega
        have r6 := kB.frozen c
        have hne : w.heap.size ≠ wr.heap.size := by omega
        have hne' : wr.heap.size ≠ w.heap.size := by omega
        have KB := Lib.hid kB
        clear hx hxok hm hle hle2 kB hoff
        go_wp2_with fail
        go_roundw
        case rel =>
          refine ⟨k + 1, hlt, by go_num, ?_, Lib.hid ⟨hany.out, (HI.out.2.setCell (p := ⟨w.heap.size, c, none⟩) (Nat.le_refl _) _).alloc (by simp; exact HI.out.2.size) _⟩⟩
          rw [hcnt.out]
          exact (KB.out.set c _).below ((Below.refl _ _).alloc (Nat.le_refl _) _)
        case measure => simp [intOf]; omega
    · obtain rfl : k = n := by omega
      have htk : l.take k = l := List.take_of_length_le (by rw [HN.out]; exact Nat.le_refl _)
      rw [htk] at kB HI
      have hres : Hid ((rv, re) = (((bestUp (cntC l) 256 : Nat) : Int), 0)) := Lib.hid (by
        rw [HGO.out, HI.out.1, if_neg (by simp)])
      obtain ⟨f, hf⟩ : ∃ f, cntC l = f := ⟨_, rfl⟩
      have hrv : Hid (rv = ((bestUp f 256 : Nat) : Int) ∧ re = 0) := Lib.hid ⟨by rw [← hf]; exact congrArg Prod.fst hres.out, congrArg Prod.snd hres.out⟩
      rw [hf] at kB
      obtain ⟨V, hV⟩ : ∃ V, cntV f = V := ⟨_, rfl⟩
      have ix : Hid (∀ (j : Nat) (w : World), j < 256 → (Instr.index 298 (.agg V) (.int .i64 j)).run Try.prog w = .ok (.int .i64 (f j : Nat)) w) := Lib.hid (fun j w hj => run_index_row w _ 3 256 V j _ Try.underlying298 hj Try.underlying3 (by kernel_rfl) (by rw [← hV]; exact cntV_get f hj))
      have cl : Hid (∀ j, j < 256 → wr.cell? ⟨w.heap.size, j, none⟩ = some (.int .i64 (f j : Nat))) := Lib.hid (fun j hj => by rw [kB.cell j, cntV_get f hj])
      have hsz : (Try.prog.info? 298).map (·.size) = some V.size := by rw [← hV, cntV_size]; kernel_rfl
      rw [hV] at kB
      clear hV htk hres hf
      go_wp2_with (refine wpList_load_row rfl 298 (.tmp 6) rfl w.heap.size rfl 298 V (0, 0) _ kB Try.underlying298 rfl hsz ?_)
      have hlB := kB.lt
      clear hsz kB
      go_loop [9, 46] (fun bv iv => ∃ k : Nat, k ≤ 256 ∧ iv = .int .i64 k ∧ bv = .int .i64 (bestUp f k : Nat)) (fun _ iv => 256 - (intOf iv).toNat)
      case atStart => exact ⟨0, by omega, rfl, rfl⟩
      case round =>
        obtain ⟨j, hj, rfl, rfl⟩ := hrel
        by_cases hjlt : j < 256
        · have hjlt' : (j : Int) < 256 := by omega
          have hb : bestUp f j < 256 := by
            rcases Nat.eq_zero_or_pos j with rfl | hp
            · exact (by decide : 0 < 256)
            · have := (best_up f j hp).1; omega
          have x1 := fun w => ix.out j w hjlt
          have x2 := cl.out _ hb
          have hs : Hid (bestUp f (j + 1) = if f (bestUp f j) < f j then j else bestUp f j) := Lib.hid rfl
          obtain ⟨b, hbb⟩ : ∃ b, bestUp f j = b := ⟨_, rfl⟩
          rw [hbb] at hb x2 hs ⊢
          have hb' : (b : Int) < 256 := by omega
          obtain ⟨u, hu⟩ : ∃ u, f j = u := ⟨_, rfl⟩
          obtain ⟨v, hv⟩ : ∃ v, f b = v := ⟨_, rfl⟩
          rw [hu] at x1 hs
          rw [hv] at x2 hs
          clear hbb hu hv
          by_cases hcmp : v < u
          · have d1 : decide (v < u) = true := decide_eq_true hcmp
            have d2 : decide ((v : Int) < u) = true := decide_eq_true (by omega)
            have HC := Lib.hid hcmp
            clear hcmp
            go_wp2_with fail
            go_round
            case rel => exact ⟨j + 1, hjlt, by go_num, by rw [hs.out, if_pos HC.out]⟩
            case measure => simp [intOf]; omega
          · have d1 : decide (v < u) = false := decide_eq_false hcmp
            have d2 : decide ((v : Int) < u) = false := decide_eq_false (by omega)
            have HC := Lib.hid hcmp
            clear hcmp
            go_wp2_with fail
            go_round
            case rel => exact ⟨j + 1, hjlt, by go_num, by rw [hs.out, if_neg HC.out]⟩
            case measure => simp [intOf]; omega
        · obtain rfl : j = 256 := by omega
          go_wp2_with fail
          go_ret2
          exact ⟨ret_pair hrv.out.1.symm hrv.out.2.symm, HI.out.2⟩
end Go.Proofs.Ytpekofpiodaadaa.Hb
end

section
/- The walks of vote.Vote, ref24.Class, ref24.Vote. -/
namespace Go.Proofs.Ytpekofpiodaadaa.Hb
set_option linter.unusedVariables false
set_option linter.unusedSimpArgs false
open Go.RowKit

def cfgA (k cl b t d l p : Int) : Array Value := #[.int .i64 k, .int .i64 cl, .int .i64 b, .int .i64 t, .int .i64 d, .int .i64 l, .int .i64 p]
set_option maxRecDepth 100000 in
set_option maxHeartbeats 2000000 in
theorem vote_any (k cl b t d l p : Int) (xs : List Nd) (A : Option Addr) (cap : Nat) (w : World) (hr : RN w A xs) (hl : xs.length ≤ 9223372036854775806) :
    Calls Try.prog 159 #[.agg (cfgA k cl b t d l p), .slice A xs.length cap] w fun e w' => e = .returned (resP (voteO k cl xs)) ∧ Below w.heap.size w w' := by
  have KC := Lib.hid (fun w hr => class_any xs cl A cap w hr hl)
  have KM := Lib.hid (fun w hr => mean_any xs A cap w hr (by omega))
  have HR := Lib.hid hr
  obtain ⟨n, hn⟩ : ∃ n, xs.length = n := ⟨_, rfl⟩
  rw [hn] at KC KM ⊢
  clear hr hn hl
  unfold cfgA resP
  by_cases h0 : k = 0
  · have e : voteO k cl xs = classO xs cl := if_pos h0
    rw [e]
    obtain ⟨⟨rv, re⟩, hR⟩ : ∃ R, classO xs cl = R := ⟨_, rfl⟩
    rw [hR] at KC ⊢
    unfold resP at KC
    have k1 : (k == 0) = true := beq_iff_eq.2 h0
    clear h0 hR e KM
    go_enter Try.func159, Try.ntmps159
    go_wp2_with fail
    refine (KC.out _ (HR.out.below ((Below.refl _ w).alloc (Nat.le_refl _) _))).mono ?_
    rintro e w1 ⟨rfl, hb⟩
    have be : Below w.heap.size w w1 := ((Below.refl _ w).alloc (Nat.le_refl _) _).trans (hb.mono (by simp))
    clear hb
    go_wp2_with fail
    go_ret2
    exact ⟨rfl, be⟩
  · have k1 : (k == 0) = false := beq_eq_false_iff_ne.2 h0
    by_cases h1 : k = 1
    · have e : voteO k cl xs = meanO xs := (if_neg h0).trans (if_pos h1)
      rw [e]
      obtain ⟨⟨rv, re⟩, hR⟩ : ∃ R, meanO xs = R := ⟨_, rfl⟩
      rw [hR] at KM ⊢
      unfold resP at KM
      have k2 : (k == 1) = true := beq_iff_eq.2 h1
      clear h0 h1 hR e KC
      go_enter Try.func159, Try.ntmps159
      go_wp2_with fail
      refine (KM.out _ (HR.out.below ((Below.refl _ w).alloc (Nat.le_refl _) _))).mono ?_
      rintro e w1 ⟨rfl, hb⟩
      have be : Below w.heap.size w w1 := ((Below.refl _ w).alloc (Nat.le_refl _) _).trans (hb.mono (by simp))
      clear hb
      go_wp2_with fail
      go_ret2
      exact ⟨rfl, be⟩
    · have e : voteO k cl xs = (0, 1) := (if_neg h0).trans (if_neg h1)
      rw [e]
      have k2 : (k == 1) = false := beq_eq_false_iff_ne.2 h1
      clear h0 h1 e
      go_enter Try.func159, Try.ntmps159
      go_wp2_with fail
      go_ret2
      exact ⟨rfl, (Below.refl _ w).alloc (Nat.le_refl _) _⟩
set_option maxRecDepth 100000 in
set_option maxHeartbeats 4000000 in
theorem rclass_any (l : List Nd) (classes : Int) (A : Option Addr) (cap : Nat) (w : World) (hr : RN w A l) (hl : l.length ≤ 9223372036854775806) :
    Calls Try.prog 199 #[.slice A l.length cap, .int .i64 classes] w fun e w' => e = .returned (resP (classO l classes)) ∧ w = w' := by
  obtain ⟨n, hn⟩ : ∃ n, l.length = n := ⟨_, rfl⟩
  rw [hn] at hl ⊢
  unfold resP
  by_cases h0 : n = 0
  · subst h0
    have e0 : l = [] := List.length_eq_zero_iff.1 hn
    rw [class_1 (.inl e0)]
    clear hn hr e0
    go_enter Try.func199, Try.ntmps199
    go_wp2_with fail
    go_ret2
    exact ⟨rfl, rfl⟩
  have hn0 : ((n : Int) == 0) = false := beq_eq_false_iff_ne.2 (by omega)
  have hn0' : (n == 0) = false := beq_eq_false_iff_ne.2 h0
  by_cases hc : classes < 1 ∨ 256 < classes
  · rw [class_1 (.inr hc)]
    rcases hc with hc | hc
    · have c1 : decide (classes < 1) = true := decide_eq_true hc
      go_enter Try.func199, Try.ntmps199
      go_wp2_with fail
      go_ret2
      exact ⟨rfl, rfl⟩
    · have c1 : decide (classes < 1) = false := decide_eq_false (by omega)
      have c2 : decide (256 < classes) = true := decide_eq_true hc
      go_enter Try.func199, Try.ntmps199
      go_wp2_with fail
      go_ret2
      exact ⟨rfl, rfl⟩
  have hcl1 : 1 ≤ classes := by omega
  have hcl2 : classes ≤ 256 := by omega
  have hl0 : l ≠ [] := fun e => h0 (by rw [← hn, e]; rfl)
  have HGO : Hid (classO l classes = if l.any (offC classes) = true then ((0, 5) : Int × Int) else (((bestUp (cntC l) 256 : Nat) : Int), 0)) := Lib.hid (class_go (by rintro (h | h); exact hl0 h; exact hc h))
  have HBD : Hid (l.any (offC classes) = false → bestDn (cntC l) classes.toNat 0 (-1) = bestUp (cntC l) 256) := Lib.hid (fun h => (best_both hl0 hcl1 hcl2 h).1)
  obtain ⟨⟨rv, re⟩, hR⟩ : ∃ R, classO l classes = R := ⟨_, rfl⟩
  rw [hR] at HGO ⊢
  have HN := Lib.hid hn
  have HRN := Lib.hid hr
  have c1 : decide (classes < 1) = false := decide_eq_false (by omega)
  have c2 : decide (256 < classes) = false := decide_eq_false (by omega)
  obtain ⟨C, hC⟩ := Int.eq_ofNat_of_zero_le (show 0 ≤ classes by omega)
  subst hC
  have hC1 : 1 ≤ C := by omega
  have hC2 : C ≤ 256 := by omega
  clear hR hn hr h0 hc hl0
  go_enter Try.func199, Try.ntmps199
  go_wp2_with fail
  clear hn0 hn0' c1 c2
  go_loop [6] (fun iv => ∃ k : Nat, k ≤ n ∧ iv = .int .i64 k ∧ Hid ((l.take k).any (offC C) = false)) (fun iv => n - (intOf iv).toNat)
  case atStart => exact ⟨0, Nat.zero_le _, rfl, Lib.hid rfl⟩
  case round =>
    obtain ⟨k, hk, rfl, HI⟩ := hrel
    by_cases hlt : k < n
    · have hlt' : (k : Int) < n := by omega
      obtain ⟨ad, rfl, x, hx, hxok, hat⟩ := HRN.out.at (i := k) (by rw [HN.out]; exact hlt)
      by_cases hoff : x.c < 0 ∨ (C : Int) ≤ x.c
      · have hres : Hid ((rv, re) = (0, 5)) := Lib.hid (by
          rw [HGO.out, if_pos]
          exact List.any_eq_true.2 ⟨x, List.mem_of_getElem? hx, decide_eq_true hoff⟩)
        obtain ⟨p0, p1, p2, p3, p4, p5⟩ := hat
        obtain ⟨f, b, ll, cc, sx, q⟩ := x
        simp only at p0 p1 p2 p3 p4 p5 hoff
        clear hx hxok
        rcases hoff with hoff | hoff
        · have d1 : decide (cc < 0) = true := decide_eq_true hoff
          go_wp2_with fail
          go_ret2
          exact ⟨ret_pair (congrArg Prod.fst hres.out).symm (congrArg Prod.snd hres.out).symm, rfl⟩
        · have d1 : decide (cc < 0) = false := decide_eq_false (by omega)
          have d2 : decide ((C : Int) ≤ cc) = true := decide_eq_true hoff
          go_wp2_with fail
          go_ret2
          exact ⟨ret_pair (congrArg Prod.fst hres.out).symm (congrArg Prod.snd hres.out).symm, rfl⟩
      · have hany : Hid ((l.take (k + 1)).any (offC C) = false) := Lib.hid (by
          rw [take_snocN hx, List.any_append, HI.out]
          simp [offC]; omega)
        obtain ⟨p0, p1, p2, p3, p4, p5⟩ := hat
        obtain ⟨f, b, ll, cc, sx, q⟩ := x
        simp only at p0 p1 p2 p3 p4 p5 hoff
        have d1 : decide (cc < 0) = false := decide_eq_false (by omega)
        have d2 : decide ((C : Int) ≤ cc) = false := decide_eq_false (by omega)
        clear hx hxok hoff
        go_wp2_with fail
        go_round
        case rel => exact ⟨k + 1, hlt, by go_num, hany⟩
        case measure => simp [intOf]; omega
    · obtain rfl : k = n := by omega
      have htk : l.take k = l := List.take_of_length_le (by rw [HN.out]; exact Nat.le_refl _)
      have hany : l.any (offC C) = false := by have := HI.out; rwa [htk] at this
      have hres : Hid (rv = ((bestDn (cntC l) C 0 (-1) : Nat) : Int) ∧ re = 0) := Lib.hid (by
        have e := HGO.out
        rw [hany, if_neg (by simp)] at e
        have e2 := HBD.out hany
        rw [Int.toNat_natCast] at e2
        rw [e2]
        exact ⟨congrArg Prod.fst e, congrArg Prod.snd e⟩)
      clear hany htk
      go_wp2_with fail
      go_loop [7, 8, 9] (fun bv mv cv => ∃ (j b : Nat) (m : Int), j ≤ C ∧ cv = .int .i64 ((j : Int) - 1) ∧ bv = .int .i64 b ∧ mv = .int .i64 m ∧ Hid (bestDn (cntC l) j b m = bestDn (cntC l) C 0 (-1))) (fun _ _ cv => (intOf cv + 1).toNat)
      case atStart => exact ⟨C, 0, -1, Nat.le_refl _, rfl, rfl, rfl, Lib.hid rfl⟩
      case round =>
        obtain ⟨j, b, m, hj, rfl, rfl, rfl, HB⟩ := hrel
        rcases j with _ | j
        · go_wp2_with fail
          go_ret2
          exact ⟨ret_pair (by rw [hres.out.1, ← HB.out]; rfl) hres.out.2.symm, rfl⟩
        · have ej : (((j + 1 : Nat) : Int) - 1) = (j : Int) := by omega
          rw [ej]
          go_wp2_with fail
          go_loop [10, 11] (fun nv iv => ∃ k2 : Nat, k2 ≤ k ∧ iv = .int .i64 k2 ∧ nv = .int .i64 (cntC (l.take k2) j : Nat)) (fun _ iv => k - (intOf iv).toNat)
          case atStart => exact ⟨0, Nat.zero_le _, rfl, rfl⟩
          case round =>
            obtain ⟨k2, hk2, rfl, rfl⟩ := hrel
            by_cases hlt : k2 < k
            · have hlt' : (k2 : Int) < k := by omega
              obtain ⟨ad, rfl, x, hx, hxok, hat⟩ := HRN.out.at (i := k2) (by rw [HN.out]; exact hlt)
              have hle : cntC (l.take k2) j ≤ 9223372036854775806 := by
                have a1 := cnt_le (l.take k2) j
                have a2 : (l.take k2).length ≤ k2 := List.length_take_le _ _
                omega
              have hs : Hid (cntC (l.take (k2 + 1)) j = if x.c = j then cntC (l.take k2) j + 1 else cntC (l.take k2) j) := Lib.hid (by
                rw [take_snocN hx]
                unfold cntC
                rw [List.filter_append, List.length_append]
                by_cases hh : x.c = (j : Int)
                · rw [if_pos hh, List.filter_cons, if_pos (by simpa using hh)]; rfl
                · rw [if_neg hh, List.filter_cons, if_neg (by simpa using hh)]; rfl)
              obtain ⟨u, hu⟩ : ∃ u, cntC (l.take k2) j = u := ⟨_, rfl⟩
              rw [hu] at hs hle ⊢
              obtain ⟨p0, p1, p2, p3, p4, p5⟩ := hat
              obtain ⟨f, b2, ll, cc, sx, q⟩ := x
              simp only at p0 p1 p2 p3 p4 p5 hs
              clear hx hxok hu
              by_cases hcj : cc = (j : Int)
              · have d1 : (cc == (j : Int)) = true := beq_iff_eq.2 hcj
                have HCJ := Lib.hid hcj
                clear hcj
                go_wp2_with fail
                go_round
                case rel => exact ⟨k2 + 1, hlt, by go_num, by rw [hs.out, if_pos HCJ.out]; go_num⟩
                case measure => simp [intOf]; omega
              · have d1 : (cc == (j : Int)) = false := beq_eq_false_iff_ne.2 hcj
                have HCJ := Lib.hid hcj
                clear hcj
                go_wp2_with fail
                go_round
                case rel => exact ⟨k2 + 1, hlt, by go_num, by rw [hs.out, if_neg HCJ.out]⟩
                case measure => simp [intOf]; omega
            · obtain rfl : k2 = k := by omega
              have htk : l.take k2 = l := List.take_of_length_le (by rw [HN.out]; exact Nat.le_refl _)
              rw [htk]
              obtain ⟨u, hu⟩ : ∃ u, cntC l j = u := ⟨_, rfl⟩
              have hs : Hid (bestDn (cntC l) (j + 1) b m = if m ≤ (u : Int) then bestDn (cntC l) j j u else bestDn (cntC l) j b m) := Lib.hid (by rw [bestDn, hu])
              rw [hu]
              clear hu htk
              by_cases hm : m ≤ (u : Int)
              · have d1 : decide (m ≤ (u : Int)) = true := decide_eq_true hm
                have HM := Lib.hid hm
                clear hm
                go_wp2_with fail
                go_round
                case rel => exact ⟨j, j, u, by omega, by go_num, rfl, rfl, Lib.hid (by rw [← HB.out, hs.out, if_pos HM.out])⟩
                case measure => simp [intOf]
              · have d1 : decide (m ≤ (u : Int)) = false := decide_eq_false hm
                have HM := Lib.hid hm
                clear hm
                go_wp2_with fail
                go_round
                case rel => exact ⟨j, b, m, by omega, by go_num, rfl, rfl, Lib.hid (by rw [← HB.out, hs.out, if_neg HM.out])⟩
                case measure => simp [intOf]
set_option maxRecDepth 100000 in
set_option maxHeartbeats 2000000 in
theorem rvote_any (k cl b t d l p : Int) (xs : List Nd) (A : Option Addr) (cap : Nat) (w : World) (hr : RN w A xs) (hl : xs.length ≤ 9223372036854775806) :
    Calls Try.prog 162 #[.agg (cfgA k cl b t d l p), .slice A xs.length cap] w fun e w' => e = .returned (resP (voteO k cl xs)) ∧ Below w.heap.size w w' := by
  have KC := Lib.hid (fun w hr => rclass_any xs cl A cap w hr hl)
  have KM := Lib.hid (fun w hr => rmean_any xs A cap w hr (by omega))
  have HR := Lib.hid hr
  obtain ⟨n, hn⟩ : ∃ n, xs.length = n := ⟨_, rfl⟩
  rw [hn] at KC KM ⊢
  clear hr hn hl
  unfold cfgA resP
  by_cases h0 : k = 0
  · have e : voteO k cl xs = classO xs cl := if_pos h0
    rw [e]
    obtain ⟨⟨rv, re⟩, hR⟩ : ∃ R, classO xs cl = R := ⟨_, rfl⟩
    rw [hR] at KC ⊢
    unfold resP at KC
    have k1 : (k == 0) = true := beq_iff_eq.2 h0
    clear h0 hR e KM
    go_enter Try.func162, Try.ntmps162
    go_wp2_with fail
    refine (KC.out _ (HR.out.below ((Below.refl _ w).alloc (Nat.le_refl _) _))).mono ?_
    rintro e w1 ⟨rfl, rfl⟩
    go_wp2_with fail
    go_ret2
    exact ⟨rfl, (Below.refl _ w).alloc (Nat.le_refl _) _⟩
  · have k1 : (k == 0) = false := beq_eq_false_iff_ne.2 h0
    by_cases h1 : k = 1
    · have e : voteO k cl xs = meanO xs := (if_neg h0).trans (if_pos h1)
      rw [e]
      obtain ⟨⟨rv, re⟩, hR⟩ : ∃ R, meanO xs = R := ⟨_, rfl⟩
      rw [hR] at KM ⊢
      unfold resP at KM
      have k2 : (k == 1) = true := beq_iff_eq.2 h1
      clear h0 h1 hR e KC
      go_enter Try.func162, Try.ntmps162
      go_wp2_with fail
      refine (KM.out _ (HR.out.below ((Below.refl _ w).alloc (Nat.le_refl _) _))).mono ?_
      rintro e w1 ⟨rfl, hb⟩
      have be : Below w.heap.size w w1 := ((Below.refl _ w).alloc (Nat.le_refl _) _).trans (hb.mono (by simp))
      clear hb
      go_wp2_with fail
      go_ret2
      exact ⟨rfl, be⟩
    · have e : voteO k cl xs = (0, 1) := (if_neg h0).trans (if_neg h1)
      rw [e]
      have k2 : (k == 1) = false := beq_eq_false_iff_ne.2 h1
      clear h0 h1 e
      go_enter Try.func162, Try.ntmps162
      go_wp2_with fail
      go_ret2
      exact ⟨rfl, (Below.refl _ w).alloc (Nat.le_refl _) _⟩
end Go.Proofs.Ytpekofpiodaadaa.Hb
end

section
/- Groves as they are read; the walk of oob.leaves. -/
namespace Go.Proofs.Ytpekofpiodaadaa.Hb
set_option linter.unusedVariables false
set_option linter.unusedSimpArgs false
open Go.RowKit

def grvA (g : Grv) (Ac At Aw Ag : Option Addr) (cc ct cw cg : Nat) : Array Value :=
  #[.int .i64 g.k, .int .i64 g.cl, .int .i64 g.b, .int .i64 g.t, .int .i64 g.d, .int .i64 g.l, .int .i64 g.p, .int .i64 g.rows, .int .i64 g.cols, .slice Ac g.cells.length cc, .slice At g.trees.length ct, .slice Aw g.weights.length cw, .slice Ag g.tgt.length cg]
structure RG (w : World) (g : Grv) (Ac At Aw Ag : Option Addr) : Prop where
  rc : RC w Ac g.cells
  rt : RT w At g.trees
  rw : RW w Aw g.weights
  rg : RI1 w Ag g.tgt
structure OkG (g : Grv) : Prop where
  lc : g.cells.length ≤ 9223372036854775807
  lt : g.trees.length ≤ 1048576
  lw : g.weights.length ≤ 9223372036854775807
  lg : g.tgt.length ≤ 9223372036854775807
  tt : ∀ t ∈ g.trees, t.length ≤ 1099511627776
  ww : ∀ x ∈ g.weights, x.length ≤ 9223372036854775807
theorem RG.below {w w1 : World} {g : Grv} {Ac At Aw Ag : Option Addr} (h : RG w g Ac At Aw Ag) (hb : Below w.heap.size w w1) : RG w1 g Ac At Aw Ag := ⟨h.rc.below hb, h.rt.below hb, h.rw.below hb, h.rg.below hb⟩
theorem Blk.cells13 {w : World} {g : Nat} {a b c d e f h i j k l m n : Value} {t : TypeId} (x : Blk w g #[a, b, c, d, e, f, h, i, j, k, l, m, n] t) :
    w.cell? ⟨g, 0, none⟩ = some a ∧ w.cell? ⟨g, 1, none⟩ = some b ∧ w.cell? ⟨g, 2, none⟩ = some c ∧ w.cell? ⟨g, 3, none⟩ = some d ∧ w.cell? ⟨g, 4, none⟩ = some e ∧ w.cell? ⟨g, 5, none⟩ = some f ∧
    w.cell? ⟨g, 6, none⟩ = some h ∧ w.cell? ⟨g, 7, none⟩ = some i ∧ w.cell? ⟨g, 8, none⟩ = some j ∧ w.cell? ⟨g, 9, none⟩ = some k ∧ w.cell? ⟨g, 10, none⟩ = some l ∧ w.cell? ⟨g, 11, none⟩ = some m ∧ w.cell? ⟨g, 12, none⟩ = some n :=
  ⟨x.cell 0, x.cell 1, x.cell 2, x.cell 3, x.cell 4, x.cell 5, x.cell 6, x.cell 7, x.cell 8, x.cell 9, x.cell 10, x.cell 11, x.cell 12⟩
theorem info_node : (Try.prog.info? 90).map (fun i => (i.zero, i.size, i.bytes)) = some (some (.agg #[.int .i64 0, .int .i64 0, .int .i64 0, .int .i64 0, .int .i64 0, .int .i64 0]), 6, 48) := by kernel_rfl
theorem cell_six (w : World) (a b c d e f : Value) (t : TypeId) : ∀ j u, [a, b, c, d, e, f][j]? = some u → (w.alloc (.cells #[a, b, c, d, e, f] t)).cell? ((⟨w.heap.size, 0, none⟩ : Addr).add j) = some u := by
  intro j u hj
  have k := (Blk.new w #[a, b, c, d, e, f] t).cell j
  rw [show (⟨w.heap.size, 0, none⟩ : Addr).add j = ⟨w.heap.size, j, none⟩ from by unfold Addr.add; split <;> simp_all]
  rw [k]
  simpa using hj
/-- A row of numbers that is owned is read. -/
theorem RI1.own {w : World} {base n c : Nat} {A : Option Addr} {l : List Int} (h : w.ownsRow base 3 1 (.slice A n c) l.length (ints l)) (ho : ∀ x ∈ l, in64 x) : RI1 w A l := by
  intro hl
  obtain ⟨g, cap, hv, _, _, _, hc⟩ := own_open h hl
  simp only [Value.slice.injEq] at hv
  obtain ⟨rfl, _, _⟩ := hv
  refine ⟨_, rfl, fun i y hy => ⟨[.int .i64 y], rfl, ⟨rfl, ho y (List.mem_of_getElem? hy)⟩, fun j u hj => ?_⟩⟩
  have hi : i < l.length := (List.getElem?_eq_some_iff.1 hy).1
  rcases j with _ | j
  · simp at hj; subst hj
    rw [Nat.mul_one, Nat.add_zero, show (⟨g, 0, none⟩ : Addr).add i = ⟨g, i, none⟩ from by unfold Addr.add; split <;> simp_all]
    refine hc i _ ?_
    rw [ints_get hi, List.getD_eq_getElem?_getD, hy]; rfl
  · simp at hj
theorem ndC_len (x : Nd) : (ndC x).length = 6 := rfl
theorem flat_get : ∀ (l : List Nd) (i j : Nat) (x : Nd), l[i]? = some x → j < 6 → (l.flatMap ndC)[i * 6 + j]? = (ndC x)[j]?
  | [], i, j, x, h, _ => by simp at h
  | y :: l, i, j, x, h, hj => by
    rw [List.flatMap_cons]
    rcases i with _ | i
    · simp at h; subst h
      rw [Nat.zero_mul, Nat.zero_add, List.getElem?_append_left (by rw [ndC_len]; exact hj)]
    · rw [List.getElem?_append_right (by rw [ndC_len]; omega), ndC_len, show (i + 1) * 6 + j - 6 = i * 6 + j by omega]
      exact flat_get l i j x (by simpa using h) hj
/-- Nodes that are owned are read. -/
theorem RN.own {w : World} {base n c : Nat} {A : Option Addr} {l : List Nd} (h : w.ownsRow base 90 6 (.slice A n c) l.length (l.flatMap ndC)) (ho : ∀ x ∈ l, x.ok) : RN w A l := by
  intro hl
  obtain ⟨g, cap, hv, _, _, _, hc⟩ := own_open h hl
  simp only [Value.slice.injEq] at hv
  obtain ⟨rfl, _, _⟩ := hv
  refine ⟨_, rfl, fun i y hy => ⟨ndC y, rfl, ⟨rfl, ho y (List.mem_of_getElem? hy)⟩, fun j u hj => ?_⟩⟩
  have hj6 : j < 6 := by have := (List.getElem?_eq_some_iff.1 hj).1; rwa [ndC_len] at this
  rw [show (⟨g, 0, none⟩ : Addr).add (i * 6 + j) = ⟨g, i * 6 + j, none⟩ from by unfold Addr.add; split <;> simp_all]
  exact hc _ _ (by rw [flat_get l i j y hy hj6]; exact hj)
theorem RN.ok {w : World} {A : Option Addr} {l : List Nd} (h : RN w A l) : ∀ x ∈ l, x.ok := by
  intro x hx
  obtain ⟨i, hi, rfl⟩ := List.getElem_of_mem hx
  obtain ⟨_, _, x, h1, h2, _⟩ := h.at hi
  rw [List.getElem?_eq_getElem hi] at h1
  cases h1; exact h2
theorem row_in {rows cols : Int} {cells : List Int} {i : Nat} (h : ∀ x ∈ cells, 0 ≤ x ∧ x ≤ 65535) : ∀ x ∈ rowO rows cols cells i, 0 ≤ x ∧ x ≤ 65535 := by
  intro x hx
  obtain ⟨j, _, rfl⟩ := List.mem_map.1 hx
  rw [List.getD_eq_getElem?_getD]
  cases hq : cells[j * rows.toNat + i]? with
  | none => simp
  | some y => exact h y (List.mem_of_getElem? hq)
theorem leaves_skip {row : List Int} {i k : Nat} {ts : List (List Nd)} {ws : List (List Int)} {t : List Nd} {x : List Int} (h1 : ts[k]? = some t) (h2 : ws[k]? = some x) (h : x.getD i 0 ≠ 0) : leavesGo row i (ts.drop k) (ws.drop k) = leavesGo row i (ts.drop (k + 1)) (ws.drop (k + 1)) := by
  obtain ⟨hk1, rfl⟩ := List.getElem?_eq_some_iff.1 h1
  obtain ⟨hk2, rfl⟩ := List.getElem?_eq_some_iff.1 h2
  rw [List.drop_eq_getElem_cons hk1, List.drop_eq_getElem_cons hk2, leavesGo, if_pos h]
theorem leaves_take {row : List Int} {i k : Nat} {ts : List (List Nd)} {ws : List (List Int)} {t : List Nd} {x : List Int} (h1 : ts[k]? = some t) (h2 : ws[k]? = some x) (h : x.getD i 0 = 0) : leavesGo row i (ts.drop k) (ws.drop k) = ndAt t (placeO t row) :: leavesGo row i (ts.drop (k + 1)) (ws.drop (k + 1)) := by
  obtain ⟨hk1, rfl⟩ := List.getElem?_eq_some_iff.1 h1
  obtain ⟨hk2, rfl⟩ := List.getElem?_eq_some_iff.1 h2
  rw [List.drop_eq_getElem_cons hk1, List.drop_eq_getElem_cons hk2, leavesGo, if_neg (by simpa using h)]
set_option maxRecDepth 100000 in
set_option maxHeartbeats 4000000 in
theorem leaves1_any (g : Grv) (Ac At Aw Ag : Option Addr) (cc ct cw cg : Nat) (i B : Nat) (w : World) (hmay : mayG g = true) (hok : OkG g) (hi : (i : Int) < g.rows) (hr : RG w g Ac At Aw Ag) (hB : Blk w B (grvA g Ac At Aw Ag cc ct cw cg) 83) :
    Calls Try.prog 229 #[.int .i64 i, .pointer (some ⟨B, 0, none⟩)] w fun e w' => ∃ v, e = .returned v ∧ w'.ownsRow w.heap.size 90 6 v (leavesO g i).length ((leavesO g i).flatMap ndC) ∧ Below w.heap.size w w' := by
  obtain ⟨m1, m2, _⟩ := may_is hmay
  obtain ⟨_, hmat, hc1, hc2, hlen, _⟩ := head_is m1
  have hmb : matB g.rows g.cols g.cells.length = true := decide_eq_true hmat
  have KR := Lib.hid (fun w hr => mrow_any g.rows g.cols g.cells Ac cc i w hmb hr hi)
  have HTR := Lib.hid (fun (k : Nat) (t : List Nd) (x : List Int) h1 h2 => trees_is m2 k t x h1 h2)
  have hrl : (rowO g.rows g.cols g.cells i).length = g.cols.toNat := row_len _ _ _ _
  have HRI := Lib.hid (row_in (rows := g.rows) (cols := g.cols) (i := i) hr.rc.1)
  have HL0 : Hid (leavesGo (rowO g.rows g.cols g.cells i) i (g.trees.drop 0) (g.weights.drop 0) = leavesO g i) := Lib.hid (by rw [List.drop_zero, List.drop_zero]; rfl)
  obtain ⟨L, hL⟩ : ∃ L, leavesO g i = L := ⟨_, rfl⟩
  obtain ⟨R, hR⟩ : ∃ R, rowO g.rows g.cols g.cells i = R := ⟨_, rfl⟩
  rw [hR] at KR hrl HRI HL0
  rw [hL] at HL0 ⊢
  have HLL : Hid (L.length ≤ g.trees.length) := Lib.hid (by rw [← hL]; exact leaves_len _ _ _ _)
  have HOK := Lib.hid hok
  have HRG := Lib.hid hr
  obtain ⟨k, cl, b, t, d, l, p, rows, cols, cells, trees, weights, tgt⟩ := g
  simp only at *
  unfold grvA at hB
  simp only at hB
  obtain ⟨nc, hnc⟩ : ∃ n, cells.length = n := ⟨_, rfl⟩
  obtain ⟨nt, hnt⟩ : ∃ n, trees.length = n := ⟨_, rfl⟩
  obtain ⟨nw, hnw⟩ : ∃ n, weights.length = n := ⟨_, rfl⟩
  obtain ⟨ng, hng⟩ : ∃ n, tgt.length = n := ⟨_, rfl⟩
  rw [hnc] at KR
  rw [hnt] at HLL hlen
  rw [hnw] at hlen
  rw [hnc, hnt, hnw, hng] at hB
  subst hlen
  obtain ⟨q0, q1, q2, q3, q4, q5, q6, q7, q8, q9, q10, q11, q12⟩ := hB.cells13
  have hlB := hB.lt
  have HNT := Lib.hid hnt
  have HNW := Lib.hid hnw
  have hntb : nw ≤ 1048576 := by have := HOK.out.lt; simp only at this; omega
  have HB := Lib.hid hB
  have HRL := Lib.hid hrl
  have hcb : cols.toNat ≤ 1024 := by omega
  have HCOL : Hid (cols ≤ (cols.toNat : Int)) := Lib.hid (by omega)
  have HI := Lib.hid hi
  obtain ⟨i0, hi0, hz0, hz1, hz2⟩ := info_parts info_node
  clear hmay hok hr hB m1 m2 hmat hmb hrl hL hR hnc hnt hnw hng hc1 hc2 hi
  go_enter Try.func229, Try.ntmps229
  go_wp2_with fail
  refine (KR.out _ HRG.out.rc).mono ?_
  rintro e w1 ⟨v, rfl, ho, hb⟩
  obtain ⟨Ar, cr, rfl⟩ := own_slice ho
  have HRR : Hid (RI1 w1 Ar R) := Lib.hid (RI1.own (by rw [HRL.out]; exact ho) (fun x hx => by have := HRI.out x hx; unfold in64; omega))
  have HB1 := Lib.hid (HB.out.below hb)
  have HBW := Lib.hid hb
  have HRG1 := Lib.hid (HRG.out.below hb)
  clear q0 q1 q2 q3 q4 q5 q6 q7 q8 q9 q10 q11 q12 hlB ho hb
  obtain ⟨q0, q1, q2, q3, q4, q5, q6, q7, q8, q9, q10, q11, q12⟩ := HB1.out.cells13
  go_wp2_with fail
  clear q0 q1 q2 q3 q4 q5 q6 q7 q8 q9 q10 q11 q12
  go_loopw [5, 16] (fun o iv wr => ∃ (k m : Nat) (a : Option Addr) (c : Nat), k ≤ nw ∧ m ≤ k ∧ iv = .int .i64 k ∧ o = .slice a m c ∧ Hid (∃ pre : List Nd, pre.length = m ∧ pre ++ leavesGo R i (trees.drop k) (weights.drop k) = L ∧ wr.ownsRow w1.heap.size 90 6 (.slice a m c) m (pre.flatMap ndC)) ∧ Hid (Below w1.heap.size w1 wr)) (fun _ iv _ => nw - (intOf iv).toNat)
  case atStart => exact ⟨0, 0, none, 0, Nat.zero_le _, Nat.le_refl _, rfl, rfl, Lib.hid ⟨[], rfl, HL0.out, World.ownsRow_nil _ _ _ _⟩, Lib.hid (Below.refl _ _)⟩
  case round =>
    obtain ⟨k, m, a, c, hk, hmk, rfl, rfl, HO, HBE⟩ := hrel
    by_cases hlt : k < nw
    · have hlt' : (k : Int) < nw := by omega
      have kB := HB1.out.below HBE.out
      obtain ⟨q0, q1, q2, q3, q4, q5, q6, q7, q8, q9, q10, q11, q12⟩ := kB.cells13
      have hlB := kB.lt
      have HR2 := Lib.hid (HRG1.out.below HBE.out)
      obtain ⟨adt, rfl, tr, Bt, capt, ht1, ht2, ht3, ht4, ht5⟩ := HR2.out.rt.at (i := k) (by rw [HNT.out]; exact hlt)
      obtain ⟨adw, rfl, wk, Bw, capw, hw1, hw2, hw3, hw4, hw5⟩ := HR2.out.rw.at (i := k) (by rw [HNW.out]; exact hlt)
      obtain ⟨htr1, htr2⟩ := HTR.out k tr wk ht1 hw1
      have hiw : i < wk.length := by have := HI.out; omega
      obtain ⟨adx, rfl, hxin, hx⟩ := hw5.at hiw
      obtain ⟨nwk, hnwk⟩ : ∃ n, wk.length = n := ⟨_, rfl⟩
      rw [hnwk] at hw2 hiw
      have hiw' : (i : Int) < nwk := by omega
      obtain ⟨x, hxx⟩ : ∃ x, wk.getD i 0 = x := ⟨_, rfl⟩
      rw [hxx] at hx
      have htl := HOK.out.tt tr (List.mem_of_getElem? ht1)
      by_cases hx0 : x = 0
      · have HSK := Lib.hid (leaves_take (row := R) ht1 hw1 (i := i) (by rw [hxx]; exact hx0))
        obtain ⟨pl1, pl2, pl3⟩ := place_right htr2 (by omega) R (by rw [HRL.out]; exact HCOL.out)
        have HNX : Hid (ndAt tr (placeO tr R)).ok := Lib.hid (ht5.ok _ (List.mem_of_getElem? (ndAt_get pl1 pl2)))
        obtain ⟨pN, hpN⟩ := Int.eq_ofNat_of_zero_le pl1
        have KP := Lib.hid (fun w hr hrr => place_any tr R Bt Ar capt cr w hr hrr htl (by rw [HRL.out]; omega))
        have hget := ndAt_get pl1 pl2
        rw [hpN] at KP hget HSK HNX pl2
        rw [Int.toNat_natCast] at hget
        rw [HRL.out] at KP
        obtain ⟨ntr, hntr⟩ : ∃ n, tr.length = n := ⟨_, rfl⟩
        rw [hntr] at KP ht2 ht3 pl2 htl
        have hpn2 : pN < ntr := by omega
        have HRN := Lib.hid ht5
        have HNTR := Lib.hid hntr
        have HGET := Lib.hid hget
        subst hx0
        clear ht1 hw1 htr1 htr2 hxin hnwk hxx pl1 pl3 hpN hntr ht5 hw5 kB hget
        go_wp2_with fail
        refine (KP.out _ HRN.out (HRR.out.below HBE.out)).mono ?_
        rintro e w2 ⟨rfl, hb⟩
        obtain ⟨adn, rfl, y, hy, hyok, hat⟩ := (HRN.out.below hb).at (i := pN) (by rw [HNTR.out]; exact hpn2)
        have hye : ndAt tr (pN : Int) = y := by have := HGET.out; rw [hy] at this; exact (Option.some.inj this).symm
        rw [hye] at HSK
        obtain ⟨p0, p1, p2, p3, p4, p5⟩ := hat
        have HO2 : Hid (∃ pre : List Nd, pre.length = m ∧ pre ++ leavesGo R i (trees.drop k) (weights.drop k) = L ∧ w2.ownsRow w1.heap.size 90 6 (.slice a m c) m (pre.flatMap ndC)) := Lib.hid (by
          obtain ⟨pre, h1, h2, h3⟩ := HO.out
          exact ⟨pre, h1, h2, own_below h3 hb⟩)
        have HBE2 := Lib.hid (HBE.out.trans (hb.mono HBE.out.size))
        have hs2 : w1.heap.size ≤ w2.heap.size := HBE2.out.size
        obtain ⟨pre, h1, h2, h3⟩ := HO2.out
        have HP1 := Lib.hid h1
        have HP2 := Lib.hid h2
        have HP3 := Lib.hid h3
        obtain ⟨f, b2, ll, cc2, sx, q⟩ := y
        simp only at p0 p1 p2 p3 p4 p5
        have d0 : decide (0 ≤ (pN : Int)) = true := decide_eq_true (by omega)
        clear hb hy hyok hye h1 h2 h3 HO HO2 ht2 hw2 hx q0 q1 q2 q3 q4 q5 q6 q7 q8 q9 q10 q11 q12 hlB
        go_wp2_with (at_builtin; refine wpList_append_lies _ rfl _ _ 88 rfl w1.heap.size 90 i0 (.agg #[.int .i64 0, .int .i64 0, .int .i64 0, .int .i64 0, .int .i64 0, .int .i64 0]) 6 48 Try.underlying88 hi0 hz0 hz1 hz2 rfl (by decide) _ _ _ rfl (HP3.out.alloc _) ⟨w2.heap.size, 0, none⟩ 1 1 [.int .i64 f, .int .i64 b2, .int .i64 ll, .int .i64 cc2, .int .i64 sx, .int .i64 q] rfl rfl (cell_six _ _ _ _ _ _ _ _) (by simp [Value.oneCell']) (by decide) (by unfold maxLen; omega) (by omega) (by simp; omega) _ rfl ?_; intro g3 c3 w3 hown3 hg3 hat3 hlt3)
        go_roundw
        case rel =>
          refine ⟨k + 1, m + 1, _, c3, hlt, by omega, by go_num, rfl, Lib.hid ⟨pre ++ [⟨f, b2, ll, cc2, sx, q⟩], by simp [HP1.out], ?_, ?_⟩, Lib.hid ?_⟩
          · have := HP2.out
            rw [HSK.out] at this
            rw [List.append_assoc]; exact this
          · rw [List.flatMap_append]; exact hown3
          · exact (HBE2.out.alloc (by omega) _).grown hg3 (by simp; omega) (fun q e => (World.ownsRow.lt HP3.out q e).1)
        case measure => simp [intOf]; omega
      · have HSK := Lib.hid (leaves_skip (row := R) ht1 hw1 (i := i) (by rw [hxx]; exact hx0))
        have d1 : (x != 0) = true := bne_iff_ne.2 hx0
        clear ht1 hw1 htr1 htr2 hxin hnwk hxx ht5 hw5 kB hx0
        go_wp2_with fail
        go_roundw
        case rel =>
          refine ⟨k + 1, m, a, c, hlt, by omega, by go_num, rfl, Lib.hid ?_, HBE⟩
          obtain ⟨pre, h1, h2, h3⟩ := HO.out
          exact ⟨pre, h1, by rw [← HSK.out]; exact h2, h3⟩
        case measure => simp [intOf]; omega
    · obtain rfl : k = nw := by omega
      go_wp2_with fail
      go_ret
      obtain ⟨pre, h1, h2, h3⟩ := HO.out
      have e0 : leavesGo R i (trees.drop k) (weights.drop k) = [] := by
        rw [List.drop_of_length_le (by rw [HNT.out]; exact Nat.le_refl _)]
        rfl
      rw [e0, List.append_nil] at h2
      subst h2
      refine ⟨_, rfl, ?_, HBW.out.trans (HBE.out.mono HBW.out.size)⟩
      rw [h1]
      exact World.ownsRow.mono h3 HBW.out.size
end Go.Proofs.Ytpekofpiodaadaa.Hb
end

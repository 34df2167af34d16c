/- The walks of the reference of layer 4: sums, differences and products by digits. -/
import Derived.Test.YteckbgpkoanhfaaHbDig
import Derived.Test.YteckbgpkoanhfaaHbNum
import Derived.Test.YteckbgpkoanhfaaHbBase
import Derived.Deep.QuietTactic
import Derived.BigQuiet
import Derived.IntWalk
import Derived.Maps.AppendAt
namespace Go.Proofs.Yteckbgpkoanhfaa.Hb
open Go.RowKit

theorem rsize_neg (a : Int) (h : -9223372036854775808 ≤ a) (c : a < 0) : IntKind.u64.wrap (-(a + 1) + 1) = (a.natAbs : Int) := by
  simp [IntKind.wrap, IntKind.bits, IntKind.signed]; omega
theorem ret_u64' {a b : Int} (h : a = b) : Ending.returned (.int .u64 a) = .returned (.int .u64 b) := by rw [h]
theorem rsize_any (a : Int) (ha : inR a) (w : World) :
    Calls Try.prog 68 #[.int .i64 a] w fun e w' => e = .returned (.int .u64 (a.natAbs : Int)) ∧ w = w' := by
  obtain ⟨a1, a2⟩ := ha
  by_cases c : a < 0
  · have c' : decide (0 ≤ a) = false := decide_eq_false (by omega)
    go_enter Try.func68, Try.ntmps68
    go_wp2
    go_ret
    exact ⟨ret_u64' (by omega), rfl⟩
  · have c' : decide (0 ≤ a) = true := decide_eq_true (by omega)
    go_enter Try.func68, Try.ntmps68
    go_wp2
    go_ret
    exact ⟨ret_u64' (by omega), rfl⟩

/-- A slice of n digits, in new memory. -/
def DigRow (B : Nat) (n : Nat) (D : Nat → Nat) (v : Value) (w : World) : Prop :=
  (∀ j, D j < 65536) ∧ ∃ g c, v = .slice (some ⟨g, 0, none⟩) n c ∧ n ≤ c ∧ B ≤ g ∧ g < w.heap.size ∧ ∀ j, j < n → w.cell? ⟨g, j, none⟩ = some (.int .u64 (D j : Nat))
theorem DigRow.below {B n : Nat} {D : Nat → Nat} {v : Value} {w w1 : World} (h : DigRow B n D v w) (hb : Below w.heap.size w w1) : DigRow B n D v w1 := by
  obtain ⟨h0, g, c, h1, h2, h3, h4, h5⟩ := h
  exact ⟨h0, g, c, h1, h2, h3, Nat.lt_of_lt_of_le h4 hb.size, fun j hj => (hb.cell (p := ⟨g, j, none⟩) h4).trans (h5 j hj)⟩
/-- What a call that makes digits comes to. -/
def Digs (B n N : Nat) (w : World) (e : Ending) (w' : World) : Prop := ∃ D v, e = .returned v ∧ val D n = N ∧ DigRow B n D v w' ∧ Below w.heap.size w w'

theorem rdigits_any (n : Nat) (hn : n < 18446744073709551616) (w : World) :
    Calls Try.prog 71 #[.int .u64 n] w (Digs w.heap.size 4 n w) := by
  go_enter Try.func71, Try.ntmps71
  go_wp2
  go_ret
  refine ⟨dig n, _, rfl, dig_val n, ⟨dig_lt n hn, w.heap.size, _, rfl, by omega, by omega, by simp, ?_⟩, (Below.refl _ _).alloc (Nat.le_refl _) _⟩
  intro j hj
  match j, hj with
  | 0, _ => simp [dig]
  | 1, _ => simp [dig]
  | 2, _ => simp [dig]
  | 3, _ => simp [dig]

set_option maxHeartbeats 1000000 in
theorem rnumber_any (c : Nat) (D : Nat → Nat) (g : Nat) (hD : ∀ j, D j < 65536) (w : World) (hc : ∀ j, j < 4 → w.cell? ⟨g, j, none⟩ = some (.int .u64 (D j : Nat))) :
    Calls Try.prog 82 #[.slice (some ⟨g, 0, none⟩) 4 c] w fun e w' => e = .returned (.int .u64 (val D 4 : Nat)) ∧ Below w.heap.size w w' := by
  have c0 := hc 0 (by omega)
  have c1 := hc 1 (by omega)
  have c2 := hc 2 (by omega)
  have c3 := hc 3 (by omega)
  have b0 := hD 0
  have b1 := hD 1
  have b2 := hD 2
  have b3 := hD 3
  clear hc hD
  rw [val4]
  go_enter Try.func82, Try.ntmps82
  go_wp2
  go_quiet (fail)
  go_wp2
  go_ret
  exact ⟨ret_u64' (by omega), below_drewN (Below.refl _ _) _⟩

set_option maxHeartbeats 1000000 in
theorem rwhole_big (bel : Bool) (len c g : Nat) (D : Nat → Nat) (hl : 4 ≤ len) (hl8 : len ≤ 8) (w : World) (hc : ∀ j, j < len → w.cell? ⟨g, j, none⟩ = some (.int .u64 (D j : Nat))) (jj : Nat) (hj : 4 ≤ jj) (hj2 : jj < len) (hj3 : D jj ≠ 0) :
    Calls Try.prog 69 #[.bool bel, .slice (some ⟨g, 0, none⟩) len c] w fun e w' => e = .returned (res none) ∧ Below w.heap.size w w' := by
  have HC := Lib.hid hc
  have HJ := Lib.hid hj3
  clear hc hj3
  go_enter Try.func69, Try.ntmps69
  go_wp2
  go_loop [6] (fun i => ∃ k : Nat, 4 ≤ k ∧ k ≤ len ∧ i = .int .i64 k ∧ Hid (∀ j, 4 ≤ j → j < k → D j = 0)) (fun i => len - (intOf i).toNat)
  case atStart => exact ⟨4, by omega, hl, rfl, Lib.hid (fun j h1 h2 => by omega)⟩
  case round =>
    obtain ⟨k, hk4, hk, rfl, HZ⟩ := hrel
    by_cases hlt : k < len
    · have ck := HC.out k hlt
      by_cases h0 : D k = 0
      · rw [h0] at ck
        go_wp2
        go_round
        case rel => exact ⟨k + 1, by omega, by omega, by go_num, Lib.hid (fun j h1 h2 => by
          by_cases e : j = k
          · rw [e]; exact h0
          · exact HZ.out j h1 (by omega))⟩
        case measure => simp [intOf]; omega
      · have h1 : 0 < D k := by omega
        have h2 : decide (0 < D k) = true := decide_eq_true h1
        clear h0
        go_wp2
        go_ret2
        exact ⟨rfl, Below.refl _ _⟩
    · exact absurd (HZ.out jj hj (by omega)) HJ.out

def RWhole (bel : Bool) (len c g : Nat) (v : Option Int) (w : World) : Prop :=
  Calls Try.prog 69 #[.bool bel, .slice (some ⟨g, 0, none⟩) len c] w fun e w' => e = .returned (res v) ∧ Below w.heap.size w w'

set_option maxHeartbeats 4000000 in
theorem rwhole_small (bel : Bool) (len c g n : Nat) (D : Nat → Nat) (hl : 4 ≤ len) (hl8 : len ≤ 8) (hlc : len ≤ c) (hD : ∀ j, D j < 65536) (w : World) (hc : ∀ j, j < len → w.cell? ⟨g, j, none⟩ = some (.int .u64 (D j : Nat)))
    (hz : ∀ j, 4 ≤ j → j < len → D j = 0) (hn : val D 4 = n) (hn2 : (n : Int) ≤ 18446744073709551615) (v : Option Int)
    (hv : (((n : Int) == 0) = true ∧ v = some 0) ∨ (((n : Int) == 0) = false ∧ 0 < n ∧
      ((bel = false ∧ (n : Int) ≤ 9223372036854775807 ∧ v = some n) ∨ (bel = false ∧ decide ((n : Int) ≤ 9223372036854775807) = false ∧ v = none) ∨
       (bel = true ∧ (n : Int) ≤ 9223372036854775808 ∧ v = some (-(n : Int))) ∨ (bel = true ∧ decide ((n : Int) ≤ 9223372036854775808) = false ∧ v = none)))) : RWhole bel len c g v w := by
  unfold RWhole
  have HC := Lib.hid hc
  have HZ := Lib.hid hz
  have HN := Lib.hid hn
  have hcn : ∀ W, Below w.heap.size w W → Calls Try.prog 82 #[.slice (some ⟨g, 0, none⟩) 4 c] w fun e w' => e = .returned (.int .u64 (n : Nat)) ∧ Below w.heap.size w w' := fun _ _ => by
    have := rnumber_any c D g hD w (fun j hj => hc j (by omega))
    rwa [hn] at this
  have HV := Lib.hid hcn
  clear hc hz hn hcn hD
  go_enter Try.func69, Try.ntmps69
  go_wp2
  go_loop [6] (fun i => ∃ k : Nat, 4 ≤ k ∧ k ≤ len ∧ i = .int .i64 k) (fun i => len - (intOf i).toNat)
  case atStart => exact ⟨4, by omega, hl, rfl⟩
  case round =>
    obtain ⟨k, hk4, hk, rfl⟩ := hrel
    by_cases hlt : k < len
    · have ck := HC.out k hlt
      rw [HZ.out k hk4 hlt] at ck
      clear hv
      go_wp2
      go_round
      case rel => exact ⟨k + 1, by omega, by omega, by go_num⟩
      case measure => simp [intOf]; omega
    · obtain rfl : k = len := by omega
      clear hlt
      rcases hv with ⟨h1, rfl⟩ | ⟨h1, h0, ⟨rfl, h2, rfl⟩ | ⟨rfl, h2, rfl⟩ | ⟨rfl, h2, rfl⟩ | ⟨rfl, h2, rfl⟩⟩
      · go_wp2_with (go_at_call 82; refine (HV.out w (Below.refl _ _)).mono ?_; rintro e w1 ⟨rfl, hb⟩)
        go_ret2
        exact ⟨rfl, hb⟩
      · go_wp2_with (go_at_call 82; refine (HV.out w (Below.refl _ _)).mono ?_; rintro e w1 ⟨rfl, hb⟩)
        go_ret2
        exact ⟨rfl, hb⟩
      · go_wp2_with (go_at_call 82; refine (HV.out w (Below.refl _ _)).mono ?_; rintro e w1 ⟨rfl, hb⟩)
        go_ret2
        exact ⟨rfl, hb⟩
      · go_wp2_with (go_at_call 82; refine (HV.out w (Below.refl _ _)).mono ?_; rintro e w1 ⟨rfl, hb⟩)
        go_ret2
        refine ⟨?_, hb⟩
        rw [show (-(n : Int)) = -((n : Int) - 1) - 1 from by omega]
        rfl
      · go_wp2_with (go_at_call 82; refine (HV.out w (Below.refl _ _)).mono ?_; rintro e w1 ⟨rfl, hb⟩)
        go_ret2
        exact ⟨rfl, hb⟩

/-- whole, of any digits. -/
theorem rwhole_any (bel : Bool) (len : Nat) (hl : 4 ≤ len) (hl8 : len ≤ 8) (B : Nat) (D : Nat → Nat) (v : Value) (w : World) (h : DigRow B len D v w) :
    Calls Try.prog 69 #[.bool bel, v] w fun e w' => e = .returned (res (lim (if bel = true then -((val D len : Nat) : Int) else (val D len : Nat)))) ∧ Below w.heap.size w w' := by
  obtain ⟨hD, g, c, rfl, hlc, _, _, hc⟩ := h
  by_cases hz : ∀ j, 4 ≤ j → j < len → D j = 0
  · have hn := val_zeros D 4 len hl hz
    have hlt := val_lt D hD 4
    rw [hn]
    obtain ⟨n, e⟩ : ∃ n, val D 4 = n := ⟨_, rfl⟩
    rw [e]
    rw [e] at hlt
    refine rwhole_small bel len c g n D hl hl8 hlc hD w hc hz e (by omega) _ ?_
    by_cases h0 : n = 0
    · left; subst h0; exact ⟨by simp, by cases bel <;> rfl⟩
    · right
      refine ⟨beq_eq_false_iff_ne.2 (by omega), by omega, ?_⟩
      cases bel
      · simp only [Bool.false_eq_true, if_false, false_and, or_false, true_and]
        by_cases h1 : (n : Int) ≤ 9223372036854775807
        · exact .inl ⟨h1, lim_in ⟨by omega, h1⟩⟩
        · exact .inr ⟨decide_eq_false h1, lim_out (fun h => h1 h.2)⟩
      · simp only [if_true, false_and, false_or, true_and, Bool.true_eq_false]
        by_cases h1 : (n : Int) ≤ 9223372036854775808
        · exact .inl ⟨h1, lim_in ⟨by omega, by omega⟩⟩
        · exact .inr ⟨decide_eq_false h1, lim_out (fun h => h1 (by have := h.1; omega))⟩
  · obtain ⟨j, h4, hj, h0⟩ : ∃ j, 4 ≤ j ∧ j < len ∧ D j ≠ 0 := by
      refine Classical.byContradiction fun hno => hz fun j h1 h2 => Classical.byContradiction fun h3 => hno ⟨j, h1, h2, h3⟩
    have hb := val_big D len j hj h0
    have hp : 65536 ^ 4 ≤ 65536 ^ j := Nat.pow_le_pow_right (by omega) h4
    rw [show lim (if bel = true then -((val D len : Nat) : Int) else (val D len : Nat)) = none from lim_out (fun h => by unfold inR at h; split at h <;> omega)]
    exact rwhole_big bel len c g D hl hl8 w hc j h4 hj h0

def digL (D : Nat → Nat) (n : Nat) : List Value := (List.range n).map fun j => Value.int .u64 (D j : Nat)
theorem digL_snoc (D : Nat → Nat) (n d : Nat) : digL D n ++ [Value.int .u64 (d : Nat)] = digL (fun j => if j = n then d else D j) (n + 1) := by
  unfold digL
  rw [List.range_succ, List.map_append]
  congr 1
  · refine List.map_congr_left fun j hj => ?_
    have := List.mem_range.1 hj
    show _ = Value.int .u64 ((if j = n then d else D j : Nat) : Int)
    rw [if_neg (by omega)]
  · simp
theorem digL_get (D : Nat → Nat) (n j : Nat) (h : j < n) : (digL D n)[j]? = some (.int .u64 (D j : Nat)) := by simp [digL, h]
theorem digs_of_own {B n : Nat} {E : Nat → Nat} {v : Value} {w1 : World} (hE : ∀ j, E j < 65536) (h : w1.ownsRow B 110 1 v n (digL E n)) (hn : 0 < n) : DigRow B n E v w1 := by
  obtain ⟨g, c, rfl, h1, h2, h3, h4⟩ := own_open h hn
  exact ⟨hE, g, c, rfl, h1, h2, h3, fun j hj => h4 _ _ (digL_get E n j hj)⟩
theorem info_u64 : (Try.prog.info? 110).map (fun i => (i.zero, i.size, i.bytes)) = some (some (.int .u64 0), 1, 8) := by kernel_rfl

set_option maxRecDepth 100000 in
set_option maxHeartbeats 2000000 in
theorem rsum_any (B1 B2 : Nat) (D1 D2 : Nat → Nat) (v1 v2 : Value) (w : World) (h1 : DigRow B1 4 D1 v1 w) (h2 : DigRow B2 4 D2 v2 w) :
    Calls Try.prog 70 #[v1, v2] w (Digs w.heap.size 5 (val D1 4 + val D2 4) w) := by
  obtain ⟨i0, hi, hz0, hz1, hz2⟩ := info_parts info_u64
  obtain ⟨hD1, g1, c1, rfl, hlc1, _, hg1, hc1⟩ := h1
  obtain ⟨hD2, g2, c2, rfl, hlc2, _, hg2, hc2⟩ := h2
  have HC1 := Lib.hid hc1
  have HC2 := Lib.hid hc2
  have HD1 := Lib.hid hD1
  have HD2 := Lib.hid hD2
  clear hc1 hc2 hD1 hD2
  go_enter Try.func70, Try.ntmps70
  go_wp2
  go_loopw [5, 6, 7] (fun o cv i wr => ∃ (k c : Nat) (E : Nat → Nat), k ≤ 4 ∧ i = .int .i64 k ∧ cv = .int .u64 c ∧ c < 65536 ∧ Hid (∀ j, E j < 65536) ∧ Hid (val E k + c * 65536 ^ k = val D1 k + val D2 k) ∧ wr.ownsRow w.heap.size 110 1 o k (digL E k) ∧ Below w.heap.size w wr) (fun _ _ i _ => 4 - (intOf i).toNat)
  case atStart => exact ⟨0, 0, fun _ => 0, by omega, rfl, rfl, by omega, Lib.hid (fun _ => (by decide : 0 < 65536)), Lib.hid (by simp [val]), World.ownsRow_made w #[] 0 (Nat.le_refl _) (by unfold maxLen; omega) rfl, (Below.refl _ _).alloc (Nat.le_refl _) _⟩
  case round =>
    obtain ⟨k, c, E, hk, rfl, rfl, hc, HE, HV, hrow, hB⟩ := hrel
    have hBs := hB.size
    by_cases hlt : k < 4
    · have x1 := (hB.cell (p := ⟨g1, k, none⟩) hg1).trans (HC1.out k hlt)
      have x2 := (hB.cell (p := ⟨g2, k, none⟩) hg2).trans (HC2.out k hlt)
      have b1 := HD1.out k
      have b2 := HD2.out k
      have hstep := Lib.hid (sum_step E D1 D2 k c HV.out)
      have hfit : (D1 k + D2 k + c) / 65536 < 65536 := by omega
      obtain ⟨n, hn⟩ : ∃ n, n = D1 k + D2 k + c := ⟨_, rfl⟩
      have hE : ∀ j, (fun j => if j = k then n % 65536 else E j) j < 65536 := fun j => by
        show (if j = k then n % 65536 else E j) < 65536
        split
        · omega
        · exact HE.out j
      rw [← hn] at hstep hfit
      have hnb : n ≤ 196605 := by omega
      have e0 := Lib.hid (show (D1 k : Int) + D2 k + c = (n : Int) by omega)
      have HE' := Lib.hid hE
      have HF := Lib.hid hfit
      clear hn hE hfit
      go_wp2
      go_quiet (fail)
      rw [e0.out]
      go_wp2_with (at_builtin; refine wpList_append_own _ rfl _ _ 113 rfl w.heap.size 110 i0 (.int .u64 0) 1 8 Try.underlying113 hi hz0 hz1 hz2 rfl (by decide) _ _ _ rfl (World.ownsRow.alloc (own_drewN hrow _) _) ⟨wr.heap.size, 0, none⟩ 1 1 [.int .u64 ((n : Int) % 65536)] rfl rfl (cell_one_new _ _ _) (by simp [Value.oneCell']) (by unfold maxLen; omega) (by omega) (by simp; omega) ?_; intro v' w1 hown' hgrow _)
      go_roundw
      case rel => exact ⟨k + 1, n / 65536, fun j => if j = k then n % 65536 else E j, hlt, by go_num, by simp, HF.out, HE', hstep, by rw [← digL_snoc]; simpa using hown', ((below_drewN hB _).alloc (by simp; omega) _).grown hgrow (by simp; omega) (fun j e => (hrow.lt j e).1)⟩
      case measure => simp [intOf]; omega
    · obtain rfl : k = 4 := by omega
      go_wp2_with (at_builtin; refine wpList_append_own _ rfl _ _ 113 rfl w.heap.size 110 i0 (.int .u64 0) 1 8 Try.underlying113 hi hz0 hz1 hz2 rfl (by decide) _ _ _ rfl (hrow.alloc _) ⟨wr.heap.size, 0, none⟩ 1 1 [.int .u64 (c : Int)] rfl rfl (cell_one_new _ _ _) (by simp [Value.oneCell']) (by unfold maxLen; omega) (by omega) (by simp; omega) ?_; intro v' w1 hown' hgrow _)
      go_ret
      refine ⟨fun j => if j = 4 then c else E j, v', rfl, ?_, digs_of_own (fun j => ?_) (by rw [← digL_snoc]; exact hown') (by omega), (hB.alloc hBs _).grown hgrow (by simp; omega) (fun j e => (hrow.lt j e).1)⟩
      · have e1 : val (fun j => if j = 4 then c else E j) 4 = val E 4 := val_congr 4 (fun j hj => by show (if j = 4 then c else E j) = E j; rw [if_neg (by omega)])
        have e2 := HV.out
        rw [val, e1]
        simpa using e2
      · show (if j = 4 then c else E j) < 65536
        split
        · exact hc
        · exact HE.out j

theorem val_nil8 (X : Nat) : val (fun _ => 0) 8 = 0 * X := by rw [Nat.zero_mul]; simp only [val, Nat.zero_mul, Nat.add_zero]
def digA (D : Nat → Nat) : Array Value := (digL D 8).toArray
theorem digA_get (D : Nat → Nat) (j : Nat) (h : j < 8) : (digA D)[j]? = some (.int .u64 (D j : Nat)) := by rw [digA, List.getElem?_toArray]; exact digL_get D 8 j h
theorem digA_set (D : Nat → Nat) (k v : Nat) : (digA D).setIfInBounds k (.int .u64 (v : Nat)) = digA (fun j => if j = k then v else D j) := by
  unfold digA
  rw [List.setIfInBounds_toArray]
  congr 1
  refine List.ext_getElem? fun j => ?_
  rw [List.getElem?_set]
  by_cases hj : j < 8
  · rw [digL_get D 8 j hj]
    by_cases e : k = j
    · subst e; simp [digL, hj]
    · rw [if_neg e, digL_get _ 8 j hj]; simp [show ¬ j = k by omega]
  · have h1 : (digL D 8)[j]? = none := List.getElem?_eq_none (by simp [digL]; omega)
    have h2 : (digL (fun j => if j = k then v else D j) 8)[j]? = none := List.getElem?_eq_none (by simp [digL]; omega)
    rw [h1, h2]
    split
    · rw [if_neg (by simp [digL]; omega)]
    · rfl

theorem make8 (w : World) : (Instr.makeSlice 113 (.int .i64 8) (.int .i64 8)).run Try.prog w = .ok (.slice (some ⟨w.heap.size, 0, none⟩) 8 8) (w.alloc (.cells (digA fun _ => 0) 110)) := by kernel_rfl
theorem val_start (D1 D2 O : Nat → Nat) (i : Nat) (h : val O 8 = val D1 i * val D2 4) : val O 8 + 0 * 65536 ^ (i + 0) = val D1 i * val D2 4 + D1 i * 65536 ^ i * val D2 0 := by
  rw [h, Nat.zero_mul]; rfl

set_option maxRecDepth 100000 in
set_option maxHeartbeats 4000000 in
theorem rproduct_any (B1 B2 : Nat) (D1 D2 : Nat → Nat) (v1 v2 : Value) (w : World) (h1 : DigRow B1 4 D1 v1 w) (h2 : DigRow B2 4 D2 v2 w) :
    Calls Try.prog 72 #[v1, v2] w (Digs w.heap.size 8 (val D1 4 * val D2 4) w) := by
  obtain ⟨hD1, g1, c1, rfl, hlc1, _, hg1, hc1⟩ := h1
  obtain ⟨hD2, g2, c2, rfl, hlc2, _, hg2, hc2⟩ := h2
  have HC1 := Lib.hid hc1
  have HC2 := Lib.hid hc2
  have HD1 := Lib.hid hD1
  have HD2 := Lib.hid hD2
  clear hc1 hc2 hD1 hD2
  have hmk := make8
  go_enter Try.func72, Try.ntmps72
  go_wp2
  clear hmk
  have hblk := Blk.new w (digA fun _ => 0) 110
  have hB0 : Below w.heap.size w (w.alloc (.cells (digA fun _ => 0) 110)) := (Below.refl _ _).alloc (Nat.le_refl _) _
  go_loopw [6] (fun iv wr => ∃ (i : Nat) (O : Nat → Nat), i ≤ 4 ∧ iv = .int .i64 i ∧ Hid (∀ j, O j < 65536) ∧ Hid (∀ j, i + 4 ≤ j → O j = 0) ∧ Hid (val O 8 = val D1 i * val D2 4) ∧ Blk wr w.heap.size (digA O) 110 ∧ Below w.heap.size w wr) (fun iv _ => 4 - (intOf iv).toNat)
  case atStart => exact ⟨0, fun _ => 0, by omega, rfl, Lib.hid (fun _ => (by decide : 0 < 65536)), Lib.hid (fun _ _ => rfl), Lib.hid (val_nil8 _), hblk, hB0⟩
  case round =>
    obtain ⟨i, O, hi, rfl, HO, HZ, HV, hb, hB⟩ := hrel
    by_cases hlt : i < 4
    · have x1 := (hB.cell (p := ⟨g1, i, none⟩) hg1).trans (HC1.out i hlt)
      obtain ⟨wo, rfl⟩ : ∃ wo : World, wo = wr := ⟨_, rfl⟩
      go_wp2
      go_loopw [7, 8] (fun cv kv wr => ∃ (k c : Nat) (O : Nat → Nat), k ≤ 4 ∧ kv = .int .i64 k ∧ cv = .int .u64 c ∧ c < 65536 ∧ Hid (∀ j, O j < 65536) ∧ Hid (∀ j, i + 4 ≤ j → O j = 0) ∧ Hid (val O 8 + c * 65536 ^ (i + k) = val D1 i * val D2 4 + D1 i * 65536 ^ i * val D2 k) ∧ Blk wr w.heap.size (digA O) 110 ∧ Below w.heap.size w wr) (fun _ kv _ => 4 - (intOf kv).toNat)
      case atStart => exact ⟨0, 0, O, by omega, rfl, rfl, by omega, HO, HZ, Lib.hid (val_start _ _ _ _ HV.out), hb, hB⟩
      case round =>
        obtain ⟨k, c, P, hk, rfl, rfl, hc, HP, HPZ, HPV, hb1, hB1⟩ := hrel
        by_cases hlk : k < 4
        · have y1 := (hB1.cell (p := ⟨g1, i, none⟩) hg1).trans (HC1.out i hlt)
          have y2 := (hB1.cell (p := ⟨g2, k, none⟩) hg2).trans (HC2.out k hlk)
          have y3 := (hb1.cell (i + k)).trans (digA_get P (i + k) (by omega))
          have y4 := hb1.frozen (i + k)
          have hik : i + k < 8 := by omega
          have hik' : (i : Int) + (k : Int) < 8 := by omega
          obtain ⟨f1, f2⟩ := prod_fits (P (i + k)) (D1 i) (D2 k) c (HP.out _) (HD1.out _) (HD2.out _) hc
          have hstep := Lib.hid (prod_step P D2 i k (D1 i) c _ hik HPV.out)
          have F2 := Lib.hid f2
          have b1 := HP.out (i + k)
          have f3 : 0 ≤ (D1 i : Int) * (D2 k : Int) := Int.mul_nonneg (Int.natCast_nonneg _) (Int.natCast_nonneg _)
          have f4 : (D1 i : Int) * (D2 k : Int) ≤ 4294836225 := by rw [← Int.natCast_mul]; omega
          clear f1 f2
          have q1 : IntKind.i64.wrap ((i : Int) + (k : Int)) = (i : Int) + k := IntWalk.i64_in _ (by omega)
          have q2 : ((i : Int) + (k : Int)).toNat = i + k := by omega
          have q3 : 0 ≤ (i : Int) + (k : Int) := by omega
          go_wp2
          go_quiet (fail)
          clear q1 q2 q3
          obtain ⟨n, hn⟩ : ∃ n, n = P (i + k) + D1 i * D2 k + c := ⟨_, rfl⟩
          have e0 : (P (i + k) : Int) + (D1 i : Int) * (D2 k : Int) + (c : Int) = (n : Int) := by rw [hn]; simp
          have hnb : (n : Int) ≤ 4294967295 := by omega
          rw [← hn] at hstep F2
          have HE' : Hid (∀ j, (fun j => if j = i + k then n % 65536 else P j) j < 65536) := Lib.hid (fun j => by
            show (if j = i + k then n % 65536 else P j) < 65536
            split
            · omega
            · exact HP.out j)
          have HZ' : Hid (∀ j, i + 4 ≤ j → (fun j => if j = i + k then n % 65536 else P j) j = 0) := Lib.hid (fun j hj => by
            show (if j = i + k then n % 65536 else P j) = 0
            rw [if_neg (by omega)]
            exact HPZ.out j hj)
          have E0 := Lib.hid e0
          have EM := Lib.hid (show ((n % 65536 : Nat) : Int) = (n : Int) % 65536 by omega)
          have EN := Lib.hid (show ((n / 65536 : Nat) : Int) = (n : Int) / 65536 by omega)
          clear e0 hn f3 f4 b1
          rw [E0.out]
          go_wp2
          rw [← EM.out, ← EN.out]
          go_roundw
          case rel => exact ⟨k + 1, n / 65536, fun j => if j = i + k then n % 65536 else P j, hlk, by go_num, rfl, F2.out, HE', HZ', hstep, by rw [← digA_set]; exact (hb1.drewN _).set _ _, (below_drewN hB1 _).setCell (p := ⟨w.heap.size, i + k, none⟩) (Nat.le_refl _) _⟩
          case measure => simp [intOf]; omega
        · obtain rfl : k = 4 := by omega
          have y4 := hb1.frozen (i + 4)
          have y3 := (hb1.cell (i + 4)).trans (digA_get P (i + 4) (by omega))
          have hi4 : i + 4 < 8 := by omega
          have hi4' : (i : Int) + 4 < 8 := by omega
          have HQ := Lib.hid (prod_end P D1 D2 i c hi4 (HPZ.out _ (Nat.le_refl _)) HPV.out)
          have HE' : Hid (∀ j, (fun j => if j = i + 4 then c else P j) j < 65536) := Lib.hid (fun j => by
            show (if j = i + 4 then c else P j) < 65536
            split
            · exact hc
            · exact HP.out j)
          have HZ' : Hid (∀ j, i + 1 + 4 ≤ j → (fun j => if j = i + 4 then c else P j) j = 0) := Lib.hid (fun j hj => by
            show (if j = i + 4 then c else P j) = 0
            rw [if_neg (by omega)]
            exact HPZ.out j (by omega))
          go_wp2
          go_roundw
          case rel => exact ⟨i + 1, fun j => if j = i + 4 then c else P j, hlt, by go_num, HE', HZ', HQ, by rw [← digA_set]; exact hb1.set _ _, hB1.setCell (p := ⟨w.heap.size, i + 4, none⟩) (Nat.le_refl _) _⟩
          case measure => simp [intOf]; omega
    · obtain rfl : i = 4 := by omega
      go_wp2
      go_ret
      exact ⟨O, _, rfl, HV.out, ⟨HO.out, w.heap.size, 8, rfl, by omega, Nat.le_refl _, hb.lt, fun j hj => (hb.cell j).trans (digA_get O j hj)⟩, hB⟩
end Go.Proofs.Yteckbgpkoanhfaa.Hb

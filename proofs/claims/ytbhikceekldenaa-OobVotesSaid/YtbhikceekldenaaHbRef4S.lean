/- The walks of the reference of layer 4: sums, differences and products by digits. -/
import Derived.Test.YtbhikceekldenaaHbDig
import Derived.Test.YtbhikceekldenaaHbNum
import Derived.Test.YtbhikceekldenaaHbBase
import Derived.Deep.QuietTactic
import Derived.BigQuiet
import Derived.IntWalk
import Derived.Maps.AppendAt
namespace Go.Proofs.Ytbhikceekldenaa.Hb
open Go.RowKit

theorem rsize_neg (a : Int) (h : -9223372036854775808 ≤ a) (c : a < 0) : IntKind.u64.wrap (-(a + 1) + 1) = (a.natAbs : Int) := by
  simp [IntKind.wrap, IntKind.bits, IntKind.signed]; omega
theorem ret_u64' {a b : Int} (h : a = b) : Ending.returned (.int .u64 a) = .returned (.int .u64 b) := by rw [h]
theorem rsize_any (a : Int) (ha : inR a) (w : World) :
    Calls Try.prog 92 #[.int .i64 a] w fun e w' => e = .returned (.int .u64 (a.natAbs : Int)) ∧ w = w' := by
  obtain ⟨a1, a2⟩ := ha
  by_cases c : a < 0
  · have c' : decide (0 ≤ a) = false := decide_eq_false (by omega)
    go_enter Try.func92, Try.ntmps92
    go_wp2
    go_ret
    exact ⟨ret_u64' (by omega), rfl⟩
  · have c' : decide (0 ≤ a) = true := decide_eq_true (by omega)
    go_enter Try.func92, Try.ntmps92
    go_wp2
    go_ret
    exact ⟨ret_u64' (by omega), rfl⟩

/-- A slice of n digits, in new memory. -/
def DigRow (B : Nat) (n : Nat) (D : Nat → Nat) (v : Value) (w : World) : Prop :=
  (∀ j, D j < 65536) ∧ ∃ g c, v = .slice (some ⟨g, 0, none⟩) n c ∧ n ≤ c ∧ B ≤ g ∧ g < w.heap.size ∧ ∀ j, j < n → w.cell? ⟨g, j, none⟩ = some (.int .u64 (D j : Nat))
theorem DigRow.below {B n : Nat} {D : Nat → Nat} {v : Value} {w w1 : World} (h : DigRow B n D v w) (hb : Below w.heap.size w w1) : DigRow B n D v w1 := by
  obtain ⟨h0, g, c, h1, h2, h3, h4, h5⟩ := h
  exact ⟨h0, g, c, h1, h2, h3, Nat.lt_of_lt_of_le h4 hb.size, fun j hj => (hb.cell (p := ⟨g, j, none⟩) h4).trans (h5 j hj)⟩
/-- What a call that makes digits comes to. -/
def Digs (B n N : Nat) (w : World) (e : Ending) (w' : World) : Prop := ∃ D v, e = .returned v ∧ val D n = N ∧ DigRow B n D v w' ∧ Below w.heap.size w w'

theorem rdigits_any (n : Nat) (hn : n < 18446744073709551616) (w : World) :
    Calls Try.prog 110 #[.int .u64 n] w (Digs w.heap.size 4 n w) := by
  go_enter Try.func110, Try.ntmps110
  go_wp2
  go_ret
  refine ⟨dig n, _, rfl, dig_val n, ⟨dig_lt n hn, w.heap.size, _, rfl, by omega, by omega, by simp, ?_⟩, (Below.refl _ _).alloc (Nat.le_refl _) _⟩
  intro j hj
  match j, hj with
  | 0, _ => simp [dig]
  | 1, _ => simp [dig]
  | 2, _ => simp [dig]
  | 3, _ => simp [dig]

set_option maxHeartbeats 1000000 in
theorem rnumber_any (c : Nat) (D : Nat → Nat) (g : Nat) (hD : ∀ j, D j < 65536) (w : World) (hc : ∀ j, j < 4 → w.cell? ⟨g, j, none⟩ = some (.int .u64 (D j : Nat))) :
    Calls Try.prog 117 #[.slice (some ⟨g, 0, none⟩) 4 c] w fun e w' => e = .returned (.int .u64 (val D 4 : Nat)) ∧ Below w.heap.size w w' := by
  have c0 := hc 0 (by omega)
  have c1 := hc 1 (by omega)
  have c2 := hc 2 (by omega)
  have c3 := hc 3 (by omega)
  have b0 := hD 0
  have b1 := hD 1
  have b2 := hD 2
  have b3 := hD 3
  clear hc hD
  rw [val4]
  go_enter Try.func117, Try.ntmps117
  go_wp2
  go_quiet (fail)
  go_wp2
  go_ret
  exact ⟨ret_u64' (by omega), below_drewN (Below.refl _ _) _⟩

set_option maxHeartbeats 1000000 in
theorem rwhole_big (bel : Bool) (len c g : Nat) (D : Nat → Nat) (hl : 4 ≤ len) (hl8 : len ≤ 8) (w : World) (hc : ∀ j, j < len → w.cell? ⟨g, j, none⟩ = some (.int .u64 (D j : Nat))) (jj : Nat) (hj : 4 ≤ jj) (hj2 : jj < len) (hj3 : D jj ≠ 0) :
    Calls Try.prog 108 #[.bool bel, .slice (some ⟨g, 0, none⟩) len c] w fun e w' => e = .returned (res none) ∧ Below w.heap.size w w' := by
  have HC := Lib.hid hc
  have HJ := Lib.hid hj3
  clear hc hj3
  go_enter Try.func108, Try.ntmps108
  go_wp2
  go_loop [6] (fun i => ∃ k : Nat, 4 ≤ k ∧ k ≤ len ∧ i = .int .i64 k ∧ Hid (∀ j, 4 ≤ j → j < k → D j = 0)) (fun i => len - (intOf i).toNat)
  case atStart => exact ⟨4, by omega, hl, rfl, Lib.hid (fun j h1 h2 => by omega)⟩
  case round =>
    obtain ⟨k, hk4, hk, rfl, HZ⟩ := hrel
    by_cases hlt : k < len
    · have ck := HC.out k hlt
      by_cases h0 : D k = 0
      · rw [h0] at ck
        go_wp2
        go_round
        case rel => exact ⟨k + 1, by omega, by omega, by go_num, Lib.hid (fun j h1 h2 => by
          by_cases e : j = k
          · rw [e]; exact h0
          · exact HZ.out j h1 (by omega))⟩
        case measure => simp [intOf]; omega
      · have h1 : 0 < D k := by omega
        have h2 : decide (0 < D k) = true := decide_eq_true h1
        clear h0
        go_wp2
        go_ret2
        exact ⟨rfl, Below.refl _ _⟩
    · exact absurd (HZ.out jj hj (by omega)) HJ.out

def RWhole (bel : Bool) (len c g : Nat) (v : Option Int) (w : World) : Prop :=
  Calls Try.prog 108 #[.bool bel, .slice (some ⟨g, 0, none⟩) len c] w fun e w' => e = .returned (res v) ∧ Below w.heap.size w w'

set_option maxHeartbeats 4000000 in
theorem rwhole_small (bel : Bool) (len c g n : Nat) (D : Nat → Nat) (hl : 4 ≤ len) (hl8 : len ≤ 8) (hlc : len ≤ c) (hD : ∀ j, D j < 65536) (w : World) (hc : ∀ j, j < len → w.cell? ⟨g, j, none⟩ = some (.int .u64 (D j : Nat)))
    (hz : ∀ j, 4 ≤ j → j < len → D j = 0) (hn : val D 4 = n) (hn2 : (n : Int) ≤ 18446744073709551615) (v : Option Int)
    (hv : (((n : Int) == 0) = true ∧ v = some 0) ∨ (((n : Int) == 0) = false ∧ 0 < n ∧
      ((bel = false ∧ (n : Int) ≤ 9223372036854775807 ∧ v = some n) ∨ (bel = false ∧ decide ((n : Int) ≤ 9223372036854775807) = false ∧ v = none) ∨
       (bel = true ∧ (n : Int) ≤ 9223372036854775808 ∧ v = some (-(n : Int))) ∨ (bel = true ∧ decide ((n : Int) ≤ 9223372036854775808) = false ∧ v = none)))) : RWhole bel len c g v w := by
  unfold RWhole
  have HC := Lib.hid hc
  have HZ := Lib.hid hz
  have HN := Lib.hid hn
  have hcn : ∀ W, Below w.heap.size w W → Calls Try.prog 117 #[.slice (some ⟨g, 0, none⟩) 4 c] w fun e w' => e = .returned (.int .u64 (n : Nat)) ∧ Below w.heap.size w w' := fun _ _ => by
    have := rnumber_any c D g hD w (fun j hj => hc j (by omega))
    rwa [hn] at this
  have HV := Lib.hid hcn
  clear hc hz hn hcn hD
  go_enter Try.func108, Try.ntmps108
  go_wp2
  go_loop [6] (fun i => ∃ k : Nat, 4 ≤ k ∧ k ≤ len ∧ i = .int .i64 k) (fun i => len - (intOf i).toNat)
  case atStart => exact ⟨4, by omega, hl, rfl⟩
  case round =>
    obtain ⟨k, hk4, hk, rfl⟩ := hrel
    by_cases hlt : k < len
    · have ck := HC.out k hlt
      rw [HZ.out k hk4 hlt] at ck
      clear hv
      go_wp2
      go_round
      case rel => exact ⟨k + 1, by omega, by omega, by go_num⟩
      case measure => simp [intOf]; omega
    · obtain rfl : k = len := by omega
      clear hlt
      rcases hv with ⟨h1, rfl⟩ | ⟨h1, h0, ⟨rfl, h2, rfl⟩ | ⟨rfl, h2, rfl⟩ | ⟨rfl, h2, rfl⟩ | ⟨rfl, h2, rfl⟩⟩
      · go_wp2_with (go_at_call 117; refine (HV.out w (Below.refl _ _)).mono ?_; rintro e w1 ⟨rfl, hb⟩)
        go_ret2
        exact ⟨rfl, hb⟩
      · go_wp2_with (go_at_call 117; refine (HV.out w (Below.refl _ _)).mono ?_; rintro e w1 ⟨rfl, hb⟩)
        go_ret2
        exact ⟨rfl, hb⟩
      · go_wp2_with (go_at_call 117; refine (HV.out w (Below.refl _ _)).mono ?_; rintro e w1 ⟨rfl, hb⟩)
        go_ret2
        exact ⟨rfl, hb⟩
      · go_wp2_with (go_at_call 117; refine (HV.out w (Below.refl _ _)).mono ?_; rintro e w1 ⟨rfl, hb⟩)
        go_ret2
        refine ⟨?_, hb⟩
        rw [show (-(n : Int)) = -((n : Int) - 1) - 1 from by omega]
        rfl
      · go_wp2_with (go_at_call 117; refine (HV.out w (Below.refl _ _)).mono ?_; rintro e w1 ⟨rfl, hb⟩)
        go_ret2
        exact ⟨rfl, hb⟩

/-- whole, of any digits. -/
theorem rwhole_any (bel : Bool) (len : Nat) (hl : 4 ≤ len) (hl8 : len ≤ 8) (B : Nat) (D : Nat → Nat) (v : Value) (w : World) (h : DigRow B len D v w) :
    Calls Try.prog 108 #[.bool bel, v] w fun e w' => e = .returned (res (lim (if bel = true then -((val D len : Nat) : Int) else (val D len : Nat)))) ∧ Below w.heap.size w w' := by
  obtain ⟨hD, g, c, rfl, hlc, _, _, hc⟩ := h
  by_cases hz : ∀ j, 4 ≤ j → j < len → D j = 0
  · have hn := val_zeros D 4 len hl hz
    have hlt := val_lt D hD 4
    rw [hn]
    obtain ⟨n, e⟩ : ∃ n, val D 4 = n := ⟨_, rfl⟩
    rw [e]
    rw [e] at hlt
    refine rwhole_small bel len c g n D hl hl8 hlc hD w hc hz e (by omega) _ ?_
    by_cases h0 : n = 0
    · left; subst h0; exact ⟨by simp, by cases bel <;> rfl⟩
    · right
      refine ⟨beq_eq_false_iff_ne.2 (by omega), by omega, ?_⟩
      cases bel
      · simp only [Bool.false_eq_true, if_false, false_and, or_false, true_and]
        by_cases h1 : (n : Int) ≤ 9223372036854775807
        · exact .inl ⟨h1, lim_in ⟨by omega, h1⟩⟩
        · exact .inr ⟨decide_eq_false h1, lim_out (fun h => h1 h.2)⟩
      · simp only [if_true, false_and, false_or, true_and, Bool.true_eq_false]
        by_cases h1 : (n : Int) ≤ 9223372036854775808
        · exact .inl ⟨h1, lim_in ⟨by omega, by omega⟩⟩
        · exact .inr ⟨decide_eq_false h1, lim_out (fun h => h1 (by have := h.1; omega))⟩
  · obtain ⟨j, h4, hj, h0⟩ : ∃ j, 4 ≤ j ∧ j < len ∧ D j ≠ 0 := by
      refine Classical.byContradiction fun hno => hz fun j h1 h2 => Classical.byContradiction fun h3 => hno ⟨j, h1, h2, h3⟩
    have hb := val_big D len j hj h0
    have hp : 65536 ^ 4 ≤ 65536 ^ j := Nat.pow_le_pow_right (by omega) h4
    rw [show lim (if bel = true then -((val D len : Nat) : Int) else (val D len : Nat)) = none from lim_out (fun h => by unfold inR at h; split at h <;> omega)]
    exact rwhole_big bel len c g D hl hl8 w hc j h4 hj h0

def digL (D : Nat → Nat) (n : Nat) : List Value := (List.range n).map fun j => Value.int .u64 (D j : Nat)
theorem digL_snoc (D : Nat → Nat) (n d : Nat) : digL D n ++ [Value.int .u64 (d : Nat)] = digL (fun j => if j = n then d else D j) (n + 1) := by
  unfold digL
  rw [List.range_succ, List.map_append]
  congr 1
  · refine List.map_congr_left fun j hj => ?_
    have := List.mem_range.1 hj
    show _ = Value.int .u64 ((if j = n then d else D j : Nat) : Int)
    rw [if_neg (by omega)]
  · simp
theorem digL_get (D : Nat → Nat) (n j : Nat) (h : j < n) : (digL D n)[j]? = some (.int .u64 (D j : Nat)) := by simp [digL, h]
theorem digs_of_own {B n : Nat} {E : Nat → Nat} {v : Value} {w1 : World} (hE : ∀ j, E j < 65536) (h : w1.ownsRow B 72 1 v n (digL E n)) (hn : 0 < n) : DigRow B n E v w1 := by
  obtain ⟨g, c, rfl, h1, h2, h3, h4⟩ := own_open h hn
  exact ⟨hE, g, c, rfl, h1, h2, h3, fun j hj => h4 _ _ (digL_get E n j hj)⟩
theorem info_u64 : (Try.prog.info? 72).map (fun i => (i.zero, i.size, i.bytes)) = some (some (.int .u64 0), 1, 8) := by kernel_rfl

set_option maxRecDepth 100000 in
set_option maxHeartbeats 2000000 in
theorem rsum_any (B1 B2 : Nat) (D1 D2 : Nat → Nat) (v1 v2 : Value) (w : World) (h1 : DigRow B1 4 D1 v1 w) (h2 : DigRow B2 4 D2 v2 w) :
    Calls Try.prog 109 #[v1, v2] w (Digs w.heap.size 5 (val D1 4 + val D2 4) w) := by
  obtain ⟨i0, hi, hz0, hz1, hz2⟩ := info_parts info_u64
  obtain ⟨hD1, g1, c1, rfl, hlc1, _, hg1, hc1⟩ := h1
  obtain ⟨hD2, g2, c2, rfl, hlc2, _, hg2, hc2⟩ := h2
  have HC1 := Lib.hid hc1
  have HC2 := Lib.hid hc2
  have HD1 := Lib.hid hD1
  have HD2 := Lib.hid hD2
  clear hc1 hc2 hD1 hD2
  go_enter Try.func109, Try.ntmps109
  go_wp2
  go_loopw [5, 6, 7] (fun o cv i wr => ∃ (k c : Nat) (E : Nat → Nat), k ≤ 4 ∧ i = .int .i64 k ∧ cv = .int .u64 c ∧ c < 65536 ∧ Hid (∀ j, E j < 65536) ∧ Hid (val E k + c * 65536 ^ k = val D1 k + val D2 k) ∧ wr.ownsRow w.heap.size 72 1 o k (digL E k) ∧ Below w.heap.size w wr) (fun _ _ i _ => 4 - (intOf i).toNat)
  case atStart => exact ⟨0, 0, fun _ => 0, by omega, rfl, rfl, by omega, Lib.hid (fun _ => (by decide : 0 < 65536)), Lib.hid (by simp [val]), World.ownsRow_made w #[] 0 (Nat.le_refl _) (by unfold maxLen; omega) rfl, (Below.refl _ _).alloc (Nat.le_refl _) _⟩
  case round =>
    obtain ⟨k, c, E, hk, rfl, rfl, hc, HE, HV, hrow, hB⟩ := hrel
    have hBs := hB.size
    by_cases hlt : k < 4
    · have x1 := (hB.cell (p := ⟨g1, k, none⟩) hg1).trans (HC1.out k hlt)
      have x2 := (hB.cell (p := ⟨g2, k, none⟩) hg2).trans (HC2.out k hlt)
      have b1 := HD1.out k
      have b2 := HD2.out k
      have hstep := Lib.hid (sum_step E D1 D2 k c HV.out)
      have hfit : (D1 k + D2 k + c) / 65536 < 65536 := by omega
      obtain ⟨n, hn⟩ : ∃ n, n = D1 k + D2 k + c := ⟨_, rfl⟩
      have hE : ∀ j, (fun j => if j = k then n % 65536 else E j) j < 65536 := fun j => by
        show (if j = k then n % 65536 else E j) < 65536
        split
        · omega
        · exact HE.out j
      rw [← hn] at hstep hfit
      have hnb : n ≤ 196605 := by omega
      have e0 := Lib.hid (show (D1 k : Int) + D2 k + c = (n : Int) by omega)
      have HE' := Lib.hid hE
      have HF := Lib.hid hfit
      clear hn hE hfit
      go_wp2
      go_quiet (fail)
      rw [e0.out]
      go_wp2_with (at_builtin; refine wpList_append_own _ rfl _ _ 58 rfl w.heap.size 72 i0 (.int .u64 0) 1 8 Try.underlying58 hi hz0 hz1 hz2 rfl (by decide) _ _ _ rfl (World.ownsRow.alloc (own_drewN hrow _) _) ⟨wr.heap.size, 0, none⟩ 1 1 [.int .u64 ((n : Int) % 65536)] rfl rfl (cell_one_new _ _ _) (by simp [Value.oneCell']) (by unfold maxLen; omega) (by omega) (by simp; omega) ?_; intro v' w1 hown' hgrow _)
      go_roundw
      case rel => exact ⟨k + 1, n / 65536, fun j => if j = k then n % 65536 else E j, hlt, by go_num, by simp, HF.out, HE', hstep, by rw [← digL_snoc]; simpa using hown', ((below_drewN hB _).alloc (by simp; omega) _).grown hgrow (by simp; omega) (fun j e => (hrow.lt j e).1)⟩
      case measure => simp [intOf]; omega
    · obtain rfl : k = 4 := by omega
      go_wp2_with (at_builtin; refine wpList_append_own _ rfl _ _ 58 rfl w.heap.size 72 i0 (.int .u64 0) 1 8 Try.underlying58 hi hz0 hz1 hz2 rfl (by decide) _ _ _ rfl (hrow.alloc _) ⟨wr.heap.size, 0, none⟩ 1 1 [.int .u64 (c : Int)] rfl rfl (cell_one_new _ _ _) (by simp [Value.oneCell']) (by unfold maxLen; omega) (by omega) (by simp; omega) ?_; intro v' w1 hown' hgrow _)
      go_ret
      refine ⟨fun j => if j = 4 then c else E j, v', rfl, ?_, digs_of_own (fun j => ?_) (by rw [← digL_snoc]; exact hown') (by omega), (hB.alloc hBs _).grown hgrow (by simp; omega) (fun j e => (hrow.lt j e).1)⟩
      · have e1 : val (fun j => if j = 4 then c else E j) 4 = val E 4 := val_congr 4 (fun j hj => by show (if j = 4 then c else E j) = E j; rw [if_neg (by omega)])
        have e2 := HV.out
        rw [val, e1]
        simpa using e2
      · show (if j = 4 then c else E j) < 65536
        split
        · exact hc
        · exact HE.out j
end Go.Proofs.Ytbhikceekldenaa.Hb

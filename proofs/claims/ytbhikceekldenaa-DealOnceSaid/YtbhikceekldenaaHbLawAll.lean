/- The walk of the law DealAll. -/
import Derived.Test.YtbhikceekldenaaHbDealQ
import Derived.Test.YtbhikceekldenaaHbNextS
namespace Go.Proofs.Ytbhikceekldenaa.Hb
set_option linter.unusedVariables false
open Go.RowKit

/-- A stream is a source. -/
theorem srcS (b N0 : Nat) (key : Int) (hb : b < N0) : Src (.iface 75 (.pointer (some ⟨b, 0, none⟩))) b N0 (numS key) (StrAt b key) where
  hb := hb
  keep := fun k W W' h hB => (hB.block b hb).trans h
  below := fun n k W hN h1 h2 hk hJ => belowS_any b (numS key) (StrAt b key) (fun k => (numS_in key k).1) (fun k W hk hJ => nextS_any b key k W hk hJ) n k W h1 h2 hk hJ
theorem newS_any (key : Int) (w : World) : Calls Try.prog 33 #[.int .u64 key] w fun e w' => e = .returned (.pointer (some ⟨w.heap.size, 0, none⟩)) ∧ w' = w.alloc (.cells #[.int .u64 key, .int .u64 0] 111) := by
  go_enter Try.func33, Try.ntmps33
  go_wp2
  go_ret
  exact ⟨rfl, rfl⟩
theorem takenS_any (b : Nat) (key : Int) (k : Nat) (w : World) (h : StrAt b key k w) : Calls Try.prog 34 #[.pointer (some ⟨b, 0, none⟩)] w fun e w' => e = .returned (.int .u64 k) ∧ w = w' := by
  have p1 := h.cell 1
  simp only [List.getElem?_toArray, List.getElem?_cons_zero, List.getElem?_cons_succ] at p1
  go_enter Try.func34, Try.ntmps34
  go_wp2
  go_ret
  exact ⟨rfl, rfl⟩
set_option maxRecDepth 100000 in
set_option maxHeartbeats 2000000 in
theorem all_any (key : Int) (n : Int) (wn : (Lit.int .u16 n).wf = true) (w : World) : Calls Try.prog 13 #[.int .u64 key, .int .u16 n] w (True0 w) := by
  obtain ⟨h1, h2⟩ : 0 ≤ n ∧ n ≤ 65535 := by simp [Lit.wf, IntKind.min, IntKind.max, IntKind.signed, IntKind.bits] at wn; omega
  clear wn
  obtain ⟨m, hm⟩ := Int.eq_ofNat_of_zero_le (show 0 ≤ n % 300 by omega)
  have hm3 : m < 300 := by omega
  obtain ⟨R, hR⟩ : ∃ R, mapR (fun q => sortedO (q.take m)) (runO (numS key) stepChoose (bndChoose m m) 0 (rowI m) 0) = R := ⟨_, rfl⟩
  have S := srcS w.heap.size (w.heap.size + 1) key (Nat.lt_succ_self _)
  have k1 := fun W hN hJ => choose_any S m 0 (by omega) (Nat.zero_le _) 0 (by omega) W hN hJ
  have k2 := fun W hN hJ => choose_any S m m (by omega) (Nat.le_refl _) 0 (by omega) W hN hJ
  rw [hR] at k2
  rw [choose_none] at k1
  have K1 := Lib.hid k1
  have K2 := Lib.hid k2
  have HALL : Hid (∀ q Rk, R = (some q, Rk) → q = rowI m ∧ m ≤ Rk) := Lib.hid (fun q Rk e => by
    have := choose_all (by omega) (hR.trans e)
    exact ⟨this.1, by omega⟩)
  have hw1 : IntKind.u16.wrap (n % 300) = (m : Int) := by rw [hm, IntKind.wrap_u16]; omega
  have hw2 : IntKind.i64.wrap (m : Int) = (m : Int) := by rw [IntKind.wrap_i64]; omega
  have HM := Lib.hid hm
  clear k1 k2 S hR
  go_enter Try.func13, Try.ntmps13
  go_wp2_with fail
  refine (newS_any key _).mono ?_
  rintro e w1 ⟨rfl, rfl⟩
  have b1 := (Below.refl w.heap.size w).alloc (Nat.le_refl _) (.cells #[.int .u64 key, .int .u64 0] 111)
  have j1 : StrAt w.heap.size key 0 (w.alloc (.cells #[.int .u64 key, .int .u64 0] 111)) := Blk.new _ _ _
  obtain ⟨W1, e1⟩ : ∃ W, W = w.alloc (.cells #[.int .u64 key, .int .u64 0] 111) := ⟨_, rfl⟩
  have s1 : w.heap.size + 1 ≤ W1.heap.size := by rw [e1]; simp
  rw [← e1] at b1 j1 ⊢
  have HB1 := Lib.hid b1
  have HJ1 := Lib.hid j1
  clear e1 b1 j1
  go_wp2_with fail
  refine (K1.out W1 s1 HJ1.out).mono ?_
  rintro e w2 ⟨hg2, hJ2, g2, c2, rfl, ho2⟩
  have b2 : Below w.heap.size w w2 := grown_below' HB1.out hg2 HB1.out.size (Nat.le_refl _)
  have s2 : w.heap.size + 1 ≤ w2.heap.size := Nat.le_trans s1 hg2.size
  have HJ2 := Lib.hid hJ2
  clear hg2 hJ2 ho2 K1 HB1 HJ1
  go_wp2_with fail
  refine (takenS_any _ key 0 _ HJ2.out).mono ?_
  rintro e w3 ⟨rfl, rfl⟩
  go_wp2_with fail
  refine (K2.out w2 s2 HJ2.out).mono ?_
  rintro e w3 ⟨hg3, hJ3, hres⟩
  have b3 : Below w.heap.size w w3 := grown_below' b2 hg3 b2.size (Nat.le_refl _)
  have HJ3 := Lib.hid hJ3
  clear hg3 hJ3 K2 HJ2 s1 s2
  obtain ⟨Ro, Rk⟩ := R
  cases Ro with
  | none =>
    simp only at hres
    subst hres
    go_wp2_with fail
    refine (fixed3_any _).mono ?_
    rintro e w4 ⟨rfl, hb4⟩
    have b4 := b3.trans (hb4.mono b3.size)
    go_wp2_with fail
    go_ret
    exact ⟨rfl, b4⟩
  | some q =>
    obtain ⟨g3, c3, rfl, ho3⟩ := hres
    obtain ⟨rfl, hRk⟩ := HALL.out q Rk rfl
    rw [rowI_len] at ho3 ⊢
    have HO3 := Lib.hid ho3
    simp only at HJ3
    clear ho3 HALL
    go_wp2_with fail
    go_loop [52] (fun iv => ∃ i : Nat, i ≤ m ∧ iv = .int .i64 i) (fun iv => m - (intOf iv).toNat)
    case atStart => exact ⟨0, Nat.zero_le _, rfl⟩
    case round =>
      obtain ⟨i, hi, rfl⟩ := hrel
      by_cases hlt : i < m
      · have hlt' : (i : Int) < m := by omega
        have y := HO3.out.at hlt
        rw [rowI_get m i hlt] at y
        have hq : ((i : Int) != (i : Int)) = false := by simp
        go_wp2_with fail
        go_round
        case rel => exact ⟨i + 1, hlt, by go_num⟩
        case measure => simp [intOf]; omega
      · obtain rfl : i = m := by omega
        go_wp2_with fail
        refine (fixed3_any _).mono ?_
        rintro e w4 ⟨rfl, hb4⟩
        have b4 := b3.trans (hb4.mono b3.size)
        have HJ4 := Lib.hid (HJ3.out.below hb4)
        have hq : ((i : Int) == (i : Int)) = true := beq_self_eq_true _
        clear hb4
        go_wp2_with fail
        refine (takenS_any _ key Rk _ HJ4.out).mono ?_
        rintro e w5 ⟨rfl, rfl⟩
        have hd : decide ((i : Int) ≤ (Rk : Int)) = true := decide_eq_true (by omega)
        have hd2 : decide (i ≤ Rk) = true := decide_eq_true (by omega)
        go_wp2_with fail
        go_ret
        exact ⟨rfl, b4⟩
end Go.Proofs.Ytbhikceekldenaa.Hb

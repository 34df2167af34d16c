/- The walk of the law DealOnce. -/
import Derived.Test.YtbhikceekldenaaHbLawAll
import Derived.Deep.DeepCutAuto
namespace Go.Proofs.Ytbhikceekldenaa.Hb
set_option linter.unusedVariables false
open Go.RowKit

/-- A result of dealing: none, or a row. -/
def Res3 (R : Option (List Int)) (base : Nat) (sl : Value) (er : Int) (w : World) : Prop :=
  (R = none ∧ er = 7 ∧ sl = .slice none 0 0) ∨ ∃ q g c, R = some q ∧ er = 0 ∧ sl = .slice (some ⟨g, 0, none⟩) q.length c ∧ OwnI w base g q.length c q
theorem RetD.out {R : Option (List Int) × Nat} {J : Nat → World → Prop} {b : Nat} {w : World} {e : Ending} {w' : World} (h : RetD R J b w e w') :
    ∃ sl er, e = .returned (.tuple #[sl, .int .i64 er]) ∧ w.grownBy w' (some b) ∧ Res3 R.1 w.heap.size sl er w' := by
  obtain ⟨Ro, Rk⟩ := R
  obtain ⟨hg, _, hr⟩ := h
  cases Ro with
  | none => exact ⟨_, _, hr, hg, .inl ⟨rfl, rfl, rfl⟩⟩
  | some q =>
    obtain ⟨g, c, he, ho⟩ := hr
    exact ⟨_, _, he, hg, .inr ⟨q, g, c, rfl, rfl, rfl, ho⟩⟩
theorem Res3.next {R : Option (List Int)} {base : Nat} {sl : Value} {er : Int} {w w' : World} {o : Obj} {b : Nat} (h : Res3 R base sl er w) (hg : (w.alloc o).grownBy w' (some b)) (hb : b = w.heap.size) : Res3 R base sl er w' := by
  rcases h with h | ⟨q, g, c, h1, h2, h3, h4⟩
  · exact .inl h
  · refine .inr ⟨q, g, c, h1, h2, h3, World.ownsRow.kept (h4.alloc _) hg (.inr (fun e => ?_))⟩
    have := Option.some.inj e
    have h5 := (World.ownsRow.lt h4 g rfl).2
    simp at this
    omega
theorem Res3.er {R : Option (List Int)} {base : Nat} {sl : Value} {er : Int} {w : World} (h : Res3 R base sl er w) : er = 0 ∨ er = 7 := by
  rcases h with ⟨_, h, _⟩ | ⟨_, _, _, _, h, _⟩
  · exact .inr h
  · exact .inl h
theorem Res3.bad {R : Option (List Int)} {base : Nat} {sl : Value} {w : World} {er : Int} (h : Res3 R base sl er w) (hr : er ≠ 0) : er = 7 := by
  rcases h.er with h | h
  · exact absurd h hr
  · exact h
set_option maxRecDepth 100000 in
set_option maxHeartbeats 4000000 in
theorem once_any (key : Int) (n : Int) (wn : (Lit.int .u16 n).wf = true) (k : Int) (wk : (Lit.int .u16 k).wf = true) (w : World) : Calls Try.prog 12 #[.int .u64 key, .int .u16 n, .int .u16 k] w (True0 w) := by
  obtain ⟨i0, hi, hz0, hz1, hz2⟩ := info_parts info_int
  obtain ⟨h1, h2⟩ : 0 ≤ n ∧ n ≤ 65535 := by simp [Lit.wf, IntKind.min, IntKind.max, IntKind.signed, IntKind.bits] at wn; omega
  obtain ⟨h3, h4⟩ : 0 ≤ k ∧ k ≤ 65535 := by simp [Lit.wf, IntKind.min, IntKind.max, IntKind.signed, IntKind.bits] at wk; omega
  clear wn wk
  obtain ⟨m, hm⟩ := Int.eq_ofNat_of_zero_le (show 0 ≤ n % 300 by omega)
  have hm3 : m < 300 := by omega
  obtain ⟨c, hc, hcm⟩ : ∃ c : Nat, (k % ((m : Int) + 1)) = c ∧ c ≤ m := by
    obtain ⟨c, hc⟩ := Int.eq_ofNat_of_zero_le (Int.emod_nonneg k (show (m : Int) + 1 ≠ 0 by omega))
    have := Int.emod_lt_of_pos k (show (0 : Int) < m + 1 by omega)
    exact ⟨c, hc, by omega⟩
  obtain ⟨R1, hR1⟩ : ∃ R, runO (numS key) (stepPerm m) (bndPerm m) 0 (rowI m) 0 = R := ⟨_, rfl⟩
  obtain ⟨R2, hR2⟩ : ∃ R, mapR (fun q => sortedO (q.take c)) (runO (numS key) stepChoose (bndChoose m c) 0 (rowI m) 0) = R := ⟨_, rfl⟩
  obtain ⟨R3, hR3⟩ : ∃ R, runO (numS key) stepDeal (List.replicate m (m : Int)) 0 (List.replicate m 0) 0 = R := ⟨_, rfl⟩
  have k1 := fun W : World => perm_any (srcS W.heap.size (W.heap.size + 1) key (Nat.lt_succ_self _)) m (by omega) 0 (by omega) (W.alloc (.cells #[.int .u64 key, .int .u64 0] 111)) (by simp) (Blk.new _ _ _)
  have k2 := fun W : World => choose_any (srcS W.heap.size (W.heap.size + 1) key (Nat.lt_succ_self _)) m c (by omega) hcm 0 (by omega) (W.alloc (.cells #[.int .u64 key, .int .u64 0] 111)) (by simp) (Blk.new _ _ _)
  have k3 := fun W : World => deal_any (srcS W.heap.size (W.heap.size + 1) key (Nat.lt_succ_self _)) m (by omega) 0 (by omega) (W.alloc (.cells #[.int .u64 key, .int .u64 0] 111)) (by simp) (Blk.new _ _ _)
  rw [hR1] at k1
  rw [hR2] at k2
  rw [hR3] at k3
  have K1 := Lib.hid k1
  have K2 := Lib.hid k2
  have K3 := Lib.hid k3
  have P1 : Hid (∀ q Rk, R1 = (some q, Rk) → q.Perm (rowI m)) := Lib.hid (fun q Rk e => permR_perm (by omega) (hR1.trans e))
  have P2 : Hid (∀ q Rk, R2 = (some q, Rk) → q.length = c ∧ (∀ x ∈ q, 0 ≤ x ∧ x < m) ∧ ∀ i, i + 1 < q.length → q.getD i 0 < q.getD (i + 1) 0) := Lib.hid (fun q Rk e => choose_up (by omega) hcm (hR2.trans e))
  have P3 : Hid (∀ q Rk, R3 = (some q, Rk) → q.length = m ∧ (∀ x ∈ q, 0 ≤ x ∧ x ≤ m) ∧ q.sum = m) := Lib.hid (fun q Rk e => deal_sum (by omega) (hR3.trans e))
  have hw1 : IntKind.u16.wrap (n % 300) = (m : Int) := by rw [hm, IntKind.wrap_u16]; omega
  have hw2 : IntKind.i64.wrap (m : Int) = (m : Int) := by rw [IntKind.wrap_i64]; omega
  have hw3 : IntKind.i64.wrap k = k := by rw [IntKind.wrap_i64]; omega
  have HM := Lib.hid hm
  have HC := Lib.hid hc
  clear k1 k2 k3 hR1 hR2 hR3 hc
  go_enter Try.func12, Try.ntmps12
  go_upto_if 27 with (fail)
  go_cut [8] (fun s8 wx => s8 = .int .i64 c ∧ wx = w)
  case first =>
    by_cases hm0 : m = 0
    · have hd : decide (0 < m) = false := decide_eq_false (by omega)
      have hc0 : c = 0 := by omega
      have HC0 := Lib.hid hc0
      clear hm0 hc0
      rw [hd]
      go_wp2_with fail
      go_meet
      exact ⟨by rw [HC0.out]; rfl, rfl⟩
    · have hd : decide (0 < m) = true := decide_eq_true (by omega)
      clear hm0
      rw [hd]
      go_wp2_with fail
      go_meet
      exact ⟨by rw [HC.out], rfl⟩
  case rest =>
  obtain ⟨rfl, hw⟩ := hcut
  subst hw
  go_wp2_with fail
  refine (newS_any key _).mono ?_
  rintro e w1 ⟨rfl, rfl⟩
  go_wp2_with fail
  refine (K1.out wc).mono ?_
  rintro e w1 hr1
  obtain ⟨sl1, er1, rfl, hg1, hc1⟩ := hr1.out
  have b1 : Below wc.heap.size wc w1 := grown_below' ((Below.refl _ wc).alloc (Nat.le_refl _) _) hg1 (by simp) (Nat.le_refl _)
  clear hr1 hg1 K1
  go_wp2_with fail
  refine (newS_any key _).mono ?_
  rintro e w2 ⟨rfl, rfl⟩
  go_wp2_with fail
  refine (K2.out w1).mono ?_
  rintro e w2 hr2
  obtain ⟨sl2, er2, rfl, hg2, hc2⟩ := hr2.out
  have b2 : Below wc.heap.size wc w2 := grown_below' (b1.alloc b1.size _) hg2 (by have := b1.size; simp; omega) b1.size
  replace hc1 := hc1.next hg2 rfl
  clear hr2 hg2 K2 b1
  go_wp2_with fail
  refine (newS_any key _).mono ?_
  rintro e w3 ⟨rfl, rfl⟩
  go_wp2_with fail
  refine (K3.out w2).mono ?_
  rintro e w3 hr3
  obtain ⟨sl3, er3, rfl, hg3, hc3⟩ := hr3.out
  have b3 : Below wc.heap.size wc w3 := grown_below' (b2.alloc b2.size _) hg3 (by have := b2.size; simp; omega) b2.size
  replace hc1 := hc1.next hg3 rfl
  replace hc2 := hc2.next hg3 rfl
  clear hr3 hg3 K3 b2
  have HC1 := Lib.hid hc1
  have HC2 := Lib.hid hc2
  have HC3 := Lib.hid hc3
  clear hc1 hc2 hc3
  by_cases hok : er1 = 0 ∧ er2 = 0 ∧ er3 = 0
  · obtain ⟨rfl, rfl, rfl⟩ := hok
    obtain ⟨q1, g1, c1, e1, _, rfl, o1⟩ := HC1.out.resolve_left (fun h => by cases h.2.1)
    obtain ⟨q2, g2, c2, e2, _, rfl, o2⟩ := HC2.out.resolve_left (fun h => by cases h.2.1)
    obtain ⟨q3, g3, c3, e3, _, rfl, o3⟩ := HC3.out.resolve_left (fun h => by cases h.2.1)
    have p1 := P1.out q1 R1.2 (by rw [← e1])
    have p2 := P2.out q2 R2.2 (by rw [← e2])
    have p3 := P3.out q3 R3.2 (by rw [← e3])
    have l1 : q1.length = m := by rw [p1.length_eq, rowI_len]
    have l2 : q2.length = c := p2.1
    have l3 : q3.length = m := p3.1
    rw [l1] at o1 ⊢
    rw [l2] at o2 ⊢
    rw [l3] at o3 ⊢
    have O1 := Lib.hid o1
    have O2 := Lib.hid o2
    have O3 := Lib.hid o3
    have Q1 := Lib.hid p1
    have Q2 := Lib.hid p2
    have Q3 := Lib.hid p3
    have L1 := Lib.hid l1
    have L2 := Lib.hid l2
    have L3 := Lib.hid l3
    have t1 := (World.ownsRow.lt o1 g1 rfl).2
    have t2 := (World.ownsRow.lt o2 g2 rfl).2
    have t3 := (World.ownsRow.lt o3 g3 rfl).2
    clear HC1 HC2 HC3 P1 P2 P3 e1 e2 e3 p1 p2 p3 l1 l2 l3 o1 o2 o3
    go_wp2_with (at_make; refine wpList_make_full _ rfl _ _ 54 rfl w3.heap.size 3 i0 (.int .i64 0) 1 Try.underlying54 hi hz0 hz1 .i64 .i64 _ _ m rfl rfl rfl rfl (by rw [hz2]; omega) (by unfold maxLen; omega) (by simp) ?_; intro w4 hown hgrow)
    have hrow : OwnI w4 w3.heap.size w3.heap.size m m (List.replicate m 0) := by
      rw [Nat.mul_one] at hown
      show w4.ownsRow _ _ _ _ _ (ints (List.replicate m 0))
      rw [ints_zeros, ← toList_madeCells_one]
      exact hown
    have hb4 : Below w3.heap.size w3 w4 := ⟨hgrow.os, hgrow.tape, hgrow.output, hgrow.size, fun k hk => hgrow.block k hk (by simp)⟩
    have HROW : Hid (∃ sn, OwnI w4 w3.heap.size w3.heap.size m m sn ∧ ∀ z : Nat, (z : Int) ∉ q1.take 0 → sn.getD z 0 = 0) := Lib.hid ⟨_, hrow, fun z _ => by
      have := small_zero m z
      omega⟩
    obtain ⟨gs, hgs⟩ : ∃ gs, w3.heap.size = gs := ⟨_, rfl⟩
    rw [hgs] at HROW hb4 t1 t2 t3 ⊢
    have HGS := Lib.hid hgs
    clear hown hgrow hrow hgs
    go_loopw [97] (fun iv wr => ∃ i : Nat, i ≤ m ∧ iv = .int .i64 i ∧ Hid (∃ sn, OwnI wr gs gs m m sn ∧ ∀ z : Nat, (z : Int) ∉ q1.take i → sn.getD z 0 = 0) ∧ Below gs w3 wr) (fun iv _ => m - (intOf iv).toNat)
    case atStart => exact ⟨0, Nat.zero_le _, rfl, HROW, hb4⟩
    case round =>
      clear HROW hb4
      obtain ⟨i, hi, rfl, HS, hB⟩ := hrel
      by_cases hlt : i < m
      · have hlt' : (i : Int) < m := by omega
        obtain ⟨sn, HSN⟩ : ∃ sn, Hid (OwnI wr gs gs m m sn ∧ ∀ z : Nat, (z : Int) ∉ q1.take i → sn.getD z 0 = 0) := by obtain ⟨sn, h⟩ := HS.out; exact ⟨sn, Lib.hid h⟩
        have y := (hB.cell (p := ⟨g1, i, none⟩) t1).trans (O1.out.at hlt)
        have hil : i < q1.length := by rw [L1.out]; exact hlt
        have hmem : q1.getD i 0 ∈ q1 := by rw [List.getD_eq_getElem?_getD, List.getElem?_eq_getElem hil]; exact List.getElem_mem hil
        have hx := (rowI_mem m _).1 (Q1.out.mem_iff.1 hmem)
        have htk := take_succ' hil
        obtain ⟨x, ex⟩ : ∃ x : Nat, q1.getD i 0 = x := ⟨(q1.getD i 0).toNat, by omega⟩
        have hnot : (x : Int) ∉ q1.take i := by
          have hnd : (q1.take (i + 1)).Nodup := (Q1.out.nodup_iff.2 (rowI_nodup m)).sublist (List.take_sublist _ _)
          rw [htk, ex] at hnd
          rw [List.nodup_append] at hnd
          exact fun h => hnd.2.2 _ h _ (List.mem_singleton.2 rfl) rfl
        rw [ex] at y hx htk
        have hxm : x < m := by omega
        have hxm' : (x : Int) < m := by omega
        have hsx : sn.getD x 0 = 0 := HSN.out.2 x hnot
        have c0 := HSN.out.1.at hxm
        rw [hsx] at c0
        have cf := World.ownsRow.frozenAt HSN.out.1
        have hst := (World.ownsRow.stored HSN.out.1 x (.int .i64 1)).1
        rw [ints_set] at hst
        have HNX : Hid (∃ sn, OwnI (wr.setCell ⟨gs, x, none⟩ (.int .i64 1)) gs gs m m sn ∧ ∀ z : Nat, (z : Int) ∉ q1.take (i + 1) → sn.getD z 0 = 0) := Lib.hid ⟨_, hst, fun z hz => by
          rw [htk, List.mem_append, List.mem_singleton] at hz
          have hzx : x ≠ z := fun e => hz (.inr (by rw [e]))
          rw [List.getD_eq_getElem?_getD, List.getElem?_set_ne hzx, ← List.getD_eq_getElem?_getD]
          exact HSN.out.2 z (fun h => hz (.inl h))⟩
        have hBn : Below gs w3 (wr.setCell ⟨gs, x, none⟩ (.int .i64 1)) := hB.setCell (p := ⟨gs, x, none⟩) (Nat.le_refl _) _
        have d1 : decide ((x : Int) < 0) = false := decide_eq_false (by omega)
        have d2 : decide (m ≤ x) = false := decide_eq_false (by omega)
        clear hil hmem hx htk ex hnot hsx hst HS
        go_wp2_with fail
        go_roundw
        case rel => exact ⟨i + 1, hlt, by go_num, HNX, hBn⟩
        case measure => simp [intOf]; omega
      · obtain rfl : i = m := by omega
        clear HS
        obtain ⟨wv, hwv⟩ : ∃ W, wr = W := ⟨_, rfl⟩
        subst hwv
        have HBL := Lib.hid hB
        go_wp2_with fail
        go_loop [124] (fun iv => ∃ j : Nat, j ≤ c ∧ iv = .int .i64 j) (fun iv => c - (intOf iv).toNat)
        case atStart => exact ⟨0, Nat.zero_le _, rfl⟩
        case round =>
          obtain ⟨j, hj, rfl⟩ := hrel
          by_cases hjl : j < c
          · have hjl' : (j : Int) < c := by omega
            have y := (HBL.out.cell (p := ⟨g2, j, none⟩) t2).trans (O2.out.at hjl)
            have hil : j < q2.length := by rw [L2.out]; exact hjl
            have hmem : q2.getD j 0 ∈ q2 := by rw [List.getD_eq_getElem?_getD, List.getElem?_eq_getElem hil]; exact List.getElem_mem hil
            have hx := Q2.out.2.1 _ hmem
            obtain ⟨x, ex⟩ : ∃ x, q2.getD j 0 = x := ⟨_, rfl⟩
            rw [ex] at y hx
            have EX := Lib.hid ex
            have d1 : decide (x < 0) = false := decide_eq_false (by omega)
            have d2 : decide ((i : Int) ≤ x) = false := decide_eq_false (by omega)
            clear hil hmem hx ex
            by_cases hj0 : j = 0
            · have d3 : decide (0 < j) = false := decide_eq_false (by omega)
              clear hj0
              go_wp2_with fail
              go_round
              case rel => exact ⟨j + 1, hjl, by go_num⟩
              case measure => simp [intOf]; omega
            · obtain ⟨t, ht⟩ : ∃ t, j = t + 1 := ⟨j - 1, by omega⟩
              have htc : t < c := by omega
              have htc' : (t : Int) < c := by omega
              have y2 := (HBL.out.cell (p := ⟨g2, t, none⟩) t2).trans (O2.out.at htc)
              have hup := Q2.out.2.2 t (by rw [L2.out]; omega)
              rw [← ht, EX.out] at hup
              obtain ⟨x2, ex2⟩ : ∃ x, q2.getD t 0 = x := ⟨_, rfl⟩
              rw [ex2] at y2 hup
              have d3 : decide (0 < j) = true := decide_eq_true (by omega)
              have d4 : decide (x ≤ x2) = false := decide_eq_false (by omega)
              have hw : IntKind.i64.wrap ((j : Int) - 1) = t := by rw [IntKind.wrap_i64]; omega
              have hw' : (j : Int) - 1 = t := by omega
              clear hj0 ht hup ex2
              go_wp2_with fail
              go_round
              case rel => exact ⟨j + 1, hjl, by go_num⟩
              case measure => simp [intOf]; omega
          · obtain rfl : j = c := by omega
            go_wp2_with fail
            go_loop [20, 152] (fun sv iv => ∃ (u : Nat) (S : Int), u ≤ i ∧ iv = .int .i64 u ∧ sv = .int .i64 S ∧ Hid (S = (q3.take u).sum) ∧ 0 ≤ S ∧ S ≤ u * 300) (fun _ iv => i - (intOf iv).toNat)
            case atStart => exact ⟨0, 0, Nat.zero_le _, rfl, rfl, Lib.hid rfl, by omega, by omega⟩
            case round =>
              obtain ⟨u, S, hu, rfl, rfl, HSU, hS0, hS1⟩ := hrel
              by_cases hul : u < i
              · have hul' : (u : Int) < i := by omega
                have y := (HBL.out.cell (p := ⟨g3, u, none⟩) t3).trans (O3.out.at hul)
                have hil : u < q3.length := by rw [L3.out]; exact hul
                have hmem : q3.getD u 0 ∈ q3 := by rw [List.getD_eq_getElem?_getD, List.getElem?_eq_getElem hil]; exact List.getElem_mem hil
                have hx := Q3.out.2.1 _ hmem
                have htk := take_succ' hil
                obtain ⟨x, ex⟩ : ∃ x, q3.getD u 0 = x := ⟨_, rfl⟩
                rw [ex] at y hx htk
                have HN : Hid (S + x = (q3.take (u + 1)).sum) := Lib.hid (by rw [htk, List.sum_append, ← HSU.out]; simp)
                have d1 : decide (x < 0) = false := decide_eq_false (by omega)
                have d2 : decide ((i : Int) < x) = false := decide_eq_false (by omega)
                have hb1 : 0 ≤ S + x := by omega
                have hb2 : S + x ≤ ((u + 1 : Nat) : Int) * 300 := by omega
                have hw : IntKind.i64.wrap (S + x) = S + x := by rw [IntKind.wrap_i64]; omega
                clear hil hmem hx htk ex
                go_wp2_with fail
                go_round
                case rel => exact ⟨u + 1, S + x, hul, by go_num, rfl, HN, hb1, hb2⟩
                case measure => simp [intOf]; omega
              · obtain rfl : u = i := by omega
                have hSm : S = u := by
                  rw [HSU.out, List.take_of_length_le (by rw [L3.out]; exact Nat.le_refl _)]
                  exact Q3.out.2.2
                subst hSm
                have hq1 : ((u : Int) == (u : Int)) = true := beq_self_eq_true _
                have hq2 : ((j : Int) == (j : Int)) = true := beq_self_eq_true _
                go_wp2_with fail
                refine (fixed3_any _).mono ?_
                rintro e w4 ⟨rfl, hb4⟩
                have b4 := (b3.trans (HBL.out.mono (by have := b3.size; have := HGS.out; omega))).trans (hb4.mono (by have := b3.size; have := HGS.out; have := HBL.out.size; omega))
                go_wp2_with fail
                go_ret
                exact ⟨rfl, b4⟩
  · rcases HC1.out.er with rfl | rfl <;> rcases HC2.out.er with rfl | rfl <;> rcases HC3.out.er with rfl | rfl
    · exact absurd ⟨rfl, rfl, rfl⟩ hok
    all_goals
      clear hok
      go_wp2_with fail
      refine (fixed3_any _).mono ?_
      rintro e w4 ⟨rfl, hb4⟩
      have b4 := b3.trans (hb4.mono b3.size)
      go_wp2_with fail
      go_ret
      exact ⟨rfl, b4⟩
end Go.Proofs.Ytbhikceekldenaa.Hb

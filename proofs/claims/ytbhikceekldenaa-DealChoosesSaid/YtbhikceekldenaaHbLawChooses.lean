/- The walk of the law DealChooses. -/
import Derived.Test.YtbhikceekldenaaHbFix03
import Derived.Test.YtbhikceekldenaaHbOpenU
namespace Go.Proofs.Ytbhikceekldenaa.Hb
set_option linter.unusedVariables false
open Go.RowKit

set_option maxRecDepth 100000 in
set_option maxHeartbeats 400000 in
theorem choose_bad {v : Value} (n m : Int) (h : n < 0 ∨ 1048576 < n ∨ m < 0 ∨ n < m) (w : World) : Calls Try.prog 29 #[v, .int .i64 n, .int .i64 m] w fun e w' => e = .returned (.tuple #[.slice none 0 0, .int .i64 1]) ∧ w = w' := by
  by_cases h1 : n < 0
  · have d1 : decide (n < 0) = true := decide_eq_true h1
    clear h h1
    go_enter Try.func29, Try.ntmps29
    go_wp2_with fail
    go_ret2
    exact ⟨rfl, rfl⟩
  have d1 : decide (n < 0) = false := decide_eq_false h1
  by_cases h2 : 1048576 < n
  · have d2 : decide (1048576 < n) = true := decide_eq_true h2
    clear h h1 h2
    go_enter Try.func29, Try.ntmps29
    go_wp2_with fail
    go_ret2
    exact ⟨rfl, rfl⟩
  have d2 : decide (1048576 < n) = false := decide_eq_false h2
  by_cases h3 : m < 0
  · have d3 : decide (m < 0) = true := decide_eq_true h3
    clear h h1 h2 h3
    go_enter Try.func29, Try.ntmps29
    go_wp2_with fail
    go_ret2
    exact ⟨rfl, rfl⟩
  have d3 : decide (m < 0) = false := decide_eq_false h3
  have d4 : decide (n < m) = true := decide_eq_true (by omega)
  clear h h1 h2 h3
  go_enter Try.func29, Try.ntmps29
  go_wp2_with fail
  go_ret2
  exact ⟨rfl, rfl⟩
set_option maxRecDepth 100000 in
set_option maxHeartbeats 400000 in
theorem rchoose_bad {v : Value} (n m : Int) (h : n < 0 ∨ 1048576 < n ∨ m < 0 ∨ n < m) (w : World) : Calls Try.prog 30 #[v, .int .i64 n, .int .i64 m] w fun e w' => e = .returned (.tuple #[.slice none 0 0, .int .i64 0, .int .i64 1]) ∧ w = w' := by
  by_cases h1 : n < 0
  · have d1 : decide (n < 0) = true := decide_eq_true h1
    clear h h1
    go_enter Try.func30, Try.ntmps30
    go_wp2_with fail
    refine bodyPost_ret (v := .tuple #[.slice none 0 0, .int .i64 0, .int .i64 1]) (by simp [results, Try.results30, go_sem]) rfl ?_
    exact ⟨rfl, rfl⟩
  have d1 : decide (n < 0) = false := decide_eq_false h1
  by_cases h2 : 1048576 < n
  · have d2 : decide (1048576 < n) = true := decide_eq_true h2
    clear h h1 h2
    go_enter Try.func30, Try.ntmps30
    go_wp2_with fail
    refine bodyPost_ret (v := .tuple #[.slice none 0 0, .int .i64 0, .int .i64 1]) (by simp [results, Try.results30, go_sem]) rfl ?_
    exact ⟨rfl, rfl⟩
  have d2 : decide (1048576 < n) = false := decide_eq_false h2
  by_cases h3 : m < 0
  · have d3 : decide (m < 0) = true := decide_eq_true h3
    clear h h1 h2 h3
    go_enter Try.func30, Try.ntmps30
    go_wp2_with fail
    refine bodyPost_ret (v := .tuple #[.slice none 0 0, .int .i64 0, .int .i64 1]) (by simp [results, Try.results30, go_sem]) rfl ?_
    exact ⟨rfl, rfl⟩
  have d3 : decide (m < 0) = false := decide_eq_false h3
  have d4 : decide (n < m) = true := decide_eq_true (by omega)
  clear h h1 h2 h3
  go_enter Try.func30, Try.ntmps30
  go_wp2_with fail
  refine bodyPost_ret (v := .tuple #[.slice none 0 0, .int .i64 0, .int .i64 1]) (by simp [results, Try.results30, go_sem]) rfl ?_
  exact ⟨rfl, rfl⟩
set_option maxRecDepth 100000 in
set_option maxHeartbeats 2000000 in
theorem DealChooses_any (A : Option Addr) (cap : Nat) (l : List Int) (n m : Int) (w : World) (hl : l.length ≤ 9223372036854775807) (hr : RdU w A l) :
    Calls Try.prog 9 #[.slice A l.length cap, .int .i64 n, .int .i64 m] w (True0 w) := by
  have kg := great3_any A l.length cap n hl w
  obtain ⟨gr, hgr⟩ : ∃ gr, great3 l.length n = gr := ⟨_, rfl⟩
  rw [hgr] at kg
  have KG := Lib.hid kg
  have HU := Lib.hid hr
  obtain ⟨L, hL⟩ : ∃ L, l.length = L := ⟨_, rfl⟩
  rw [hL] at KG hl hgr ⊢
  have HL := Lib.hid hL
  clear kg hr hL
  cases gr with
  | true =>
    clear hgr
    go_enter Try.func9, Try.ntmps9
    go_wp2_with fail
    refine KG.out.mono ?_
    rintro e w1 ⟨rfl, rfl⟩
    go_wp2_with fail
    refine (fixed3_any _).mono ?_
    rintro e w1 ⟨rfl, hb⟩
    go_wp2_with fail
    go_ret
    exact ⟨rfl, hb⟩
  | false =>
    have hg : ¬ (500 < L ∨ (300 < n ∧ n ≤ 1048576)) := of_decide_eq_false hgr
    clear hgr
    by_cases hbad : n < 0 ∨ 1048576 < n ∨ m < 0 ∨ n < m
    · clear hg
      have kp := fun v w => choose_bad (v := v) n m hbad w
      have kr := fun v w => rchoose_bad (v := v) n m hbad w
      have KP := Lib.hid kp
      have KR := Lib.hid kr
      clear kp kr hbad
      go_enter Try.func9, Try.ntmps9
      go_wp2_with fail
      refine KG.out.mono ?_
      rintro e w1 ⟨rfl, rfl⟩
      go_wp2_with fail
      refine (KP.out _ _).mono ?_
      rintro e w1 ⟨rfl, hw⟩
      subst hw
      go_wp2_with fail
      refine (KR.out _ _).mono ?_
      rintro e w1 ⟨rfl, hw⟩
      subst hw
      go_wp2_with fail
      have kb := Blk.new w #[.slice A L cap, .int .i64 0] 62
      have b1 := (Below.refl w.heap.size w).alloc (Nat.le_refl _) (.cells #[.slice A L cap, .int .i64 0] 62)
      refine (fixed3_any _).mono ?_
      rintro e w2 ⟨rfl, hb2⟩
      have kb2 := kb.below hb2
      have b2 := b1.trans (hb2.mono b1.size)
      have c1 := kb2.cell 1
      simp only [List.getElem?_toArray, List.getElem?_cons_zero, List.getElem?_cons_succ] at c1
      clear kb hb2
      go_wp2_with fail
      refine (same3_any none none 0 0 [] [] _ ⟨by simp, .inl rfl⟩ ⟨by simp, .inl rfl⟩ (by simp) (by simp)).mono ?_
      rw [decide_eq_true rfl]
      rintro e w3 ⟨rfl, hb3⟩
      have kb3 := kb2.below hb3
      have b3 := b2.trans (hb3.mono b2.size)
      clear c1
      have c1 := kb3.cell 1
      simp only [List.getElem?_toArray, List.getElem?_cons_zero, List.getElem?_cons_succ] at c1
      clear hb3 kb2
      go_wp2_with fail
      go_ret
      exact ⟨rfl, b3⟩
    · obtain ⟨n, rfl⟩ : ∃ n' : Nat, n = n' := ⟨n.toNat, by omega⟩
      obtain ⟨m, rfl⟩ : ∃ m' : Nat, m = m' := ⟨m.toNat, by omega⟩
      have hm : m ≤ n := by omega
      have hn : n ≤ 1048576 := by omega
      obtain ⟨R, hR⟩ : ∃ R, mapR (fun q => sortedO (q.take m)) (runO (numL l) stepChoose (bndChoose n m) 0 (rowI n) 0) = R := ⟨_, rfl⟩
      have S := srcL w.heap.size (w.heap.size + 1) A cap l (Nat.lt_succ_self _) (by rw [HL.out]; exact hl) HU.out.1 (fun ad e h0 => by
        rcases HU.out.2 with h | ⟨ad', e', hc⟩
        · exact absurd h h0
        · rw [e] at e'; cases e'
          have := World.block_lt_of_cell? w _ (hc 0 (List.length_pos_iff.2 h0))
          rw [add_block] at this
          omega)
      have hJ0 : LstAt w.heap.size A cap l 0 (w.alloc (.cells #[.slice A L cap, .int .i64 0] 62)) := by
        refine ⟨by rw [HL.out]; exact Blk.new _ _ _, ?_⟩
        by_cases h0 : l = []
        · exact .inl h0
        · rcases HU.out.2 with h | ⟨ad, e, hc⟩
          · exact absurd h h0
          · refine .inr ⟨ad, e, ?_, fun i hi => cell_alloc (hc i hi) _⟩
            have := World.block_lt_of_cell? w _ (hc 0 (List.length_pos_iff.2 h0))
            rw [add_block] at this
            omega
      have kp := choose_any S n m hn hm 0 (by omega) (w.alloc (.cells #[.slice A L cap, .int .i64 0] 62)) (by simp) hJ0
      have kr := fun w' (hb : Below w.heap.size w w') => rchoose_any A cap l n m hn hm w' (by rw [HL.out]; exact hl) (HU.out.below hb)
      rw [hR] at kp kr
      rw [HL.out] at kr
      have KP := Lib.hid kp
      have KR := Lib.hid kr
      have HIN : Hid (∀ q Rk, R = (some q, Rk) → (∀ x ∈ q, inR x) ∧ q.length ≤ 1048576) := Lib.hid (fun q Rk e => chooseR_in hn hm (hR.trans e))
      clear kp kr hR S hJ0 hbad hg
      go_enter Try.func9, Try.ntmps9
      go_wp2_with fail
      refine KG.out.mono ?_
      rintro e w1 ⟨rfl, rfl⟩
      go_wp2_with fail
      refine KP.out.mono ?_
      rintro e w1 ⟨hg1, hJ1, hres⟩
      clear KP
      have b1 : Below w.heap.size w w1 := grown_below' ((Below.refl _ w).alloc (Nat.le_refl _) _) hg1 (by simp) (Nat.le_refl _)
      have kb1 := hJ1.1
      clear hg1 hJ1
      obtain ⟨Ro, Rk⟩ := R
      cases Ro with
      | none =>
        simp only at hres
        subst hres
        go_wp2_with fail
        refine (KR.out _ b1).mono ?_
        rintro e w2 ⟨rfl, hb2⟩
        have kb2 := kb1.below hb2
        have b2 := b1.trans (hb2.mono b1.size)
        clear hb2 kb1 KR HIN
        go_wp2_with fail
        refine (fixed3_any _).mono ?_
        rintro e w3 ⟨rfl, hb3⟩
        have kb3 := kb2.below hb3
        have b3 := b2.trans (hb3.mono b2.size)
        clear hb3 kb2
        go_wp2_with fail
        refine (same3_any none none 0 0 [] [] _ ⟨by simp, .inl rfl⟩ ⟨by simp, .inl rfl⟩ (by simp) (by simp)).mono ?_
        rw [decide_eq_true rfl]
        rintro e w4 ⟨rfl, hb4⟩
        have kb4 := kb3.below hb4
        have b4 := b3.trans (hb4.mono b3.size)
        have c1 := kb4.cell 1
        simp only [List.getElem?_toArray, List.getElem?_cons_zero, List.getElem?_cons_succ] at c1
        have hq : (Rk == Rk) = true := beq_self_eq_true Rk
        have hq2 : ((Rk : Int) == (Rk : Int)) = true := beq_self_eq_true _
        clear hb4 kb3 kb4
        go_wp2_with fail
        go_ret
        exact ⟨rfl, b4⟩
      | some q =>
        obtain ⟨g1, c1, rfl, ho1⟩ := hres
        have HO1 := Lib.hid ho1
        clear ho1
        go_wp2_with fail
        refine (KR.out _ b1).mono ?_
        rintro e w2 ⟨g2, c2, rfl, ho2, hb2⟩
        have kb2 := kb1.below hb2
        have b2 := b1.trans (hb2.mono b1.size)
        have HO12 := Lib.hid (own_below HO1.out hb2)
        have HO2 := Lib.hid ho2
        have hqq := HIN.out q Rk rfl
        have HQQ := Lib.hid hqq
        clear hb2 kb1 KR HIN ho2 HO1 hqq
        go_wp2_with fail
        refine (fixed3_any _).mono ?_
        rintro e w3 ⟨rfl, hb3⟩
        have kb3 := kb2.below hb3
        have b3 := b2.trans (hb3.mono b2.size)
        have HO13 := Lib.hid (own_below HO12.out hb3)
        have HO23 := Lib.hid (own_below HO2.out hb3)
        clear hb3 kb2 HO12 HO2
        have ks := same3_any (some ⟨g1, 0, none⟩) (some ⟨g2, 0, none⟩) c1 c2 q q w3 (own_rd HO13.out HQQ.out.1) (own_rd HO23.out HQQ.out.1) (by have := HQQ.out.2; omega) (by have := HQQ.out.2; omega)
        rw [decide_eq_true rfl] at ks
        have KS := Lib.hid ks
        clear ks
        go_wp2_with fail
        refine KS.out.mono ?_
        rintro e w4 ⟨rfl, hb4⟩
        have kb4 := kb3.below hb4
        have b4 := b3.trans (hb4.mono b3.size)
        have cc := kb4.cell 1
        simp only [List.getElem?_toArray, List.getElem?_cons_zero, List.getElem?_cons_succ] at cc
        have hq : (Rk == Rk) = true := beq_self_eq_true Rk
        have hq2 : ((Rk : Int) == (Rk : Int)) = true := beq_self_eq_true _
        clear hb4 kb3 kb4
        go_wp2_with fail
        go_ret
        exact ⟨rfl, b4⟩
end Go.Proofs.Ytbhikceekldenaa.Hb

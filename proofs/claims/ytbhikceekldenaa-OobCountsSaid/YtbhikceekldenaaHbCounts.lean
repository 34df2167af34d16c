/- The walk of the law OobCounts. -/
import Derived.Test.YtbhikceekldenaaHbLaw25
import Derived.Test.YtbhikceekldenaaHbGreat25
namespace Go.Proofs.Ytbhikceekldenaa.Hb
set_option linter.unusedVariables false
set_option linter.unusedSimpArgs false
open Go.RowKit

def rightGo : List (Option Int) → List Int → Bool
  | some v :: vs, t :: ts => (v == t) && rightGo vs ts
  | none :: vs, _ :: ts => rightGo vs ts
  | _, _ => true
theorem err_facts (k : Int) : ∀ (vs : List (Option Int)) (ts : List Int), 0 ≤ (errGo k vs ts).1 ∧ ((errGo k vs ts).1 = 0 ↔ rightGo vs ts = true) ∧ (k ≠ 1 → (errGo k vs ts).1 ≤ (errGo k vs ts).2) ∧ 0 ≤ (errGo k vs ts).2
  | [], _ => by simp [errGo, rightGo]
  | some _ :: _, [] => by simp [errGo, rightGo]
  | none :: _, [] => by simp [errGo, rightGo]
  | none :: vs, _ :: ts => err_facts k vs ts
  | some v :: vs, t :: ts => by
    obtain ⟨h1, h2, h3, h4⟩ := err_facts k vs ts
    rw [err_some]
    have hr : rightGo (some v :: vs) (t :: ts) = ((v == t) && rightGo vs ts) := rfl
    rw [hr]
    simp only
    by_cases hk : k = 1
    · rw [if_pos hk]
      have e : (v - t) * (v - t) = ((v - t).natAbs : Int) * (v - t).natAbs := (Int.natAbs_mul_self' _).symm
      have hnn : 0 ≤ (v - t) * (v - t) := by rw [e, ← Int.natCast_mul]; omega
      refine ⟨by omega, ?_, fun h => absurd hk h, by omega⟩
      rw [Bool.and_eq_true, beq_iff_eq, ← h2]
      constructor
      · intro h
        have hz : (v - t) * (v - t) = 0 := by omega
        have := Int.mul_eq_zero.1 hz
        omega
      · rintro ⟨rfl, h⟩
        rw [h, Int.sub_self]; rfl
    · rw [if_neg hk]
      have h3' := h3 hk
      by_cases hv : v = t
      · rw [if_neg (by simpa using hv)]
        refine ⟨by omega, ?_, fun _ => by omega, by omega⟩
        rw [Bool.and_eq_true, beq_iff_eq, ← h2]
        exact ⟨fun h => ⟨hv, by omega⟩, fun h => by have := h.2; omega⟩
      · rw [if_pos hv]
        refine ⟨by omega, ?_, fun _ => by omega, by omega⟩
        rw [Bool.and_eq_true, beq_iff_eq, ← h2]
        exact ⟨fun h => by omega, fun h => absurd h.1 hv⟩
def outO (g : Grv) (i : Nat) : Bool := g.weights.any fun w => w.getD i 0 == 0
theorem there_out {g : Grv} (h : mayG g = true) (i : Nat) : (voteAt g i).isSome = outO g i := by
  obtain ⟨_, _, _, _, hl, _⟩ := head_is (may_is h).1
  have e := leaves_nil (rowO g.rows g.cols g.cells i) i g.trees g.weights hl.symm
  unfold voteAt outO
  by_cases hx : leavesO g i = []
  · rw [if_pos hx]
    symm
    rw [Option.isSome_none, List.any_eq_false]
    intro w hw
    simpa using e.1 hx w hw
  · rw [if_neg hx]
    symm
    rw [Option.isSome_some]
    cases hh : g.weights.any fun w => w.getD i 0 == 0 with
    | true => rfl
    | false =>
      exfalso
      refine hx (e.2 fun w hw => ?_)
      have := (List.any_eq_false.1 hh) w hw
      simpa using this
theorem any_snoc {α : Type} {p : α → Bool} {l : List α} {k : Nat} {x : α} (h : l[k]? = some x) : (l.take (k + 1)).any p = ((l.take k).any p || p x) := by
  obtain ⟨hk, rfl⟩ := List.getElem?_eq_some_iff.1 h
  rw [List.take_succ_eq_append_getElem hk, List.any_append]
  simp
set_option maxRecDepth 100000 in
set_option maxHeartbeats 8000000 in
theorem counts_any (g : Grv) (Ac At Aw Ag : Option Addr) (cc ct cw cg : Nat) (w : World) (hr : RG w g Ac At Aw Ag) (l0 : g.cells.length ≤ 9223372036854775807) (l1 : g.trees.length ≤ 9223372036854775807) (l2 : g.weights.length ≤ 9223372036854775807) :
    Calls Try.prog 6 #[.agg (grvA g Ac At Aw Ag cc ct cw cg)] w (True0 w) := by
  have KG := Lib.hid (fun w hr => great_any g Ac At Aw Ag cc ct cw cg w hr l1 l2)
  have HRG := Lib.hid hr
  obtain ⟨GV, hGV⟩ : ∃ V, grvA g Ac At Aw Ag cc ct cw cg = V := ⟨_, rfl⟩
  have hsz : (Try.prog.info? 31).map (·.size) = some GV.size := by rw [← hGV]; kernel_rfl
  cases hgr : greatG g with
  | true =>
    rw [hgr, hGV] at KG
    rw [hGV]
    clear hGV hgr
    go_enter Try.func6, Try.ntmps6
    go_upto_region 1 with (fail)
    have kB := Blk.new w GV 31
    have HBE := Lib.hid ((Below.refl w.heap.size w).alloc (Nat.le_refl _) (.cells GV 31))
    go_wp2_with (refine wpList_load_row rfl 31 (.tmp 1) rfl w.heap.size rfl 31 GV (0, 0) _ kB Try.underlying31 rfl hsz ?_)
    refine (KG.out _ (HRG.out.below HBE.out)).mono ?_
    rintro e w1 ⟨rfl, hb⟩
    have HBE1 := Lib.hid (HBE.out.trans (hb.mono HBE.out.size))
    clear hb kB
    go_wp2_with fail
    refine (fixed25_any _).mono ?_
    rintro e w2 ⟨rfl, hb⟩
    have HBE2 := Lib.hid (HBE1.out.trans (hb.mono HBE1.out.size))
    clear hb
    go_wp2_with fail
    go_ret
    exact ⟨rfl, HBE2.out⟩
  | false =>
    have hok := great_ok hgr
    have hrows : mayG g = true → g.rows ≤ 1048576 := fun h => by have := great_rows hgr h; omega
    have KV := Lib.hid (fun w hr => votes_any g Ac At Aw Ag cc ct cw cg w hok hr)
    have KE := Lib.hid (fun w hr => error_any g Ac At Aw Ag cc ct cw cg w hok hrows hr)
    have KGr := Lib.hid (fun w => grove_any g Ac At Aw Ag cc ct cw cg w)
    have KM := Lib.hid (fun w => rmright_any g.rows g.cols g.cells.length Ac cc hok.lc w)
    rw [hgr, hGV] at KG
    rw [hGV] at KV KE KGr ⊢
    cases hmay : mayG g with
    | false =>
      have e1 : votesR g = [] := by unfold votesR; rw [hmay]; rfl
      have e2 : errO g = (0, 0) := by unfold errO; rw [hmay]; rfl
      rw [hmay, e1] at KV
      rw [hmay, e2] at KE
      simp only [Bool.false_eq_true, if_false, List.length_nil] at KV KE
      have hq := fun (w : World) x0 x1 y0 y1 => eq_signed 9998 w x0 x1 y0 y1
      clear hok hrows hGV hgr hmay e1 e2 KM hr l0 l1 l2
      go_enter Try.func6, Try.ntmps6
      go_upto_region 1 with (fail)
      have kB := Blk.new w GV 31
      have HBE := Lib.hid ((Below.refl w.heap.size w).alloc (Nat.le_refl _) (.cells GV 31))
      go_wp2_with (refine wpList_load_row rfl 31 (.tmp 1) rfl w.heap.size rfl 31 GV (0, 0) _ kB Try.underlying31 rfl hsz ?_)
      refine (KG.out _ (HRG.out.below HBE.out)).mono ?_
      rintro e w1 ⟨rfl, hb⟩
      have HBE1 := Lib.hid (HBE.out.trans (hb.mono HBE.out.size))
      replace kB := kB.below hb
      clear hb
      go_upto_region 3 with (fail)
      go_wp2_with (refine wpList_load_row rfl 31 (.tmp 1) rfl w.heap.size rfl 31 GV (0, 0) _ kB Try.underlying31 rfl hsz ?_)
      refine (KGr.out _).mono ?_
      rintro e v1 ⟨rfl, hb⟩
      have HB1 := Lib.hid (HBE1.out.trans (hb.mono HBE1.out.size))
      replace kB := kB.below hb
      clear hb
      go_wp2_with fail
      refine (KV.out _ (HRG.out.below HB1.out)).mono ?_
      rintro e v2 ⟨va, rfl, hoa, hb⟩
      obtain ⟨Aa, ca, rfl⟩ := own_slice hoa
      have HB2 := Lib.hid (HB1.out.trans (hb.mono HB1.out.size))
      replace kB := kB.below hb
      clear hb hoa
      go_upto_region 4 with (fail)
      go_wp2_with (refine wpList_load_row rfl 31 (.tmp 1) rfl w.heap.size rfl 31 GV (0, 0) _ kB Try.underlying31 rfl hsz ?_)
      refine (KGr.out _).mono ?_
      rintro e v3 ⟨rfl, hb⟩
      have HB3 := Lib.hid (HB2.out.trans (hb.mono HB2.out.size))
      clear hb kB
      go_wp2_with fail
      refine (KE.out _ (HRG.out.below HB3.out)).mono ?_
      rintro e v4 ⟨rfl, hb⟩
      have HB4 := Lib.hid (HB3.out.trans (hb.mono HB3.out.size))
      have kS := Lib.hid (Blk.new v4 #[.int .i64 0, .int .i64 0] 48)
      have HB5 := Lib.hid (HB4.out.alloc HB4.out.size (.cells #[.int .i64 0, .int .i64 0] 48))
      clear hb
      go_wp2_with fail
      refine (fixed25_any _).mono ?_
      rintro e v6 ⟨rfl, hb⟩
      have HB6 := Lib.hid (HB5.out.trans (hb.mono HB5.out.size))
      have kS2 := kS.out.below hb
      have s0 := kS2.cell 0
      have s1 := kS2.cell 1
      have hlS := kS2.lt
      simp only [List.getElem?_toArray, List.getElem?_cons_zero, List.getElem?_cons_succ] at s0 s1
      clear hb kS2
      go_wp2_with fail
      go_ret
      exact ⟨rfl, HB6.out⟩
    | true =>
      have e1 : votesR g = votesO g := by unfold votesR; rw [hmay]; rfl
      have e2 : errO g = errGo g.k (votesO g) g.tgt := by unfold errO; rw [hmay]; rfl
      rw [hmay, e1] at KV
      rw [hmay, e2] at KE
      simp only [if_true] at KV KE
      obtain ⟨m1, m2, _⟩ := may_is hmay
      obtain ⟨_, hmat, _, _, hwl, hlen⟩ := head_is m1
      have hmb : matB g.rows g.cols g.cells.length = true := decide_eq_true hmat
      rw [hmb] at KM
      obtain ⟨n, hn⟩ := Int.eq_ofNat_of_zero_le hmat.1.1
      have hn100 : n ≤ 100 := by have := (great_rows hgr hmay).2; omega
      have hnt : g.rows.toNat = n := by omega
      have hgl : g.tgt.length = n := by omega
      have hvl := votes_len g
      rw [hnt] at hvl
      have HVA := Lib.hid (fun i (hi : i < n) => votes_at (g := g) (i := i) (by rw [hnt]; exact hi))
      have HTO := Lib.hid (fun i => there_out hmay i)
      have hgA : GV = #[.int .i64 g.k, .int .i64 g.cl, .int .i64 g.b, .int .i64 g.t, .int .i64 g.d, .int .i64 g.l, .int .i64 g.p, .int .i64 n, .int .i64 g.cols, .slice Ac g.cells.length cc, .slice At g.trees.length ct, .slice Aw g.trees.length cw, .slice Ag n cg] := by rw [← hGV]; unfold grvA; rw [hn, hgl, hwl]
      rw [hn] at KM
      have hshape := (mayS_of m1).2.2.2.2
      have HWLEN := Lib.hid (fun (k : Nat) (t : List Nd) (x : List Int) h1 h2 => (trees_is m2 k t x h1 h2).1)
      obtain ⟨VS, hVS⟩ : ∃ VS, votesO g = VS := ⟨_, rfl⟩
      obtain ⟨TG, hTG⟩ : ∃ TG, g.tgt = TG := ⟨_, rfl⟩
      obtain ⟨k, hk⟩ : ∃ x, g.k = x := ⟨_, rfl⟩
      have HRGT := Lib.hid hr.rg
      rw [hVS] at hvl HVA KV KE
      rw [hTG] at hgl KE HRGT
      rw [hk] at hgA KE
      rw [hvl] at KV
      obtain ⟨f1, f2, f3, f4⟩ := err_facts k VS TG
      obtain ⟨RT, hRT⟩ : ∃ RT, rightGo VS TG = RT := ⟨_, rfl⟩
      obtain ⟨⟨NN, DD⟩, hE⟩ : ∃ E, errGo k VS TG = E := ⟨_, rfl⟩
      rw [hE] at KE f1 f2 f3 f4
      rw [hRT] at f2
      simp only at KE f1 f2 f3 f4
      have hN0 : (NN == 0) = RT := by
        rw [Bool.eq_iff_iff, beq_iff_eq]; exact f2
      have HVL := Lib.hid hvl
      have HGL := Lib.hid hgl
      obtain ⟨nt, hntt⟩ : ∃ x, g.trees.length = x := ⟨_, rfl⟩
      rw [hntt] at hgA
      have HGA := Lib.hid hgA
      have HE := Lib.hid hE
      have HRT := Lib.hid hRT
      have HF3 := Lib.hid f3
      have HN0 := Lib.hid hN0
      have HWL := Lib.hid hwl
      have HNR := Lib.hid hn
      have HNT := Lib.hid hntt
      rw [hntt] at l1
      clear hok hrows hGV hgr hmay e1 e2 hr l0 l2 m1 m2 hmat hlen hmb hn hnt hgl hvl hgA hVS hTG hk f2 f3 hRT hE hN0 hwl hntt
      go_enter Try.func6, Try.ntmps6
      go_upto_region 1 with (fail)
      have kB := Blk.new w GV 31
      have HBE := Lib.hid ((Below.refl w.heap.size w).alloc (Nat.le_refl _) (.cells GV 31))
      go_wp2_with (refine wpList_load_row rfl 31 (.tmp 1) rfl w.heap.size rfl 31 GV (0, 0) _ kB Try.underlying31 rfl hsz ?_)
      refine (KG.out _ (HRG.out.below HBE.out)).mono ?_
      rintro e w1 ⟨rfl, hb⟩
      have HBE1 := Lib.hid (HBE.out.trans (hb.mono HBE.out.size))
      replace kB := kB.below hb
      clear hb
      go_upto_region 3 with (fail)
      go_wp2_with (refine wpList_load_row rfl 31 (.tmp 1) rfl w.heap.size rfl 31 GV (0, 0) _ kB Try.underlying31 rfl hsz ?_)
      refine (KGr.out _).mono ?_
      rintro e v1 ⟨rfl, hb⟩
      have HB1 := Lib.hid (HBE1.out.trans (hb.mono HBE1.out.size))
      replace kB := kB.below hb
      clear hb
      go_wp2_with fail
      refine (KV.out _ (HRG.out.below HB1.out)).mono ?_
      rintro e v2 ⟨va, rfl, hoa, hb⟩
      obtain ⟨Aa, ca, rfl⟩ := own_slice hoa
      have HOA := Lib.hid hoa
      have HB2 := Lib.hid (HB1.out.trans (hb.mono HB1.out.size))
      replace kB := kB.below hb
      clear hb hoa
      go_upto_region 4 with (fail)
      go_wp2_with (refine wpList_load_row rfl 31 (.tmp 1) rfl w.heap.size rfl 31 GV (0, 0) _ kB Try.underlying31 rfl hsz ?_)
      refine (KGr.out _).mono ?_
      rintro e v3 ⟨rfl, hb⟩
      have HB3 := Lib.hid (HB2.out.trans (hb.mono HB2.out.size))
      have HOA3 := Lib.hid (own_below HOA.out hb)
      replace kB := kB.below hb
      clear hb
      go_wp2_with fail
      refine (KE.out _ (HRG.out.below HB3.out)).mono ?_
      rintro e v4 ⟨rfl, hb⟩
      have HB4 := Lib.hid (HB3.out.trans (hb.mono HB3.out.size))
      have HOA4 := Lib.hid (own_below HOA3.out hb)
      replace kB := kB.below hb
      have kS := Lib.hid (Blk.new v4 #[.int .i64 NN, .int .i64 DD] 48)
      have HB5 := Lib.hid (HB4.out.alloc HB4.out.size (.cells #[.int .i64 NN, .int .i64 DD] 48))
      have HOA5 := Lib.hid (own_below HOA4.out ((Below.refl _ v4).alloc (Nat.le_refl _) (.cells #[.int .i64 NN, .int .i64 DD] 48)))
      have KB5 := Lib.hid (kB.below ((Below.refl _ v4).alloc (Nat.le_refl _) (.cells #[.int .i64 NN, .int .i64 DD] 48)))
      clear hb kB HOA HOA3 HOA4
      go_wp2_with fail
      obtain ⟨W5, hW5⟩ : ∃ W, v4.alloc (.cells #[.int .i64 NN, .int .i64 DD] 48) = W := ⟨_, rfl⟩
      rw [hW5] at kS HB5 HOA5 KB5 ⊢
      clear hW5
      go_loopw [7, 8, 46] (fun tv rv iv wr => ∃ (j : Nat) (th : Int) (rt : Bool), j ≤ n ∧ iv = .int .i64 j ∧ tv = .int .i64 th ∧ rv = .bool rt ∧ 0 ≤ th ∧ th ≤ (j : Int) ∧ Hid (th + (errGo k (VS.drop j) (TG.drop j)).2 = DD ∧ (rt && rightGo (VS.drop j) (TG.drop j)) = RT) ∧ Hid (Below W5.heap.size W5 wr)) (fun _ _ iv _ => n - (intOf iv).toNat)
      case atStart => exact ⟨0, 0, true, Nat.zero_le _, rfl, rfl, rfl, by omega, by omega, Lib.hid ⟨by rw [List.drop_zero, List.drop_zero, HE.out, Int.zero_add], by rw [List.drop_zero, List.drop_zero, HRT.out]; rfl⟩, Lib.hid (Below.refl _ _)⟩
      case round =>
        obtain ⟨j, th, rt, hj, rfl, rfl, rfl, th0, th1, HT, HBw⟩ := hrel
        obtain ⟨wo, hwo⟩ : ∃ x, x = wr := ⟨_, rfl⟩
        subst hwo
        have gg := KB5.out.below HBw.out
        rw [HGA.out] at gg
        obtain ⟨q0, q1, q2, q3, q4, q5, q6, q7, q8, q9, q10, q11, q12⟩ := gg.cells13
        have hlB := gg.lt
        by_cases hlt : j < n
        · have hlt' : (j : Int) < n := by omega
          have hjv : j < VS.length := by rw [HVL.out]; exact hlt
          have hjt : j < TG.length := by rw [HGL.out]; exact hlt
          have hx := HVA.out j hlt
          obtain ⟨x, hxx⟩ : ∃ x, voteAt g j = x := ⟨_, rfl⟩
          have hxo := HTO.out j
          rw [hxx] at hx hxo
          have hdv : VS.drop j = x :: VS.drop (j + 1) := by
            obtain ⟨_, rfl⟩ := List.getElem?_eq_some_iff.1 hx
            exact List.drop_eq_getElem_cons hjv
          have hdt : TG.drop j = TG.getD j 0 :: TG.drop (j + 1) := drop_at hjt
          have HD := Lib.hid (And.intro hdv hdt)
          obtain ⟨ga, capa, eva, _, _, hga, hca⟩ := own_open (own_below HOA5.out HBw.out) (by omega)
          simp only [Value.slice.injEq] at eva
          obtain ⟨rfl, _, rfl⟩ := eva
          have a0 := hca (j * 2) _ ((flatV_get VS j 0 x hx (by omega)).trans (by cases x <;> rfl : (voteC x)[0]? = some (.bool x.isSome)))
          have a1 := hca (j * 2 + 1) _ ((flatV_get VS j 1 x hx (by omega)).trans (by cases x <;> rfl : (voteC x)[1]? = some (.int .i64 (x.getD 0))))
          obtain ⟨xs, hxs⟩ : ∃ z, x.isSome = z := ⟨_, rfl⟩
          obtain ⟨xv, hxv⟩ : ∃ z, x.getD 0 = z := ⟨_, rfl⟩
          rw [hxs] at a0 hxo
          rw [hxv] at a1
          have HXO := Lib.hid hxo
          have HXS := Lib.hid hxs
          have HXV := Lib.hid hxv
          clear hx hxx hxo hdv hdt hca hxs hxv gg
          go_wp2_with fail
          have HBb := Lib.hid (HBw.out.alloc HBw.out.size (.cells #[.bool xs, .int .i64 xv] 45))
          have kV := Blk.new wo #[.bool xs, .int .i64 xv] 45
          obtain ⟨wb, hwb⟩ : ∃ W, wo.alloc (.cells #[.bool xs, .int .i64 xv] 45) = W := ⟨_, rfl⟩
          rw [hwb] at HBb kV ⊢
          have c0 : wb.cell? ⟨wo.heap.size, 0, none⟩ = some (.bool xs) := kV.cell 0
          have c1 : wb.cell? ⟨wo.heap.size, 1, none⟩ = some (.int .i64 xv) := kV.cell 1
          have gg := KB5.out.below HBb.out
          rw [HGA.out] at gg
          have HRb := Lib.hid (HRG.out.below (HB5.out.trans (HBb.out.mono HB5.out.size)))
          clear q0 q1 q2 q3 q4 q5 q6 q7 q8 q9 q10 q11 q12 hlB hwb a0 a1
          obtain ⟨q0, q1, q2, q3, q4, q5, q6, q7, q8, q9, q10, q11, q12⟩ := gg.cells13
          have hlB := gg.lt
          clear gg kV
          go_wp2_with fail
          go_loop [11, 54] (fun ov iv => ∃ k2 : Nat, k2 ≤ nt ∧ iv = .int .i64 k2 ∧ ∃ ob, ov = .bool ob ∧ Hid ((g.weights.take k2).any (fun w => w.getD j 0 == 0) = ob)) (fun _ iv => nt - (intOf iv).toNat)
          case atStart => exact ⟨0, Nat.zero_le _, rfl, _, rfl, Lib.hid rfl⟩
          case round =>
            obtain ⟨k2, hk2, rfl, ob, rfl, HOB⟩ := hrel
            by_cases hlt2 : k2 < nt
            · have hlt2' : (k2 : Int) < nt := by omega
              obtain ⟨adw, rfl, wk, Bw, capw, hw1, hw2, hw3, hw4, hw5⟩ := HRb.out.rw.at (i := k2) (by rw [HWL.out, HNT.out]; exact hlt2)
              have hwkl : (wk.length : Int) = g.rows := HWLEN.out k2 _ wk (List.getElem?_eq_getElem (by rw [HNT.out]; exact hlt2)) hw1
              have hwk2 : wk.length = n := by have := HNR.out; omega
              obtain ⟨adx, rfl, hxin, yw⟩ := hw5.at (i := j) (by rw [hwk2]; exact hlt)
              have HSN := Lib.hid (any_snoc (p := fun w : List Int => w.getD j 0 == 0) hw1)
              rw [HOB.out] at HSN
              have hsn := HSN.out
              obtain ⟨wt, hwt⟩ : ∃ x, wk.getD j 0 = x := ⟨_, rfl⟩
              simp only [hwt] at hsn
              rw [hwt] at yw
              rw [hwk2] at hw2
              have HSN2 := Lib.hid hsn
              clear hw1 hw3 hw4 hw5 hwkl hwk2 hxin hwt hsn HSN
              cases ob with
              | true =>
                go_wp2_with fail
                go_round
                case rel => exact ⟨k2 + 1, hlt2, by go_num, _, rfl, Lib.hid (by rw [HSN2.out]; rfl)⟩
                case measure => simp [intOf]; omega
              | false =>
                by_cases hw0 : wt = 0
                · have d1 : (wt == 0) = true := beq_iff_eq.2 hw0
                  have HSN3 : Hid ((g.weights.take (k2 + 1)).any (fun w => w.getD j 0 == 0) = true) := Lib.hid (by rw [HSN2.out, d1]; rfl)
                  clear hw0
                  go_wp2_with fail
                  go_round
                  case rel => exact ⟨k2 + 1, hlt2, by go_num, _, rfl, HSN3⟩
                  case measure => simp [intOf]; omega
                · have d1 : (wt == 0) = false := beq_eq_false_iff_ne.2 hw0
                  have HSN3 : Hid ((g.weights.take (k2 + 1)).any (fun w => w.getD j 0 == 0) = false) := Lib.hid (by rw [HSN2.out, d1]; rfl)
                  clear hw0
                  go_wp2_with fail
                  go_round
                  case rel => exact ⟨k2 + 1, hlt2, by go_num, _, rfl, HSN3⟩
                  case measure => simp [intOf]; omega
            · obtain rfl : nt = k2 := by omega
              have hob : ob = xs := by
                have := HOB.out
                rw [List.take_of_length_le (by rw [HWL.out, HNT.out]; exact Nat.le_refl _)] at this
                rw [← this, HXO.out]; rfl
              subst hob
              cases x with
              | none =>
                have e0 : ob = false := HXS.out.symm
                have e1 : xv = 0 := HXV.out.symm
                subst e0 e1
                have HT2 : Hid (th + (errGo k (VS.drop (j + 1)) (TG.drop (j + 1))).2 = DD ∧ (rt && rightGo (VS.drop (j + 1)) (TG.drop (j + 1))) = RT) := Lib.hid (by
                  have := HT.out
                  rwa [HD.out.1, HD.out.2, err_none] at this)
                go_wp2_with fail
                go_roundw
                case rel => exact ⟨j + 1, th, rt, hlt, by go_num, rfl, rfl, th0, by omega, HT2, HBb⟩
                case measure => simp [intOf]; omega
              | some v =>
                have e0 : ob = true := HXS.out.symm
                have e1 : xv = v := HXV.out.symm
                subst e0 e1
                obtain ⟨adg, eg, hin, yt⟩ := (HRGT.out.below (HB5.out.trans (HBb.out.mono HB5.out.size))).at (i := j) hjt
                subst eg
                have HT3 := HT.out
                rw [HD.out.1, HD.out.2, err_some] at HT3
                have hrg : rightGo (some xv :: VS.drop (j + 1)) (TG.getD j 0 :: TG.drop (j + 1)) = ((xv == TG.getD j 0) && rightGo (VS.drop (j + 1)) (TG.drop (j + 1))) := rfl
                rw [hrg] at HT3
                obtain ⟨T, hT⟩ : ∃ T, TG.getD j 0 = T := ⟨_, rfl⟩
                rw [hT] at HT3 yt
                obtain ⟨eq, heq⟩ : ∃ z, (xv == T) = z := ⟨_, rfl⟩
                rw [heq] at HT3
                have HT4 := Lib.hid HT3
                clear HT3 hT hin hrg
                cases rt with
                | true =>
                  cases eq with
                  | true =>
                    go_wp2_with fail
                    go_quiet (fail)
                    go_wp2_with fail
                    go_roundw
                    case rel => exact ⟨j + 1, th + 1, true, hlt, by go_num, rfl, rfl, by omega, by omega, Lib.hid ⟨by have := HT4.out.1; omega, by have := HT4.out.2; simpa using this⟩, Lib.hid (HBb.out.trans ⟨rfl, rfl, rfl, Nat.le_refl _, fun _ _ => rfl⟩)⟩
                    case measure => simp [intOf]; omega
                  | false =>
                    go_wp2_with fail
                    go_quiet (fail)
                    go_wp2_with fail
                    go_roundw
                    case rel => exact ⟨j + 1, th + 1, false, hlt, by go_num, rfl, rfl, by omega, by omega, Lib.hid ⟨by have := HT4.out.1; omega, by have := HT4.out.2; simpa using this⟩, Lib.hid (HBb.out.trans ⟨rfl, rfl, rfl, Nat.le_refl _, fun _ _ => rfl⟩)⟩
                    case measure => simp [intOf]; omega
                | false =>
                  go_wp2_with fail
                  go_quiet (fail)
                  go_wp2_with fail
                  go_roundw
                  case rel => exact ⟨j + 1, th + 1, false, hlt, by go_num, rfl, rfl, by omega, by omega, Lib.hid ⟨by have := HT4.out.1; omega, by have := HT4.out.2; simpa using this⟩, Lib.hid (HBb.out.trans ⟨rfl, rfl, rfl, Nat.le_refl _, fun _ _ => rfl⟩)⟩
                  case measure => simp [intOf]; omega
        · obtain rfl : n = j := by omega
          have hfin : th = DD ∧ rt = RT := by
            have := HT.out
            rw [List.drop_of_length_le (by rw [HVL.out]; exact Nat.le_refl _)] at this
            have e0 : errGo k [] (TG.drop n) = (0, 0) := rfl
            have e1 : rightGo [] (TG.drop n) = true := rfl
            rw [e0, e1, Bool.and_true] at this
            exact ⟨by have := this.1; simp at this; exact this, this.2⟩
          obtain ⟨rfl, rfl⟩ := hfin
          have HGG := Lib.hid gg
          have HS := Lib.hid (kS.out.below HBw.out)
          clear q0 q1 q2 q3 q4 q5 q6 q7 q8 q9 q10 q11 q12 hlB gg
          go_wp2_with fail
          refine (fixed25_any _).mono ?_
          rintro e v6 ⟨rfl, hb⟩
          have HB6 := Lib.hid ((HB5.out.trans (HBw.out.mono HB5.out.size)).trans (hb.mono (HB5.out.trans (HBw.out.mono HB5.out.size)).size))
          have kS2 := HS.out.below hb
          have s0 := kS2.cell 0
          have s1 := kS2.cell 1
          have hlS := kS2.lt
          simp only [List.getElem?_toArray, List.getElem?_cons_zero, List.getElem?_cons_succ] at s0 s1
          obtain ⟨q0, q1, q2, q3, q4, q5, q6, q7, q8, q9, q10, q11, q12⟩ := (HGG.out.below hb).cells13
          have hlB := (HGG.out.below hb).lt
          have hn0 := HN0.out
          have d1 : decide (0 ≤ NN) = true := decide_eq_true f1
          clear hb kS2
          by_cases hk1 : k = 1
          · have kb : (k == 1) = true := beq_iff_eq.2 hk1
            clear hk1
            go_wp2_with fail
            refine (KM.out _).mono ?_
            rintro e v7 ⟨rfl, hb⟩
            have HB7 := Lib.hid (HB6.out.trans (hb.mono HB6.out.size))
            clear hb
            go_wp2_with fail
            go_ret
            exact ⟨rfl, HB7.out⟩
          · have kb : (k == 1) = false := beq_eq_false_iff_ne.2 hk1
            have d2 : decide (NN ≤ th) = true := decide_eq_true (HF3.out hk1)
            clear hk1
            go_wp2_with fail
            refine (KM.out _).mono ?_
            rintro e v7 ⟨rfl, hb⟩
            have HB7 := Lib.hid (HB6.out.trans (hb.mono HB6.out.size))
            clear hb
            go_wp2_with fail
            go_ret
            exact ⟨rfl, HB7.out⟩
end Go.Proofs.Ytbhikceekldenaa.Hb

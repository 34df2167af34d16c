/- The walk of ref25.Error. -/
import Derived.Test.YtbhikceekldenaaHbRVotes
import Derived.Test.YtbhikceekldenaaHbErr
import Derived.Deep.QuietTactic
import Derived.BigQuiet
namespace Go.Proofs.Ytbhikceekldenaa.Hb
set_option linter.unusedVariables false
set_option linter.unusedSimpArgs false
open Go.RowKit

structure RErI (GV : Array Value) (B R : Nat) (w w1 wr : World) : Prop where
  kB : Blk wr B GV 31
  kR : Blk wr R #[.int .i64 0, .int .i64 0] 48
  b1 : Below w1.heap.size w1 wr
  be : Below w.heap.size w wr
set_option maxRecDepth 100000 in
set_option maxHeartbeats 8000000 in
theorem rerror_any (g : Grv) (Ac At Aw Ag : Option Addr) (cc ct cw cg : Nat) (w : World) (hok : OkG g) (hrows : mayG g = true → g.rows ≤ 1048576) (hr : RG w g Ac At Aw Ag) :
    Calls Try.prog 22 #[.agg (grvA g Ac At Aw Ag cc ct cw cg)] w fun e w' => e = .returned (.tuple #[.agg #[.int .i64 (errO g).1, .int .i64 (errO g).2], .int .i64 (if mayG g then 0 else 8)]) ∧ Below w.heap.size w w' := by
  have KV := Lib.hid (fun w hr => rvotes_any g Ac At Aw Ag cc ct cw cg w hok hr)
  have hsz : (Try.prog.info? 31).map (·.size) = some (grvA g Ac At Aw Ag cc ct cw cg).size := by kernel_rfl
  have HRG := Lib.hid hr
  cases hmay : mayG g with
  | false =>
    have e : errO g = (0, 0) := by unfold errO; rw [hmay]; rfl
    rw [e]
    have e2 : votesR g = [] := by unfold votesR; rw [hmay]; rfl
    rw [hmay, e2] at KV
    have HF : Hid ((if false = true then (0 : Int) else 8) = 8) := Lib.hid rfl
    rw [HF.out] at KV ⊢
    obtain ⟨GV, hGV⟩ : ∃ V, grvA g Ac At Aw Ag cc ct cw cg = V := ⟨_, rfl⟩
    rw [hGV] at KV hsz ⊢
    clear e e2 hGV hmay hrows hok hr
    go_enter Try.func22, Try.ntmps22
    go_upto_region 1 with (fail)
    have kB := (Blk.new w GV 31).below ((Below.refl _ _).alloc (Nat.le_refl _) (.cells #[.int .i64 0, .int .i64 0] 48))
    have kR := Blk.new (w.alloc (.cells GV 31)) #[.int .i64 0, .int .i64 0] 48
    rw [World.size_alloc] at kR
    have HBE := Lib.hid (((Below.refl w.heap.size w).alloc (Nat.le_refl _) (.cells GV 31)).alloc (by simp) (.cells #[.int .i64 0, .int .i64 0] 48))
    obtain ⟨W0, hW0⟩ : ∃ W, (w.alloc (.cells GV 31)).alloc (.cells #[.int .i64 0, .int .i64 0] 48) = W := ⟨_, rfl⟩
    rw [hW0] at kB kR HBE ⊢
    go_wp2_with (refine wpList_load_row rfl 31 (.tmp 1) rfl w.heap.size rfl 31 GV (0, 0) _ kB Try.underlying31 rfl hsz ?_)
    refine (KV.out _ (HRG.out.below HBE.out)).mono ?_
    rintro e w1 ⟨v, rfl, ho, hb⟩
    have HBE1 := Lib.hid (HBE.out.trans (hb.mono HBE.out.size))
    have kR1 := kR.below hb
    have r0 := kR1.cell 0
    have r1 := kR1.cell 1
    have r2 := fun i => kR1.frozen i
    have hlR := kR1.lt
    simp only [List.getElem?_toArray, List.getElem?_cons_zero, List.getElem?_cons_succ] at r0 r1
    clear hb kR kB ho hW0
    go_wp2_with fail
    exact bodyPost_ret (results_ct rfl _ _ (w.heap.size + 1) 48 _ _ rfl ((kR1.set 0 _).set 1 _) Try.underlying48 rfl signed_size) rfl ⟨rfl, (HBE1.out.setCell (p := ⟨w.heap.size + 1, 0, none⟩) (by show w.heap.size ≤ w.heap.size + 1; omega) _).setCell (p := ⟨w.heap.size + 1, 1, none⟩) (by show w.heap.size ≤ w.heap.size + 1; omega) _⟩
  | true =>
    have e : errO g = errGo g.k (votesO g) g.tgt := by unfold errO; rw [hmay]; rfl
    rw [e]
    have e2 : votesR g = votesO g := by unfold votesR; rw [hmay]; rfl
    rw [hmay, e2] at KV
    have HF : Hid ((if true = true then (0 : Int) else 8) = 0) := Lib.hid rfl
    rw [HF.out] at KV ⊢
    obtain ⟨m1, m2, _⟩ := may_is hmay
    obtain ⟨_, hmat, _, _, _, hlen⟩ := head_is m1
    have hvl := votes_len g
    obtain ⟨n, hn⟩ := Int.eq_ofNat_of_zero_le hmat.1.1
    have hnb : n ≤ 1048576 := by have := hrows hmay; omega
    have hnt : g.rows.toNat = n := by omega
    have hgl : g.tgt.length = n := by omega
    rw [hnt] at hvl
    have HVT := Lib.hid (fun i (hi : i < n) v h => vote_tgt hmay hok (i := i) (by rw [hnt]; exact hi) (v := v) h)
    have HTI : Hid (∀ i, i < n → in64 (g.tgt.getD i 0)) := Lib.hid (fun i hi => by obtain ⟨_, _, h, _⟩ := hr.rg.at (i := i) (by rw [hgl]; exact hi); exact h)
    have hgA : grvA g Ac At Aw Ag cc ct cw cg = #[.int .i64 g.k, .int .i64 g.cl, .int .i64 g.b, .int .i64 g.t, .int .i64 g.d, .int .i64 g.l, .int .i64 g.p, .int .i64 n, .int .i64 g.cols, .slice Ac g.cells.length cc, .slice At g.trees.length ct, .slice Aw g.weights.length cw, .slice Ag n cg] := by unfold grvA; rw [hn, hgl]
    obtain ⟨GV, hGV⟩ : ∃ V, grvA g Ac At Aw Ag cc ct cw cg = V := ⟨_, rfl⟩
    have HGA := Lib.hid (hGV ▸ hgA)
    rw [hGV] at KV hsz ⊢
    obtain ⟨VS, hVS⟩ : ∃ VS, votesO g = VS := ⟨_, rfl⟩
    obtain ⟨TG, hTG⟩ : ∃ TG, g.tgt = TG := ⟨_, rfl⟩
    obtain ⟨k, hk⟩ : ∃ x, g.k = x := ⟨_, rfl⟩
    have hrg := hr.rg
    rw [hVS] at hvl HVT KV ⊢
    rw [hTG] at hgl HVT HTI hrg ⊢
    rw [hk] at HVT HGA ⊢
    rw [hvl] at KV
    have HRR := Lib.hid hrg
    have HVL := Lib.hid hvl
    have HGL := Lib.hid hgl
    obtain ⟨⟨NN, DD⟩, hE⟩ : ∃ E, errGo k VS TG = E := ⟨_, rfl⟩
    rw [hE]
    have HE := Lib.hid hE
    simp only
    clear e e2 hGV hmay hrows hok hr m1 m2 hmat hlen hvl hn hnt hgl hgA hVS hTG hk hrg hE
    go_enter Try.func22, Try.ntmps22
    go_upto_region 1 with (fail)
    have kB := (Blk.new w GV 31).below ((Below.refl _ _).alloc (Nat.le_refl _) (.cells #[.int .i64 0, .int .i64 0] 48))
    have kR := Blk.new (w.alloc (.cells GV 31)) #[.int .i64 0, .int .i64 0] 48
    rw [World.size_alloc] at kR
    have HBE := Lib.hid (((Below.refl w.heap.size w).alloc (Nat.le_refl _) (.cells GV 31)).alloc (by simp) (.cells #[.int .i64 0, .int .i64 0] 48))
    obtain ⟨W0, hW0⟩ : ∃ W, (w.alloc (.cells GV 31)).alloc (.cells #[.int .i64 0, .int .i64 0] 48) = W := ⟨_, rfl⟩
    rw [hW0] at kB kR HBE ⊢
    go_wp2_with (refine wpList_load_row rfl 31 (.tmp 1) rfl w.heap.size rfl 31 GV (0, 0) _ kB Try.underlying31 rfl hsz ?_)
    refine (KV.out _ (HRG.out.below HBE.out)).mono ?_
    rintro e w1 ⟨v, rfl, ho, hb⟩
    obtain ⟨va, vc, rfl⟩ := own_slice ho
    have HBE1 := Lib.hid (HBE.out.trans (hb.mono HBE.out.size))
    have HO := Lib.hid ho
    have hR1 := (kR.below hb).lt
    have HI0 : Hid (RErI GV w.heap.size (w.heap.size + 1) w w1 w1) := Lib.hid ⟨kB.below hb, kR.below hb, Below.refl _ _, HBE1.out⟩
    clear hb kR kB ho hW0 hsz KV
    go_wp2_with fail
    go_loopw [6, 7, 8] (fun nv dv iv wr => ∃ (j : Nat) (num den : Int), j ≤ n ∧ iv = .int .i64 j ∧ nv = .int .i64 num ∧ dv = .int .i64 den ∧ 0 ≤ num ∧ num ≤ 4398046511104 * (j : Int) ∧ 0 ≤ den ∧ den ≤ (j : Int) ∧ Hid (RErI GV w.heap.size (w.heap.size + 1) w w1 wr) ∧ Hid (num + (errGo k (VS.drop j) (TG.drop j)).1 = NN ∧ den + (errGo k (VS.drop j) (TG.drop j)).2 = DD)) (fun _ _ iv _ => n - (intOf iv).toNat)
    case atStart => exact ⟨0, 0, 0, Nat.zero_le _, rfl, rfl, rfl, by omega, by omega, by omega, by omega, HI0, Lib.hid (by rw [List.drop_zero, List.drop_zero, HE.out]; simp)⟩
    case round =>
      obtain ⟨j, num, den, hj, rfl, rfl, rfl, n1, n2, d1, d2, HI, HT⟩ := hrel
      by_cases hlt : j < n
      · have hlt' : (j : Int) < n := by omega
        have hjv : j < VS.length := by rw [HVL.out]; exact hlt
        have hjt : j < TG.length := by rw [HGL.out]; exact hlt
        obtain ⟨x, hx⟩ : ∃ x, VS[j]? = some x := ⟨_, List.getElem?_eq_getElem hjv⟩
        have hdv : VS.drop j = x :: VS.drop (j + 1) := by
          obtain ⟨_, rfl⟩ := List.getElem?_eq_some_iff.1 hx
          exact List.drop_eq_getElem_cons hjv
        have hdt : TG.drop j = TG.getD j 0 :: TG.drop (j + 1) := drop_at hjt
        have ho2 := own_below HO.out HI.out.b1
        obtain ⟨gv, cap, hv, _, _, hgv, hc⟩ := own_open ho2 (by omega)
        simp only [Value.slice.injEq] at hv
        obtain ⟨rfl, _, rfl⟩ := hv
        have y0 := hc (j * 2) _ ((flatV_get VS j 0 x hx (by omega)).trans (by cases x <;> rfl : (voteC x)[0]? = some (.bool x.isSome)))
        have y1 := hc (j * 2 + 1) _ ((flatV_get VS j 1 x hx (by omega)).trans (by cases x <;> rfl : (voteC x)[1]? = some (.int .i64 (x.getD 0))))
        have HD := Lib.hid (And.intro hdv hdt)
        have HX := Lib.hid hx
        clear ho2 hc hdv hdt hx
        cases x with
        | none =>
          simp only [Option.isSome_none] at y0 y1
          have HT2 : Hid (num + (errGo k (VS.drop (j + 1)) (TG.drop (j + 1))).1 = NN ∧ den + (errGo k (VS.drop (j + 1)) (TG.drop (j + 1))).2 = DD) := Lib.hid (by
            have := HT.out
            rwa [HD.out.1, HD.out.2, err_none] at this)
          go_wp2_with fail
          go_roundw
          case rel => exact ⟨j + 1, num, den, hlt, by go_num, rfl, rfl, n1, by omega, d1, by omega, HI, HT2⟩
          case measure => simp [intOf]; omega
        | some v =>
          simp only [Option.isSome_some, Option.getD_some] at y0 y1
          obtain ⟨hk01, v1, v2, t1, t2⟩ := HVT.out j hlt v HX.out
          obtain ⟨ad, rfl, hin, yt⟩ := (HRR.out.below HI.out.be).at (i := j) hjt
          have HT3 := HT.out
          rw [HD.out.1, HD.out.2, err_some] at HT3
          obtain ⟨T, hT⟩ : ∃ T, TG.getD j 0 = T := ⟨_, rfl⟩
          rw [hT] at t1 t2 yt HT3
          obtain ⟨F, hF⟩ : ∃ F, v - T = F := ⟨_, rfl⟩
          have hFl : -2097152 ≤ F := by omega
          have hFh : F ≤ 2097152 := by omega
          obtain ⟨f1, f2⟩ := sq_bound hFl hFh
          have hw1 : IntKind.i64.wrap (v - T) = F := by rw [hF, IntKind.wrap_i64]; omega
          rw [hF] at HT3
          have HT4 := Lib.hid HT3
          have gg := HI.out.kB
          rw [HGA.out] at gg
          obtain ⟨q0, q1, q2, q3, q4, q5, q6, q7, q8, q9, q10, q11, q12⟩ := gg.cells13
          have hlB := gg.lt
          have hw2 : IntKind.i64.wrap (F * F) = F * F := by rw [IntKind.wrap_i64]; omega
          have hw3 : IntKind.i64.wrap (num + F * F) = num + F * F := by rw [IntKind.wrap_i64]; omega
          have hnb2 : num ≤ 4611686018427387904 := by omega
          have dr : ∀ q, RErI GV w.heap.size (w.heap.size + 1) w w1 (wr.drewN q) := fun q => ⟨HI.out.kB.drewN q, HI.out.kR.drewN q, HI.out.b1.trans ⟨rfl, rfl, rfl, Nat.le_refl _, fun _ _ => rfl⟩, HI.out.be.trans ⟨rfl, rfl, rfl, Nat.le_refl _, fun _ _ => rfl⟩⟩
          have HDR := Lib.hid dr
          have HEQ : Hid (v ≠ T ↔ F ≠ 0) := Lib.hid (by omega)
          have HJ1 : Hid (num + F * F ≤ 4398046511104 * ((j + 1 : Nat) : Int) ∧ num + 1 ≤ 4398046511104 * ((j + 1 : Nat) : Int) ∧ num ≤ 4398046511104 * ((j + 1 : Nat) : Int) ∧ 0 ≤ num + F * F) := Lib.hid (by omega)
          clear hin hT hF HT3 gg t1 t2 v1 v2 dr
          rcases hk01 with hk0 | hk1
          · have kb : (k == 1) = false := beq_eq_false_iff_ne.2 (by omega)
            have HK1 : Hid (¬ k = 1) := Lib.hid (by omega)
            clear hk0
            by_cases hvT : v = T
            · have fb : (v != T) = false := by simpa using hvT
              have HVT0 := Lib.hid hvT
              clear hvT hw1 hw2 hw3
              go_wp2_with fail
              go_quiet (fail)
              go_wp2_with fail
              go_roundw
              case rel =>
                refine ⟨j + 1, num, den + 1, hlt, by go_num, by go_num, by go_num, n1, HJ1.out.2.2.1, by omega, by omega, Lib.hid (HDR.out _), Lib.hid ?_⟩
                have := HT4.out
                rw [if_neg HK1.out, if_neg (fun h => h HVT0.out)] at this
                exact ⟨by have := this.1; omega, by have := this.2; omega⟩
              case measure => simp [intOf]; omega
            · have fb : (v != T) = true := bne_iff_ne.2 hvT
              have HVT0 := Lib.hid hvT
              clear hvT hw1 hw2 hw3
              go_wp2_with fail
              go_quiet (fail)
              go_wp2_with fail
              go_roundw
              case rel =>
                refine ⟨j + 1, num + 1, den + 1, hlt, by go_num, by go_num, by go_num, by omega, HJ1.out.2.1, by omega, by omega, Lib.hid (HDR.out _), Lib.hid ?_⟩
                have := HT4.out
                rw [if_neg HK1.out, if_pos HVT0.out] at this
                exact ⟨by have := this.1; omega, by have := this.2; omega⟩
              case measure => simp [intOf]; omega
          · have kb : (k == 1) = true := beq_iff_eq.2 hk1
            have HK1 := Lib.hid hk1
            clear hk1
            go_wp2_with fail
            go_quiet (fail)
            go_wp2_with fail
            go_roundw
            case rel =>
              refine ⟨j + 1, num + F * F, den + 1, hlt, by go_num, by go_num, by go_num, HJ1.out.2.2.2, HJ1.out.1, by omega, by omega, Lib.hid (HDR.out _), Lib.hid ?_⟩
              have := HT4.out
              rw [if_pos HK1.out] at this
              exact ⟨by have := this.1; omega, by have := this.2; omega⟩
            case measure => simp [intOf]; omega
      · obtain rfl : n = j := by omega
        have hfin : Hid (num = NN ∧ den = DD) := Lib.hid (by
          have := HT.out
          rw [List.drop_of_length_le (by rw [HVL.out]; exact Nat.le_refl _)] at this
          have e0 : errGo k [] (TG.drop n) = (0, 0) := rfl
          rw [e0] at this
          simpa using this)
        have r0 := HI.out.kR.cell 0
        have r1 := HI.out.kR.cell 1
        have r2 := fun i => HI.out.kR.frozen i
        have hlR := HI.out.kR.lt
        simp only [List.getElem?_toArray, List.getElem?_cons_zero, List.getElem?_cons_succ] at r0 r1
        go_wp2_with fail
        obtain ⟨e1, e2⟩ := hfin.out
        subst e1 e2
        exact bodyPost_ret (results_ct rfl _ _ (w.heap.size + 1) 48 _ _ rfl ((HI.out.kR.set 0 _).set 1 _) Try.underlying48 rfl signed_size) rfl ⟨rfl, (HI.out.be.setCell (p := ⟨w.heap.size + 1, 0, none⟩) (by show w.heap.size ≤ w.heap.size + 1; omega) _).setCell (p := ⟨w.heap.size + 1, 1, none⟩) (by show w.heap.size ≤ w.heap.size + 1; omega) _⟩
end Go.Proofs.Ytbhikceekldenaa.Hb

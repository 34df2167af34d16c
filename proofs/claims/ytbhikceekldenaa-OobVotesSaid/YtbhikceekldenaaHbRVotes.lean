/- The walk of ref25.Votes. -/
import Derived.Test.YtbhikceekldenaaHbRMay
import Derived.Test.YtbhikceekldenaaHbVotes
namespace Go.Proofs.Ytbhikceekldenaa.Hb
set_option linter.unusedVariables false
set_option linter.unusedSimpArgs false
open Go.RowKit

theorem info_rvote : (Try.prog.info? 46).map (fun i => (i.zero, i.size, i.bytes)) = some (some (.agg #[.bool false, .int .i64 0]), 2, 16) := by kernel_rfl
theorem votes_snoc {vs : List (Option Int)} {n k : Nat} {x : Option Int} (hl : vs.length = n) (hx : vs[k]? = some x) : (vs.take (k + 1)).flatMap voteC = (vs.take k).flatMap voteC ++ voteC x := by
  obtain ⟨hk, rfl⟩ := List.getElem?_eq_some_iff.1 hx
  rw [List.take_succ_eq_append_getElem hk, List.flatMap_append, List.flatMap_cons, List.flatMap_nil, List.append_nil]
set_option warningAsError false in
set_option maxRecDepth 100000 in
set_option maxHeartbeats 16000000 in
theorem rvotes_any (g : Grv) (Ac At Aw Ag : Option Addr) (cc ct cw cg : Nat) (w : World) (hok : OkG g) (hr : RG w g Ac At Aw Ag) :
    Calls Try.prog 18 #[.agg (grvA g Ac At Aw Ag cc ct cw cg)] w fun e w' => ∃ v, e = .returned (.tuple #[v, .int .i64 (if mayG g then 0 else 8)]) ∧ w'.ownsRow w.heap.size 46 2 v (votesR g).length ((votesR g).flatMap voteC) ∧ Below w.heap.size w w' := by
  have KM := Lib.hid (fun w hr => rmay_any g Ac At Aw Ag cc ct cw cg w hok hr)
  obtain ⟨GV, hGV⟩ : ∃ V, grvA g Ac At Aw Ag cc ct cw cg = V := ⟨_, rfl⟩
  have HRG := Lib.hid hr
  cases hmay : mayG g with
  | false =>
    have e : votesR g = [] := by unfold votesR; rw [hmay]; rfl
    rw [e]
    rw [hmay] at KM
    rw [hGV] at KM ⊢
    have hsz : (Try.prog.info? 31).map (·.size) = some GV.size := by rw [← hGV]; kernel_rfl
    clear e hGV hmay
    have HF : Hid ((if false = true then (0 : Int) else 8) = 8) := Lib.hid rfl
    rw [HF.out]
    go_enter Try.func18, Try.ntmps18
    go_upto_region 1 with (fail)
    have kB := Blk.new w GV 31
    have HBE := Lib.hid ((Below.refl w.heap.size w).alloc (Nat.le_refl _) (.cells GV 31))
    go_wp2_with (refine wpList_load_row rfl 31 (.tmp 1) rfl w.heap.size rfl 31 GV (0, 0) _ kB Try.underlying31 rfl hsz ?_)
    refine (KM.out _ (HRG.out.below HBE.out)).mono ?_
    rintro e w1 ⟨rfl, hb⟩
    go_wp2_with fail
    go_ret2
    exact ⟨_, rfl, World.ownsRow_nil _ _ _ _, HBE.out.trans (hb.mono HBE.out.size)⟩
  | true =>
    have e : votesR g = votesO g := by unfold votesR; rw [hmay]; rfl
    rw [e]
    have HF : Hid ((if true = true then (0 : Int) else 8) = 0) := Lib.hid rfl
    rw [HF.out]
    rw [hmay] at KM
    obtain ⟨m1, m2, _⟩ := may_is hmay
    obtain ⟨_, hmat, hc1, hc2, hlen, _⟩ := head_is m1
    have hmb : matB g.rows g.cols g.cells.length = true := decide_eq_true hmat
    obtain ⟨n, hn⟩ := Int.eq_ofNat_of_zero_le hmat.1.1
    have hnb : n ≤ 16777216 := by have := hmat.1.2; omega
    have hnt : g.rows.toNat = n := by omega
    have hvl := votes_len g
    rw [hnt] at hvl
    have HVA := Lib.hid (fun i (hi : i < n) => votes_at (g := g) (i := i) (by rw [hnt]; exact hi))
    have KR := Lib.hid (fun (i : Nat) w hr (hi : (i : Int) < g.rows) => rcells_any g.rows g.cols g.cells Ac cc i w hmb hr hi)
    have HTR := Lib.hid (fun (k : Nat) (t : List Nd) (x : List Int) h1 h2 => trees_is m2 k t x h1 h2)
    have HRL := Lib.hid (fun i => row_len g.rows g.cols g.cells i)
    have HRI := Lib.hid (fun i => row_in (rows := g.rows) (cols := g.cols) (i := i) hr.rc.1)
    have HLO := Lib.hid (fun w hr i => leaves_ok (w := w) (Ac := Ac) (At := At) (Aw := Aw) (Ag := Ag) hmay hok hr i)
    have HLN := Lib.hid (fun i => Nat.le_trans (leaves_len (rowO g.rows g.cols g.cells i) i g.trees g.weights) hok.lt)
    have KV := Lib.hid (fun (i : Nat) (A : Option Addr) (c : Nat) (w : World) hr => rvote_any g.k g.cl g.b g.t g.d g.l g.p (leavesO g i) A c w hr (by have := HLN.out i; unfold leavesO; omega))
    have HVO := Lib.hid (fun (i : Nat) (h0 : leavesO g i ≠ []) => vote_at hmay (fun t ht => by have := hok.tt t ht; omega) hok.lt h0)
    have HLE : Hid (∀ i, leavesGo (rowO g.rows g.cols g.cells i) i (g.trees.drop 0) (g.weights.drop 0) = leavesO g i) := Lib.hid (fun i => by rw [List.drop_zero, List.drop_zero]; rfl)
    have hgA : grvA g Ac At Aw Ag cc ct cw cg = #[.int .i64 g.k, .int .i64 g.cl, .int .i64 g.b, .int .i64 g.t, .int .i64 g.d, .int .i64 g.l, .int .i64 g.p, .int .i64 n, .int .i64 g.cols, .slice Ac g.cells.length cc, .slice At g.trees.length ct, .slice Aw g.weights.length cw, .slice Ag g.tgt.length cg] := by unfold grvA; rw [hn]
    have HGA := Lib.hid (hGV ▸ hgA)
    rw [hGV] at KM ⊢
    have hsz : (Try.prog.info? 31).map (·.size) = some GV.size := by rw [← hGV]; kernel_rfl
    obtain ⟨VS, hVS⟩ : ∃ VS, votesO g = VS := ⟨_, rfl⟩
    rw [hVS] at hvl HVA ⊢
    rw [hvl]
    have HVL := Lib.hid hvl
    unfold cfgA at KV
    obtain ⟨k, hk⟩ : ∃ x, g.k = x := ⟨_, rfl⟩
    obtain ⟨cl, hcl⟩ : ∃ x, g.cl = x := ⟨_, rfl⟩
    obtain ⟨b, hb⟩ : ∃ x, g.b = x := ⟨_, rfl⟩
    obtain ⟨t, ht⟩ : ∃ x, g.t = x := ⟨_, rfl⟩
    obtain ⟨d, hd⟩ : ∃ x, g.d = x := ⟨_, rfl⟩
    obtain ⟨l, hl⟩ : ∃ x, g.l = x := ⟨_, rfl⟩
    obtain ⟨p, hp⟩ : ∃ x, g.p = x := ⟨_, rfl⟩
    rw [hk, hcl, hb, ht, hd, hl, hp] at KV HGA
    rw [hk, hcl] at HVO
    have HVT : Hid (∀ i, voteAt g i = if leavesO g i = [] then none else some (voteO k cl (leavesO g i)).1) := Lib.hid (fun i => by unfold voteAt; rw [hk, hcl])
    obtain ⟨cols, hcols⟩ : ∃ x, g.cols = x := ⟨_, rfl⟩
    obtain ⟨nc, hnc⟩ : ∃ n, g.cells.length = n := ⟨_, rfl⟩
    obtain ⟨nt, hnt'⟩ : ∃ n, g.trees.length = n := ⟨_, rfl⟩
    have hnw : g.weights.length = nt := by rw [hlen, hnt']
    rw [hcols, hnc, hnt', hnw] at HGA
    rw [hn, hcols, hnc] at KR
    rw [hn, hcols] at HRL HTR HRI HLE
    rw [hcols] at hc1 hc2
    have hcb : cols.toNat ≤ 1024 := by omega
    have HCOL : Hid (cols ≤ (cols.toNat : Int)) := Lib.hid (by omega)
    have HNT := Lib.hid hnt'
    have HNW := Lib.hid hnw
    have hntb : nt ≤ 1048576 := by rw [← hnt']; exact hok.lt
    have HOK := Lib.hid hok
    have HRN := Lib.hid hn
    have HLL := Lib.hid (fun i => leaves_len (rowO g.rows g.cols g.cells i) i g.trees g.weights)
    rw [hnt'] at HLL
    obtain ⟨i0, hi0, hz0, hz1, hz2⟩ := info_parts info_node
    obtain ⟨j0, hj0, hy0, hy1, hy2⟩ := info_parts info_rvote
    clear e hGV hmay m1 m2 hmat hlen hn hnt hvl hgA hVS hok hr hk hcl hb ht hd hl hp hcols hnc hnt' hnw hmb hc1 hc2
    go_enter Try.func18, Try.ntmps18
    go_upto_region 1 with (fail)
    have kB := Blk.new w GV 31
    have HBE := Lib.hid ((Below.refl w.heap.size w).alloc (Nat.le_refl _) (.cells GV 31))
    go_wp2_with (refine wpList_load_row rfl 31 (.tmp 1) rfl w.heap.size rfl 31 GV (0, 0) _ kB Try.underlying31 rfl hsz ?_)
    refine (KM.out _ (HRG.out.below HBE.out)).mono ?_
    rintro e w1 ⟨rfl, hb⟩
    have HBE1 := Lib.hid (HBE.out.trans (hb.mono HBE.out.size))
    replace kB := Lib.hid (kB.below hb)
    have hl1 : w.heap.size + 1 ≤ w1.heap.size := kB.out.lt
    clear hb hsz
    go_wp2_with fail
    go_loopw [4, 5] (fun o iv wr => ∃ (j : Nat) (a : Option Addr) (c : Nat), j ≤ n ∧ iv = .int .i64 j ∧ o = .slice a j c ∧ Hid (wr.ownsRow (w.heap.size + 1) 46 2 (.slice a j c) j ((VS.take j).flatMap voteC)) ∧ Hid (Blk wr w.heap.size GV 31 ∧ Below w.heap.size w wr)) (fun _ iv _ => n - (intOf iv).toNat)
    case atStart =>
      refine ⟨0, _, _, Nat.zero_le _, rfl, rfl, Lib.hid ?_, Lib.hid ⟨kB.out.below ((Below.refl _ _).alloc (Nat.le_refl _) _), HBE1.out.alloc HBE1.out.size _⟩⟩
      exact World.ownsRow_made w1 #[] 0 hl1 (Nat.zero_le _) rfl
    case round =>
      obtain ⟨j, a, c, hj, rfl, rfl, HO, HX⟩ := hrel
      obtain ⟨wo, hwo⟩ : ∃ x, x = wr := ⟨_, rfl⟩
      subst hwo
      have hlo : w.heap.size < wo.heap.size := HX.out.1.lt
      have gg := HX.out.1
      rw [HGA.out] at gg
      obtain ⟨q0, q1, q2, q3, q4, q5, q6, q7, q8, q9, q10, q11, q12⟩ := gg.cells13
      by_cases hlt : j < n
      · have hlt' : (j : Int) < n := by omega
        obtain ⟨x, hx1⟩ : ∃ x, VS[j]? = some x := ⟨_, List.getElem?_eq_getElem (by rw [HVL.out]; exact hlt)⟩
        have hxv : x = voteAt g j := by have := HVA.out j hlt; rw [hx1] at this; exact Option.some.inj this
        have HX1 := Lib.hid hx1
        obtain ⟨L, hL⟩ : ∃ L, leavesO g j = L := ⟨_, rfl⟩
        obtain ⟨R, hR⟩ : ∃ R, rowO n cols g.cells j = R := ⟨_, rfl⟩
        have HLO2 := Lib.hid (HLO.out wo (HRG.out.below HX.out.2) j)
        have HVO2 := Lib.hid (HVO.out j)
        have KV2 := Lib.hid (KV.out j)
        have HLE2 := Lib.hid (HLE.out j)
        have KR2 := Lib.hid (fun w hr => KR.out j w hr hlt')
        have HRL2 := Lib.hid (HRL.out j)
        have HRI2 := Lib.hid (HRI.out j)
        have hxv2 := HVT.out j
        rw [hL] at HLO2 HVO2 KV2 HLE2 hxv2
        rw [hR] at HLE2 KR2 HRL2 HRI2
        have HLL2 : Hid (L.length ≤ nt) := Lib.hid (by rw [← hL]; exact HLL.out j)
        have HXV := Lib.hid (hxv.trans hxv2)
        clear hx1 hxv hxv2 hL hR gg
        go_wp2_with fail
        go_loopw [6, 7] (fun o iv wr => ∃ (kk m : Nat) (a : Option Addr) (c : Nat), kk ≤ nt ∧ m ≤ kk ∧ iv = .int .i64 kk ∧ o = .slice a m c ∧ Hid (∃ pre : List Nd, pre.length = m ∧ pre ++ leavesGo R j (g.trees.drop kk) (g.weights.drop kk) = L ∧ wr.ownsRow wo.heap.size 88 6 (.slice a m c) m (pre.flatMap ndC)) ∧ Hid (Below wo.heap.size wo wr)) (fun _ iv _ => nt - (intOf iv).toNat)
        case atStart =>
          refine ⟨0, 0, _, _, Nat.zero_le _, Nat.le_refl _, rfl, rfl, Lib.hid ⟨[], rfl, HLE2.out, ?_⟩, Lib.hid ((Below.refl _ _).alloc (Nat.le_refl _) _)⟩
          exact World.ownsRow_made wo #[] 0 (Nat.le_refl _) (Nat.zero_le _) rfl
        case round =>
          obtain ⟨kk, m, a2, c2, hk, hmk, rfl, rfl, HO2, HB2⟩ := hrel
          have gg := HX.out.1.below HB2.out
          have hlB := gg.lt
          rw [HGA.out] at gg
          clear q0 q1 q2 q3 q4 q5 q6 q7 q8 q9 q10 q11 q12
          obtain ⟨q0, q1, q2, q3, q4, q5, q6, q7, q8, q9, q10, q11, q12⟩ := gg.cells13
          have HBX := Lib.hid (HX.out.2.trans (HB2.out.mono HX.out.2.size))
          by_cases hltk : kk < nt
          · have hltk' : (kk : Int) < nt := by omega
            have HR2 := Lib.hid (HRG.out.below HBX.out)
            obtain ⟨adt, rfl, tr, Bt, capt, ht1, ht2, ht3, ht4, ht5⟩ := HR2.out.rt.at (i := kk) (by rw [HNT.out]; exact hltk)
            obtain ⟨adw, rfl, wk, Bw, capw, hw1, hw2, hw3, hw4, hw5⟩ := HR2.out.rw.at (i := kk) (by rw [HNW.out]; exact hltk)
            obtain ⟨htr1, htr2⟩ := HTR.out kk tr wk ht1 hw1
            have hiw : j < wk.length := by have := HRN.out; omega
            obtain ⟨adx, rfl, hxin, hx⟩ := hw5.at hiw
            obtain ⟨nwk, hnwk⟩ : ∃ n, wk.length = n := ⟨_, rfl⟩
            rw [hnwk] at hw2 hiw
            have hiw' : (j : Int) < nwk := by omega
            obtain ⟨xw, hxx⟩ : ∃ x, wk.getD j 0 = x := ⟨_, rfl⟩
            rw [hxx] at hx
            have htl := HOK.out.tt tr (List.mem_of_getElem? ht1)
            by_cases hx0 : xw = 0
            · have HSK := Lib.hid (leaves_take (row := R) ht1 hw1 (i := j) (by rw [hxx]; exact hx0))
              obtain ⟨pl1, pl2, pl3⟩ := place_right htr2 (by omega) R (by rw [HRL2.out]; exact HCOL.out)
              have HNX : Hid (ndAt tr (placeO tr R)).ok := Lib.hid (ht5.ok _ (List.mem_of_getElem? (ndAt_get pl1 pl2)))
              obtain ⟨pN, hpN⟩ := Int.eq_ofNat_of_zero_le pl1
              have KP := Lib.hid (fun Ar cr w hr hrr => rplace_any tr R Bt Ar capt cr w hr hrr htl (by rw [HRL2.out]; omega))
              have hget := ndAt_get pl1 pl2
              rw [hpN] at KP hget HSK HNX pl2
              rw [Int.toNat_natCast] at hget
              rw [HRL2.out] at KP
              obtain ⟨ntr, hntr⟩ : ∃ n, tr.length = n := ⟨_, rfl⟩
              rw [hntr] at KP ht2 ht3 pl2 htl
              have hpn2 : pN < ntr := by omega
              have HRT := Lib.hid ht5
              have HNTR := Lib.hid hntr
              have HGET := Lib.hid hget
              have FS := Lib.hid (fun w' (hb : Below wr.heap.size wr w') => And.intro ((hb.cell (p := ⟨w.heap.size, 7, none⟩) hlB).trans q7) (And.intro ((hb.cell (p := ⟨w.heap.size, 8, none⟩) hlB).trans q8) (And.intro ((hb.cell (p := ⟨w.heap.size, 9, none⟩) hlB).trans q9) (And.intro ((hb.cell (p := ⟨w.heap.size, 10, none⟩) hlB).trans q10) ((hb.cell (World.block_lt_of_cell? wr _ ht2)).trans ht2)))))
              subst hx0
              clear ht1 hw1 htr1 htr2 hxin hnwk hxx pl1 pl3 hpN hntr ht5 hw5 hget
              go_wp2_with fail
              clear q0 q1 q2 q3 q4 q5 q6 q11 q12 hw2 hx
              go_cut [8] (fun av wc => av = .int .i64 (pN : Int) ∧ Hid (Below wr.heap.size wr wc))
              case first =>
                go_region_held3 (fun W => W.cell? ⟨w.heap.size, 7, none⟩ = some (.int .i64 (n : Int)) ∧ W.cell? ⟨w.heap.size, 8, none⟩ = some (.int .i64 cols) ∧ W.cell? ⟨w.heap.size, 9, none⟩ = some (.slice Ac nc cc) ∧ W.cell? ⟨w.heap.size, 10, none⟩ = some (.slice (some adt) nt ct) ∧ W.cell? (adt.add kk) = some (.slice Bt ntr capt)) (go_keep)
                  (first | (go_at_call 39; refine (KR2.out _ (by exact HR2.out.rc)).mono ?_; rintro e w8 ⟨v8, rfl, ho8, hb8⟩; obtain ⟨Ar, cr, rfl⟩ := own_slice ho8; have HV8 : Hid (RI1 w8 Ar R) := Lib.hid (RI1.own (by rw [HRL2.out]; exact ho8) (fun x hx => by have := HRI2.out x hx; unfold in64; omega)); have HB8 := Lib.hid (((Below.refl wr.heap.size wr).drew).trans hb8); clear ho8 hb8; obtain ⟨f1, f2, f3, f4, f5⟩ := FS.out w8 HB8.out) | (go_at_call 38; refine (KP.out _ _ _ (by exact HRT.out.below HB8.out) (by exact HV8.out)).mono ?_; rintro e w9 ⟨rfl, hb9⟩; have HB9 := Lib.hid (HB8.out.trans (hb9.mono HB8.out.size)); clear hb9; obtain ⟨f1, f2, f3, f4, f5⟩ := FS.out w9 HB9.out))
                all_goals
                  go_wp2
                  go_meet
                  case rel => exact ⟨rfl, HB9⟩
              case rest =>
              obtain ⟨rfl, HBC⟩ := hcut
              obtain ⟨f1, f2, f3, f4, f5⟩ := FS.out wc HBC.out
              obtain ⟨adn, rfl, y, hy, hyok, hat⟩ := (HRT.out.below HBC.out).at (i := pN) (by rw [HNTR.out]; exact hpn2)
              have hye : ndAt tr (pN : Int) = y := by have := HGET.out; rw [hy] at this; exact (Option.some.inj this).symm
              rw [hye] at HSK
              obtain ⟨p0, p1, p2, p3, p4, p5⟩ := hat
              have HB3 := Lib.hid (HB2.out.trans (HBC.out.mono HB2.out.size))
              have hs2 : wo.heap.size ≤ wc.heap.size := HB3.out.size
              obtain ⟨pre, h1, h2, h3⟩ := HO2.out
              have HP1 := Lib.hid h1
              have HP2 := Lib.hid h2
              have HP3 := Lib.hid (own_below h3 HBC.out)
              obtain ⟨f, b2, ll, cc2, sx, q⟩ := y
              simp only at p0 p1 p2 p3 p4 p5
              have d0 : decide (0 ≤ (pN : Int)) = true := decide_eq_true (by omega)
              have hpn3 : (pN : Int) < ntr := by omega
              clear hy hyok hye h1 h2 h3 f1 f2 f3 q7 q8 q9 q10 ht2 hlB gg
              go_wp2_with (at_builtin; refine wpList_append_lies _ rfl _ _ 53 rfl wo.heap.size 88 i0 (.agg #[.int .i64 0, .int .i64 0, .int .i64 0, .int .i64 0, .int .i64 0, .int .i64 0]) 6 48 Try.underlying53 hi0 hz0 hz1 hz2 rfl (by decide) _ _ _ rfl (HP3.out.alloc _) ⟨wc.heap.size, 0, none⟩ 1 1 [.int .i64 f, .int .i64 b2, .int .i64 ll, .int .i64 cc2, .int .i64 sx, .int .i64 q] rfl rfl (cell_six _ _ _ _ _ _ _ _) (by simp [Value.oneCell']) (by decide) (by unfold maxLen; omega) (by omega) (by simp; omega) _ rfl ?_; intro g3 c3 w3 hown3 hg3 hat3 hlt3)
              go_roundw
              case rel =>
                refine ⟨kk + 1, m + 1, _, c3, hltk, by omega, by go_num, rfl, Lib.hid ⟨pre ++ [⟨f, b2, ll, cc2, sx, q⟩], by simp [HP1.out], ?_, ?_⟩, Lib.hid ?_⟩
                · have := HP2.out
                  rw [HSK.out] at this
                  rw [List.append_assoc]; exact this
                · rw [List.flatMap_append]; exact hown3
                · exact (HB3.out.alloc (by omega) _).grown hg3 (by simp; omega) (fun q e => (World.ownsRow.lt HP3.out q e).1)
              case measure => simp [intOf]; omega
            · have HSK := Lib.hid (leaves_skip (row := R) ht1 hw1 (i := j) (by rw [hxx]; exact hx0))
              have d1 : (xw == 0) = false := beq_eq_false_iff_ne.2 hx0
              clear ht1 hw1 htr1 htr2 hxin hnwk hxx ht5 hw5 hx0
              go_wp2_with fail
              go_roundw
              case rel =>
                refine ⟨kk + 1, m, a2, c2, hltk, by omega, by go_num, rfl, Lib.hid ?_, HB2⟩
                obtain ⟨pre, h1, h2, h3⟩ := HO2.out
                exact ⟨pre, h1, by rw [← HSK.out]; exact h2, h3⟩
              case measure => simp [intOf]; omega
          · obtain rfl : nt = kk := by omega
            clear q7 q8 q9 q11 q12
            obtain ⟨pre, h1, h2, h3⟩ := HO2.out
            have e0 : leavesGo R j (g.trees.drop nt) (g.weights.drop nt) = [] := by
              rw [List.drop_of_length_le (by rw [HNT.out]; exact Nat.le_refl _)]
              rfl
            rw [e0, List.append_nil] at h2
            subst h2
            have HM := Lib.hid h1
            have HRN4 : Hid (RN wr a2 pre) := Lib.hid (RN.own (by rw [h1]; exact h3) HLO2.out)
            have HB4 := Lib.hid HB2.out
            have hlw : w.heap.size < wr.heap.size := hlB
            have hlo2 : wo.heap.size ≤ wr.heap.size := HB4.out.size
            have hmb : m ≤ 1048576 := by omega
            clear h1 h3 e0 HO2
            by_cases hm0 : m = 0
            · have HXN : Hid (x = none) := Lib.hid (by rw [HXV.out, if_pos (List.length_eq_zero_iff.1 (by rw [HM.out]; exact hm0))])
              have d0 : decide ((0 : Int) < m) = false := decide_eq_false (by omega)
              have d1 : decide (0 < m) = false := decide_eq_false (by omega)
              clear hm0 gg
              go_upto_region 18 with (fail)
              have HB5 := Lib.hid (HB4.out.alloc HB4.out.size (.cells #[.bool false, .int .i64 0] 46))
              have kV := Blk.new wr #[.bool false, .int .i64 0] 46
              obtain ⟨W5, hW5⟩ : ∃ W, wr.alloc (.cells #[.bool false, .int .i64 0] 46) = W := ⟨_, rfl⟩
              rw [hW5] at HB5 kV ⊢
              have z0 := kV.cell 0
              have z1 := kV.cell 1
              simp only [List.getElem?_toArray, List.getElem?_cons_zero, List.getElem?_cons_succ] at z0 z1
              have HO5 := Lib.hid (own_below HO.out HB5.out)
              have HX5 : Hid (Blk W5 w.heap.size GV 31 ∧ Below w.heap.size w W5) := Lib.hid ⟨HX.out.1.below HB5.out, HX.out.2.trans (HB5.out.mono HX.out.2.size)⟩
              have hl5 : w.heap.size < W5.heap.size := HX5.out.1.lt
              clear kV hW5
              go_wp2_with (at_builtin; refine wpList_append_lies _ rfl _ _ 40 rfl (w.heap.size + 1) 46 j0 (.agg #[.bool false, .int .i64 0]) 2 16 Try.underlying40 hj0 hy0 hy1 hy2 rfl (by decide) _ _ _ rfl (HO5.out.alloc _) ⟨W5.heap.size, 0, none⟩ 1 1 [.bool false, .int .i64 0] rfl rfl (cell_two _ _ _ _) (by simp [Value.oneCell']) (by decide) (by unfold maxLen; omega) (by omega) (by simp; omega) _ rfl ?_; intro g3 c3 w3 hown3 hg3 hat3 hlt3)
              go_roundw
              case rel =>
                refine ⟨j + 1, _, c3, hlt, by go_num, rfl, Lib.hid ?_, Lib.hid ⟨?_, ?_⟩⟩
                · rw [votes_snoc HVL.out HX1.out, HXN.out]; exact hown3
                · exact own_blk (HX5.out.1.below ((Below.refl _ _).alloc (Nat.le_refl _) _)) hg3 (own_base HO5.out (Nat.lt_succ_self _))
                · exact (HX5.out.2.alloc (by omega) _).grown hg3 (by simp; omega) (fun q e => by have := (World.ownsRow.lt HO5.out q e).1; omega)
              case measure => simp [intOf]; omega
            · have hL0 : pre ≠ [] := fun e => hm0 (by rw [← HM.out, e]; rfl)
              obtain ⟨v, hv1, _, _⟩ := HVO2.out hL0
              have HXS : Hid (x = some v) := Lib.hid (by rw [HXV.out, if_neg hL0, hv1])
              have KV3 := Lib.hid (fun w hr => KV2.out a2 c2 w hr)
              rw [hv1, HM.out] at KV3
              simp only [resP] at KV3
              have d0 : decide ((0 : Int) < m) = true := decide_eq_true (by omega)
              have d1 : decide (0 < m) = true := decide_eq_true (by omega)
              clear hL0 hv1 hm0 gg
              go_upto_region 16 with (fail)
              have HB5 := Lib.hid (HB4.out.alloc HB4.out.size (.cells #[.bool false, .int .i64 0] 46))
              have kV := Blk.new wr #[.bool false, .int .i64 0] 46
              have HRN5 := Lib.hid (HRN4.out.below ((Below.refl _ wr).alloc (Nat.le_refl _) (.cells #[.bool false, .int .i64 0] 46)))
              have hs5 : (wr.alloc (.cells #[.bool false, .int .i64 0] 46)).heap.size = wr.heap.size + 1 := by simp
              obtain ⟨V, hV⟩ : ∃ V, wr.heap.size = V := ⟨_, rfl⟩
              obtain ⟨W5, hW5⟩ : ∃ W, wr.alloc (.cells #[.bool false, .int .i64 0] 46) = W := ⟨_, rfl⟩
              rw [hW5] at HB5 kV HRN5 hs5 ⊢
              rw [hV] at kV hs5 hlw hlo2 ⊢
              have HX5 : Hid (Blk W5 w.heap.size GV 31 ∧ Below w.heap.size w W5) := Lib.hid ⟨HX.out.1.below HB5.out, HX.out.2.trans (HB5.out.mono HX.out.2.size)⟩
              have HS5 := Lib.hid hs5
              have HKV := Lib.hid kV
              have gg := HX5.out.1
              rw [HGA.out] at gg
              have hlB5 := gg.lt
              clear q0 q1 q2 q3 q4 q5 q6 q10 hlB kV hW5 hs5 hV
              obtain ⟨q0, q1, q2, q3, q4, q5, q6, q7, q8, q9, q10, q11, q12⟩ := gg.cells13
              clear q7 q8 q9 q10 q11 q12 gg
              go_wp2_with fail
              refine (KV3.out _ HRN5.out).mono ?_
              rintro e w6 ⟨rfl, hb6⟩
              have HB6 := Lib.hid (HB5.out.trans (hb6.mono HB5.out.size))
              have kV6 := HKV.out.below hb6
              have y0 := kV6.cell 0
              have y1 := kV6.cell 1
              simp only [List.getElem?_toArray, List.getElem?_cons_zero, List.getElem?_cons_succ] at y0 y1
              have yf := fun i => kV6.frozen i
              have hV6 : V < w6.heap.size := kV6.lt
              have HKV6 := Lib.hid kV6
              clear q0 q1 q2 q3 q4 q5 q6 hb6 kV6
              go_upto_region 18 with (fail)
              have HB7 := Lib.hid ((HB6.out.setCell (p := ⟨V, 0, none⟩) hlo2 (.bool true)).setCell (p := ⟨V, 1, none⟩) hlo2 (.int .i64 v))
              have kV7 : Blk ((w6.setCell ⟨V, 0, none⟩ (.bool true)).setCell ⟨V, 1, none⟩ (.int .i64 v)) V #[.bool true, .int .i64 v] 46 := (HKV6.out.set 0 (.bool true)).set 1 (.int .i64 v)
              obtain ⟨W5', hW5'⟩ : ∃ W, (w6.setCell ⟨V, 0, none⟩ (.bool true)).setCell ⟨V, 1, none⟩ (.int .i64 v) = W := ⟨_, rfl⟩
              rw [hW5'] at HB7 kV7 ⊢
              have z0 := kV7.cell 0
              have z1 := kV7.cell 1
              simp only [List.getElem?_toArray, List.getElem?_cons_zero, List.getElem?_cons_succ] at z0 z1
              have HO5 := Lib.hid (own_below HO.out HB7.out)
              have HX5 : Hid (Blk W5' w.heap.size GV 31 ∧ Below w.heap.size w W5') := Lib.hid ⟨HX.out.1.below HB7.out, HX.out.2.trans (HB7.out.mono HX.out.2.size)⟩
              have hl5 : w.heap.size < W5'.heap.size := HX5.out.1.lt
              clear kV7 hW5' y0 y1 yf hV6
              go_wp2_with (at_builtin; refine wpList_append_lies _ rfl _ _ 40 rfl (w.heap.size + 1) 46 j0 (.agg #[.bool false, .int .i64 0]) 2 16 Try.underlying40 hj0 hy0 hy1 hy2 rfl (by decide) _ _ _ rfl (HO5.out.alloc _) ⟨W5'.heap.size, 0, none⟩ 1 1 [.bool true, .int .i64 v] rfl rfl (cell_two _ _ _ _) (by simp [Value.oneCell']) (by decide) (by unfold maxLen; omega) (by omega) (by simp; omega) _ rfl ?_; intro g3 c3 w3 hown3 hg3 hat3 hlt3)
              go_roundw
              case rel =>
                refine ⟨j + 1, _, c3, hlt, by go_num, rfl, Lib.hid ?_, Lib.hid ⟨?_, ?_⟩⟩
                · rw [votes_snoc HVL.out HX1.out, HXS.out]; exact hown3
                · exact own_blk (HX5.out.1.below ((Below.refl _ _).alloc (Nat.le_refl _) _)) hg3 (own_base HO5.out (Nat.lt_succ_self _))
                · exact (HX5.out.2.alloc (by omega) _).grown hg3 (by simp; omega) (fun q e => by have := (World.ownsRow.lt HO5.out q e).1; omega)
              case measure => simp [intOf]; omega
      · obtain rfl : n = j := by omega
        go_wp2_with fail
        go_ret2
        refine ⟨_, rfl, ?_, HX.out.2⟩
        have := HO.out
        rw [List.take_of_length_le (by rw [HVL.out]; exact Nat.le_refl _)] at this
        exact World.ownsRow.mono this (Nat.le_succ _)
end Go.Proofs.Ytbhikceekldenaa.Hb

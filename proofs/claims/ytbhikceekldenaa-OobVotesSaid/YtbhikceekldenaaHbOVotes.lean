/- The walk of the law OobVotes. -/
import Derived.Test.YtbhikceekldenaaHbRVotes
import Derived.Test.YtbhikceekldenaaHbLaw25
import Derived.Test.YtbhikceekldenaaHbGreat25
import Derived.Test.YtbhikceekldenaaHbOnly
import Derived.Deep.QuietTactic
import Derived.BigQuiet
namespace Go.Proofs.Ytbhikceekldenaa.Hb
set_option linter.unusedVariables false
set_option linter.unusedSimpArgs false
open Go.RowKit

set_option warningAsError false in
set_option maxRecDepth 100000 in
set_option maxHeartbeats 16000000 in
theorem ovotes_any (g : Grv) (Ac At Aw Ag : Option Addr) (cc ct cw cg : Nat) (w : World) (hr : RG w g Ac At Aw Ag) (l0 : g.cells.length ≤ 9223372036854775807) (l1 : g.trees.length ≤ 9223372036854775807) (l2 : g.weights.length ≤ 9223372036854775807) :
    Calls Try.prog 3 #[.agg (grvA g Ac At Aw Ag cc ct cw cg)] w (True0 w) := by
  have KG := Lib.hid (fun w hr => great_any g Ac At Aw Ag cc ct cw cg w hr l1 l2)
  have HRG := Lib.hid hr
  obtain ⟨GV, hGV⟩ : ∃ V, grvA g Ac At Aw Ag cc ct cw cg = V := ⟨_, rfl⟩
  have hsz : (Try.prog.info? 31).map (·.size) = some GV.size := by rw [← hGV]; kernel_rfl
  cases hgr : greatG g with
  | true =>
    rw [hgr, hGV] at KG
    rw [hGV]
    clear hGV hgr
    go_enter Try.func3, Try.ntmps3
    go_upto_region 1 with (fail)
    have kB := Blk.new w GV 31
    have HBE := Lib.hid ((Below.refl w.heap.size w).alloc (Nat.le_refl _) (.cells GV 31))
    go_wp2_with (refine wpList_load_row rfl 31 (.tmp 1) rfl w.heap.size rfl 31 GV (0, 0) _ kB Try.underlying31 rfl hsz ?_)
    refine (KG.out _ (HRG.out.below HBE.out)).mono ?_
    rintro e w1 ⟨rfl, hb⟩
    have HBE1 := Lib.hid (HBE.out.trans (hb.mono HBE.out.size))
    clear hb kB
    go_wp2_with fail
    refine (fixed25_any _).mono ?_
    rintro e w2 ⟨rfl, hb⟩
    have HBE2 := Lib.hid (HBE1.out.trans (hb.mono HBE1.out.size))
    clear hb
    go_wp2_with fail
    go_ret
    exact ⟨rfl, HBE2.out⟩
  | false =>
    have hok := great_ok hgr
    have hrows : mayG g = true → g.rows ≤ 1048576 := fun h => by have := great_rows hgr h; omega
    have KV := Lib.hid (fun w hr => votes_any g Ac At Aw Ag cc ct cw cg w hok hr)
    have KF := Lib.hid (fun w hr => rvotes_any g Ac At Aw Ag cc ct cw cg w hok hr)
    have KMA := Lib.hid (fun w hr => may_any g Ac At Aw Ag cc ct cw cg w hok hr)
    have KMB := Lib.hid (fun w hr => rmay_any g Ac At Aw Ag cc ct cw cg w hok hr)
    have KGr := Lib.hid (fun w => grove_any g Ac At Aw Ag cc ct cw cg w)
    rw [hgr, hGV] at KG
    rw [hGV] at KV KF KMA KMB KGr ⊢
    have HGA : Hid (GV = #[.int .i64 g.k, .int .i64 g.cl, .int .i64 g.b, .int .i64 g.t, .int .i64 g.d, .int .i64 g.l, .int .i64 g.p, .int .i64 g.rows, .int .i64 g.cols, .slice Ac g.cells.length cc, .slice At g.trees.length ct, .slice Aw g.weights.length cw, .slice Ag g.tgt.length cg]) := Lib.hid hGV.symm
    obtain ⟨EN, hEN⟩ : ∃ x, (if mayG g then (0 : Int) else 8) = x := ⟨_, rfl⟩
    obtain ⟨MB, hMB⟩ : ∃ x, mayG g = x := ⟨_, rfl⟩
    obtain ⟨VS, hVS⟩ : ∃ x, votesR g = x := ⟨_, rfl⟩
    have hvb : VS.length ≤ 16777216 := by
      rw [← hVS]; unfold votesR
      cases hm : mayG g with
      | false => simp
      | true =>
        obtain ⟨_, hmat, _⟩ := head_is (may_is hm).1
        rw [if_pos rfl, votes_len]; omega
    rw [hEN, hVS] at KV KF
    rw [hMB] at KMA KMB
    obtain ⟨n, hn⟩ : ∃ n, VS.length = n := ⟨_, rfl⟩
    rw [hn] at KV KF hvb
    have HN := Lib.hid hn
    have hq := fun (w : World) x0 y0 x1 y1 => eq_vote 9998 w x0 y0 x1 y1
    clear hok hrows hGV hgr hEN hMB hVS hr l0 l1 l2 hn
    go_enter Try.func3, Try.ntmps3
    go_upto_region 1 with (fail)
    have kB := Blk.new w GV 31
    have HBE := Lib.hid ((Below.refl w.heap.size w).alloc (Nat.le_refl _) (.cells GV 31))
    go_wp2_with (refine wpList_load_row rfl 31 (.tmp 1) rfl w.heap.size rfl 31 GV (0, 0) _ kB Try.underlying31 rfl hsz ?_)
    refine (KG.out _ (HRG.out.below HBE.out)).mono ?_
    rintro e w1 ⟨rfl, hb⟩
    have HBE1 := Lib.hid (HBE.out.trans (hb.mono HBE.out.size))
    replace kB := kB.below hb
    clear hb
    go_upto_region 3 with (fail)
    go_wp2_with (refine wpList_load_row rfl 31 (.tmp 1) rfl w.heap.size rfl 31 GV (0, 0) _ kB Try.underlying31 rfl hsz ?_)
    refine (KGr.out _).mono ?_
    rintro e u1 ⟨rfl, hb⟩
    have HB1 := Lib.hid (HBE1.out.trans (hb.mono HBE1.out.size))
    replace kB := kB.below hb
    clear hb
    go_wp2_with fail
    refine (KV.out _ (HRG.out.below HB1.out)).mono ?_
    rintro e u2 ⟨va, rfl, hoa, hb⟩
    obtain ⟨Aa, ca, rfl⟩ := own_slice hoa
    have HOA := Lib.hid hoa
    have HB2 := Lib.hid (HB1.out.trans (hb.mono HB1.out.size))
    replace kB := kB.below hb
    clear hb hoa
    go_upto_region 4 with (fail)
    go_wp2_with (refine wpList_load_row rfl 31 (.tmp 1) rfl w.heap.size rfl 31 GV (0, 0) _ kB Try.underlying31 rfl hsz ?_)
    refine (KF.out _ (HRG.out.below HB2.out)).mono ?_
    rintro e u3 ⟨vb, rfl, hob, hb⟩
    obtain ⟨Ab, cb, rfl⟩ := own_slice hob
    have HOB := Lib.hid hob
    have HOA3 := Lib.hid (own_below HOA.out hb)
    have HB3 := Lib.hid (HB2.out.trans (hb.mono HB2.out.size))
    have HKB := Lib.hid (kB.below hb)
    clear hb hob kB
    go_upto_region 5 with (fail)
    obtain ⟨k, hk⟩ : ∃ x, g.k = x := ⟨_, rfl⟩
    obtain ⟨cl, hcl⟩ : ∃ x, g.cl = x := ⟨_, rfl⟩
    obtain ⟨b, hb⟩ : ∃ x, g.b = x := ⟨_, rfl⟩
    obtain ⟨t, ht⟩ : ∃ x, g.t = x := ⟨_, rfl⟩
    obtain ⟨d, hd⟩ : ∃ x, g.d = x := ⟨_, rfl⟩
    obtain ⟨l, hl⟩ : ∃ x, g.l = x := ⟨_, rfl⟩
    obtain ⟨p, hp⟩ : ∃ x, g.p = x := ⟨_, rfl⟩
    obtain ⟨rows, hro⟩ : ∃ x, g.rows = x := ⟨_, rfl⟩
    obtain ⟨cols, hco⟩ : ∃ x, g.cols = x := ⟨_, rfl⟩
    obtain ⟨nc, hnc⟩ : ∃ n, g.cells.length = n := ⟨_, rfl⟩
    obtain ⟨nt, hnt⟩ : ∃ n, g.trees.length = n := ⟨_, rfl⟩
    obtain ⟨nw, hnw⟩ : ∃ n, g.weights.length = n := ⟨_, rfl⟩
    obtain ⟨ng, hng⟩ : ∃ n, g.tgt.length = n := ⟨_, rfl⟩
    rw [hk, hcl, hb, ht, hd, hl, hp, hro, hco, hnc, hnt, hnw, hng] at HGA
    have gg := HKB.out
    rw [HGA.out] at gg KGr KMA KMB
    obtain ⟨q0, q1, q2, q3, q4, q5, q6, q7, q8, q9, q10, q11, q12⟩ := gg.cells13
    have hlB := gg.lt
    have FS := Lib.hid (fun w' (hx : Below u3.heap.size u3 w') => (gg.below hx).cells13)
    clear gg hk hcl hb ht hd hl hp hro hco hnc hnt hnw hng KG KV KF hsz
    have HX0 := Lib.hid ((Below.refl u3.heap.size u3).drew)
    go_cut [39] (fun tv wc => tv = .bool false ∧ Hid (Below u3.heap.size u3 wc))
    case first =>
      have d1 : (MB != MB) = false := by simp
      have d2 : (EN != EN) = false := by simp
      have d3 : ((n : Int) != n) = false := by simp
      have d4 : (n != n) = false := by simp
      go_region_held3 (fun W => W.cell? ⟨w.heap.size, 0, none⟩ = some (.int .i64 k) ∧ W.cell? ⟨w.heap.size, 1, none⟩ = some (.int .i64 cl) ∧ W.cell? ⟨w.heap.size, 2, none⟩ = some (.int .i64 b) ∧ W.cell? ⟨w.heap.size, 3, none⟩ = some (.int .i64 t) ∧ W.cell? ⟨w.heap.size, 4, none⟩ = some (.int .i64 d) ∧ W.cell? ⟨w.heap.size, 5, none⟩ = some (.int .i64 l) ∧ W.cell? ⟨w.heap.size, 6, none⟩ = some (.int .i64 p) ∧ W.cell? ⟨w.heap.size, 7, none⟩ = some (.int .i64 rows) ∧ W.cell? ⟨w.heap.size, 8, none⟩ = some (.int .i64 cols) ∧ W.cell? ⟨w.heap.size, 9, none⟩ = some (.slice Ac nc cc) ∧ W.cell? ⟨w.heap.size, 10, none⟩ = some (.slice At nt ct) ∧ W.cell? ⟨w.heap.size, 11, none⟩ = some (.slice Aw nw cw) ∧ W.cell? ⟨w.heap.size, 12, none⟩ = some (.slice Ag ng cg)) (go_keep)
        (first | (go_at_call 17; refine (KGr.out _).mono ?_; rintro e w8 ⟨rfl, hx8⟩; have HX1 := Lib.hid (HX0.out.trans (hx8.mono HX0.out.size)); clear HX0 hx8; have HX0 := HX1; clear HX1; obtain ⟨f0, f1, f2, f3, f4, f5, f6, f7, f8, f9, f10, f11, f12⟩ := FS.out w8 HX0.out) | (go_at_call 19; refine (KMA.out _ (by exact HRG.out.below (HB3.out.trans (HX0.out.mono HB3.out.size)))).mono ?_; rintro e w8 ⟨rfl, hx8⟩; have HX1 := Lib.hid (HX0.out.trans (hx8.mono HX0.out.size)); clear HX0 hx8; have HX0 := HX1; clear HX1; obtain ⟨f0, f1, f2, f3, f4, f5, f6, f7, f8, f9, f10, f11, f12⟩ := FS.out w8 HX0.out) | (go_at_call 20; refine (KMB.out _ (by exact HRG.out.below (HB3.out.trans (HX0.out.mono HB3.out.size)))).mono ?_; rintro e w8 ⟨rfl, hx8⟩; have HX1 := Lib.hid (HX0.out.trans (hx8.mono HX0.out.size)); clear HX0 hx8; have HX0 := HX1; clear HX1; obtain ⟨f0, f1, f2, f3, f4, f5, f6, f7, f8, f9, f10, f11, f12⟩ := FS.out w8 HX0.out))
      all_goals
        go_wp2
        go_meet
        case rel => exact ⟨by simp, HX0⟩
    case rest =>
    obtain ⟨rfl, HX⟩ := hcut
    clear q0 q1 q2 q3 q4 q5 q6 q7 q8 q9 q10 q11 q12 hlB FS KGr KMA KMB
    have HOA4 := Lib.hid (own_below HOA3.out HX.out)
    have HOB4 := Lib.hid (own_below HOB.out HX.out)
    have HB4 := Lib.hid (HB3.out.trans (HX.out.mono HB3.out.size))
    have hwc : Hid (∃ z, z = wc) := Lib.hid ⟨_, rfl⟩
    obtain ⟨v4, hv4⟩ : ∃ z, z = wc := ⟨_, rfl⟩
    subst hv4
    go_wp2_with fail
    go_loopw [42] (fun iv wr => ∃ i : Nat, i ≤ n ∧ iv = .int .i64 i ∧ Hid (Below v4.heap.size v4 wr)) (fun iv _ => n - (intOf iv).toNat)
    case atStart => exact ⟨0, Nat.zero_le _, rfl, Lib.hid (Below.refl _ _)⟩
    case round =>
      obtain ⟨i, hi, rfl, HBw⟩ := hrel
      by_cases hlt : i < n
      · have hlt' : (i : Int) < n := by omega
        obtain ⟨x, hx⟩ : ∃ x, VS[i]? = some x := ⟨_, List.getElem?_eq_getElem (by rw [HN.out]; exact hlt)⟩
        obtain ⟨ga, capa, eva, _, _, hga, hca⟩ := own_open (own_below HOA4.out HBw.out) (by omega)
        obtain ⟨gb, capb, evb, _, _, hgb, hcb⟩ := own_open (own_below HOB4.out HBw.out) (by omega)
        simp only [Value.slice.injEq] at eva evb
        obtain ⟨rfl, _, rfl⟩ := eva
        obtain ⟨rfl, _, rfl⟩ := evb
        have a0 := hca (i * 2) _ ((flatV_get VS i 0 x hx (by omega)).trans (by cases x <;> rfl : (voteC x)[0]? = some (.bool x.isSome)))
        have a1 := hca (i * 2 + 1) _ ((flatV_get VS i 1 x hx (by omega)).trans (by cases x <;> rfl : (voteC x)[1]? = some (.int .i64 (x.getD 0))))
        have b0 := hcb (i * 2) _ ((flatV_get VS i 0 x hx (by omega)).trans (by cases x <;> rfl : (voteC x)[0]? = some (.bool x.isSome)))
        have b1 := hcb (i * 2 + 1) _ ((flatV_get VS i 1 x hx (by omega)).trans (by cases x <;> rfl : (voteC x)[1]? = some (.int .i64 (x.getD 0))))
        obtain ⟨xs, hxs⟩ : ∃ z, x.isSome = z := ⟨_, rfl⟩
        obtain ⟨xv, hxv⟩ : ∃ z, x.getD 0 = z := ⟨_, rfl⟩
        rw [hxs] at a0 b0
        rw [hxv] at a1 b1
        clear hca hcb hx hxs hxv
        cases xs with
        | true =>
          go_wp2_with fail
          go_quiet (fail)
          go_wp2_with fail
          go_roundw
          case rel => exact ⟨i + 1, hlt, by go_num, Lib.hid (HBw.out.trans ⟨rfl, rfl, rfl, Nat.le_refl _, fun _ _ => rfl⟩)⟩
          case measure => simp [intOf]; omega
        | false =>
          go_wp2_with fail
          go_quiet (fail)
          go_wp2_with fail
          go_roundw
          case rel => exact ⟨i + 1, hlt, by go_num, Lib.hid (HBw.out.trans ⟨rfl, rfl, rfl, Nat.le_refl _, fun _ _ => rfl⟩)⟩
          case measure => simp [intOf]; omega
      · obtain rfl : n = i := by omega
        go_wp2_with fail
        refine (fixed25_any _).mono ?_
        rintro e v5 ⟨rfl, hb⟩
        have HB5 := Lib.hid ((HB4.out.trans (HBw.out.mono HB4.out.size)).trans (hb.mono (HB4.out.trans (HBw.out.mono HB4.out.size)).size))
        clear hb
        go_wp2_with fail
        go_ret
        exact ⟨rfl, HB5.out⟩
end Go.Proofs.Ytbhikceekldenaa.Hb

/- The walk of the law OobBags. -/
import Derived.Test.YtbhikceekldenaaHbBags
namespace Go.Proofs.Ytbhikceekldenaa.Hb
set_option linter.unusedVariables false
set_option linter.unusedSimpArgs false
open Go.RowKit

structure BgI (GV : Array Value) (hv : Value → Array Value) (N1 N2 : Nat) (ls : List (List Int)) (k : Nat) (a : Option Addr) (c : Nat) (w wr : World) : Prop where
  kB : Blk wr N1 GV 31
  kH : Blk wr N2 (hv (.slice a k c)) 31
  own : ∃ vals : List Value, wr.ownsRow (N2 + 1) 54 1 (.slice a k c) k vals ∧ InR wr (N2 + 1) vals (ls.take k)
  be : Below w.heap.size w wr
theorem BgI.below {GV : Array Value} {hv : Value → Array Value} {N1 N2 : Nat} {ls : List (List Int)} {k : Nat} {a : Option Addr} {c : Nat} {w wr w' : World} (h : BgI GV hv N1 N2 ls k a c w wr) (hb : Below wr.heap.size wr w') : BgI GV hv N1 N2 ls k a c w w' := by
  obtain ⟨vals, h1, h2⟩ := h.own
  exact ⟨h.kB.below hb, h.kH.below hb, ⟨vals, own_below h1 hb, h2.imp fun v n xs h => own_below h hb⟩, h.be.trans (hb.mono h.be.size)⟩
set_option maxRecDepth 100000 in
set_option maxHeartbeats 8000000 in
theorem bags_any (g : Grv) (often : Int) (Ac At Aw Ag : Option Addr) (cc ct cw cg : Nat) (w : World) (hr : RG w g Ac At Aw Ag) (l1 : g.trees.length ≤ 9223372036854775807) (l2 : g.weights.length ≤ 9223372036854775807) :
    Calls Try.prog 7 #[.agg (grvA g Ac At Aw Ag cc ct cw cg), .int .i64 often] w (True0 w) := by
  have KG := Lib.hid (fun w hr => great_any g Ac At Aw Ag cc ct cw cg w hr l1 l2)
  have HRG := Lib.hid hr
  obtain ⟨GV, hGV⟩ : ∃ V, grvA g Ac At Aw Ag cc ct cw cg = V := ⟨_, rfl⟩
  have hsz : (Try.prog.info? 31).map (·.size) = some GV.size := by rw [← hGV]; kernel_rfl
  cases hgr : greatG g with
  | true =>
    rw [hgr, hGV] at KG
    rw [hGV]
    clear hGV hgr
    go_enter Try.func7, Try.ntmps7
    go_upto_region 1 with (fail)
    have kB := Blk.new w GV 31
    have HBE := Lib.hid ((Below.refl w.heap.size w).alloc (Nat.le_refl _) (.cells GV 31))
    go_wp2_with (refine wpList_load_row rfl 31 (.tmp 2) rfl w.heap.size rfl 31 GV (0, 0) _ kB Try.underlying31 rfl hsz ?_)
    refine (KG.out _ (HRG.out.below HBE.out)).mono ?_
    rintro e w1 ⟨rfl, hb⟩
    have HBE1 := Lib.hid (HBE.out.trans (hb.mono HBE.out.size))
    clear hb kB
    go_wp2_with fail
    refine (fixed25_any _).mono ?_
    rintro e w2 ⟨rfl, hb⟩
    have HBE2 := Lib.hid (HBE1.out.trans (hb.mono HBE1.out.size))
    clear hb
    go_wp2_with fail
    go_ret
    exact ⟨rfl, HBE2.out⟩
  | false =>
    have hok := great_ok hgr
    have hrows : mayG g = true → g.rows ≤ 1048576 := fun h => by have := great_rows hgr h; omega
    obtain ⟨b, hb0⟩ : ∃ b, bits .or .i64 often 1 = b := ⟨_, rfl⟩
    have hor := or_one often
    rw [hb0] at hor
    obtain ⟨hg, hhg⟩ : ∃ x, oftG b g = x := ⟨_, rfl⟩
    have hokh : OkG hg := by
      rw [← hhg]
      exact ⟨hok.lc, hok.lt, by show (g.weights.map _).length ≤ _; rw [List.length_map]; exact hok.lw, hok.lg, hok.tt, fun x hx => by
        obtain ⟨y, hy, rfl⟩ := List.mem_map.1 hx
        rw [List.length_map]; exact hok.ww y hy⟩
    have hmh : mayG hg = mayG g := by rw [← hhg]; exact oft_may g
    have heh : errO hg = errO g := by rw [← hhg]; exact oft_err hor.1 g
    have KE := Lib.hid (fun w hr => error_any g Ac At Aw Ag cc ct cw cg w hok hrows hr)
    have KF := Lib.hid (fun (a : Option Addr) (c : Nat) w hr => error_any hg Ac At a Ag cc ct c cg w hokh (by rw [hmh, ← hhg]; exact hrows) hr)
    have KGr := Lib.hid (fun w => grove_any g Ac At Aw Ag cc ct cw cg w)
    have KGh := Lib.hid (fun (a : Option Addr) (c : Nat) w => grove_any hg Ac At a Ag cc ct c cg w)
    obtain ⟨nw, hnw⟩ : ∃ n, g.weights.length = n := ⟨_, rfl⟩
    have hnw10 : nw ≤ 10 := by have := (great_not hgr).1; unfold greatH at this; omega
    have HW100 := Lib.hid (great_not hgr).2.2
    have hhw : hg.weights = g.weights.map fun w => w.map (oftN b) := by rw [← hhg]; rfl
    obtain ⟨HV, hHV⟩ : ∃ HV : Value → Array Value, HV = fun v => #[.int .i64 g.k, .int .i64 g.cl, .int .i64 g.b, .int .i64 g.t, .int .i64 g.d, .int .i64 g.l, .int .i64 g.p, .int .i64 g.rows, .int .i64 g.cols, .slice Ac g.cells.length cc, .slice At g.trees.length ct, v, .slice Ag g.tgt.length cg] := ⟨_, rfl⟩
    have hHg : ∀ (a : Option Addr) (c : Nat), grvA hg Ac At a Ag cc ct c cg = HV (.slice a nw c) := fun a c => by
      rw [hHV, ← hnw, ← hhg]
      unfold grvA oftG
      simp only [List.length_map]
    have hGg : GV = HV (.slice Aw nw cw) := by rw [hHV, ← hnw, ← hGV]; rfl
    have HRH : Hid (∀ (w' : World) (a : Option Addr), Below w.heap.size w w' → RW w' a hg.weights → RG w' hg Ac At a Ag) := Lib.hid (fun w' a hb h => by
      have h2 := hr.below hb
      rw [← hhg] at h ⊢
      exact ⟨h2.rc, h2.rt, h, h2.rg⟩)
    obtain ⟨⟨NN, DD⟩, hE⟩ : ∃ E, errO g = E := ⟨_, rfl⟩
    obtain ⟨ER, hER⟩ : ∃ E : Int, (if mayG g then 0 else 8) = E := ⟨_, rfl⟩
    rw [hmh, heh] at KF
    rw [hE, hER] at KE KF
    simp only at KE KF
    rw [hgr, hGV] at KG
    rw [hGV] at KE KGr ⊢
    have HHG := Lib.hid hHg
    have HHV := Lib.hid hHV
    have HGG := Lib.hid hGg
    have HNW := Lib.hid hnw
    have HHW := Lib.hid hhw
    have HOR := Lib.hid hor
    obtain ⟨i0, hi0, hz0, hz1, hz2⟩ := info_parts info_int
    obtain ⟨j0, hj0, hy0, hy1, hy2⟩ := info_parts info_row
    clear hGV hgr hok hrows hor hhg hokh hmh heh hnw hhw hHV hHg hGg hE hER hr
    go_enter Try.func7, Try.ntmps7
    go_upto_region 1 with (fail)
    have kB := Blk.new w GV 31
    have HBE := Lib.hid ((Below.refl w.heap.size w).alloc (Nat.le_refl _) (.cells GV 31))
    go_wp2_with (refine wpList_load_row rfl 31 (.tmp 2) rfl w.heap.size rfl 31 GV (0, 0) _ kB Try.underlying31 rfl hsz ?_)
    refine (KG.out _ (HRG.out.below HBE.out)).mono ?_
    rintro e w1 ⟨rfl, hb⟩
    have HBE1 := Lib.hid (HBE.out.trans (hb.mono HBE.out.size))
    have kB1 := kB.below hb
    have KB1 := Lib.hid kB1
    rw [HGG.out, HHV.out] at kB1
    obtain ⟨q0, q1, q2, q3, q4, q5, q6, q7, q8, q9, q10, q11, q12⟩ := kB1.cells13
    have hlB := kB1.lt
    clear hb kB kB1
    go_wp2_with fail
    have HI0 : Hid (BgI GV HV w.heap.size w1.heap.size hg.weights 0 none 0 w (w1.alloc (.cells (HV (.slice none 0 0)) 31))) := Lib.hid
      ⟨KB1.out.below ((Below.refl _ _).alloc (Nat.le_refl _) _), Blk.new _ _ _, ⟨[], World.ownsRow_nil _ _ _ _, ⟨rfl, fun j v l h => by simp at h⟩⟩, HBE1.out.alloc HBE1.out.size _⟩
    rw [HHV.out] at HI0
    have HNE : Hid (w.heap.size ≠ w1.heap.size) := Lib.hid (by have := KB1.out.lt; omega)
    clear q0 q1 q2 q3 q4 q5 q6 q7 q8 q9 q10 q11 q12 hlB KB1
    go_loopw [23] (fun iv wr => ∃ (k : Nat) (a : Option Addr) (c : Nat), k ≤ nw ∧ iv = .int .i64 k ∧ Hid (BgI GV HV w.heap.size w1.heap.size hg.weights k a c w wr)) (fun iv _ => nw - (intOf iv).toNat)
    case atStart => exact ⟨0, none, 0, Nat.zero_le _, rfl, by rw [HHV.out]; exact HI0⟩
    case round =>
      obtain ⟨k, a, c, hk, rfl, HI⟩ := hrel
      obtain ⟨wo, hwo⟩ : ∃ x, x = wr := ⟨_, rfl⟩
      subst hwo
      by_cases hlt : k < nw
      · have hlt' : (k : Int) < nw := by omega
        obtain ⟨adw, rfl, wk, Bw, capw, hw1, hw2, hw3, hw4, hw5⟩ := (HRG.out.below HI.out.be).rw.at (i := k) (by rw [HNW.out]; exact hlt)
        have hwk := HW100.out wk (List.mem_of_getElem? hw1)
        have HWK : Hid (hg.weights.take (k + 1) = hg.weights.take k ++ [wk.map (oftN b)]) := Lib.hid (by
          have e : hg.weights[k]? = some (wk.map (oftN b)) := by rw [HHW.out, List.getElem?_map, hw1]; rfl
          obtain ⟨hh, he⟩ := List.getElem?_eq_some_iff.1 e
          rw [List.take_succ_eq_append_getElem hh, he])
        obtain ⟨m, hm⟩ : ∃ m, wk.length = m := ⟨_, rfl⟩
        rw [hm] at hw2 hw3 hwk
        have HM := Lib.hid hm
        have HW5 := Lib.hid hw5
        have hsN : w1.heap.size < wo.heap.size := HI.out.kH.lt
        have hsW : w.heap.size ≤ wo.heap.size := HI.out.be.size
        clear hw1 hw5 hm
        go_wp2_with fail
        go_loopw [8, 29] (fun o iv wr => ∃ (j : Nat) (a2 : Option Addr) (c2 : Nat), j ≤ m ∧ iv = .int .i64 j ∧ o = .slice a2 j c2 ∧ Hid (wr.ownsRow wo.heap.size 3 1 (.slice a2 j c2) j (ints ((wk.map (oftN b)).take j))) ∧ Hid (Below wo.heap.size wo wr)) (fun _ iv _ => m - (intOf iv).toNat)
        case atStart => exact ⟨0, none, 0, Nat.zero_le _, rfl, rfl, Lib.hid (World.ownsRow_nil _ _ _ _), Lib.hid (Below.refl _ _)⟩
        case round =>
          obtain ⟨j, a2, c2, hj, rfl, rfl, HO, HBw⟩ := hrel
          by_cases hjl : j < m
          · have hjl' : (j : Int) < m := by omega
            have hjw : j < wk.length := by rw [HM.out]; exact hjl
            obtain ⟨adx, rfl, hxin, hx⟩ := (HW5.out.below HBw.out).at hjw
            have HTK : Hid ((wk.map (oftN b)).take (j + 1) = (wk.map (oftN b)).take j ++ [oftN b (wk.getD j 0)]) := Lib.hid (by
              rw [take_snocI (by rw [List.length_map]; exact hjw), oft_getD])
            obtain ⟨x, hxx⟩ : ∃ x, wk.getD j 0 = x := ⟨_, rfl⟩
            rw [hxx] at hx HTK
            have hsw : wo.heap.size ≤ wr.heap.size := HBw.out.size
            clear hxin hxx hjw
            by_cases hx0 : x = 0
            · have HTK2 : Hid ((wk.map (oftN b)).take (j + 1) = (wk.map (oftN b)).take j ++ [x]) := Lib.hid (by rw [HTK.out, hx0]; rfl)
              have d0 : (x != 0) = false := by simpa using hx0
              clear hx0 HTK
              go_wp2_with (at_builtin; refine wpList_append_lies _ rfl _ _ 54 rfl wo.heap.size 3 i0 (.int .i64 0) 1 8 Try.underlying54 hi0 hz0 hz1 hz2 rfl (by decide) _ _ _ rfl (HO.out.alloc _) ⟨wr.heap.size, 0, none⟩ 1 1 [.int .i64 x] rfl rfl (cell_one_new _ _ _) (by simp [Value.oneCell']) (by decide) (by unfold maxLen; omega) (by omega) (by simp; omega) _ rfl ?_; intro g3 c3 w3 hown3 hg3 hat3 hlt3)
              go_roundw
              case rel => exact ⟨j + 1, _, c3, hjl, by go_num, rfl, Lib.hid (by rw [HTK2.out, ints_snoc]; exact hown3), Lib.hid ((HBw.out.alloc hsw _).grown hg3 (by simp; omega) (fun q e => (World.ownsRow.lt HO.out q e).1))⟩
              case measure => simp [intOf]; omega
            · have HTK2 : Hid ((wk.map (oftN b)).take (j + 1) = (wk.map (oftN b)).take j ++ [b]) := Lib.hid (by rw [HTK.out]; unfold oftN; rw [if_pos hx0])
              have d0 : (x != 0) = true := bne_iff_ne.2 hx0
              clear hx0 HTK
              go_wp2_with (at_builtin; refine wpList_append_lies _ rfl _ _ 54 rfl wo.heap.size 3 i0 (.int .i64 0) 1 8 Try.underlying54 hi0 hz0 hz1 hz2 rfl (by decide) _ _ _ rfl (HO.out.alloc _) ⟨wr.heap.size, 0, none⟩ 1 1 [.int .i64 b] rfl rfl (cell_one_new _ _ _) (by simp [Value.oneCell']) (by decide) (by unfold maxLen; omega) (by omega) (by simp; omega) _ rfl ?_; intro g3 c3 w3 hown3 hg3 hat3 hlt3)
              go_roundw
              case rel => exact ⟨j + 1, _, c3, hjl, by go_num, rfl, Lib.hid (by rw [HTK2.out, ints_snoc]; exact hown3), Lib.hid ((HBw.out.alloc hsw _).grown hg3 (by simp; omega) (fun q e => (World.ownsRow.lt HO.out q e).1))⟩
              case measure => simp [intOf]; omega
          · obtain rfl : m = j := by omega
            have HIc := Lib.hid (HI.out.below HBw.out)
            have kH := HIc.out.kH
            rw [HHV.out] at kH
            obtain ⟨q0, q1, q2, q3, q4, q5, q6, q7, q8, q9, q10, q11, q12⟩ := kH.cells13
            have q13 := fun i => kH.frozen i
            have hlH := kH.lt
            obtain ⟨vals, hv1, hv2⟩ := HIc.out.own
            have HV1 := Lib.hid hv1
            have HV2 := Lib.hid hv2
            have HNEWR : Hid (wr.ownsRow (w1.heap.size + 1) 3 1 (.slice a2 (wk.map (oftN b)).length c2) (wk.map (oftN b)).length (ints (wk.map (oftN b)))) := Lib.hid (by
              have := HO.out
              rw [List.take_of_length_le (by rw [List.length_map, HM.out]; exact Nat.le_refl _)] at this
              rw [List.length_map, HM.out]
              exact World.ownsRow.mono this hsN)
            have HIN : Hid (∀ x ∈ wk.map (oftN b), in64 x) := Lib.hid (fun x hx => by
              obtain ⟨y, hy, rfl⟩ := List.mem_map.1 hx
              obtain ⟨i, hi, rfl⟩ := List.getElem_of_mem hy
              obtain ⟨_, _, h, _⟩ := HW5.out.at hi
              rw [List.getD_eq_getElem?_getD, List.getElem?_eq_getElem hi] at h
              unfold oftN
              split
              · exact HOR.out.2
              · exact h)
            have hsw : wo.heap.size ≤ wr.heap.size := HBw.out.size
            clear hv1 hv2 kH q0 q1 q2 q3 q4 q5 q6 q7 q8 q9 q10 q12 hw2
            go_wp2_with (at_builtin; refine wpList_append_lies _ rfl _ _ 28 rfl (w1.heap.size + 1) 54 j0 (.slice none 0 0) 1 24 Try.underlying28 hj0 hy0 hy1 hy2 rfl (by decide) _ _ _ rfl (HV1.out.alloc _) ⟨wr.heap.size, 0, none⟩ 1 1 [.slice a2 m c2] rfl rfl (cell_one_new _ _ _) (by simp [Value.oneCell']) (by decide) (by unfold maxLen; omega) (by omega) (by simp; omega) _ rfl ?_; intro g3 c3 w3 hown3 hg3 hat3 hlt3; have kH3 := own_blk (HIc.out.kH.below ((Below.refl _ _).alloc (Nat.le_refl _) (.cells #[.slice a2 m c2] 54))) hg3 (own_base HV1.out (Nat.lt_succ_self _)); rw [HHV.out] at kH3; have y11 : w3.cell? ⟨w1.heap.size, 11, none⟩ = some (.slice a k c) := kH3.cell 11; have y13 := fun i => kH3.frozen i; have hl3 := kH3.lt)
            go_roundw
            case rel =>
              refine ⟨k + 1, some ⟨g3, 0, none⟩, c3, hlt, by go_num, Lib.hid ⟨?_, ?_, ⟨vals ++ [.slice a2 m c2], own_set hown3 _ (Nat.lt_succ_self _), ?_⟩, ?_⟩⟩
              · have h1 := own_blk (HIc.out.kB.below ((Below.refl _ _).alloc (Nat.le_refl _) (.cells #[.slice a2 m c2] 54))) hg3 (own_base HV1.out (by have := HBE1.out.size; omega))
                exact h1.other (p := ⟨w1.heap.size, 11, none⟩) HNE.out _
              · have := kH3.set 11 (.slice (some ⟨g3, 0, none⟩) (k + 1) c3)
                rw [HHV.out]
                exact this
              · rw [HWK.out]
                have h2 := HV2.out.snoc (by have := own_cap HNEWR.out; exact this.2.2) HIN.out HNEWR.out
                have h3 := h2.imp (w' := w3) (fun v n xs h => own_ne2 hg3 (h.alloc _) (fun q hq => own_apart h HV1.out (by decide) q hq))
                have h4 := h3.imp (w' := w3.setCell ⟨w1.heap.size, 11, none⟩ (.slice (some ⟨g3, 0, none⟩) (k + 1) c3)) (fun v n xs h => own_set h _ (Nat.lt_succ_self _))
                rw [List.length_map, HM.out] at h4
                exact h4
              · exact ((HIc.out.be.alloc HIc.out.be.size _).grown hg3 (by simp; have := HIc.out.be.size; omega) (fun q e => by have := (World.ownsRow.lt HV1.out q e).1; have := HBE1.out.size; omega)).setCell (p := ⟨w1.heap.size, 11, none⟩) HBE1.out.size _
            case measure => simp [intOf]; omega
      · obtain rfl : nw = k := by omega
        have htk : hg.weights.take nw = hg.weights := List.take_of_length_le (by rw [HHW.out, List.length_map, HNW.out]; exact Nat.le_refl _)
        have HRh : Hid (RG wo hg Ac At a Ag) := Lib.hid (HRH.out wo a HI.out.be (by
          obtain ⟨vals, h1, h2⟩ := HI.out.own
          rw [htk] at h2
          have hl : hg.weights.length = nw := by rw [HHW.out, List.length_map, HNW.out]
          have h1' : wo.ownsRow (w1.heap.size + 1) 54 1 (.slice a hg.weights.length c) hg.weights.length vals := by rw [hl]; exact h1
          exact RW.own h1' h2))
        have HRg := Lib.hid (HRG.out.below HI.out.be)
        have KF2 := Lib.hid (fun w hr => KF.out a c w hr)
        have KGh2 := Lib.hid (fun w => KGh.out a c w)
        obtain ⟨HW, hHW⟩ : ∃ HW, HV (.slice a nw c) = HW := ⟨_, rfl⟩
        rw [HHG.out, hHW] at KF2 KGh2
        have kB := HI.out.kB
        have kH := HI.out.kH
        rw [hHW] at kH
        have hszh : (Try.prog.info? 31).map (·.size) = some HW.size := by rw [← hHW, HHV.out]; kernel_rfl
        have HBo := Lib.hid HI.out.be
        have hq := fun (w : World) x0 x1 y0 y1 => eq_signed 9998 w x0 x1 y0 y1
        clear htk hHW HI KG KF KGh
        go_upto_region 18 with (fail)
        go_wp2_with (refine wpList_load_row rfl 31 (.tmp 2) rfl w.heap.size rfl 31 GV (0, 0) _ kB Try.underlying31 rfl hsz ?_)
        refine (KGr.out _).mono ?_
        rintro e u1 ⟨rfl, hb⟩
        have HBo1 := Lib.hid (HBo.out.trans (hb.mono HBo.out.size))
        have HRg1 := Lib.hid (HRg.out.below hb)
        have HRh1 := Lib.hid (HRh.out.below hb)
        replace kH := kH.below hb
        clear hb kB
        go_wp2_with fail
        refine (KE.out _ HRg1.out).mono ?_
        rintro e u2 ⟨rfl, hb⟩
        have HBo2 := Lib.hid (HBo1.out.trans (hb.mono HBo1.out.size))
        have HRh2 := Lib.hid (HRh1.out.below hb)
        replace kH := kH.below hb
        have kS := Lib.hid (Blk.new u2 #[.int .i64 NN, .int .i64 DD] 48)
        have HBo3 := Lib.hid (HBo2.out.alloc HBo2.out.size (.cells #[.int .i64 NN, .int .i64 DD] 48))
        have HRh3 := Lib.hid (HRh2.out.below ((Below.refl _ _).alloc (Nat.le_refl _) (.cells #[.int .i64 NN, .int .i64 DD] 48)))
        replace kH := kH.below ((Below.refl _ _).alloc (Nat.le_refl _) (.cells #[.int .i64 NN, .int .i64 DD] 48))
        clear hb
        go_upto_region 19 with (fail)
        obtain ⟨u3, hu3⟩ : ∃ W, u2.alloc (.cells #[.int .i64 NN, .int .i64 DD] 48) = W := ⟨_, rfl⟩
        rw [hu3] at kS HBo3 HRh3 kH ⊢
        clear hu3
        go_wp2_with (refine wpList_load_row rfl 31 (.tmp 5) rfl w1.heap.size rfl 31 HW (0, 0) _ kH Try.underlying31 rfl hszh ?_)
        refine (KGh2.out _).mono ?_
        rintro e u4 ⟨rfl, hb⟩
        have HBo4 := Lib.hid (HBo3.out.trans (hb.mono HBo3.out.size))
        have HRh4 := Lib.hid (HRh3.out.below hb)
        have kS4 := Lib.hid (kS.out.below hb)
        clear hb kH
        go_wp2_with fail
        refine (KF2.out _ HRh4.out).mono ?_
        rintro e u5 ⟨rfl, hb⟩
        have HBo5 := Lib.hid (HBo4.out.trans (hb.mono HBo4.out.size))
        have kS5 := Lib.hid (kS4.out.below hb)
        have kT5 := Lib.hid (Blk.new u5 #[.int .i64 NN, .int .i64 DD] 48)
        have kS6 := Lib.hid (kS5.out.below ((Below.refl _ _).alloc (Nat.le_refl _) (.cells #[.int .i64 NN, .int .i64 DD] 48)))
        have HBo6 := Lib.hid (HBo5.out.alloc HBo5.out.size (.cells #[.int .i64 NN, .int .i64 DD] 48))
        clear hb
        go_wp2_with fail
        obtain ⟨u6, hu6⟩ : ∃ W, u5.alloc (.cells #[.int .i64 NN, .int .i64 DD] 48) = W := ⟨_, rfl⟩
        rw [hu6] at kT5 kS6 HBo6 ⊢
        clear hu6
        refine (fixed25_any _).mono ?_
        rintro e u7 ⟨rfl, hb⟩
        have HBo7 := Lib.hid (HBo6.out.trans (hb.mono HBo6.out.size))
        have kS7 := kS6.out.below hb
        have kT7 := kT5.out.below hb
        have s0 := kS7.cell 0
        have s1 := kS7.cell 1
        have t0 := kT7.cell 0
        have t1 := kT7.cell 1
        have ls := kS7.lt
        have lt := kT7.lt
        simp only [List.getElem?_toArray, List.getElem?_cons_zero, List.getElem?_cons_succ] at s0 s1 t0 t1
        clear hb kS7 kT7
        go_wp2_with fail
        go_ret
        exact ⟨rfl, HBo7.out⟩
end Go.Proofs.Ytbhikceekldenaa.Hb

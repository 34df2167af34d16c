/- The walk of ref25.May. -/
import Derived.Test.YtbhikceekldenaaHbRCheck
import Derived.Test.YtbhikceekldenaaHbRCells
import Derived.Test.YtbhikceekldenaaHbRDeep
import Derived.Test.YtbhikceekldenaaHbMay
namespace Go.Proofs.Ytbhikceekldenaa.Hb
set_option linter.unusedVariables false
set_option linter.unusedSimpArgs false
open Go.RowKit

theorem rtgt_tgt {k cl b t d l p x : Int} (h : checkO k cl b t d l p = 0) : rtgtO k cl x = 0 ↔ tgtB k cl x = true := by
  obtain ⟨_, _, h1⟩ := chk_shape h
  unfold rtgtO tgtB
  rcases h1 with ⟨rfl, h2, h3⟩ | ⟨rfl, rfl⟩
  · rw [if_pos rfl, decide_eq_true_iff]
    by_cases c : x < 0 ∨ 255 < x ∨ cl ≤ x
    · rw [if_pos ⟨rfl, c⟩]; omega
    · rw [if_neg (by omega), if_neg (by omega)]; omega
  · rw [if_neg (show ¬ (1 : Int) = 0 by omega), decide_eq_true_iff, if_neg (by omega)]
    by_cases c : x < -1048576 ∨ 1048576 < x
    · rw [if_pos ⟨rfl, c⟩]; omega
    · rw [if_neg (by omega)]; omega
/-- What lies in May's boxes. -/
structure RMayB (cfg mat grv : Array Value) (B M C : Nat) (w wc : World) : Prop where
  kB : Blk wc B grv 31
  kM : Blk wc M mat 26
  kC : Blk wc C cfg 23
  be : Below w.heap.size w wc
theorem RMayB.below {cfg mat grv : Array Value} {B M C : Nat} {w wc w' : World} (h : RMayB cfg mat grv B M C w wc) (hb : Below wc.heap.size wc w') : RMayB cfg mat grv B M C w w' := ⟨h.kB.below hb, h.kM.below hb, h.kC.below hb, h.be.trans (hb.mono h.be.size)⟩
theorem rmayB_1 {cfg mat grv : Array Value} {B : Nat} {w W0 : World} (h : Blk W0 B grv 31) (hb : Below w.heap.size w W0) : RMayB cfg mat grv B W0.heap.size (W0.heap.size + 1) w ((W0.alloc (.cells mat 26)).alloc (.cells cfg 23)).drew := by
  have a1 : Below W0.heap.size W0 (W0.alloc (.cells mat 26)) := (Below.refl _ _).alloc (Nat.le_refl _) _
  have a2 : Below W0.heap.size W0 ((W0.alloc (.cells mat 26)).alloc (.cells cfg 23)) := a1.alloc (by simp) _
  have k2 := Blk.new (W0.alloc (.cells mat 26)) cfg 23
  rw [World.size_alloc] at k2
  exact ⟨h.below a2.drew, (Blk.new W0 mat _).below (((Below.refl _ _).alloc (Nat.le_refl _) _).drew), k2, (hb.trans (a2.mono hb.size)).drew⟩
theorem rmayB_2 {cfg mat grv : Array Value} {B : Nat} {w W0 : World} (h : Blk W0 B grv 31) (hb : Below w.heap.size w W0) : RMayB cfg mat grv B (W0.heap.size + 1) W0.heap.size w ((W0.alloc (.cells cfg 23)).alloc (.cells mat 26)).drew := by
  have a1 : Below W0.heap.size W0 (W0.alloc (.cells cfg 23)) := (Below.refl _ _).alloc (Nat.le_refl _) _
  have a2 : Below W0.heap.size W0 ((W0.alloc (.cells cfg 23)).alloc (.cells mat 26)) := a1.alloc (by simp) _
  have k2 := Blk.new (W0.alloc (.cells cfg 23)) mat 26
  rw [World.size_alloc] at k2
  exact ⟨h.below a2.drew, k2, (Blk.new W0 cfg _).below (((Below.refl _ _).alloc (Nat.le_refl _) _).drew), (hb.trans (a2.mono hb.size)).drew⟩
set_option maxRecDepth 100000 in
set_option maxHeartbeats 8000000 in
theorem rmay_any (g : Grv) (Ac At Aw Ag : Option Addr) (cc ct cw cg : Nat) (w : World) (hok : OkG g) (hr : RG w g Ac At Aw Ag) :
    Calls Try.prog 20 #[.agg (grvA g Ac At Aw Ag cc ct cw cg)] w fun e w' => e = .returned (.bool (mayG g)) ∧ Below w.heap.size w w' := by
  obtain ⟨T1, hT1⟩ : ∃ z, treesB g g.trees g.weights = z := ⟨_, rfl⟩
  obtain ⟨T2, hT2⟩ : ∃ z, g.tgt.all (tgtB g.k g.cl) = z := ⟨_, rfl⟩
  obtain ⟨ck, hck⟩ : ∃ z, checkO g.k g.cl g.b g.t g.d g.l g.p = z := ⟨_, rfl⟩
  obtain ⟨mt, hmt⟩ : ∃ z, matB g.rows g.cols g.cells.length = z := ⟨_, rfl⟩
  have HM : Hid (mayG g = (((ck == 0) && (mt && decide (1 ≤ g.cols ∧ g.cols ≤ 1024 ∧ g.weights.length = g.trees.length ∧ (g.tgt.length : Int) = g.rows))) && (T1 && T2))) := Lib.hid (by unfold mayG headB; rw [hT1, hT2, hck, hmt])
  have KC := Lib.hid (fun w => rcheck_any g.k g.cl g.b g.t g.d g.l g.p w)
  have KM := Lib.hid (fun w => rmright_any g.rows g.cols g.cells.length Ac cc hok.lc w)
  rw [hck] at KC
  rw [hmt] at KM
  obtain ⟨R, hR⟩ : ∃ R, mayG g = R := ⟨_, rfl⟩
  rw [hR] at HM ⊢
  have HT1 : Hid (treesB g (g.trees.drop 0) (g.weights.drop 0) = T1) := Lib.hid (by rw [List.drop_zero, List.drop_zero]; exact hT1)
  have HT2 : Hid ((g.tgt.drop 0).all (tgtB g.k g.cl) = T2) := Lib.hid (by rw [List.drop_zero]; exact hT2)
  have HOK := Lib.hid hok
  have HRG := Lib.hid hr
  have HG : Hid (∃ g', g' = g) := Lib.hid ⟨g, rfl⟩
  obtain ⟨nc, hnc⟩ : ∃ n, g.cells.length = n := ⟨_, rfl⟩
  obtain ⟨nt, hnt⟩ : ∃ n, g.trees.length = n := ⟨_, rfl⟩
  obtain ⟨nw, hnw⟩ : ∃ n, g.weights.length = n := ⟨_, rfl⟩
  obtain ⟨ng, hng⟩ : ∃ n, g.tgt.length = n := ⟨_, rfl⟩
  obtain ⟨k, hk⟩ : ∃ x, g.k = x := ⟨_, rfl⟩
  obtain ⟨cl, hcl⟩ : ∃ x, g.cl = x := ⟨_, rfl⟩
  obtain ⟨b, hb⟩ : ∃ x, g.b = x := ⟨_, rfl⟩
  obtain ⟨t, ht⟩ : ∃ x, g.t = x := ⟨_, rfl⟩
  obtain ⟨d, hd⟩ : ∃ x, g.d = x := ⟨_, rfl⟩
  obtain ⟨l, hl⟩ : ∃ x, g.l = x := ⟨_, rfl⟩
  obtain ⟨p, hp⟩ : ∃ x, g.p = x := ⟨_, rfl⟩
  obtain ⟨rows, hrows⟩ : ∃ x, g.rows = x := ⟨_, rfl⟩
  obtain ⟨cols, hcols⟩ : ∃ x, g.cols = x := ⟨_, rfl⟩
  have hgA : grvA g Ac At Aw Ag cc ct cw cg = #[.int .i64 k, .int .i64 cl, .int .i64 b, .int .i64 t, .int .i64 d, .int .i64 l, .int .i64 p, .int .i64 rows, .int .i64 cols, .slice Ac nc cc, .slice At nt ct, .slice Aw nw cw, .slice Ag ng cg] := by
    unfold grvA; rw [hnc, hnt, hnw, hng, hk, hcl, hb, ht, hd, hl, hp, hrows, hcols]
  rw [hgA]
  rw [hnt, hnw, hng, hcols, hrows] at HM
  rw [hk, hcl] at HT2
  rw [hk, hcl, hb, ht, hd, hl, hp] at KC
  rw [hrows, hcols, hnc] at KM
  have HCK0 : Hid (checkO k cl b t d l p = ck) := Lib.hid (by rw [← hck, hk, hcl, hb, ht, hd, hl, hp])
  have HN := Lib.hid (show g.trees.length = nt ∧ g.weights.length = nw ∧ g.tgt.length = ng ∧ g.k = k ∧ g.cl = cl ∧ g.b = b ∧ g.rows = rows ∧ g.cols = cols from ⟨hnt, hnw, hng, hk, hcl, hb, hrows, hcols⟩)
  have hlw : nw ≤ 9223372036854775807 := by rw [← hnw]; exact hok.lw
  have hlt : nt ≤ 1048576 := by rw [← hnt]; exact hok.lt
  have hlg : ng ≤ 9223372036854775807 := by rw [← hng]; exact hok.lg
  clear hT1 hT2 hck hmt hR hok hr hnc hnt hnw hng hk hcl hb ht hd hl hp hrows hcols hgA
  go_enter Try.func20, Try.ntmps20
  go_upto_region 1 with (fail)
  have kB := Blk.new w #[.int .i64 k, .int .i64 cl, .int .i64 b, .int .i64 t, .int .i64 d, .int .i64 l, .int .i64 p, .int .i64 rows, .int .i64 cols, .slice Ac nc cc, .slice At nt ct, .slice Aw nw cw, .slice Ag ng cg] 31
  have be0 := (Below.refl w.heap.size w).alloc (Nat.le_refl _) (.cells #[.int .i64 k, .int .i64 cl, .int .i64 b, .int .i64 t, .int .i64 d, .int .i64 l, .int .i64 p, .int .i64 rows, .int .i64 cols, .slice Ac nc cc, .slice At nt ct, .slice Aw nw cw, .slice Ag ng cg] 31)
  obtain ⟨W0, hW0⟩ : ∃ W, w.alloc (.cells #[.int .i64 k, .int .i64 cl, .int .i64 b, .int .i64 t, .int .i64 d, .int .i64 l, .int .i64 p, .int .i64 rows, .int .i64 cols, .slice Ac nc cc, .slice At nt ct, .slice Aw nw cw, .slice Ag ng cg] 31) = W := ⟨_, rfl⟩
  have hs0 : W0.heap.size = w.heap.size + 1 := by rw [← hW0]; simp
  rw [hW0] at kB be0 ⊢
  have HKB := Lib.hid kB
  have HBE0 := Lib.hid be0
  have HS0 := Lib.hid hs0
  obtain ⟨q0, q1, q2, q3, q4, q5, q6, q7, q8, q9, q10, q11, q12⟩ := kB.cells13
  have hlB := kB.lt
  clear hW0 kB be0 hs0
  go_cut [3, 4] (fun mv cv wc => ∃ M C : Nat, mv = .pointer (some ⟨M, 0, none⟩) ∧ cv = .pointer (some ⟨C, 0, none⟩) ∧ Hid (RMayB #[.int .i64 k, .int .i64 cl, .int .i64 b, .int .i64 t, .int .i64 d, .int .i64 l, .int .i64 p] #[.int .i64 rows, .int .i64 cols, .slice Ac nc cc] #[.int .i64 k, .int .i64 cl, .int .i64 b, .int .i64 t, .int .i64 d, .int .i64 l, .int .i64 p, .int .i64 rows, .int .i64 cols, .slice Ac nc cc, .slice At nt ct, .slice Aw nw cw, .slice Ag ng cg] w.heap.size M C w wc))
  case first =>
    go_region_held3 (fun W => W.cell? ⟨w.heap.size, 0, none⟩ = some (.int .i64 k) ∧ W.cell? ⟨w.heap.size, 1, none⟩ = some (.int .i64 cl) ∧ W.cell? ⟨w.heap.size, 2, none⟩ = some (.int .i64 b) ∧ W.cell? ⟨w.heap.size, 3, none⟩ = some (.int .i64 t) ∧ W.cell? ⟨w.heap.size, 4, none⟩ = some (.int .i64 d) ∧ W.cell? ⟨w.heap.size, 5, none⟩ = some (.int .i64 l) ∧ W.cell? ⟨w.heap.size, 6, none⟩ = some (.int .i64 p) ∧ W.cell? ⟨w.heap.size, 7, none⟩ = some (.int .i64 rows) ∧ W.cell? ⟨w.heap.size, 8, none⟩ = some (.int .i64 cols) ∧ W.cell? ⟨w.heap.size, 9, none⟩ = some (.slice Ac nc cc)) (go_keep) (fail)
    all_goals
      go_wp2
      go_meet
      case rel => first | exact ⟨_, _, rfl, rfl, Lib.hid (rmayB_1 HKB.out HBE0.out)⟩ | exact ⟨_, _, rfl, rfl, Lib.hid (rmayB_2 HKB.out HBE0.out)⟩
  case rest =>
    obtain ⟨M, C, rfl, rfl, HK⟩ := hcut
    clear q0 q1 q2 q3 q4 q5 q6 q7 q8 q9 q10 q11 q12 hlB HKB HBE0 HS0
    obtain ⟨c0, c1, c2, c3, c4, c5, c6⟩ := HK.out.kC.cells7
    by_cases hck : ck = 0
    · have CKH : Hid (checkO k cl b t d l p = 0) := Lib.hid (HCK0.out.trans hck)
      subst hck
      go_wp2_with fail
      refine (KC.out _).mono ?_
      rintro e w2 ⟨rfl, hb⟩
      have HK2 := Lib.hid (HK.out.below hb)
      clear c0 c1 c2 c3 c4 c5 c6 hb HK
      obtain ⟨m0, m1, m2⟩ := HK2.out.kM.cells3
      cases mt with
      | false =>
        go_wp2_with fail
        refine (KM.out _).mono ?_
        rintro e w3 ⟨rfl, hb⟩
        have HK3 := Lib.hid (HK2.out.below hb)
        clear hb HK2 m0 m1 m2
        go_wp2_with fail
        go_ret
        exact ⟨ret_bool (by rw [HM.out]; simp), HK3.out.be⟩
      | true =>
        go_wp2_with fail
        refine (KM.out _).mono ?_
        rintro e w3 ⟨rfl, hb⟩
        have HK3 := Lib.hid (HK2.out.below hb)
        clear hb HK2 m0 m1 m2
        obtain ⟨m0, m1, m2⟩ := HK3.out.kM.cells3
        obtain ⟨q0, q1, q2, q3, q4, q5, q6, q7, q8, q9, q10, q11, q12⟩ := HK3.out.kB.cells13
        by_cases e1 : cols < 1
        · have d1 : decide (cols < 1) = true := decide_eq_true e1
          go_wp2_with fail
          go_ret
          refine ⟨ret_bool ?_, HK3.out.be⟩
          rw [HM.out, decide_eq_false (show ¬ (1 ≤ cols ∧ cols ≤ 1024 ∧ nw = nt ∧ (ng : Int) = rows) by omega)]; simp
        have d1 : decide (cols < 1) = false := decide_eq_false e1
        by_cases e2 : 1024 < cols
        · have d2 : decide (1024 < cols) = true := decide_eq_true e2
          go_wp2_with fail
          go_ret
          refine ⟨ret_bool ?_, HK3.out.be⟩
          rw [HM.out, decide_eq_false (show ¬ (1 ≤ cols ∧ cols ≤ 1024 ∧ nw = nt ∧ (ng : Int) = rows) by omega)]; simp
        have d2 : decide (1024 < cols) = false := decide_eq_false e2
        by_cases e3 : nw = nt
        · by_cases e4 : (ng : Int) = rows
          · have HD : Hid (R = (T1 && T2)) := Lib.hid (by rw [HM.out, decide_eq_true (show (1 ≤ cols ∧ cols ≤ 1024 ∧ nw = nt ∧ (ng : Int) = rows) by omega)]; simp)
            have d3 : (nt != nw) = false := by simpa using e3.symm
            have d3' : ((nt : Int) != nw) = false := bne_eq_false_iff_eq.2 (by omega)
            have d4 : ((ng : Int) != rows) = false := by simpa using e4
            have E3 := Lib.hid e3
            have E4 := Lib.hid e4
            clear HM e1 e2 e3 e4
            go_wp2_with fail
            have CK : Hid (checkO k cl b t d l p = 0) := CKH
            clear d1 d2 d3 d3' d4 m0 m1 m2 q0 q1 q2 q3 q4 q5 q6 q7 q8 q9 q10 q11 q12
            go_loopw [5] (fun iv wr => ∃ k2 : Nat, k2 ≤ ng ∧ iv = .int .i64 k2 ∧ Hid ((g.tgt.drop k2).all (tgtB k cl) = T2) ∧ Hid (RMayB #[.int .i64 k, .int .i64 cl, .int .i64 b, .int .i64 t, .int .i64 d, .int .i64 l, .int .i64 p] #[.int .i64 rows, .int .i64 cols, .slice Ac nc cc] #[.int .i64 k, .int .i64 cl, .int .i64 b, .int .i64 t, .int .i64 d, .int .i64 l, .int .i64 p, .int .i64 rows, .int .i64 cols, .slice Ac nc cc, .slice At nt ct, .slice Aw nw cw, .slice Ag ng cg] w.heap.size M C w wr)) (fun iv _ => ng - (intOf iv).toNat)
            case atStart => exact ⟨0, Nat.zero_le _, rfl, HT2, HK3⟩
            case round =>
              obtain ⟨k2, hk2, rfl, HTT2, HKr⟩ := hrel
              have HR2 := Lib.hid (HRG.out.below HKr.out.be)
              obtain ⟨c0, c1, c2, c3, c4, c5, c6⟩ := HKr.out.kC.cells7
              obtain ⟨q0, q1, q2, q3, q4, q5, q6, q7, q8, q9, q10, q11, q12⟩ := HKr.out.kB.cells13
              clear q0 q1 q2 q3 q4 q5 q6 q7 q8 q9 q10 q11
              by_cases hlt2 : k2 < ng
              · have hlt2' : (k2 : Int) < ng := by omega
                obtain ⟨adg, rfl, hin, y⟩ := HR2.out.rg.at (i := k2) (by rw [HN.out.2.2.1]; exact hlt2)
                have HTC : Hid ((g.tgt.drop k2).all (tgtB k cl) = (tgtB k cl (g.tgt.getD k2 0) && (g.tgt.drop (k2 + 1)).all (tgtB k cl))) := Lib.hid (by
                  have hk : k2 < g.tgt.length := by rw [HN.out.2.2.1]; exact hlt2
                  rw [List.drop_eq_getElem_cons hk, List.all_cons, List.getD_eq_getElem?_getD, List.getElem?_eq_getElem hk]
                  rfl)
                have KT := Lib.hid (fun w => rtarget_any k cl b t d l p (g.tgt.getD k2 0) hin w)
                obtain ⟨rz, hrz⟩ : ∃ z, rtgtO k cl (g.tgt.getD k2 0) = z := ⟨_, rfl⟩
                have hzz : (rz = 0) = (tgtB k cl (g.tgt.getD k2 0) = true) := by rw [← hrz]; exact propext (rtgt_tgt CK.out)
                rw [hrz] at KT
                obtain ⟨x, hx⟩ : ∃ x, g.tgt.getD k2 0 = x := ⟨_, rfl⟩
                obtain ⟨z, hz⟩ : ∃ z, tgtB k cl (g.tgt.getD k2 0) = z := ⟨_, rfl⟩
                rw [hz] at HTC hzz
                rw [hx] at KT y
                clear hin hx hz hrz
                cases z with
                | true =>
                  have z0 : rz = 0 := by rw [hzz]
                  have dz : (rz != 0) = false := by rw [z0]; rfl
                  clear hzz z0
                  have FS := Lib.hid (fun w' (hb : Below wr.heap.size wr w') => And.intro ((hb.cell (p := ⟨w.heap.size, 12, none⟩) HKr.out.kB.lt).trans q12) (And.intro ((hb.cell (World.block_lt_of_cell? wr _ y)).trans y) (And.intro ((hb.cell (p := ⟨C, 0, none⟩) HKr.out.kC.lt).trans c0) (And.intro ((hb.cell (p := ⟨C, 1, none⟩) HKr.out.kC.lt).trans c1) (And.intro ((hb.cell (p := ⟨C, 2, none⟩) HKr.out.kC.lt).trans c2) (And.intro ((hb.cell (p := ⟨C, 3, none⟩) HKr.out.kC.lt).trans c3) (And.intro ((hb.cell (p := ⟨C, 4, none⟩) HKr.out.kC.lt).trans c4) (And.intro ((hb.cell (p := ⟨C, 5, none⟩) HKr.out.kC.lt).trans c5) ((hb.cell (p := ⟨C, 6, none⟩) HKr.out.kC.lt).trans c6)))))))))
                  go_wp2_with fail
                  go_region_held3 (fun W => W.cell? ⟨w.heap.size, 12, none⟩ = some (.slice (some adg) ng cg) ∧ W.cell? (adg.add k2) = some (.int .i64 x) ∧ W.cell? ⟨C, 0, none⟩ = some (.int .i64 k) ∧ W.cell? ⟨C, 1, none⟩ = some (.int .i64 cl) ∧ W.cell? ⟨C, 2, none⟩ = some (.int .i64 b) ∧ W.cell? ⟨C, 3, none⟩ = some (.int .i64 t) ∧ W.cell? ⟨C, 4, none⟩ = some (.int .i64 d) ∧ W.cell? ⟨C, 5, none⟩ = some (.int .i64 l) ∧ W.cell? ⟨C, 6, none⟩ = some (.int .i64 p)) (go_keep)
                    (first | (go_at_call 46; refine (KT.out _).mono ?_; rintro e w8 ⟨rfl, hb8⟩; obtain ⟨f1, f2, f3, f4, f5, f6, f7, f8, f9⟩ := FS.out w8 (((Below.refl wr.heap.size wr).drew).trans hb8); have HB8 := Lib.hid hb8; clear hb8))
                  all_goals
                    have HK8 := Lib.hid (HKr.out.below (((Below.refl wr.heap.size wr).drew).trans HB8.out))
                    go_wp2_with fail
                    go_roundw
                    case rel => exact ⟨k2 + 1, hlt2, by go_num, Lib.hid (by have := HTT2.out; rwa [HTC.out, Bool.true_and] at this), HK8⟩
                    case measure => simp [intOf]; omega
                | false =>
                  have z0 : ¬ rz = 0 := by rw [hzz]; simp
                  have dz : (rz != 0) = true := bne_iff_ne.2 z0
                  clear hzz z0
                  have FS := Lib.hid (fun w' (hb : Below wr.heap.size wr w') => And.intro ((hb.cell (p := ⟨w.heap.size, 12, none⟩) HKr.out.kB.lt).trans q12) (And.intro ((hb.cell (World.block_lt_of_cell? wr _ y)).trans y) (And.intro ((hb.cell (p := ⟨C, 0, none⟩) HKr.out.kC.lt).trans c0) (And.intro ((hb.cell (p := ⟨C, 1, none⟩) HKr.out.kC.lt).trans c1) (And.intro ((hb.cell (p := ⟨C, 2, none⟩) HKr.out.kC.lt).trans c2) (And.intro ((hb.cell (p := ⟨C, 3, none⟩) HKr.out.kC.lt).trans c3) (And.intro ((hb.cell (p := ⟨C, 4, none⟩) HKr.out.kC.lt).trans c4) (And.intro ((hb.cell (p := ⟨C, 5, none⟩) HKr.out.kC.lt).trans c5) ((hb.cell (p := ⟨C, 6, none⟩) HKr.out.kC.lt).trans c6)))))))))
                  go_wp2_with fail
                  go_region_held3 (fun W => W.cell? ⟨w.heap.size, 12, none⟩ = some (.slice (some adg) ng cg) ∧ W.cell? (adg.add k2) = some (.int .i64 x) ∧ W.cell? ⟨C, 0, none⟩ = some (.int .i64 k) ∧ W.cell? ⟨C, 1, none⟩ = some (.int .i64 cl) ∧ W.cell? ⟨C, 2, none⟩ = some (.int .i64 b) ∧ W.cell? ⟨C, 3, none⟩ = some (.int .i64 t) ∧ W.cell? ⟨C, 4, none⟩ = some (.int .i64 d) ∧ W.cell? ⟨C, 5, none⟩ = some (.int .i64 l) ∧ W.cell? ⟨C, 6, none⟩ = some (.int .i64 p)) (go_keep)
                    (first | (go_at_call 46; refine (KT.out _).mono ?_; rintro e w8 ⟨rfl, hb8⟩; obtain ⟨f1, f2, f3, f4, f5, f6, f7, f8, f9⟩ := FS.out w8 (((Below.refl wr.heap.size wr).drew).trans hb8); have HB8 := Lib.hid hb8; clear hb8))
                  all_goals
                    have HK8 := Lib.hid (HKr.out.below (((Below.refl wr.heap.size wr).drew).trans HB8.out))
                    go_wp2_with fail
                    go_ret
                    exact ⟨ret_bool (by rw [HD.out, ← HTT2.out, HTC.out, Bool.false_and, Bool.and_false]), HK8.out.be⟩
              · obtain rfl : ng = k2 := by omega
                have HT2' : Hid (T2 = true) := Lib.hid (by
                  rw [← HTT2.out, List.drop_of_length_le (by rw [HN.out.2.2.1]; exact Nat.le_refl _)]
                  rfl)
                go_wp2_with fail
                clear c0 c1 c2 c3 c4 c5 c6 q12
                have HK3 := HKr
                clear HKr HR2
                go_loopw [6] (fun iv wr => ∃ k1 : Nat, k1 ≤ nt ∧ iv = .int .i64 k1 ∧ Hid (treesB g (g.trees.drop k1) (g.weights.drop k1) = T1) ∧ Hid (RMayB #[.int .i64 k, .int .i64 cl, .int .i64 b, .int .i64 t, .int .i64 d, .int .i64 l, .int .i64 p] #[.int .i64 rows, .int .i64 cols, .slice Ac nc cc] #[.int .i64 k, .int .i64 cl, .int .i64 b, .int .i64 t, .int .i64 d, .int .i64 l, .int .i64 p, .int .i64 rows, .int .i64 cols, .slice Ac nc cc, .slice At nt ct, .slice Aw nw cw, .slice Ag ng cg] w.heap.size M C w wr)) (fun iv _ => nt - (intOf iv).toNat)
                case atStart => exact ⟨0, Nat.zero_le _, rfl, HT1, HK3⟩
                case round =>
                  obtain ⟨k1, hk1, rfl, HTT, HKr⟩ := hrel
                  have HR2 := Lib.hid (HRG.out.below HKr.out.be)
                  obtain ⟨m0, m1, m2⟩ := HKr.out.kM.cells3
                  obtain ⟨c0, c1, c2, c3, c4, c5, c6⟩ := HKr.out.kC.cells7
                  obtain ⟨q0, q1, q2, q3, q4, q5, q6, q7, q8, q9, q10, q11, q12⟩ := HKr.out.kB.cells13
                  by_cases hlt1 : k1 < nt
                  · have hlt1' : (k1 : Int) < nt := by omega
                    obtain ⟨adt, rfl, tr, Bt, capt, ht1, ht2, ht3, ht4, ht5⟩ := HR2.out.rt.at (i := k1) (by rw [HN.out.1]; exact hlt1)
                    obtain ⟨adw, rfl, wk, Bw, capw, hw1, hw2, hw3, hw4, hw5⟩ := HR2.out.rw.at (i := k1) (by rw [HN.out.2.1, E3.out]; exact hlt1)
                    have hk1w : k1 < nw := by have := E3.out; omega
                    have hk1w' : (k1 : Int) < nw := by omega
                    have HTC := Lib.hid (trees_cons (g := g) ht1 hw1)
                    have htl := HOK.out.tt tr (List.mem_of_getElem? ht1)
                    have KT := Lib.hid (fun w hr => rtright_any cols b k cl tr Bt capt w hr htl)
                    obtain ⟨ntr, hntr⟩ : ∃ n, tr.length = n := ⟨_, rfl⟩
                    obtain ⟨nwk, hnwk⟩ : ∃ n, wk.length = n := ⟨_, rfl⟩
                    obtain ⟨zt, hzt⟩ : ∃ z, rightT cols b k cl tr = z := ⟨_, rfl⟩
                    have hN := HN.out
                    rw [hnwk, hN.2.2.2.1, hN.2.2.2.2.1, hN.2.2.2.2.2.1, hN.2.2.2.2.2.2.1, hN.2.2.2.2.2.2.2, hzt] at HTC
                    rw [hntr, hzt] at KT
                    rw [hntr] at ht2
                    rw [hnwk] at hw2
                    have HRN := Lib.hid ht5
                    clear ht1 ht3 ht4 ht5 hw1 hw3 hw4 hw5 htl hntr hnwk hzt hN
                    by_cases hlen : (nwk : Int) = rows
                    · have d1 : ((nwk : Int) != rows) = false := by simpa using hlen
                      have HTC2 : Hid (T1 = (zt && treesB g (g.trees.drop (k1 + 1)) (g.weights.drop (k1 + 1)))) := Lib.hid (by rw [← HTT.out, HTC.out, decide_eq_true hlen, Bool.true_and])
                      have FS := Lib.hid (fun w' (hb : Below wr.heap.size wr w') => And.intro ((hb.cell (p := ⟨w.heap.size, 11, none⟩) HKr.out.kB.lt).trans q11) (And.intro ((hb.cell (p := ⟨w.heap.size, 10, none⟩) HKr.out.kB.lt).trans q10) (And.intro ((hb.cell (World.block_lt_of_cell? wr _ ht2)).trans ht2) (And.intro ((hb.cell (World.block_lt_of_cell? wr _ hw2)).trans hw2) (And.intro ((hb.cell (p := ⟨M, 0, none⟩) HKr.out.kM.lt).trans m0) (And.intro ((hb.cell (p := ⟨M, 1, none⟩) HKr.out.kM.lt).trans m1) (And.intro ((hb.cell (p := ⟨C, 2, none⟩) HKr.out.kC.lt).trans c2) (And.intro ((hb.cell (p := ⟨C, 0, none⟩) HKr.out.kC.lt).trans c0) ((hb.cell (p := ⟨C, 1, none⟩) HKr.out.kC.lt).trans c1)))))))))
                      clear hlen HTC q0 q1 q2 q3 q4 q5 q6 q7 q8 q9 q12 c3 c4 c5 c6 m2
                      go_wp2_with fail
                      go_region_held3 (fun W => W.cell? ⟨w.heap.size, 11, none⟩ = some (.slice (some adw) nw cw) ∧ W.cell? ⟨w.heap.size, 10, none⟩ = some (.slice (some adt) nt ct) ∧ W.cell? (adt.add k1) = some (.slice Bt ntr capt) ∧ W.cell? (adw.add k1) = some (.slice Bw nwk capw) ∧ W.cell? ⟨M, 0, none⟩ = some (.int .i64 rows) ∧ W.cell? ⟨M, 1, none⟩ = some (.int .i64 cols) ∧ W.cell? ⟨C, 2, none⟩ = some (.int .i64 b) ∧ W.cell? ⟨C, 0, none⟩ = some (.int .i64 k) ∧ W.cell? ⟨C, 1, none⟩ = some (.int .i64 cl)) (go_keep)
                        (first | (go_at_call 47; refine (KT.out _ (by exact HRN.out)).mono ?_; rintro e w8 ⟨rfl, hb8⟩; obtain ⟨f1, f2, f3, f4, f5, f6, f7, f8, f9⟩ := FS.out w8 (((Below.refl wr.heap.size wr).drew).trans hb8); have HB8 := Lib.hid hb8; clear hb8))
                      all_goals
                        have HK8 := Lib.hid (HKr.out.below (((Below.refl wr.heap.size wr).drew).trans HB8.out))
                        cases zt with
                        | true =>
                          go_wp2_with fail
                          go_roundw
                          case rel => exact ⟨k1 + 1, hlt1, by go_num, Lib.hid (by rw [HTC2.out, Bool.true_and]), HK8⟩
                          case measure => simp [intOf]; omega
                        | false =>
                          go_wp2_with fail
                          go_ret
                          exact ⟨ret_bool (by rw [HD.out, HTC2.out]; rfl), HK8.out.be⟩
                    · have d1 : ((nwk : Int) != rows) = true := bne_iff_ne.2 hlen
                      have HF : Hid (R = false) := Lib.hid (by rw [HD.out, ← HTT.out, HTC.out, decide_eq_false hlen]; rfl)
                      clear hlen HTC
                      go_wp2_with fail
                      go_quiet (fail)
                      go_wp2_with fail
                      go_ret
                      exact ⟨ret_bool HF.out.symm, HKr.out.be.trans ⟨rfl, rfl, rfl, Nat.le_refl _, fun _ _ => rfl⟩⟩
                  · obtain rfl : nt = k1 := by omega
                    go_wp2_with fail
                    go_ret
                    refine ⟨ret_bool ?_, HKr.out.be⟩
                    rw [HD.out, HT2'.out, Bool.and_true, ← HTT.out, List.drop_of_length_le (by rw [HN.out.1]; exact Nat.le_refl _)]
                    rfl
          · have d3 : (nt != nw) = false := by simpa using e3.symm
            have d3' : ((nt : Int) != nw) = false := bne_eq_false_iff_eq.2 (by omega)
            have d4 : ((ng : Int) != rows) = true := by simpa using e4
            have HD : Hid (R = false) := Lib.hid (by rw [HM.out, decide_eq_false (show ¬ (1 ≤ cols ∧ cols ≤ 1024 ∧ nw = nt ∧ (ng : Int) = rows) by omega)]; simp)
            clear HM e1 e2 e3 e4
            go_wp2_with fail
            go_ret
            exact ⟨ret_bool HD.out.symm, HK3.out.be⟩
        · have d3 : (nt != nw) = true := bne_iff_ne.2 (fun h => e3 h.symm)
          have d3' : ((nt : Int) != nw) = true := bne_iff_ne.2 (by omega)
          have HD : Hid (R = false) := Lib.hid (by rw [HM.out, decide_eq_false (show ¬ (1 ≤ cols ∧ cols ≤ 1024 ∧ nw = nt ∧ (ng : Int) = rows) by omega)]; simp)
          clear HM e1 e2 e3
          go_wp2_with fail
          go_ret
          exact ⟨ret_bool HD.out.symm, HK3.out.be⟩
    · have d0 : (ck != 0) = true := bne_iff_ne.2 hck
      have HD : Hid (R = false) := Lib.hid (by rw [HM.out, beq_eq_false_iff_ne.2 hck]; rfl)
      clear hck HM
      go_wp2_with fail
      refine (KC.out _).mono ?_
      rintro e w2 ⟨rfl, hb⟩
      have HK2 := Lib.hid (HK.out.below hb)
      clear c0 c1 c2 c3 c4 c5 c6 hb HK
      go_wp2_with fail
      go_ret
      exact ⟨ret_bool HD.out.symm, HK2.out.be⟩
end Go.Proofs.Ytbhikceekldenaa.Hb

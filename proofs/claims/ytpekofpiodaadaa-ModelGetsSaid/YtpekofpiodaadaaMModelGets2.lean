/- Texts joined: the walks and the plain laws that the claim ModelGets rests on. -/
import Derived.Test.YtpekofpiodaadaaMModelGets1
import Derived.Laws.Externs
import Derived.WalkKit
import Derived.Laws.BitsAllLaws
import Derived.Lib.Zigzag
import Derived.Deep.QuietTactic
import Derived.BigQuiet
import Derived.BigRegion
import Derived.Maps.AppendAt
import Derived.Maps.OwnSet
import Derived.Maps.Views
import Derived.Deep.AppendLies
import Derived.Lib.SliceRun
import Derived.Laws.AppendOwnNone
import Derived.Deep.RegionLaw
section
/- The walk of oob.May. -/
namespace Go.Proofs.Ytpekofpiodaadaa.Hb
set_option linter.unusedVariables false
set_option linter.unusedSimpArgs false
open Go.RowKit

/-- What lies in May's boxes. -/
structure MayB (cfg mat grv : Array Value) (B M C : Nat) (w wc : World) : Prop where
  kB : Blk wc B grv 83
  kM : Blk wc M mat 75
  kC : Blk wc C cfg 45
  be : Below w.heap.size w wc
theorem MayB.below {cfg mat grv : Array Value} {B M C : Nat} {w wc w' : World} (h : MayB cfg mat grv B M C w wc) (hb : Below wc.heap.size wc w') : MayB cfg mat grv B M C w w' := ⟨h.kB.below hb, h.kM.below hb, h.kC.below hb, h.be.trans (hb.mono h.be.size)⟩
theorem Blk.cells7 {w : World} {g : Nat} {a b c d e f h : Value} {t : TypeId} (x : Blk w g #[a, b, c, d, e, f, h] t) :
    w.cell? ⟨g, 0, none⟩ = some a ∧ w.cell? ⟨g, 1, none⟩ = some b ∧ w.cell? ⟨g, 2, none⟩ = some c ∧ w.cell? ⟨g, 3, none⟩ = some d ∧ w.cell? ⟨g, 4, none⟩ = some e ∧ w.cell? ⟨g, 5, none⟩ = some f ∧ w.cell? ⟨g, 6, none⟩ = some h :=
  ⟨x.cell 0, x.cell 1, x.cell 2, x.cell 3, x.cell 4, x.cell 5, x.cell 6⟩
theorem Blk.cells3 {w : World} {g : Nat} {a b c : Value} {t : TypeId} (x : Blk w g #[a, b, c] t) : w.cell? ⟨g, 0, none⟩ = some a ∧ w.cell? ⟨g, 1, none⟩ = some b ∧ w.cell? ⟨g, 2, none⟩ = some c := ⟨x.cell 0, x.cell 1, x.cell 2⟩
theorem mayB_1 {cfg mat grv : Array Value} {B : Nat} {w W0 : World} (h : Blk W0 B grv 83) (hb : Below w.heap.size w W0) : MayB cfg mat grv B W0.heap.size (W0.heap.size + 1) w ((W0.alloc (.cells mat 75)).alloc (.cells cfg 45)).drew := by
  have a1 : Below W0.heap.size W0 (W0.alloc (.cells mat 75)) := (Below.refl _ _).alloc (Nat.le_refl _) _
  have a2 : Below W0.heap.size W0 ((W0.alloc (.cells mat 75)).alloc (.cells cfg 45)) := a1.alloc (by simp) _
  have k2 := Blk.new (W0.alloc (.cells mat 75)) cfg 45
  rw [World.size_alloc] at k2
  exact ⟨h.below a2.drew, (Blk.new W0 mat _).below (((Below.refl _ _).alloc (Nat.le_refl _) _).drew), k2, (hb.trans (a2.mono hb.size)).drew⟩
theorem mayB_2 {cfg mat grv : Array Value} {B : Nat} {w W0 : World} (h : Blk W0 B grv 83) (hb : Below w.heap.size w W0) : MayB cfg mat grv B (W0.heap.size + 1) W0.heap.size w ((W0.alloc (.cells cfg 45)).alloc (.cells mat 75)).drew := by
  have a1 : Below W0.heap.size W0 (W0.alloc (.cells cfg 45)) := (Below.refl _ _).alloc (Nat.le_refl _) _
  have a2 : Below W0.heap.size W0 ((W0.alloc (.cells cfg 45)).alloc (.cells mat 75)) := a1.alloc (by simp) _
  have k2 := Blk.new (W0.alloc (.cells cfg 45)) mat 75
  rw [World.size_alloc] at k2
  exact ⟨h.below a2.drew, k2, (Blk.new W0 cfg _).below (((Below.refl _ _).alloc (Nat.le_refl _) _).drew), (hb.trans (a2.mono hb.size)).drew⟩
theorem trees_cons {g : Grv} {k : Nat} {ts : List (List Nd)} {ws : List (List Int)} {t : List Nd} {x : List Int} (h1 : ts[k]? = some t) (h2 : ws[k]? = some x) : treesB g (ts.drop k) (ws.drop k) = ((decide ((x.length : Int) = g.rows) && rightT g.cols g.b g.k g.cl t) && treesB g (ts.drop (k + 1)) (ws.drop (k + 1))) := by
  obtain ⟨hk1, rfl⟩ := List.getElem?_eq_some_iff.1 h1
  obtain ⟨hk2, rfl⟩ := List.getElem?_eq_some_iff.1 h2
  rw [List.drop_eq_getElem_cons hk1, List.drop_eq_getElem_cons hk2, treesB]
set_option maxRecDepth 100000 in
set_option maxHeartbeats 8000000 in
theorem may_any (g : Grv) (Ac At Aw Ag : Option Addr) (cc ct cw cg : Nat) (w : World) (hok : OkG g) (hr : RG w g Ac At Aw Ag) :
    Calls Try.prog 209 #[.agg (grvA g Ac At Aw Ag cc ct cw cg)] w fun e w' => e = .returned (.bool (mayG g)) ∧ Below w.heap.size w w' := by
  obtain ⟨T1, hT1⟩ : ∃ z, treesB g g.trees g.weights = z := ⟨_, rfl⟩
  obtain ⟨T2, hT2⟩ : ∃ z, g.tgt.all (tgtB g.k g.cl) = z := ⟨_, rfl⟩
  obtain ⟨ck, hck⟩ : ∃ z, checkO g.k g.cl g.b g.t g.d g.l g.p = z := ⟨_, rfl⟩
  obtain ⟨mt, hmt⟩ : ∃ z, matB g.rows g.cols g.cells.length = z := ⟨_, rfl⟩
  have HM : Hid (mayG g = (((ck == 0) && (mt && decide (1 ≤ g.cols ∧ g.cols ≤ 1024 ∧ g.weights.length = g.trees.length ∧ (g.tgt.length : Int) = g.rows))) && (T1 && T2))) := Lib.hid (by unfold mayG headB; rw [hT1, hT2, hck, hmt])
  have KC := Lib.hid (fun w => check_any g.k g.cl g.b g.t g.d g.l g.p w)
  have KM := Lib.hid (fun w => mright_any g.rows g.cols g.cells.length Ac cc hok.lc w)
  rw [hck] at KC
  rw [hmt] at KM
  obtain ⟨R, hR⟩ : ∃ R, mayG g = R := ⟨_, rfl⟩
  rw [hR] at HM ⊢
  have HT1 : Hid (treesB g (g.trees.drop 0) (g.weights.drop 0) = T1) := Lib.hid (by rw [List.drop_zero, List.drop_zero]; exact hT1)
  have HT2 : Hid ((g.tgt.drop 0).all (tgtB g.k g.cl) = T2) := Lib.hid (by rw [List.drop_zero]; exact hT2)
  have HOK := Lib.hid hok
  have HRG := Lib.hid hr
  have HG : Hid (∃ g', g' = g) := Lib.hid ⟨g, rfl⟩
  obtain ⟨nc, hnc⟩ : ∃ n, g.cells.length = n := ⟨_, rfl⟩
  obtain ⟨nt, hnt⟩ : ∃ n, g.trees.length = n := ⟨_, rfl⟩
  obtain ⟨nw, hnw⟩ : ∃ n, g.weights.length = n := ⟨_, rfl⟩
  obtain ⟨ng, hng⟩ : ∃ n, g.tgt.length = n := ⟨_, rfl⟩
  obtain ⟨k, hk⟩ : ∃ x, g.k = x := ⟨_, rfl⟩
  obtain ⟨cl, hcl⟩ : ∃ x, g.cl = x := ⟨_, rfl⟩
  obtain ⟨b, hb⟩ : ∃ x, g.b = x := ⟨_, rfl⟩
  obtain ⟨t, ht⟩ : ∃ x, g.t = x := ⟨_, rfl⟩
  obtain ⟨d, hd⟩ : ∃ x, g.d = x := ⟨_, rfl⟩
  obtain ⟨l, hl⟩ : ∃ x, g.l = x := ⟨_, rfl⟩
  obtain ⟨p, hp⟩ : ∃ x, g.p = x := ⟨_, rfl⟩
  obtain ⟨rows, hrows⟩ : ∃ x, g.rows = x := ⟨_, rfl⟩
  obtain ⟨cols, hcols⟩ : ∃ x, g.cols = x := ⟨_, rfl⟩
  have hgA : grvA g Ac At Aw Ag cc ct cw cg = #[.int .i64 k, .int .i64 cl, .int .i64 b, .int .i64 t, .int .i64 d, .int .i64 l, .int .i64 p, .int .i64 rows, .int .i64 cols, .slice Ac nc cc, .slice At nt ct, .slice Aw nw cw, .slice Ag ng cg] := by
    unfold grvA; rw [hnc, hnt, hnw, hng, hk, hcl, hb, ht, hd, hl, hp, hrows, hcols]
  rw [hgA]
  rw [hnt, hnw, hng, hcols, hrows] at HM
  rw [hk, hcl] at HT2
  rw [hk, hcl, hb, ht, hd, hl, hp] at KC
  rw [hrows, hcols, hnc] at KM
  have HN := Lib.hid (show g.trees.length = nt ∧ g.weights.length = nw ∧ g.tgt.length = ng ∧ g.k = k ∧ g.cl = cl ∧ g.b = b ∧ g.rows = rows ∧ g.cols = cols from ⟨hnt, hnw, hng, hk, hcl, hb, hrows, hcols⟩)
  have hlw : nw ≤ 9223372036854775807 := by rw [← hnw]; exact hok.lw
  have hlt : nt ≤ 1048576 := by rw [← hnt]; exact hok.lt
  have hlg : ng ≤ 9223372036854775807 := by rw [← hng]; exact hok.lg
  clear hT1 hT2 hck hmt hR hok hr hnc hnt hnw hng hk hcl hb ht hd hl hp hrows hcols hgA
  go_enter Try.func209, Try.ntmps209
  go_upto_region 1 with (fail)
  have kB := Blk.new w #[.int .i64 k, .int .i64 cl, .int .i64 b, .int .i64 t, .int .i64 d, .int .i64 l, .int .i64 p, .int .i64 rows, .int .i64 cols, .slice Ac nc cc, .slice At nt ct, .slice Aw nw cw, .slice Ag ng cg] 83
  have be0 := (Below.refl w.heap.size w).alloc (Nat.le_refl _) (.cells #[.int .i64 k, .int .i64 cl, .int .i64 b, .int .i64 t, .int .i64 d, .int .i64 l, .int .i64 p, .int .i64 rows, .int .i64 cols, .slice Ac nc cc, .slice At nt ct, .slice Aw nw cw, .slice Ag ng cg] 83)
  obtain ⟨W0, hW0⟩ : ∃ W, w.alloc (.cells #[.int .i64 k, .int .i64 cl, .int .i64 b, .int .i64 t, .int .i64 d, .int .i64 l, .int .i64 p, .int .i64 rows, .int .i64 cols, .slice Ac nc cc, .slice At nt ct, .slice Aw nw cw, .slice Ag ng cg] 83) = W := ⟨_, rfl⟩
  have hs0 : W0.heap.size = w.heap.size + 1 := by rw [← hW0]; simp
  rw [hW0] at kB be0 ⊢
  have HKB := Lib.hid kB
  have HBE0 := Lib.hid be0
  have HS0 := Lib.hid hs0
  obtain ⟨q0, q1, q2, q3, q4, q5, q6, q7, q8, q9, q10, q11, q12⟩ := kB.cells13
  have hlB := kB.lt
  clear hW0 kB be0 hs0
  go_cut [3, 4] (fun mv cv wc => ∃ M C : Nat, mv = .pointer (some ⟨M, 0, none⟩) ∧ cv = .pointer (some ⟨C, 0, none⟩) ∧ Hid (MayB #[.int .i64 k, .int .i64 cl, .int .i64 b, .int .i64 t, .int .i64 d, .int .i64 l, .int .i64 p] #[.int .i64 rows, .int .i64 cols, .slice Ac nc cc] #[.int .i64 k, .int .i64 cl, .int .i64 b, .int .i64 t, .int .i64 d, .int .i64 l, .int .i64 p, .int .i64 rows, .int .i64 cols, .slice Ac nc cc, .slice At nt ct, .slice Aw nw cw, .slice Ag ng cg] w.heap.size M C w wc))
  case first =>
    go_region_held3 (fun W => W.cell? ⟨w.heap.size, 0, none⟩ = some (.int .i64 k) ∧ W.cell? ⟨w.heap.size, 1, none⟩ = some (.int .i64 cl) ∧ W.cell? ⟨w.heap.size, 2, none⟩ = some (.int .i64 b) ∧ W.cell? ⟨w.heap.size, 3, none⟩ = some (.int .i64 t) ∧ W.cell? ⟨w.heap.size, 4, none⟩ = some (.int .i64 d) ∧ W.cell? ⟨w.heap.size, 5, none⟩ = some (.int .i64 l) ∧ W.cell? ⟨w.heap.size, 6, none⟩ = some (.int .i64 p) ∧ W.cell? ⟨w.heap.size, 7, none⟩ = some (.int .i64 rows) ∧ W.cell? ⟨w.heap.size, 8, none⟩ = some (.int .i64 cols) ∧ W.cell? ⟨w.heap.size, 9, none⟩ = some (.slice Ac nc cc)) (go_keep) (fail)
    all_goals
      go_wp2
      go_meet
      case rel => first | exact ⟨_, _, rfl, rfl, Lib.hid (mayB_1 HKB.out HBE0.out)⟩ | exact ⟨_, _, rfl, rfl, Lib.hid (mayB_2 HKB.out HBE0.out)⟩
  case rest =>
    obtain ⟨M, C, rfl, rfl, HK⟩ := hcut
    clear q0 q1 q2 q3 q4 q5 q6 q7 q8 q9 q10 q11 q12 hlB HKB HBE0 HS0
    obtain ⟨c0, c1, c2, c3, c4, c5, c6⟩ := HK.out.kC.cells7
    by_cases hck : ck = 0
    · subst hck
      go_wp2_with fail
      refine (KC.out _).mono ?_
      rintro e w2 ⟨rfl, hb⟩
      have HK2 := Lib.hid (HK.out.below hb)
      clear c0 c1 c2 c3 c4 c5 c6 hb HK
      obtain ⟨m0, m1, m2⟩ := HK2.out.kM.cells3
      cases mt with
      | false =>
        go_wp2_with fail
        refine (KM.out _).mono ?_
        rintro e w3 ⟨rfl, hb⟩
        have HK3 := Lib.hid (HK2.out.below hb)
        clear hb HK2 m0 m1 m2
        go_wp2_with fail
        go_ret
        exact ⟨ret_bool (by rw [HM.out]; simp), HK3.out.be⟩
      | true =>
        go_wp2_with fail
        refine (KM.out _).mono ?_
        rintro e w3 ⟨rfl, hb⟩
        have HK3 := Lib.hid (HK2.out.below hb)
        clear hb HK2 m0 m1 m2
        obtain ⟨m0, m1, m2⟩ := HK3.out.kM.cells3
        obtain ⟨q0, q1, q2, q3, q4, q5, q6, q7, q8, q9, q10, q11, q12⟩ := HK3.out.kB.cells13
        by_cases e1 : cols < 1
        · have d1 : decide (cols < 1) = true := decide_eq_true e1
          go_wp2_with fail
          go_ret
          refine ⟨ret_bool ?_, HK3.out.be⟩
          rw [HM.out, decide_eq_false (show ¬ (1 ≤ cols ∧ cols ≤ 1024 ∧ nw = nt ∧ (ng : Int) = rows) by omega)]; simp
        have d1 : decide (cols < 1) = false := decide_eq_false e1
        by_cases e2 : 1024 < cols
        · have d2 : decide (1024 < cols) = true := decide_eq_true e2
          go_wp2_with fail
          go_ret
          refine ⟨ret_bool ?_, HK3.out.be⟩
          rw [HM.out, decide_eq_false (show ¬ (1 ≤ cols ∧ cols ≤ 1024 ∧ nw = nt ∧ (ng : Int) = rows) by omega)]; simp
        have d2 : decide (1024 < cols) = false := decide_eq_false e2
        by_cases e3 : nw = nt
        · by_cases e4 : (ng : Int) = rows
          · have HD : Hid (R = (T1 && T2)) := Lib.hid (by rw [HM.out, decide_eq_true (show (1 ≤ cols ∧ cols ≤ 1024 ∧ nw = nt ∧ (ng : Int) = rows) by omega)]; simp)
            have d3 : (nw != nt) = false := by simpa using e3
            have d3' : ((nw : Int) != nt) = false := bne_eq_false_iff_eq.2 (by omega)
            have d4 : ((ng : Int) != rows) = false := by simpa using e4
            have E3 := Lib.hid e3
            have E4 := Lib.hid e4
            clear HM e1 e2 e3 e4
            go_wp2_with fail
            clear d1 d2 d3 d3' d4 m0 m1 m2 q0 q1 q2 q3 q4 q5 q6 q7 q8 q9 q10 q11 q12
            go_loopw [51] (fun iv wr => ∃ k1 : Nat, k1 ≤ nt ∧ iv = .int .i64 k1 ∧ Hid (treesB g (g.trees.drop k1) (g.weights.drop k1) = T1) ∧ Hid (MayB #[.int .i64 k, .int .i64 cl, .int .i64 b, .int .i64 t, .int .i64 d, .int .i64 l, .int .i64 p] #[.int .i64 rows, .int .i64 cols, .slice Ac nc cc] #[.int .i64 k, .int .i64 cl, .int .i64 b, .int .i64 t, .int .i64 d, .int .i64 l, .int .i64 p, .int .i64 rows, .int .i64 cols, .slice Ac nc cc, .slice At nt ct, .slice Aw nw cw, .slice Ag ng cg] w.heap.size M C w wr)) (fun iv _ => nt - (intOf iv).toNat)
            case atStart => exact ⟨0, Nat.zero_le _, rfl, HT1, HK3⟩
            case round =>
              obtain ⟨k1, hk1, rfl, HTT, HKr⟩ := hrel
              have HR2 := Lib.hid (HRG.out.below HKr.out.be)
              obtain ⟨m0, m1, m2⟩ := HKr.out.kM.cells3
              obtain ⟨c0, c1, c2, c3, c4, c5, c6⟩ := HKr.out.kC.cells7
              obtain ⟨q0, q1, q2, q3, q4, q5, q6, q7, q8, q9, q10, q11, q12⟩ := HKr.out.kB.cells13
              by_cases hlt1 : k1 < nt
              · have hlt1' : (k1 : Int) < nt := by omega
                obtain ⟨adt, rfl, tr, Bt, capt, ht1, ht2, ht3, ht4, ht5⟩ := HR2.out.rt.at (i := k1) (by rw [HN.out.1]; exact hlt1)
                obtain ⟨adw, rfl, wk, Bw, capw, hw1, hw2, hw3, hw4, hw5⟩ := HR2.out.rw.at (i := k1) (by rw [HN.out.2.1, E3.out]; exact hlt1)
                have hk1w : k1 < nw := by have := E3.out; omega
                have hk1w' : (k1 : Int) < nw := by omega
                have HTC := Lib.hid (trees_cons (g := g) ht1 hw1)
                have htl := HOK.out.tt tr (List.mem_of_getElem? ht1)
                have KT := Lib.hid (fun w hr => tright_any cols b k cl tr Bt capt w hr htl)
                obtain ⟨ntr, hntr⟩ : ∃ n, tr.length = n := ⟨_, rfl⟩
                obtain ⟨nwk, hnwk⟩ : ∃ n, wk.length = n := ⟨_, rfl⟩
                obtain ⟨zt, hzt⟩ : ∃ z, rightT cols b k cl tr = z := ⟨_, rfl⟩
                have hN := HN.out
                rw [hnwk, hN.2.2.2.1, hN.2.2.2.2.1, hN.2.2.2.2.2.1, hN.2.2.2.2.2.2.1, hN.2.2.2.2.2.2.2, hzt] at HTC
                rw [hntr, hzt] at KT
                rw [hntr] at ht2
                rw [hnwk] at hw2
                have HRN := Lib.hid ht5
                clear ht1 ht3 ht4 ht5 hw1 hw3 hw4 hw5 htl hntr hnwk hzt hN
                by_cases hlen : (nwk : Int) = rows
                · have d1 : ((nwk : Int) != rows) = false := by simpa using hlen
                  have HTC2 : Hid (T1 = (zt && treesB g (g.trees.drop (k1 + 1)) (g.weights.drop (k1 + 1)))) := Lib.hid (by rw [← HTT.out, HTC.out, decide_eq_true hlen, Bool.true_and])
                  have FS := Lib.hid (fun w' (hb : Below wr.heap.size wr w') => And.intro ((hb.cell (p := ⟨w.heap.size, 11, none⟩) HKr.out.kB.lt).trans q11) (And.intro ((hb.cell (World.block_lt_of_cell? wr _ hw2)).trans hw2) (And.intro ((hb.cell (p := ⟨M, 0, none⟩) HKr.out.kM.lt).trans m0) (And.intro ((hb.cell (p := ⟨M, 1, none⟩) HKr.out.kM.lt).trans m1) (And.intro ((hb.cell (p := ⟨C, 2, none⟩) HKr.out.kC.lt).trans c2) (And.intro ((hb.cell (p := ⟨C, 0, none⟩) HKr.out.kC.lt).trans c0) ((hb.cell (p := ⟨C, 1, none⟩) HKr.out.kC.lt).trans c1)))))))
                  clear hlen HTC q0 q1 q2 q3 q4 q5 q6 q7 q8 q9 q12 c3 c4 c5 c6 m2
                  go_wp2_with fail
                  go_region_held3 (fun W => W.cell? ⟨w.heap.size, 11, none⟩ = some (.slice (some adw) nw cw) ∧ W.cell? (adw.add k1) = some (.slice Bw nwk capw) ∧ W.cell? ⟨M, 0, none⟩ = some (.int .i64 rows) ∧ W.cell? ⟨M, 1, none⟩ = some (.int .i64 cols) ∧ W.cell? ⟨C, 2, none⟩ = some (.int .i64 b) ∧ W.cell? ⟨C, 0, none⟩ = some (.int .i64 k) ∧ W.cell? ⟨C, 1, none⟩ = some (.int .i64 cl)) (go_keep)
                    (first | (go_at_call 123; refine (KT.out _ (by exact HRN.out)).mono ?_; rintro e w8 ⟨rfl, hb8⟩; obtain ⟨f1, f2, f3, f4, f5, f6, f7⟩ := FS.out w8 (((Below.refl wr.heap.size wr).drew).trans hb8); have HB8 := Lib.hid hb8; clear hb8))
                  all_goals
                    have HK8 := Lib.hid (HKr.out.below (((Below.refl wr.heap.size wr).drew).trans HB8.out))
                    cases zt with
                    | true =>
                      go_wp2_with fail
                      go_roundw
                      case rel => exact ⟨k1 + 1, hlt1, by go_num, Lib.hid (by rw [HTC2.out, Bool.true_and]), HK8⟩
                      case measure => simp [intOf]; omega
                    | false =>
                      go_wp2_with fail
                      go_ret
                      exact ⟨ret_bool (by rw [HD.out, HTC2.out]; rfl), HK8.out.be⟩
                · have d1 : ((nwk : Int) != rows) = true := bne_iff_ne.2 hlen
                  have HF : Hid (R = false) := Lib.hid (by rw [HD.out, ← HTT.out, HTC.out, decide_eq_false hlen]; rfl)
                  clear hlen HTC
                  go_wp2_with fail
                  go_quiet (fail)
                  go_wp2_with fail
                  go_ret
                  exact ⟨ret_bool HF.out.symm, HKr.out.be.trans ⟨rfl, rfl, rfl, Nat.le_refl _, fun _ _ => rfl⟩⟩
              · obtain rfl : nt = k1 := by omega
                have HT1' : Hid (T1 = true) := Lib.hid (by
                  rw [← HTT.out, List.drop_of_length_le (by rw [HN.out.1]; exact Nat.le_refl _)]
                  rfl)
                go_wp2_with fail
                clear m0 m1 m2 c0 c1 c2 c3 c4 c5 c6 q0 q1 q2 q3 q4 q5 q6 q7 q8 q9 q10 q11 q12
                have HK3 := HKr
                clear HKr HR2
                go_loopw [83] (fun iv wr => ∃ k2 : Nat, k2 ≤ ng ∧ iv = .int .i64 k2 ∧ Hid ((g.tgt.drop k2).all (tgtB k cl) = T2) ∧ Hid (MayB #[.int .i64 k, .int .i64 cl, .int .i64 b, .int .i64 t, .int .i64 d, .int .i64 l, .int .i64 p] #[.int .i64 rows, .int .i64 cols, .slice Ac nc cc] #[.int .i64 k, .int .i64 cl, .int .i64 b, .int .i64 t, .int .i64 d, .int .i64 l, .int .i64 p, .int .i64 rows, .int .i64 cols, .slice Ac nc cc, .slice At nt ct, .slice Aw nw cw, .slice Ag ng cg] w.heap.size M C w wr)) (fun iv _ => ng - (intOf iv).toNat)
                case atStart => exact ⟨0, Nat.zero_le _, rfl, HT2, HK3⟩
                case round =>
                  obtain ⟨k2, hk2, rfl, HTT2, HKr⟩ := hrel
                  have HR2 := Lib.hid (HRG.out.below HKr.out.be)
                  obtain ⟨c0, c1, c2, c3, c4, c5, c6⟩ := HKr.out.kC.cells7
                  by_cases hlt2 : k2 < ng
                  · have hlt2' : (k2 : Int) < ng := by omega
                    obtain ⟨adg, rfl, hin, y⟩ := HR2.out.rg.at (i := k2) (by rw [HN.out.2.2.1]; exact hlt2)
                    have HTC : Hid ((g.tgt.drop k2).all (tgtB k cl) = (tgtB k cl (g.tgt.getD k2 0) && (g.tgt.drop (k2 + 1)).all (tgtB k cl))) := Lib.hid (by
                      have hk : k2 < g.tgt.length := by rw [HN.out.2.2.1]; exact hlt2
                      rw [List.drop_eq_getElem_cons hk, List.all_cons, List.getD_eq_getElem?_getD, List.getElem?_eq_getElem hk]
                      rfl)
                    have KT := Lib.hid (fun w => target_any k cl b t d l p (g.tgt.getD k2 0) w)
                    obtain ⟨x, hx⟩ : ∃ x, g.tgt.getD k2 0 = x := ⟨_, rfl⟩
                    obtain ⟨z, hz⟩ : ∃ z, tgtB k cl (g.tgt.getD k2 0) = z := ⟨_, rfl⟩
                    rw [hz] at KT HTC
                    rw [hx] at KT y
                    clear hin hx hz
                    cases z with
                    | true =>
                      go_wp2_with fail
                      refine (KT.out _).mono ?_
                      rintro e w8 ⟨rfl, hb8⟩
                      have HK8 := Lib.hid (HKr.out.below hb8)
                      clear hb8
                      go_wp2_with fail
                      go_roundw
                      case rel => exact ⟨k2 + 1, hlt2, by go_num, Lib.hid (by have := HTT2.out; rwa [HTC.out, Bool.true_and] at this), HK8⟩
                      case measure => simp [intOf]; omega
                    | false =>
                      go_wp2_with fail
                      refine (KT.out _).mono ?_
                      rintro e w8 ⟨rfl, hb8⟩
                      have HK8 := Lib.hid (HKr.out.below hb8)
                      clear hb8
                      go_wp2_with fail
                      go_ret
                      exact ⟨ret_bool (by rw [HD.out, HT1'.out, ← HTT2.out, HTC.out]; rfl), HK8.out.be⟩
                  · obtain rfl : k2 = ng := by omega
                    go_wp2_with fail
                    go_ret
                    refine ⟨ret_bool ?_, HKr.out.be⟩
                    rw [HD.out, HT1'.out, ← HTT2.out, List.drop_of_length_le (by rw [HN.out.2.2.1]; exact Nat.le_refl _)]
                    rfl
          · have d3 : (nw != nt) = false := by simpa using e3
            have d3' : ((nw : Int) != nt) = false := bne_eq_false_iff_eq.2 (by omega)
            have d4 : ((ng : Int) != rows) = true := by simpa using e4
            have HD : Hid (R = false) := Lib.hid (by rw [HM.out, decide_eq_false (show ¬ (1 ≤ cols ∧ cols ≤ 1024 ∧ nw = nt ∧ (ng : Int) = rows) by omega)]; simp)
            clear HM e1 e2 e3 e4
            go_wp2_with fail
            go_ret
            exact ⟨ret_bool HD.out.symm, HK3.out.be⟩
        · have d3 : (nw != nt) = true := by simpa using e3
          have d3' : ((nw : Int) != nt) = true := bne_iff_ne.2 (by omega)
          have HD : Hid (R = false) := Lib.hid (by rw [HM.out, decide_eq_false (show ¬ (1 ≤ cols ∧ cols ≤ 1024 ∧ nw = nt ∧ (ng : Int) = rows) by omega)]; simp)
          clear HM e1 e2 e3
          go_wp2_with fail
          go_ret
          exact ⟨ret_bool HD.out.symm, HK3.out.be⟩
    · have d0 : (ck != 0) = true := bne_iff_ne.2 hck
      have HD : Hid (R = false) := Lib.hid (by rw [HM.out, beq_eq_false_iff_ne.2 hck]; rfl)
      clear hck HM
      go_wp2_with fail
      refine (KC.out _).mono ?_
      rintro e w2 ⟨rfl, hb⟩
      have HK2 := Lib.hid (HK.out.below hb)
      clear c0 c1 c2 c3 c4 c5 c6 hb HK
      go_wp2_with fail
      go_ret
      exact ⟨ret_bool HD.out.symm, HK2.out.be⟩
end Go.Proofs.Ytpekofpiodaadaa.Hb
end

section
/- Floats: the walks of rank.Missing, Clean, Key, Cmp, cmp.Compare, and of the document's. -/
namespace Go.Proofs.Ytpekofpiodaadaa.Hb
set_option linter.unusedVariables false
set_option linter.unusedSimpArgs false
open Go.RowKit

theorem f64bits_run (b : Nat) (w : World) : (callFunc 68 #[.float .f64 b]).run Try.prog w = .ok (.value (.int .u64 (b : Int))) w := by
  rw [run_callFunc_extern (e := Extern.MathFloatBits.float64bits) Try.func68 (by kernel_rfl) (by kernel_rfl) (by kernel_rfl) (by rfl)]
  rfl
theorem f64from_run (b : Nat) (w : World) : (callFunc 85 #[.int .u64 (b : Int)]).run Try.prog w = .ok (.value (.float .f64 b)) w := by
  rw [run_callFunc_extern (e := Extern.MathFloatBits.float64frombits) Try.func85 (by kernel_rfl) (by kernel_rfl) (by kernel_rfl) (by rfl)]
  rfl
theorem f64from_none (w : World) : (callFunc 85 #[.int .u64 9221120237041090561]).run Try.prog w = .ok (.value (.float .f64 9221120237041090561)) w := by
  rw [run_callFunc_extern (e := Extern.MathFloatBits.float64frombits) Try.func85 (by kernel_rfl) (by kernel_rfl) (by kernel_rfl) (by rfl)]
  rfl
/-- What a pure function answers. -/
def Says (v : Value) (w : World) (e : Ending) (w' : World) : Prop := e = .returned v ∧ w' = w
theorem missing_any (b : Nat) (w : World) : Calls Try.prog 177 #[.float .f64 b] w (Says (.bool (nanF b)) w) := by
  have q := nan_self b
  go_enter Try.func177, Try.ntmps177
  go_wp2_with fail
  go_ret
  exact ⟨rfl, rfl⟩
theorem clean_any (b : Nat) (w : World) : Calls Try.prog 178 #[.float .f64 b] w (Says (.float .f64 (cleanF b)) w) := by
  have K := Lib.hid (fun w => missing_any b w)
  have hf := f64from_none
  have HC : Hid (cleanF b = if nanF b then 9221120237041090561 else if magF b = 0 then 0 else b) := Lib.hid rfl
  obtain ⟨C, hC⟩ : ∃ C, cleanF b = C := ⟨_, rfl⟩
  rw [hC] at HC ⊢
  clear hC
  cases h : nanF b with
  | true =>
    rw [h] at K HC
    simp only [if_true] at HC
    go_enter Try.func178, Try.ntmps178
    go_wp2_with fail
    refine (K.out _).mono ?_
    rintro e w1 ⟨rfl, rfl⟩
    go_wp2_with fail
    go_ret
    exact ⟨by rw [HC.out]; rfl, rfl⟩
  | false =>
    have q := feq_zero h
    rw [h] at K HC
    simp only [Bool.false_eq_true, if_false] at HC
    by_cases hz : magF b = 0
    · rw [decide_eq_true hz] at q
      rw [if_pos hz] at HC
      clear h hz
      go_enter Try.func178, Try.ntmps178
      go_wp2_with fail
      refine (K.out _).mono ?_
      rintro e w1 ⟨rfl, rfl⟩
      go_wp2_with fail
      go_ret
      exact ⟨by rw [HC.out]; rfl, rfl⟩
    · rw [decide_eq_false hz] at q
      rw [if_neg hz] at HC
      clear h hz
      go_enter Try.func178, Try.ntmps178
      go_wp2_with fail
      refine (K.out _).mono ?_
      rintro e w1 ⟨rfl, rfl⟩
      go_wp2_with fail
      go_ret
      exact ⟨by rw [HC.out]; rfl, rfl⟩
theorem fkey_any (b : Nat) (hb : b < 18446744073709551616) (w : World) : Calls Try.prog 207 #[.float .f64 b] w (Says (.int .u64 (keyF b : Int)) w) := by
  have K := Lib.hid (fun w => missing_any b w)
  have KC := Lib.hid (fun w => clean_any b w)
  have hcl := clean_lt hb
  have HK : Hid (keyF b = if nanF b then 0 else if 9223372036854775808 ≤ cleanF b then 18446744073709551615 - cleanF b else cleanF b + 9223372036854775808) := Lib.hid rfl
  obtain ⟨k, hk⟩ : ∃ C, keyF b = C := ⟨_, rfl⟩
  obtain ⟨c, hc⟩ : ∃ C, cleanF b = C := ⟨_, rfl⟩
  rw [hk, hc] at HK
  rw [hk]
  rw [hc] at KC hcl
  clear hk hc
  have hf := f64bits_run c
  cases h : nanF b with
  | true =>
    rw [h] at K HK
    simp only [if_true] at HK
    go_enter Try.func207, Try.ntmps207
    go_wp2_with fail
    refine (K.out _).mono ?_
    rintro e w1 ⟨rfl, rfl⟩
    go_wp2_with fail
    go_ret
    exact ⟨by rw [HK.out]; rfl, rfl⟩
  | false =>
    rw [h] at K HK
    simp only [Bool.false_eq_true, if_false] at HK
    have qa := and_top hcl
    have qx := xor_all hcl
    have qm := kmax
    by_cases hz : 9223372036854775808 ≤ c
    · rw [decide_eq_true hz] at qa
      rw [if_pos hz] at HK
      clear h
      go_enter Try.func207, Try.ntmps207
      go_wp2_with fail
      refine (K.out _).mono ?_
      rintro e w1 ⟨rfl, rfl⟩
      go_wp2_with fail
      refine (KC.out _).mono ?_
      rintro e w1 ⟨rfl, rfl⟩
      go_wp2_with fail
      go_ret
      exact ⟨by rw [HK.out]; rfl, rfl⟩
    · rw [decide_eq_false hz] at qa
      rw [if_neg hz] at HK
      have qo := or_top (show c < 9223372036854775808 by omega)
      clear h
      go_enter Try.func207, Try.ntmps207
      go_wp2_with fail
      refine (K.out _).mono ?_
      rintro e w1 ⟨rfl, rfl⟩
      go_wp2_with fail
      refine (KC.out _).mono ?_
      rintro e w1 ⟨rfl, rfl⟩
      go_wp2_with fail
      go_ret
      exact ⟨by rw [HK.out]; rfl, rfl⟩
theorem nan64_any (x : Nat) (w : World) : Calls Try.prog 227 #[.int .u64 (x : Int)] w (Says (.bool false) w) := by
  go_enter Try.func227, Try.ntmps227
  go_wp2_with fail
  go_ret
  exact ⟨rfl, rfl⟩
theorem cmp64_any (x y : Nat) (w : World) : Calls Try.prog 206 #[.int .u64 (x : Int), .int .u64 (y : Int)] w (Says (.int .i64 (cmpN x y)) w) := by
  have KX := Lib.hid (fun w => nan64_any x w)
  have KY := Lib.hid (fun w => nan64_any y w)
  have HC : Hid (cmpN x y = if x < y then -1 else if y < x then 1 else 0) := Lib.hid rfl
  obtain ⟨C, hC⟩ : ∃ C, cmpN x y = C := ⟨_, rfl⟩
  rw [hC] at HC ⊢
  clear hC
  by_cases h : x < y
  · have d1 : decide (x < y) = true := decide_eq_true h
    have d1' : decide ((x : Int) < y) = true := decide_eq_true (by omega)
    rw [if_pos h] at HC
    go_enter Try.func206, Try.ntmps206
    go_wp2_with fail
    refine (KX.out _).mono ?_
    rintro e w1 ⟨rfl, rfl⟩
    go_wp2_with fail
    refine (KY.out _).mono ?_
    rintro e w1 ⟨rfl, rfl⟩
    go_wp2_with fail
    go_ret
    exact ⟨by rw [HC.out]; rfl, rfl⟩
  · have d1 : decide (x < y) = false := decide_eq_false h
    have d1' : decide ((x : Int) < y) = false := decide_eq_false (by omega)
    rw [if_neg h] at HC
    by_cases h2 : y < x
    · have d2 : decide (y < x) = true := decide_eq_true h2
      have d2' : decide ((y : Int) < x) = true := decide_eq_true (by omega)
      rw [if_pos h2] at HC
      go_enter Try.func206, Try.ntmps206
      go_wp2_with fail
      refine (KX.out _).mono ?_
      rintro e w1 ⟨rfl, rfl⟩
      go_wp2_with fail
      refine (KY.out _).mono ?_
      rintro e w1 ⟨rfl, rfl⟩
      go_wp2_with fail
      go_ret
      exact ⟨by rw [HC.out]; rfl, rfl⟩
    · have d2 : decide (y < x) = false := decide_eq_false h2
      have d2' : decide ((y : Int) < x) = false := decide_eq_false (by omega)
      rw [if_neg h2] at HC
      go_enter Try.func206, Try.ntmps206
      go_wp2_with fail
      refine (KX.out _).mono ?_
      rintro e w1 ⟨rfl, rfl⟩
      go_wp2_with fail
      refine (KY.out _).mono ?_
      rintro e w1 ⟨rfl, rfl⟩
      go_wp2_with fail
      go_ret
      exact ⟨by rw [HC.out]; rfl, rfl⟩
theorem fcmp_any (a b : Nat) (ha : a < 18446744073709551616) (hb : b < 18446744073709551616) (w : World) : Calls Try.prog 179 #[.float .f64 a, .float .f64 b] w (Says (.int .i64 (cmpF a b)) w) := by
  have KA := Lib.hid (fun w => fkey_any a ha w)
  have KB := Lib.hid (fun w => fkey_any b hb w)
  have KC := Lib.hid (fun w => cmp64_any (keyF a) (keyF b) w)
  unfold cmpF
  obtain ⟨C, hC⟩ : ∃ C, cmpN (keyF a) (keyF b) = C := ⟨_, rfl⟩
  rw [hC] at KC ⊢
  clear hC
  go_enter Try.func179, Try.ntmps179
  go_wp2_with fail
  refine (KA.out _).mono ?_
  rintro e w1 ⟨rfl, rfl⟩
  go_wp2_with fail
  refine (KB.out _).mono ?_
  rintro e w1 ⟨rfl, rfl⟩
  go_wp2_with fail
  refine (KC.out _).mono ?_
  rintro e w1 ⟨rfl, rfl⟩
  go_wp2_with fail
  go_ret
  exact ⟨rfl, rfl⟩
theorem rmissing_any (b : Nat) (w : World) : Calls Try.prog 180 #[.float .f64 b] w (Says (.bool (nanF b)) w) := by
  have q := nan_two b
  obtain ⟨X, hX⟩ : ∃ X, (FloatKind.f64.format.order b 0 == some Ordering.lt || FloatKind.f64.format.order b 0 == some Ordering.eq) = X := ⟨_, rfl⟩
  obtain ⟨Y, hY⟩ : ∃ X, (FloatKind.f64.format.order b 0 == some Ordering.gt || FloatKind.f64.format.order b 0 == some Ordering.eq) = X := ⟨_, rfl⟩
  rw [hX, hY] at q
  rw [← q]
  clear q
  cases X
  · go_enter Try.func180, Try.ntmps180
    go_wp2_with fail
    go_ret
    exact ⟨rfl, rfl⟩
  · go_enter Try.func180, Try.ntmps180
    go_wp2_with fail
    go_ret
    exact ⟨rfl, rfl⟩
set_option maxRecDepth 100000 in
theorem rfcmp_any (a b : Nat) (ha : a < 18446744073709551616) (hb : b < 18446744073709551616) (w : World) : Calls Try.prog 182 #[.float .f64 a, .float .f64 b] w (Says (.int .i64 (cmpF a b)) w) := by
  rw [← rcmp_is ha hb]
  have K := Lib.hid (fun x w => rmissing_any x w)
  have HC : Hid (rcmpF a b = if nanF a ∧ nanF b then 0 else if nanF a then -1 else if nanF b then 1 else if srF a < srF b then -1 else if srF b < srF a then 1 else 0) := Lib.hid rfl
  obtain ⟨C, hC⟩ : ∃ C, rcmpF a b = C := ⟨_, rfl⟩
  rw [hC] at HC ⊢
  clear hC
  cases hna : nanF a <;> cases hnb : nanF b <;> rw [hna, hnb] at HC <;> simp only [Bool.false_eq_true, and_self, and_false, false_and, true_and, and_true, if_true, if_false] at HC
  · have q1 := lt_num hna hnb
    have q2 := gt_num hna hnb
    by_cases h1 : srF a < srF b
    · rw [decide_eq_true h1] at q1
      rw [if_pos h1] at HC
      clear h1
      go_enter Try.func182, Try.ntmps182
      go_wp2_with (go_at_call 180; refine (K.out _ _).mono ?_; rintro e w1 ⟨rfl, rfl⟩)
      go_ret
      exact ⟨by rw [HC.out]; rfl, rfl⟩
    · rw [decide_eq_false h1] at q1
      rw [if_neg h1] at HC
      by_cases h2 : srF b < srF a
      · rw [decide_eq_true h2] at q2
        rw [if_pos h2] at HC
        clear h1 h2
        go_enter Try.func182, Try.ntmps182
        go_wp2_with (go_at_call 180; refine (K.out _ _).mono ?_; rintro e w1 ⟨rfl, rfl⟩)
        go_ret
        exact ⟨by rw [HC.out]; rfl, rfl⟩
      · rw [decide_eq_false h2] at q2
        rw [if_neg h2] at HC
        clear h1 h2
        go_enter Try.func182, Try.ntmps182
        go_wp2_with (go_at_call 180; refine (K.out _ _).mono ?_; rintro e w1 ⟨rfl, rfl⟩)
        go_ret
        exact ⟨by rw [HC.out]; rfl, rfl⟩
  all_goals
    go_enter Try.func182, Try.ntmps182
    go_wp2_with (go_at_call 180; refine (K.out _ _).mono ?_; rintro e w1 ⟨rfl, rfl⟩)
    go_ret
    exact ⟨by rw [HC.out]; rfl, rfl⟩
set_option maxRecDepth 100000 in
theorem rbits_any (b : Nat) (w : World) : Calls Try.prog 208 #[.float .f64 b] w (Says (.int .u64 (cleanF b : Int)) w) := by
  have K := Lib.hid (fun w => rmissing_any b w)
  have hf := f64bits_run b
  have HC : Hid (cleanF b = if nanF b then 9221120237041090561 else if magF b = 0 then 0 else b) := Lib.hid rfl
  obtain ⟨C, hC⟩ : ∃ C, cleanF b = C := ⟨_, rfl⟩
  rw [hC] at HC ⊢
  clear hC
  cases h : nanF b with
  | true =>
    rw [h] at K HC
    simp only [if_true] at HC
    go_enter Try.func208, Try.ntmps208
    go_wp2_with (go_at_call 180; refine (K.out _).mono ?_; rintro e w1 ⟨rfl, rfl⟩)
    go_ret
    exact ⟨by rw [HC.out]; rfl, rfl⟩
  | false =>
    have q := zero_two h
    obtain ⟨X, hX⟩ : ∃ X, (FloatKind.f64.format.order b 0 == some Ordering.lt || FloatKind.f64.format.order b 0 == some Ordering.eq) = X := ⟨_, rfl⟩
    obtain ⟨Y, hY⟩ : ∃ X, (FloatKind.f64.format.order b 0 == some Ordering.gt || FloatKind.f64.format.order b 0 == some Ordering.eq) = X := ⟨_, rfl⟩
    rw [hX, hY] at q
    rw [h] at K HC
    simp only [Bool.false_eq_true, if_false] at HC
    have HQ : Hid ((if (Y && X) = true then (0 : Nat) else b) = C) := Lib.hid (by
      rw [q, HC.out]
      by_cases hz : magF b = 0
      · rw [decide_eq_true hz, if_pos rfl, if_pos hz]
      · rw [decide_eq_false hz, if_neg (by simp), if_neg hz])
    clear q h HC
    cases Y <;> cases X <;> simp only [Bool.and_self, Bool.and_false, Bool.and_true, Bool.false_eq_true, if_false, if_true] at HQ
    all_goals
      go_enter Try.func208, Try.ntmps208
      go_wp2_with (go_at_call 180; refine (K.out _).mono ?_; rintro e w1 ⟨rfl, rfl⟩)
      go_ret
      exact ⟨by rw [← HQ.out]; rfl, rfl⟩
theorem rclean_any (b : Nat) (w : World) : Calls Try.prog 181 #[.float .f64 b] w (Says (.float .f64 (cleanF b)) w) := by
  have K := Lib.hid (fun w => rbits_any b w)
  have hf := f64from_run (cleanF b)
  obtain ⟨C, hC⟩ : ∃ C, cleanF b = C := ⟨_, rfl⟩
  rw [hC] at K hf ⊢
  clear hC
  go_enter Try.func181, Try.ntmps181
  go_wp2_with (go_at_call 208; refine (K.out _).mono ?_; rintro e w1 ⟨rfl, rfl⟩)
  go_ret
  exact ⟨rfl, rfl⟩
end Go.Proofs.Ytpekofpiodaadaa.Hb
end

section
/- Draws below bounds, and what is dealt by them: plain functions. No Go. -/
namespace Go.Proofs.Ytpekofpiodaadaa.Hb

/-- Below which number a number serves. -/
def limD (n : Int) : Int := 18446744073709551616 - 18446744073709551616 % n
def drawO (num : Nat → Int) (n : Int) : Nat → Nat → Option Int × Nat
  | 0, k => (none, k)
  | f + 1, k => if num k < limD n then (some (num k % n), k + 1) else drawO num n f (k + 1)
def runO (num : Nat → Int) (step : List Int → Nat → Int → List Int) : List Int → Nat → List Int → Nat → Option (List Int) × Nat
  | [], _, p, k => (some p, k)
  | n :: ns, i, p, k => match drawO num n 64 k with
    | (none, k') => (none, k')
    | (some x, k') => runO num step ns (i + 1) (step p i x) k'
def swapL (p : List Int) (i j : Nat) : List Int := (p.set i (p.getD j 0)).set j (p.getD i 0)
theorem swap_len (p : List Int) (i j : Nat) : (swapL p i j).length = p.length := by simp [swapL]
def stepPerm (n : Nat) (p : List Int) (i : Nat) (x : Int) : List Int := swapL p (n - 1 - i) x.toNat
def stepChoose (p : List Int) (i : Nat) (x : Int) : List Int := swapL p i (i + x.toNat)
def stepDeal (p : List Int) (_ : Nat) (x : Int) : List Int := p.set x.toNat (p.getD x.toNat 0 + 1)
def rowI (n : Nat) : List Int := (List.range n).map fun i : Nat => (i : Int)
def bndPerm (n : Nat) : List Int := (List.range (n - 1)).map fun i : Nat => ((n - i : Nat) : Int)
def bndChoose (n k : Nat) : List Int := (List.range k).map fun i : Nat => ((n - i : Nat) : Int)
theorem draw_hit {num : Nat → Int} {n : Int} {f k : Nat} (h : num k < limD n) : drawO num n (f + 1) k = (some (num k % n), k + 1) := if_pos h
theorem draw_miss {num : Nat → Int} {n : Int} {f k : Nat} (h : ¬ num k < limD n) : drawO num n (f + 1) k = drawO num n f (k + 1) := if_neg h
theorem draw_lt {num : Nat → Int} {n : Int} (hn : 0 < n) : ∀ {f k : Nat} {x : Int} {k' : Nat}, drawO num n f k = (some x, k') → 0 ≤ x ∧ x < n
  | 0, k, x, k', h => by cases h
  | f + 1, k, x, k', h => by
    by_cases hc : num k < limD n
    · rw [draw_hit hc] at h
      cases h
      exact ⟨Int.emod_nonneg _ (by omega), Int.emod_lt_of_pos _ hn⟩
    · rw [draw_miss hc] at h
      exact draw_lt hn h
theorem draw_k {num : Nat → Int} {n : Int} : ∀ {f k : Nat}, k ≤ (drawO num n f k).2 ∧ (drawO num n f k).2 ≤ k + f
  | 0, k => ⟨Nat.le_refl _, Nat.le_refl _⟩
  | f + 1, k => by
    by_cases hc : num k < limD n
    · rw [draw_hit hc]
      exact ⟨Nat.le_succ k, by show k + 1 ≤ k + (f + 1); omega⟩
    · rw [draw_miss hc]
      have := @draw_k num n f (k + 1)
      omega
theorem draw_none {num : Nat → Int} {n : Int} : ∀ {f k k' : Nat}, drawO num n f k = (none, k') → k' = k + f
  | 0, k, k', h => by cases h; rfl
  | f + 1, k, k', h => by
    by_cases hc : num k < limD n
    · rw [draw_hit hc] at h; cases h
    · rw [draw_miss hc] at h
      have := draw_none h
      omega
theorem run_nil {num : Nat → Int} {step : List Int → Nat → Int → List Int} {i k : Nat} {p : List Int} : runO num step [] i p k = (some p, k) := rfl
theorem run_none {num : Nat → Int} {step : List Int → Nat → Int → List Int} {n : Int} {ns : List Int} {i k k' : Nat} {p : List Int} (h : drawO num n 64 k = (none, k')) : runO num step (n :: ns) i p k = (none, k') := by rw [runO, h]
theorem run_some {num : Nat → Int} {step : List Int → Nat → Int → List Int} {n x : Int} {ns : List Int} {i k k' : Nat} {p : List Int} (h : drawO num n 64 k = (some x, k')) : runO num step (n :: ns) i p k = runO num step ns (i + 1) (step p i x) k' := by rw [runO, h]
/-- What holds of what is dealt, ever. -/
theorem run_inv {num : Nat → Int} {step : List Int → Nat → Int → List Int} (P : Nat → List Int → Prop) : ∀ (ns : List Int) (i k : Nat) (p q : List Int) (k' : Nat),
    (∀ (j : Nat) (n : Int) (r : List Int) (x : Int), ns[j]? = some n → 0 ≤ x → x < n → P (i + j) r → P (i + j + 1) (step r (i + j) x)) → (∀ n ∈ ns, 0 < n) → P i p → runO num step ns i p k = (some q, k') → P (i + ns.length) q
  | [], i, k, p, q, k', _, _, h0, h => by
    rw [run_nil] at h; cases h; exact h0
  | n :: ns, i, k, p, q, k', hs, hp, h0, h => by
    rcases hd : drawO num n 64 k with ⟨_ | x, k1⟩
    · rw [run_none hd] at h; cases h
    · rw [run_some hd] at h
      have hx := draw_lt (hp n (List.mem_cons_self ..)) hd
      have h1 := hs 0 n p x rfl hx.1 hx.2 h0
      have := run_inv P ns (i + 1) k1 (step p i x) q k' (fun j m r y hj a b c => by
        have := hs (j + 1) m r y (by simpa using hj) a b (by rwa [show i + (j + 1) = i + 1 + j by omega])
        rwa [show i + (j + 1) = i + 1 + j by omega] at this) (fun m hm => hp m (List.mem_cons_of_mem _ hm)) h1 h
      rwa [show i + 1 + ns.length = i + (n :: ns).length by simp; omega] at this
end Go.Proofs.Ytpekofpiodaadaa.Hb
end

section
/- Sources of numbers: what a draw comes to, whatever the source. -/
namespace Go.Proofs.Ytpekofpiodaadaa.Hb
set_option linter.unusedVariables false
open Go.RowKit

theorem grown_refl (w : World) (r : Option Nat) : w.grownBy w r := ⟨rfl, rfl, rfl, Nat.le_refl _, fun _ _ _ => rfl⟩
theorem grown_trans {a b c : World} {r : Option Nat} (h : a.grownBy b r) (k : b.grownBy c r) : a.grownBy c r :=
  ⟨k.os.trans h.os, k.tape.trans h.tape, k.output.trans h.output, Nat.le_trans h.size k.size, fun i hi hr => (k.block i (Nat.lt_of_lt_of_le hi h.size) hr).trans (h.block i hi hr)⟩
theorem grown_drew {a b : World} {r : Option Nat} (h : a.grownBy b r) : a.grownBy b.drew r := ⟨h.os, h.tape, h.output, h.size, h.block⟩
theorem grown_drewN {a b : World} {r : Option Nat} (h : a.grownBy b r) (n : Nat) : a.grownBy (b.drewN n) r := ⟨h.os, h.tape, h.output, h.size, h.block⟩
theorem grown_set {a b : World} {g : Nat} (h : a.grownBy b (some g)) (i : Nat) (u : Value) : a.grownBy (b.setCell ⟨g, i, none⟩ u) (some g) :=
  ⟨h.os, h.tape, h.output, by simpa [World.setCell] using h.size, fun k hk hr => (Below.heap_setCell _ _ _ _ (fun e => hr (by rw [e]))).trans (h.block k hk hr)⟩
theorem grown_below {a b : World} {r : Option Nat} (h : Below a.heap.size a b) : a.grownBy b r := ⟨h.os, h.tape, h.output, h.size, fun i hi _ => h.block i hi⟩

/-- What a draw answers. -/
def belV (r : Option Int × Nat) : Value := match r.1 with
  | some x => .tuple #[.int .u64 x, .int .i64 0]
  | none => .tuple #[.int .u64 0, .int .i64 7]
/-- A source: a value, its block, the numbers that it hands out, when it has handed out so many. -/
structure Src (v : Value) (b N0 : Nat) (num : Nat → Int) (J : Nat → World → Prop) : Prop where
  hb : b < N0
  keep : ∀ k W W', J k W → Below N0 W W' → J k W'
  below : ∀ n k W, N0 ≤ W.heap.size → 0 < n → n ≤ 1048576 → k ≤ 4611686018427387904 → J k W →
    Calls Try.prog 211 #[v, .int .u64 n] W fun e W' => e = .returned (belV (drawO num n 64 k)) ∧ J (drawO num n 64 k).2 W' ∧ W.grownBy W' (some b)

theorem spare_is (n : Int) (h1 : 0 < n) (h2 : n ≤ 1048576) : bits .xor .u64 (if IntKind.u64.signed = true then -1 else IntKind.u64.max) ((IntKind.u64.wrap (-n)).tmod n) = limD n - 1 := by
  have e1 : IntKind.u64.wrap (-n) = 18446744073709551616 - n := by rw [IntKind.wrap_u64]; omega
  have e2 : (18446744073709551616 - n).tmod n = 18446744073709551616 % n := by
    rw [Int.tmod_eq_emod_of_nonneg (by omega), Int.sub_emod, Int.emod_self, Int.sub_zero, Int.emod_emod]
  have e3 : (if IntKind.u64.signed = true then (-1 : Int) else IntKind.u64.max) = 18446744073709551615 := by decide +kernel
  rw [e1, e2, e3]
  have b1 := Int.emod_nonneg 18446744073709551616 (show n ≠ 0 by omega)
  have b2 := Int.emod_lt_of_pos 18446744073709551616 h1
  unfold limD
  obtain ⟨r, hr⟩ := Int.eq_ofNat_of_zero_le b1
  rw [hr] at b2 ⊢
  rw [u64_xor _ _ (by omega) (by omega) (by omega) (by omega)]
  have := Lib.xor_ones64 r (by omega)
  simp only [Int.toNat_natCast]
  rw [show (18446744073709551615 : Int).toNat = 2 ^ 64 - 1 from rfl, this]
  omega
end Go.Proofs.Ytpekofpiodaadaa.Hb
end

section
/- The walk of deal.draws, whatever is to be done with what is drawn. -/
namespace Go.Proofs.Ytpekofpiodaadaa.Hb
set_option linter.unusedVariables false
open Go.RowKit

def errR {α : Type} (r : Option α × Nat) : Int := match r.1 with | some _ => 0 | none => 7
set_option maxRecDepth 100000 in
set_option maxHeartbeats 2000000 in
theorem draws_any {v : Value} {b N0 : Nat} {num : Nat → Int} {J : Nat → World → Prop} (S : Src v b N0 num J) (F : Nat) (hF : ∀ (args : Array Value) (w : World), (callFunc F args).run Try.prog w = .ok (.enter F args) w) (cps : Array Value) (bs : List Int) (A : Option Addr) (cap : Nat) (step : List Int → Nat → Int → List Int)
    (I : Nat → List Int → World → Prop) (hbs : ∀ n ∈ bs, 0 < n ∧ n ≤ 1048576) (hlen : bs.length ≤ 1048576)
    (hN : ∀ i p W, I i p W → N0 ≤ W.heap.size)
    (hI : ∀ i p W W', I i p W → W.grownBy W' (some b) → I i p W')
    (hbd : ∀ i p W, I i p W → RdI W A bs)
    (hdo : ∀ (i : Nat) p (x : Int) W, i < bs.length → 0 ≤ x → x < bs.getD i 0 → I i p W → Calls Try.prog F (#[.int .i64 i, .int .i64 x] ++ cps) W fun e W' => (∃ u, e = .returned u) ∧ I (i + 1) (step p i x) W' ∧ Below N0 W W')
    (k : Nat) (hk : k ≤ 1048576) (p : List Int) (w : World) (hJ : J k w) (h0 : I 0 p w) :
    Calls Try.prog 186 #[v, .slice A bs.length cap, .func (.func F) #[] cps] w fun e W' =>
      e = .returned (.int .i64 (errR (runO num step bs 0 p k))) ∧ J (runO num step bs 0 p k).2 W' ∧ ∃ i q, I i q W' ∧ ∀ p', (runO num step bs 0 p k).1 = some p' → q = p' ∧ i = bs.length := by
  obtain ⟨n, hn⟩ : ∃ n, bs.length = n := ⟨_, rfl⟩
  rw [hn] at hlen ⊢
  obtain ⟨R, hR⟩ : ∃ R, runO num step bs 0 p k = R := ⟨_, rfl⟩
  rw [hR]
  have HR := Lib.hid hR
  have HN := Lib.hid hn
  have HS := Lib.hid S
  have HB := Lib.hid hbs
  have HI := Lib.hid hI
  have HBD := Lib.hid hbd
  have HDO := Lib.hid hdo
  have HNN := Lib.hid hN
  have HJ := Lib.hid hJ
  have H0 := Lib.hid h0
  have HF := Lib.hid hF
  clear hF hR hn S hbs hI hbd hdo hN hJ h0
  go_enter Try.func186, Try.ntmps186
  go_wp2_with fail
  go_loopw [13] (fun iv wr => ∃ i kk : Nat, i ≤ n ∧ iv = .int .i64 i ∧ Hid (kk ≤ k + i * 64 ∧ J kk wr ∧ ∃ q, I i q wr ∧ runO num step (bs.drop i) i q kk = R)) (fun iv _ => n - (intOf iv).toNat)
  case atStart => exact ⟨0, k, Nat.zero_le _, rfl, Lib.hid ⟨by omega, HJ.out, p, H0.out, HR.out⟩⟩
  case round =>
    obtain ⟨i, kk, hi, rfl, HQ⟩ := hrel
    by_cases hlt : i < n
    · have hlt' : (i : Int) < n := by omega
      obtain ⟨q, HQ1⟩ : ∃ q, Hid (I i q wr ∧ runO num step (bs.drop i) i q kk = R) := by obtain ⟨_, _, q, h⟩ := HQ.out; exact ⟨q, Lib.hid h⟩
      obtain ⟨ad, rfl, ha⟩ := (HBD.out i q wr HQ1.out.1).at (k := i) (by rw [HN.out]; exact hlt)
      have y := ha i (by rw [HN.out]; exact hlt)
      obtain ⟨m, hm⟩ : ∃ m, bs.getD i 0 = m := ⟨_, rfl⟩
      rw [hm] at y
      have hmem : m ∈ bs := by
        rw [← hm, List.getD_eq_getElem?_getD, List.getElem?_eq_getElem (by rw [HN.out]; exact hlt)]
        exact List.getElem_mem _
      obtain ⟨m1, m2⟩ := HB.out m hmem
      have hdrop : bs.drop i = m :: bs.drop (i + 1) := by
        rw [← hm, List.getD_eq_getElem?_getD, List.getElem?_eq_getElem (by rw [HN.out]; exact hlt)]
        exact List.drop_eq_getElem_cons (by rw [HN.out]; exact hlt)
      have HD := Lib.hid hdrop
      have HM := Lib.hid hm
      clear ha hmem hdrop hm
      go_wp2_with fail
      refine (HS.out.below m kk _ (HNN.out _ _ _ HQ1.out.1) m1 m2 (by have := HQ.out.1; omega) HQ.out.2.1).mono ?_
      rintro e w1 ⟨rfl, hJ1, hg1⟩
      have hI1 := HI.out _ _ _ _ HQ1.out.1 hg1
      have hkk := @draw_k num m 64 kk
      rcases hd : drawO num m 64 kk with ⟨_ | x, k1⟩
      · have hr : R = (none, k1) := by rw [← HQ1.out.2, HD.out, run_none hd]
        rw [hd] at hJ1
        have HI1 := Lib.hid hI1
        have HJ1 := Lib.hid hJ1
        have HRR := Lib.hid hr
        clear hI1 hJ1 hr hg1 hkk hd
        unfold belV
        go_wp2_with fail
        go_ret
        rw [HRR.out]
        exact ⟨rfl, HJ1.out, i, q, HI1.out, fun p' h => by cases h⟩
      · have hr : runO num step (bs.drop (i + 1)) (i + 1) (step q i x) k1 = R := by rw [← HQ1.out.2, HD.out, run_some hd]
        have hx := draw_lt m1 hd
        have hk1 : k1 ≤ k + (i + 1) * 64 := by have := HQ.out.1; rw [hd] at hkk; simp only at hkk; omega
        rw [hd] at hJ1
        have hcall := HDO.out i q x w1 (by rw [HN.out]; exact hlt) hx.1 (by rw [HM.out]; exact hx.2) hI1
        have HJ1 := Lib.hid hJ1
        have HRR := Lib.hid hr
        have HC := Lib.hid hcall
        have HK1 := Lib.hid hk1
        obtain ⟨x0, x1⟩ := hx
        have hwx : IntKind.i64.wrap x = x := by rw [IntKind.wrap_i64]; omega
        clear hI1 hJ1 hr hg1 hkk hd hcall hk1
        unfold belV
        go_wp2_with fail
        rw [HF.out]
        refine Calls.mono HC.out ?_
        rintro e w2 ⟨⟨u, rfl⟩, hI2, hb2⟩
        have HQ2 : Hid (k1 ≤ k + (i + 1) * 64 ∧ J k1 w2 ∧ ∃ q, I (i + 1) q w2 ∧ runO num step (bs.drop (i + 1)) (i + 1) q k1 = R) := Lib.hid ⟨HK1.out, HS.out.keep _ _ _ HJ1.out hb2, _, hI2, HRR.out⟩
        clear hI2 hb2
        go_wp2_with fail
        go_roundw
        case rel => exact ⟨i + 1, k1, hlt, by go_num, HQ2⟩
        case measure => simp [intOf]; omega
    · obtain rfl : i = n := by omega
      obtain ⟨q, HQ1⟩ : ∃ q, Hid (J kk wr ∧ I i q wr ∧ R = (some q, kk)) := by
        obtain ⟨_, hj, q, h, hr⟩ := HQ.out
        rw [List.drop_of_length_le (by rw [HN.out]; exact Nat.le_refl _), run_nil] at hr
        exact ⟨q, Lib.hid ⟨hj, h, hr.symm⟩⟩
      go_wp2_with fail
      go_ret
      rw [HQ1.out.2.2]
      exact ⟨rfl, HQ1.out.1, i, q, HQ1.out.2.1, fun p' h => by cases h; exact ⟨rfl, rfl⟩⟩
end Go.Proofs.Ytpekofpiodaadaa.Hb
end

section
/- What is done with what is drawn: the closures of deal. -/
namespace Go.Proofs.Ytpekofpiodaadaa.Hb
set_option linter.unusedVariables false
open Go.RowKit

theorem ints_set (l : List Int) (k : Nat) (z : Int) : (ints l).set k (.int .i64 z) = ints (l.set k z) := by simp [ints, List.map_set]
theorem blk_grown {w w' : World} {g : Nat} {cs : Array Value} {t : TypeId} {row : Option Nat} (h : Blk w g cs t) (hg : w.grownBy w' row) (hne : some g ≠ row) : Blk w' g cs t := (hg.block g h.lt hne).trans h
/-- A row that is owned, from its first cell on. -/
abbrev OwnI (W : World) (base g n c : Nat) (p : List Int) : Prop := W.ownsRow base 3 1 (.slice (some ⟨g, 0, none⟩) n c) n (ints p)
theorem OwnI.len {W : World} {base g n c : Nat} {p : List Int} (h : OwnI W base g n c p) : p.length = n := by
  have := h.1
  rw [ints_len] at this
  omega
theorem OwnI.at {W : World} {base g n c : Nat} {p : List Int} (h : OwnI W base g n c p) {i : Nat} (hi : i < n) : W.cell? ⟨g, i, none⟩ = some (.int .i64 (p.getD i 0)) := by
  rw [World.ownsRow.cellAt h i (by omega), ints_get (by rw [OwnI.len h]; exact hi)]
theorem swap_own {W : World} {base g n c : Nat} {p : List Int} (h : OwnI W base g n c p) (i j : Nat) :
    OwnI ((W.setCell ⟨g, i, none⟩ (.int .i64 (p.getD j 0))).setCell ⟨g, j, none⟩ (.int .i64 (p.getD i 0))) base g n c (swapL p i j) ∧ W.grownBy ((W.setCell ⟨g, i, none⟩ (.int .i64 (p.getD j 0))).setCell ⟨g, j, none⟩ (.int .i64 (p.getD i 0))) (some g) := by
  have s1 := World.ownsRow.stored h i (.int .i64 (p.getD j 0))
  have s2 := World.ownsRow.stored s1.1 j (.int .i64 (p.getD i 0))
  refine ⟨?_, grown_trans s1.2 s2.2⟩
  have := s2.1
  rw [ints_set, ints_set] at this
  exact this
set_option maxRecDepth 100000 in
set_option maxHeartbeats 2000000 in
theorem doPerm_any (base g gp gb n c : Nat) (p : List Int) (ad : Addr) (nb cb : Nat) (i k x : Nat) (W : World) (hi : i < nb) (hk : k < n) (hx : x < n) (hn : n ≤ 1048576) (ho : OwnI W base g n c p) (hne : gp ≠ g)
    (hp : W.cell? ⟨gp, 0, none⟩ = some (.slice (some ⟨g, 0, none⟩) n c)) (hb : W.cell? ⟨gb, 0, none⟩ = some (.slice (some ad) nb cb)) (hbi : W.cell? (ad.add i) = some (.int .i64 ((k : Int) + 1))) :
    Calls Try.prog 187 #[.int .i64 i, .int .i64 x, .pointer (some ⟨gb, 0, none⟩), .pointer (some ⟨gp, 0, none⟩)] W fun e W' => (∃ u, e = .returned u) ∧ OwnI W' base g n c (swapL p k x) ∧ W.grownBy W' (some g) := by
  have c1 := ho.at hx
  have c2 := ho.at hk
  have cf := World.ownsRow.frozenAt ho
  have hs := swap_own ho k x
  obtain ⟨px, e1⟩ : ∃ px, p.getD x 0 = px := ⟨_, rfl⟩
  obtain ⟨pk, e2⟩ : ∃ pk, p.getD k 0 = pk := ⟨_, rfl⟩
  rw [e1] at c1
  rw [e2] at c2
  rw [e1, e2] at hs
  have HS := Lib.hid hs
  obtain ⟨z, c3⟩ : ∃ z, (W.setCell ⟨g, k, none⟩ (.int .i64 px)).cell? ⟨g, x, none⟩ = some (.int .i64 z) := by
    have s1 := (World.ownsRow.stored ho k (.int .i64 px)).1
    rw [ints_set] at s1
    exact ⟨_, OwnI.at s1 hx⟩
  have c4 : (W.setCell ⟨g, k, none⟩ (.int .i64 px)).cell? ⟨gp, 0, none⟩ = some (.slice (some ⟨g, 0, none⟩) n c) := by
    rw [← hp]
    exact World.cell?_of_block (Below.heap_setCell _ _ _ _ hne)
  have hw : IntKind.i64.wrap ((k : Int) + 1 - 1) = k := by rw [IntKind.wrap_i64]; omega
  have hk' : (k : Int) < n := by omega
  have hx' : (x : Int) < n := by omega
  have hi' : (i : Int) < nb := by omega
  clear hs e1 e2 ho
  go_enter Try.func187, Try.ntmps187
  go_wp2_with fail
  go_region
  go_wp2
  go_end0
  exact ⟨⟨_, rfl⟩, HS.out.1, grown_drew HS.out.2⟩
end Go.Proofs.Ytpekofpiodaadaa.Hb
end

section
/- 0, 1, ..: the program's row and the reference's; whether two rows are the same. -/
namespace Go.Proofs.Ytpekofpiodaadaa.Hb
set_option linter.unusedVariables false
open Go.RowKit

theorem rowI_len (n : Nat) : (rowI n).length = n := by simp [rowI]
theorem rowI_succ (n : Nat) : rowI (n + 1) = rowI n ++ [(n : Int)] := by unfold rowI; rw [List.range_succ, List.map_append]; rfl
theorem rowI_get (n i : Nat) (h : i < n) : (rowI n).getD i 0 = i := by
  rw [List.getD_eq_getElem?_getD, List.getElem?_eq_getElem (by rw [rowI_len]; exact h)]
  simp [rowI]
/-- A row that came of a call. -/
def OwnV (w : World) (base : Nat) (v : Value) (l : List Int) : Prop := w.ownsRow base 3 1 v l.length (ints l)
def RetRow (l : List Int) (w : World) (e : Ending) (w' : World) : Prop := ∃ g c, e = .returned (.slice (some ⟨g, 0, none⟩) l.length c) ∧ OwnI w' w.heap.size g l.length c l ∧ Below w.heap.size w w'
theorem zeros_set (n i : Nat) (h : i < n) : (rowI i ++ List.replicate (n - i) 0).set i (i : Int) = rowI (i + 1) ++ List.replicate (n - (i + 1)) 0 := by
  rw [List.set_append_right _ _ (by rw [rowI_len]; exact Nat.le_refl _), rowI_len, Nat.sub_self, rowI_succ, show n - i = (n - (i + 1)) + 1 by omega, List.replicate_succ, List.set_cons_zero, List.append_assoc]
  rfl
set_option maxRecDepth 100000 in
set_option maxHeartbeats 1000000 in
theorem row_any (n : Nat) (hn : n ≤ 1048576) (w : World) : Calls Try.prog 185 #[.int .i64 n] w (RetRow (rowI n) w) := by
  obtain ⟨i0, hi, hz0, hz1, hz2⟩ := info_parts info_int
  go_enter Try.func185, Try.ntmps185
  go_wp2_with (at_make; refine wpList_make_full _ rfl _ _ 24 rfl w.heap.size 3 i0 (.int .i64 0) 1 Try.underlying24 hi hz0 hz1 .i64 .i64 _ _ n rfl rfl rfl rfl (by rw [hz2]; omega) (by unfold maxLen; omega) (by simp) ?_; intro w1 hown hgrow)
  have hrow : OwnI w1 w.heap.size w.heap.size n n (rowI 0 ++ List.replicate (n - 0) 0) := by
    rw [Nat.mul_one] at hown
    show w1.ownsRow _ _ _ _ _ (ints ([] ++ List.replicate n 0))
    rw [List.nil_append, ints_zeros, ← toList_madeCells_one]
    exact hown
  have hb : Below w.heap.size w w1 := ⟨hgrow.os, hgrow.tape, hgrow.output, hgrow.size, fun k hk => hgrow.block k hk (by simp)⟩
  clear hown hgrow
  go_loopw [9] (fun iv wr => ∃ i : Nat, i ≤ n ∧ iv = .int .i64 i ∧ Hid (OwnI wr w.heap.size w.heap.size n n (rowI i ++ List.replicate (n - i) 0) ∧ Below w.heap.size w wr)) (fun iv _ => n - (intOf iv).toNat)
  case atStart => exact ⟨0, Nat.zero_le _, rfl, Lib.hid ⟨hrow, hb⟩⟩
  case round =>
    obtain ⟨i, hi', rfl, HR⟩ := hrel
    by_cases hlt : i < n
    · have hlt' : (i : Int) < n := by omega
      have c1 := HR.out.1.at hlt
      have cf := World.ownsRow.frozenAt HR.out.1
      have hs := (World.ownsRow.stored HR.out.1 i (.int .i64 i)).1
      rw [ints_set, zeros_set n i hlt] at hs
      have HQ : Hid (OwnI (wr.setCell ⟨w.heap.size, i, none⟩ (.int .i64 i)) w.heap.size w.heap.size n n (rowI (i + 1) ++ List.replicate (n - (i + 1)) 0) ∧ Below w.heap.size w (wr.setCell ⟨w.heap.size, i, none⟩ (.int .i64 i))) := Lib.hid ⟨hs, HR.out.2.setCell (Nat.le_refl _) _⟩
      obtain ⟨z, hz⟩ : ∃ z, (rowI i ++ List.replicate (n - i) 0).getD i 0 = z := ⟨_, rfl⟩
      rw [hz] at c1
      clear hs hz
      go_wp2
      go_roundw
      case rel => exact ⟨i + 1, hlt, by go_num, HQ⟩
      case measure => simp [intOf]; omega
    · obtain rfl : i = n := by omega
      go_wp2
      go_ret
      have := HR.out.1
      rw [Nat.sub_self, List.replicate_zero, List.append_nil] at this
      unfold RetRow
      rw [rowI_len]
      exact ⟨_, _, rfl, this, HR.out.2⟩
set_option maxRecDepth 100000 in
set_option maxHeartbeats 1000000 in
theorem rrow_any (n : Nat) (hn : n ≤ 1048576) (w : World) : Calls Try.prog 150 #[.int .i64 n] w (RetRow (rowI n) w) := by
  obtain ⟨i0, hi, hz0, hz1, hz2⟩ := info_parts info_int
  go_enter Try.func150, Try.ntmps150
  go_wp2
  go_loopw [3, 4] (fun o iv wr => ∃ i : Nat, i ≤ n ∧ iv = .int .i64 i ∧ (∃ g c, o = .slice (some ⟨g, 0, none⟩) i c) ∧ wr.ownsRow w.heap.size 3 1 o i (ints (rowI i)) ∧ Below w.heap.size w wr) (fun _ iv _ => n - (intOf iv).toNat)
  case atStart => exact ⟨0, Nat.zero_le _, rfl, ⟨_, _, rfl⟩, World.ownsRow_made w #[] 0 (Nat.le_refl _) (by unfold maxLen; omega) rfl, (Below.refl _ _).alloc (Nat.le_refl _) _⟩
  case round =>
    obtain ⟨i, hi', rfl, ⟨g, c, rfl⟩, hrow, hB⟩ := hrel
    have hBs := hB.size
    by_cases hlt : i < n
    · have hlt' : (i : Int) < n := by omega
      go_wp2_with (at_builtin; refine wpList_append_own _ rfl _ _ 24 rfl w.heap.size 3 i0 (.int .i64 0) 1 8 Try.underlying24 hi hz0 hz1 hz2 rfl (by decide) _ _ _ rfl (hrow.alloc _) ⟨wr.heap.size, 0, none⟩ 1 1 [.int .i64 i] rfl rfl (cell_one_new _ _ _) (by simp [Value.oneCell']) (by unfold maxLen; omega) (by omega) (by simp; omega) ?_; intro v' w1 hown' hgrow _)
      go_roundw
      case rel =>
        refine ⟨i + 1, hlt, by go_num, ?_, by rw [rowI_succ, ints_snoc]; exact hown', (hB.alloc hBs _).grown hgrow (by simp; omega) (fun j e => (hrow.lt j e).1)⟩
        obtain ⟨g', cap', e, _⟩ := own_open hown' (by omega)
        exact ⟨g', cap', e⟩
      case measure => simp [intOf]; omega
    · obtain rfl : i = n := by omega
      go_wp2
      go_ret
      unfold RetRow
      rw [rowI_len]
      exact ⟨_, _, rfl, hrow, hB⟩
end Go.Proofs.Ytpekofpiodaadaa.Hb
end

section
/- Numbers of a list. -/
namespace Go.Proofs.Ytpekofpiodaadaa.Hb
set_option linter.unusedVariables false
open Go.RowKit

/-- A list's numbers, then 0. -/
def numL (l : List Int) (k : Nat) : Int := l.getD k 0
theorem add_block (ad : Addr) (i : Nat) : (ad.add i).block = ad.block := by unfold Addr.add; split <;> rfl
end Go.Proofs.Ytpekofpiodaadaa.Hb
end

section
/- The document's draws: Whole, Below; whether two rows are the same. -/
namespace Go.Proofs.Ytpekofpiodaadaa.Hb
set_option linter.unusedVariables false
open Go.RowKit

theorem mod_top (n : Int) (h1 : 0 < n) : 18446744073709551615 / n * n = 18446744073709551615 - 18446744073709551615 % n ∧
    ((18446744073709551615 % n = n - 1 → limD n = 18446744073709551616) ∧ (18446744073709551615 % n ≠ n - 1 → limD n = 18446744073709551615 - 18446744073709551615 % n)) := by
  have e := Int.mul_ediv_add_emod 18446744073709551615 n
  rw [Int.mul_comm] at e
  have b1 := Int.emod_nonneg 18446744073709551615 (show n ≠ 0 by omega)
  have b2 := Int.emod_lt_of_pos 18446744073709551615 h1
  have hs : (18446744073709551616 : Int) % n = (18446744073709551615 % n + 1) % n := by rw [Int.emod_add_emod]; rfl
  unfold limD
  rw [hs]
  obtain ⟨r, hr⟩ : ∃ r, (18446744073709551615 : Int) % n = r := ⟨_, rfl⟩
  obtain ⟨q, hq⟩ : ∃ q, (18446744073709551615 : Int) / n * n = q := ⟨_, rfl⟩
  rw [hr, hq] at e
  rw [hr] at b1 b2 ⊢
  rw [hq]
  refine ⟨by omega, fun h => ?_, fun h => ?_⟩
  · rw [h, show n - 1 + 1 = n by omega, Int.emod_self]; rfl
  · rw [Int.emod_eq_of_lt (by omega) (by omega)]; omega
set_option maxRecDepth 100000 in
set_option maxHeartbeats 400000 in
theorem r2whole_any (x n : Int) (h1 : 0 < n) (h2 : n ≤ 1048576) (hx : 0 ≤ x) (hx2 : x ≤ 18446744073709551615) (w : World) : Calls Try.prog 193 #[.int .u64 x, .int .u64 n] w fun e w' => e = .returned (.bool (decide (x < limD n))) ∧ w' = w := by
  have hz : (n == 0) = false := beq_eq_false_iff_ne.2 (by omega)
  have HX := Lib.hid hx2
  have HM := Lib.hid (mod_top n h1)
  have HB : Hid (0 ≤ 18446744073709551615 % n ∧ 18446744073709551615 % n < n) := Lib.hid ⟨Int.emod_nonneg _ (by omega), Int.emod_lt_of_pos _ h1⟩
  clear hx2
  go_enter Try.func193, Try.ntmps193
  go_wp2_with fail
  · rename_i h
    go_ret
    obtain ⟨m1, m2, m3⟩ := HM.out
    have b := HB.out
    have hh : IntKind.u64.wrap (18446744073709551615 - IntKind.u64.wrap (18446744073709551615 / n * n)) = n - 1 := by simpa using h
    rw [m1, IntKind.wrap_u64, IntKind.wrap_u64] at hh
    have hl := m2 (by omega)
    rw [hl, decide_eq_true (by have := HX.out; omega)]
    exact ⟨rfl, rfl⟩
  · rename_i h
    go_ret
    obtain ⟨m1, m2, m3⟩ := HM.out
    have b := HB.out
    have hh : ¬ IntKind.u64.wrap (18446744073709551615 - IntKind.u64.wrap (18446744073709551615 / n * n)) = n - 1 := by simpa using h
    rw [m1, IntKind.wrap_u64, IntKind.wrap_u64] at hh
    have hl := m3 (by omega)
    have e : IntKind.u64.wrap (18446744073709551615 / n * n) = limD n := by rw [m1, hl, IntKind.wrap_u64]; omega
    refine ⟨?_, rfl⟩
    rw [← e]
    rfl
def rbelV (r : Option Int × Nat) (k : Nat) : Value := match r.1 with
  | some x => .tuple #[.int .u64 x, .int .i64 ((r.2 - k : Nat) : Int), .int .i64 0]
  | none => .tuple #[.int .u64 0, .int .i64 64, .int .i64 7]
/-- A list of numbers, read. -/
def RdU (w : World) (A : Option Addr) (l : List Int) : Prop := (∀ x ∈ l, 0 ≤ x ∧ x ≤ 18446744073709551615) ∧ (l = [] ∨ ∃ ad, A = some ad ∧ ∀ i, i < l.length → w.cell? (ad.add i) = some (.int .u64 (l.getD i 0)))
theorem numL_in {w : World} {A : Option Addr} {l : List Int} (h : RdU w A l) (k : Nat) : 0 ≤ numL l k ∧ numL l k ≤ 18446744073709551615 := by
  unfold numL
  rw [List.getD_eq_getElem?_getD]
  by_cases hk : k < l.length
  · rw [List.getElem?_eq_getElem hk]; exact h.1 _ (List.getElem_mem hk)
  · rw [List.getElem?_eq_none (by omega)]; decide
theorem draw_miss_k {num : Nat → Int} {n : Int} : ∀ (f k i : Nat), (∀ j, j < i → limD n ≤ num (k + j)) → drawO num n (i + f) k = drawO num n f (k + i)
  | f, k, 0, _ => by rw [Nat.zero_add, Nat.add_zero]
  | f, k, i + 1, h => by
    rw [show i + 1 + f = (i + f) + 1 by omega, draw_miss (Int.not_lt.2 (by simpa using h 0 (by omega))), draw_miss_k f (k + 1) i (fun j hj => by have := h (j + 1) (by omega); rwa [show k + (j + 1) = k + 1 + j by omega] at this), show k + 1 + i = k + (i + 1) by omega]
set_option maxRecDepth 100000 in
set_option maxHeartbeats 1000000 in
theorem rbelow_any (A : Option Addr) (cap : Nat) (l : List Int) (k : Nat) (n : Int) (h1 : 0 < n) (h2 : n ≤ 1048576) (w : World) (hl : l.length ≤ 9223372036854775807) (hk : k ≤ 4611686018427387904) (hr : RdU w A l) :
    Calls Try.prog 151 #[.slice A l.length cap, .int .i64 k, .int .u64 n] w fun e w' => e = .returned (rbelV (drawO (numL l) n 64 k) k) ∧ w = w' := by
  have hz : (n == 0) = false := beq_eq_false_iff_ne.2 (by omega)
  obtain ⟨N, hN⟩ : ∃ N, l.length = N := ⟨_, rfl⟩
  rw [hN] at hl ⊢
  have HN := Lib.hid hN
  have HU := Lib.hid hr
  have HK := Lib.hid hk
  clear hN hr
  go_enter Try.func151, Try.ntmps151
  go_wp2_with fail
  go_loop [9] (fun iv => ∃ i : Nat, i ≤ 64 ∧ iv = .int .i64 i ∧ Hid (∀ j, j < i → limD n ≤ numL l (k + j))) (fun iv => 64 - (intOf iv).toNat)
  case atStart => exact ⟨0, Nat.zero_le _, rfl, Lib.hid (fun j hj => by omega)⟩
  case round =>
    obtain ⟨i, hi, rfl, HR⟩ := hrel
    by_cases hlt : i < 64
    · have hlt' : (i : Int) < 64 := by omega
      obtain ⟨x, hx⟩ : ∃ x, numL l (k + i) = x := ⟨_, rfl⟩
      have hx0 := numL_in HU.out (k + i)
      rw [hx] at hx0
      have kw := fun w => r2whole_any x n h1 h2 hx0.1 hx0.2 w
      obtain ⟨c, hc⟩ : ∃ c, decide (x < limD n) = c := ⟨_, rfl⟩
      rw [hc] at kw
      have KW := Lib.hid kw
      have HX := Lib.hid hx
      have HC := Lib.hid hc
      obtain ⟨x0, x1⟩ := hx0
      have X1 := Lib.hid x1
      clear hx hc kw x1
      by_cases hin : k + i < N
      · have hin' : (k : Int) + i < N := by omega
        have hind : decide ((k : Int) + i < N) = true := decide_eq_true hin'
        obtain ⟨ad, rfl, ha⟩ : ∃ ad, A = some ad ∧ ∀ i, i < l.length → w.cell? (ad.add i) = some (.int .u64 (l.getD i 0)) := by
          rcases HU.out.2 with h0 | h0
          · have := HN.out; rw [h0] at this; simp at this; omega
          · exact h0
        have y := ha (k + i) (by rw [HN.out]; exact hin)
        rw [show l.getD (k + i) 0 = x from HX.out] at y
        have hto : ((k : Int) + i).toNat = k + i := by omega
        clear ha
        go_wp2_with fail
        refine (KW.out _).mono ?_
        rintro e w1 ⟨rfl, rfl⟩
        cases c with
        | true =>
          have hd : drawO (numL l) n 64 k = (some (x % n), k + i + 1) := by
            rw [show 64 = i + ((64 - i - 1) + 1) by omega, draw_miss_k _ _ _ HR.out, draw_hit (by rw [HX.out]; exact of_decide_eq_true HC.out), HX.out]
          have HD := Lib.hid hd
          clear hd
          go_wp2_with fail
          refine bodyPost_ret (v := .tuple #[.int .u64 (x % n), .int .i64 ((i : Int) + 1), .int .i64 0]) (by simp [results, Try.results151, go_sem]) rfl ?_
          rw [HD.out]
          refine ⟨?_, rfl⟩
          show _ = Ending.returned (.tuple #[_, .int .i64 ((k + i + 1 - k : Nat) : Int), _])
          rw [show k + i + 1 - k = i + 1 by omega]
          rfl
        | false =>
          have hr2 : Hid (∀ j, j < i + 1 → limD n ≤ numL l (k + j)) := Lib.hid (fun j hj => by
            rcases Nat.lt_or_ge j i with h | h
            · exact HR.out j h
            · obtain rfl : j = i := by omega
              rw [HX.out]; exact Int.not_lt.1 (of_decide_eq_false HC.out))
          go_wp2_with fail
          go_round
          case rel => exact ⟨i + 1, hlt, by go_num, hr2⟩
          case measure => simp [intOf]; omega
      · have hind : decide ((k : Int) + i < N) = false := decide_eq_false (by omega)
        have hx0' : x = 0 := by rw [← HX.out, numL, List.getD_eq_getElem?_getD, List.getElem?_eq_none (by rw [HN.out]; omega)]; rfl
        subst hx0'
        go_wp2_with fail
        refine (KW.out _).mono ?_
        rintro e w1 ⟨rfl, rfl⟩
        cases c with
        | true =>
          have hd : drawO (numL l) n 64 k = (some (0 % n), k + i + 1) := by
            rw [show 64 = i + ((64 - i - 1) + 1) by omega, draw_miss_k _ _ _ HR.out, draw_hit (by rw [HX.out]; exact of_decide_eq_true HC.out), HX.out]
          have HD := Lib.hid hd
          clear hd
          go_wp2_with fail
          refine bodyPost_ret (v := .tuple #[.int .u64 (0 % n), .int .i64 ((i : Int) + 1), .int .i64 0]) (by simp [results, Try.results151, go_sem]) rfl ?_
          rw [HD.out]
          refine ⟨?_, rfl⟩
          show _ = Ending.returned (.tuple #[_, .int .i64 ((k + i + 1 - k : Nat) : Int), _])
          rw [show k + i + 1 - k = i + 1 by omega]
          rfl
        | false =>
          have hr2 : Hid (∀ j, j < i + 1 → limD n ≤ numL l (k + j)) := Lib.hid (fun j hj => by
            rcases Nat.lt_or_ge j i with h | h
            · exact HR.out j h
            · obtain rfl : j = i := by omega
              rw [HX.out]; exact Int.not_lt.1 (of_decide_eq_false HC.out))
          go_wp2_with fail
          go_round
          case rel => exact ⟨i + 1, hlt, by go_num, hr2⟩
          case measure => simp [intOf]; omega
    · obtain rfl : i = 64 := by omega
      have hd : drawO (numL l) n 64 k = (none, k + 64) := by rw [show 64 = 64 + 0 from rfl, draw_miss_k _ _ _ HR.out]; rfl
      have HD := Lib.hid hd
      clear hd
      go_wp2_with fail
      refine bodyPost_ret (v := .tuple #[.int .u64 0, .int .i64 64, .int .i64 7]) (by simp [results, Try.results151, go_sem]) rfl ?_
      rw [HD.out]
      exact ⟨rfl, rfl⟩
end Go.Proofs.Ytpekofpiodaadaa.Hb
end

section
/- The document's permutation and weights. -/
namespace Go.Proofs.Ytpekofpiodaadaa.Hb
set_option linter.unusedVariables false
open Go.RowKit

theorem bndPerm_len (n : Nat) : (bndPerm n).length = n - 1 := by simp [bndPerm]
theorem bndPerm_get (n j : Nat) (h : j < n - 1) : (bndPerm n).getD j 0 = ((n - j : Nat) : Int) := by
  rw [List.getD_eq_getElem?_getD, List.getElem?_eq_getElem (by rw [bndPerm_len]; exact h)]
  simp [bndPerm]
theorem drop_at' {l : List Int} {j : Nat} (h : j < l.length) : l.drop j = l.getD j 0 :: l.drop (j + 1) := by
  rw [List.getD_eq_getElem?_getD, List.getElem?_eq_getElem h]
  exact List.drop_eq_getElem_cons h
/-- What the document's dealing hands back. -/
def RetRun (R : Option (List Int) × Nat) (w : World) (e : Ending) (w' : World) : Prop :=
  match R.1 with
  | none => e = .returned (.tuple #[.slice none 0 0, .int .i64 R.2, .int .i64 7]) ∧ Below w.heap.size w w'
  | some q => ∃ g c, e = .returned (.tuple #[.slice (some ⟨g, 0, none⟩) q.length c, .int .i64 R.2, .int .i64 0]) ∧ OwnI w' w.heap.size g q.length c q ∧ Below w.heap.size w w'
theorem RdU.below {w w1 : World} {A : Option Addr} {l : List Int} (h : RdU w A l) (hb : Below w.heap.size w w1) : RdU w1 A l :=
  ⟨h.1, h.2.imp id fun ⟨ad, e, hc⟩ => ⟨ad, e, fun i hi => (hb.cell (World.block_lt_of_cell? w _ (hc i hi))).trans (hc i hi)⟩⟩
set_option maxRecDepth 100000 in
set_option maxHeartbeats 2000000 in
theorem rperm_any (A : Option Addr) (cap : Nat) (l : List Int) (n : Nat) (hn : n ≤ 1048576) (w : World) (hl : l.length ≤ 9223372036854775807) (hr : RdU w A l) :
    Calls Try.prog 90 #[.slice A l.length cap, .int .i64 n] w (RetRun (runO (numL l) (stepPerm n) (bndPerm n) 0 (rowI n) 0) w) := by
  have h1 : decide ((n : Int) < 0) = false := decide_eq_false (by omega)
  have h2 : decide (1048576 < (n : Int)) = false := decide_eq_false (by omega)
  obtain ⟨R, hR⟩ : ∃ R, runO (numL l) (stepPerm n) (bndPerm n) 0 (rowI n) 0 = R := ⟨_, rfl⟩
  rw [hR]
  have HR := Lib.hid hR
  have HU := Lib.hid hr
  have KB := Lib.hid (fun k m w (a : 0 < m) (b : m ≤ 1048576) (c : k ≤ 4611686018427387904) (d : RdU w A l) => rbelow_any A cap l k m a b w hl c d)
  obtain ⟨L, hL⟩ : ∃ L, l.length = L := ⟨_, rfl⟩
  rw [hL] at KB hl ⊢
  clear hR hr hL
  go_enter Try.func90, Try.ntmps90
  go_wp2_with fail
  refine (rrow_any n hn _).mono ?_
  rintro e w1 ⟨g, c, rfl, ho, hb1⟩
  rw [rowI_len] at ho ⊢
  have HO := Lib.hid ho
  clear ho
  go_wp2_with fail
  go_loopw [8, 9] (fun av iv wr => ∃ j k : Nat, j ≤ n - 1 ∧ av = .int .i64 k ∧ iv = .int .i64 ((n : Int) - 1 - j) ∧ k ≤ j * 64 ∧ Hid (∃ q, OwnI wr w.heap.size g n c q ∧ runO (numL l) (stepPerm n) ((bndPerm n).drop j) j q k = R) ∧ Below w.heap.size w wr) (fun _ iv _ => (intOf iv).toNat)
  case atStart => exact ⟨0, 0, Nat.zero_le _, rfl, by go_num, Nat.zero_le _, Lib.hid ⟨rowI n, HO.out, HR.out⟩, hb1⟩
  case round =>
    obtain ⟨j, k, hj, rfl, rfl, hk, HQ, hB⟩ := hrel
    obtain ⟨q, HQ1⟩ : ∃ q, Hid (OwnI wr w.heap.size g n c q ∧ runO (numL l) (stepPerm n) ((bndPerm n).drop j) j q k = R) := by obtain ⟨q, h⟩ := HQ.out; exact ⟨q, Lib.hid h⟩
    by_cases hlt : j < n - 1
    · obtain ⟨i, hi⟩ : ∃ i : Nat, (n : Int) - 1 - j = i := ⟨n - 1 - j, by omega⟩
      rw [hi]
      have hi1 : (1 : Int) ≤ i := by omega
      have hin : i < n := by omega
      have hin' : (i : Int) < n := by omega
      have hm : ((bndPerm n).getD j 0) = (i : Int) + 1 := by rw [bndPerm_get _ _ hlt]; omega
      have hdrop : (bndPerm n).drop j = ((i : Int) + 1) :: (bndPerm n).drop (j + 1) := by rw [← hm]; exact drop_at' (by rw [bndPerm_len]; exact hlt)
      have HD := Lib.hid hdrop
      have hii : n - 1 - j = i := by omega
      have HI := Lib.hid hi
      have HII := Lib.hid hii
      clear hm hdrop hi hii
      go_wp2_with fail
      refine (KB.out k _ wr (by omega) (by omega) (by omega) (HU.out.below hB)).mono ?_
      rintro e w2 ⟨rfl, rfl⟩
      have hkk := @draw_k (numL l) ((i : Int) + 1) 64 k
      rcases hd : drawO (numL l) ((i : Int) + 1) 64 k with ⟨_ | x, k1⟩
      · have hr : R = (none, k1) := by rw [← HQ1.out.2, HD.out, run_none hd]
        have hk1 : k1 = k + 64 := by
          have := draw_none hd
          exact this
        subst hk1
        have HRR := Lib.hid hr
        clear hr hkk hd
        unfold rbelV
        go_wp2_with fail
        refine bodyPost_ret (v := .tuple #[.slice none 0 0, .int .i64 ((k : Int) + 64), .int .i64 7]) (by simp [results, Try.results90, go_sem]) rfl ?_
        rw [HRR.out]
        exact ⟨rfl, hB⟩
      · have hr : runO (numL l) (stepPerm n) ((bndPerm n).drop (j + 1)) (j + 1) (swapL q i x.toNat) k1 = R := by rw [← HQ1.out.2, HD.out, run_some hd, stepPerm, HII.out]
        have hx := draw_lt (by omega) hd
        rw [hd] at hkk
        obtain ⟨t, rfl⟩ : ∃ t, k1 = k + t := ⟨k1 - k, by simp only at hkk; omega⟩
        have ht : t ≤ 64 := by simp only at hkk; omega
        have HRR := Lib.hid hr
        obtain ⟨y, rfl⟩ : ∃ y : Nat, x = y := ⟨x.toNat, by omega⟩
        have hy : y < n := by omega
        have hy' : (y : Int) < n := by omega
        have hwy : IntKind.i64.wrap (y : Int) = y := by rw [IntKind.wrap_i64]; omega
        have htk : k + t - k = t := by omega
        have c1 := HQ1.out.1.at hin
        have c2 := HQ1.out.1.at hy
        have cf := World.ownsRow.frozenAt HQ1.out.1
        have hs := swap_own HQ1.out.1 i y
        obtain ⟨pi, e1⟩ : ∃ px, q.getD i 0 = px := ⟨_, rfl⟩
        obtain ⟨py, e2⟩ : ∃ pk, q.getD y 0 = pk := ⟨_, rfl⟩
        rw [e1] at c1
        rw [e2] at c2
        rw [e1, e2] at hs
        obtain ⟨z, c3⟩ : ∃ z, (wr.setCell ⟨g, i, none⟩ (.int .i64 py)).cell? ⟨g, y, none⟩ = some (.int .i64 z) := by
          have s1 := (World.ownsRow.stored HQ1.out.1 i (.int .i64 py)).1
          rw [ints_set] at s1
          exact ⟨_, OwnI.at s1 hy⟩
        have hgb := (World.ownsRow.lt HQ1.out.1 g rfl).1
        have HNX : Hid (∃ q', OwnI ((wr.setCell ⟨g, i, none⟩ (.int .i64 py)).setCell ⟨g, y, none⟩ (.int .i64 pi)) w.heap.size g n c q' ∧ runO (numL l) (stepPerm n) ((bndPerm n).drop (j + 1)) (j + 1) q' (k + t) = R) := Lib.hid ⟨_, hs.1, by have := HRR.out; rw [Int.toNat_natCast] at this; exact this⟩
        have HBN : Below w.heap.size w ((wr.setCell ⟨g, i, none⟩ (.int .i64 py)).setCell ⟨g, y, none⟩ (.int .i64 pi)) := (hB.setCell (p := ⟨g, i, none⟩) hgb _).setCell (p := ⟨g, y, none⟩) hgb _
        have hk2 : k + t ≤ (j + 1) * 64 := by omega
        have ei : (i : Int) - 1 = (n : Int) - 1 - ((j + 1 : Nat) : Int) := by have := HI.out; omega
        have EI := Lib.hid ei
        clear hr hkk hd hs e1 e2 hx ei hgb
        unfold rbelV
        simp only [htk]
        clear htk
        go_wp2_with fail
        go_roundw
        case rel => exact ⟨j + 1, k + t, hlt, by go_num, by rw [EI.out], hk2, HNX, HBN⟩
        case measure => simp [intOf]; omega
    · have hd : decide (1 ≤ (n : Int) - 1 - j) = false := decide_eq_false (by omega)
      have hr : R = (some q, k) := by
        have := HQ1.out.2
        rw [List.drop_of_length_le (by rw [bndPerm_len]; omega), run_nil] at this
        exact this.symm
      have HRR := Lib.hid hr
      clear hr
      go_wp2_with fail
      refine bodyPost_ret (v := .tuple #[.slice (some ⟨g, 0, none⟩) n c, .int .i64 k, .int .i64 0]) (by simp [results, Try.results90, go_sem]) rfl ?_
      rw [HRR.out]
      have hql := HQ1.out.1.len
      refine ⟨g, c, by rw [hql], by rw [hql]; exact HQ1.out.1, hB⟩
end Go.Proofs.Ytpekofpiodaadaa.Hb
end

section
/- The program's permutation. -/
namespace Go.Proofs.Ytpekofpiodaadaa.Hb
set_option linter.unusedVariables false
open Go.RowKit

theorem RdI.grown {W W' : World} {A : Option Addr} {l : List Int} {row : Option Nat} (h : RdI W A l) (hg : W.grownBy W' row) (hne : ∀ ad, A = some ad → some ad.block ≠ row) : RdI W' A l :=
  ⟨h.1, h.2.imp id fun ⟨ad, e, hc⟩ => ⟨ad, e, fun i hi => by
    have hlt := World.block_lt_of_cell? W _ (hc i hi)
    rw [← hc i hi]
    exact World.cell?_of_block (hg.block _ hlt (by rw [add_block]; exact hne ad e))⟩⟩
theorem grown_c {w w' : World} {row : Option Nat} (h : w.grownBy w' row) {p : Addr} {v : Value} (hne : some p.block ≠ row) (hc : w.cell? p = some v) : w'.cell? p = some v :=
  (World.cell?_of_block (h.block p.block (World.block_lt_of_cell? w _ hc) hne)).trans hc
/-- What the program's dealing hands back. -/
def RetD (R : Option (List Int) × Nat) (J : Nat → World → Prop) (b : Nat) (w : World) (e : Ending) (w' : World) : Prop :=
  w.grownBy w' (some b) ∧ J R.2 w' ∧ match R.1 with
  | none => e = .returned (.tuple #[.slice none 0 0, .int .i64 7])
  | some q => ∃ g c, e = .returned (.tuple #[.slice (some ⟨g, 0, none⟩) q.length c, .int .i64 0]) ∧ OwnI w' w.heap.size g q.length c q
/-- What holds while numbers are dealt into a row. -/
structure IP (w : World) (b N0 g n c gp : Nat) (A : Option Addr) (bs : List Int) (q : List Int) (W : World) : Prop where
  hN : N0 ≤ W.heap.size
  own : OwnI W w.heap.size g n c q
  cp : W.cell? ⟨gp, 0, none⟩ = some (.slice (some ⟨g, 0, none⟩) n c)
  rd : RdI W A bs
  gr : w.grownBy W (some b)
structure IPf (w : World) (b N0 g gp : Nat) (A : Option Addr) : Prop where
  b0 : b < N0
  n0 : N0 ≤ w.heap.size
  g0 : w.heap.size ≤ g
  p0 : w.heap.size ≤ gp
  pg : gp ≠ g
  ag : ∀ ad, A = some ad → ad.block ≠ g ∧ w.heap.size ≤ ad.block
theorem IP.src {w : World} {b N0 g n c gp : Nat} {A : Option Addr} {bs q : List Int} {W W' : World} (f : IPf w b N0 g gp A) (h : IP w b N0 g n c gp A bs q W) (hg : W.grownBy W' (some b)) : IP w b N0 g n c gp A bs q W' where
  hN := Nat.le_trans h.hN hg.size
  own := World.ownsRow.kept h.own hg (.inr (fun e => by have := Option.some.inj e; have := f.g0; have := f.b0; have := f.n0; simp at *; omega))
  cp := grown_c hg (fun e => by have := Option.some.inj e; have := f.p0; have := f.b0; have := f.n0; simp at *; omega) h.cp
  rd := h.rd.grown hg (fun ad e e2 => by have := Option.some.inj e2; have := (f.ag ad e).2; have := f.b0; have := f.n0; omega)
  gr := grown_trans h.gr hg
theorem IP.put {w : World} {b N0 g n c gp : Nat} {A : Option Addr} {bs q q' : List Int} {W W' : World} (f : IPf w b N0 g gp A) (h : IP w b N0 g n c gp A bs q W) (ho : OwnI W' w.heap.size g n c q') (hg : W.grownBy W' (some g)) : IP w b N0 g n c gp A bs q' W' ∧ Below N0 W W' := by
  refine ⟨⟨Nat.le_trans h.hN hg.size, ho, grown_c hg (fun e => f.pg (Option.some.inj e)) h.cp, h.rd.grown hg (fun ad e e2 => (f.ag ad e).1 (Option.some.inj e2)), ?_⟩, ?_⟩
  · exact ⟨hg.os.trans h.gr.os, hg.tape.trans h.gr.tape, hg.output.trans h.gr.output, Nat.le_trans h.gr.size hg.size, fun i hi hr => (hg.block i (Nat.lt_of_lt_of_le hi h.gr.size) (fun e => by have := Option.some.inj e; have := f.g0; omega)).trans (h.gr.block i hi hr)⟩
  · exact ⟨hg.os, hg.tape, hg.output, hg.size, fun i hi => hg.block i (Nat.lt_of_lt_of_le hi h.hN) (fun e => by have := Option.some.inj e; have := f.g0; have := f.n0; omega)⟩
theorem isFn_of {P : Program} {F : FuncId} {fn : Func} (h : P.funcs[F]? = some fn) (hn : (fn.name == "runtime.NumGoroutine") = false) (hb : fn.body.isNone = false) (args : Array Value) (w : World) : (callFunc F args).run P w = .ok (.enter F args) w := by
  have hn' := beq_eq_false_iff_ne.1 hn
  have hb' : ¬ fn.body = none := by intro e; rw [e] at hb; cases hb
  simp [callFunc, h, hn', hb']
theorem isFn_Perm : ∀ (args : Array Value) (w : World), (callFunc 187 args).run Try.prog w = .ok (.enter 187 args) w := isFn_of Try.func187 (by kernel_rfl) (by kernel_rfl)
theorem own_set' {w : World} {base : Nat} {e t : TypeId} {size n g i : Nat} {v u : Value} {xs : List Value} {cs : Array Value} (h : w.ownsRow base e size v n xs) (hb : Blk w g cs t) (hte : t ≠ e) : (w.setCell ⟨g, i, none⟩ u).ownsRow base e size v n xs := by
  refine h.kept (row := some g) ⟨rfl, rfl, rfl, by simp [World.setCell], fun k _ hk => Below.heap_setCell _ _ _ k (fun e => hk (by rw [e]))⟩ ?_
  rcases h.2 with ⟨rfl, _⟩ | ⟨g', cap, cur, rfl, _, hgb, _⟩
  · exact .inl rfl
  · refine .inr fun e' => ?_
    obtain rfl : g' = g := by simpa [Value.ownBlock] using e'
    have := (show w.heap[g']? = _ from hb).symm.trans hgb
    simp only [Option.some.injEq, Obj.cells.injEq] at this
    exact hte this.2.1
theorem take_succ' {l : List Int} {j : Nat} (h : j < l.length) : l.take (j + 1) = l.take j ++ [l.getD j 0] := by
  rw [List.take_add_one, List.getD_eq_getElem?_getD, List.getElem?_eq_getElem h]; rfl
theorem bndPerm_in (n : Nat) (hn : n ≤ 1048576) : ∀ z ∈ bndPerm n, 0 < z ∧ z ≤ 1048576 := by
  intro z hz
  simp only [bndPerm, List.mem_map, List.mem_range] at hz
  obtain ⟨i, hi, rfl⟩ := hz
  omega
set_option maxRecDepth 100000 in
set_option maxHeartbeats 2000000 in
theorem perm_any {v : Value} {b N0 : Nat} {num : Nat → Int} {J : Nat → World → Prop} (S : Src v b N0 num J) (n : Nat) (hn : n ≤ 1048576) (k : Nat) (hk : k ≤ 1048576) (w : World) (hN : N0 ≤ w.heap.size) (hJ : J k w) :
    Calls Try.prog 145 #[v, .int .i64 n] w (RetD (runO num (stepPerm n) (bndPerm n) 0 (rowI n) k) J b w) := by
  obtain ⟨i0, hi, hz0, hz1, hz2⟩ := info_parts info_int
  have h1 : decide ((n : Int) < 0) = false := decide_eq_false (by omega)
  have h2 : decide (1048576 < (n : Int)) = false := decide_eq_false (by omega)
  have HJ := Lib.hid hJ
  have HS := Lib.hid S
  have HNN := Lib.hid hN
  have HKK := Lib.hid hk
  obtain ⟨R, hR⟩ : ∃ R, runO num (stepPerm n) (bndPerm n) 0 (rowI n) k = R := ⟨_, rfl⟩
  rw [hR]
  have HRR := Lib.hid hR
  clear hJ S hN hk hR
  go_enter Try.func145, Try.ntmps145
  go_wp2_with fail
  refine (row_any n hn _).mono ?_
  rintro e w1 ⟨g, c, rfl, ho, hb1⟩
  rw [rowI_len] at ho ⊢
  have HO := Lib.hid ho
  clear ho
  go_wp2_with fail
  have n0 := World.ownsRow.lt HO.out g rfl
  have s1 := hb1.size
  obtain ⟨W2, e2⟩ : ∃ W, W = (w1.alloc (.cells #[.slice (some ⟨g, 0, none⟩) n c] 24)).alloc (.cells #[.slice none 0 0] 24) := ⟨_, rfl⟩
  rw [← e2]
  have kP : Blk W2 w1.heap.size #[.slice (some ⟨g, 0, none⟩) n c] 24 := by rw [e2]; exact (Blk.new w1 _ _).below ((Below.refl _ _).alloc (Nat.le_refl _) _)
  have kB : Blk W2 (w1.heap.size + 1) #[.slice none 0 0] 24 := by rw [e2]; have := Blk.new (w1.alloc (.cells #[.slice (some ⟨g, 0, none⟩) n c] 24)) #[.slice none 0 0] 24; simpa using this
  have hb2 : Below w1.heap.size w1 W2 := by rw [e2]; exact ((Below.refl _ w1).alloc (Nat.le_refl _) _).alloc (by simp) _
  have ho2 : OwnI W2 w.heap.size g n c (rowI n) := own_below HO.out hb2
  have hbw : Below w.heap.size w W2 := hb1.trans (hb2.mono s1)
  have s2 : W2.heap.size = w1.heap.size + 1 + 1 := by rw [e2]; simp
  clear e2 hb2
  obtain ⟨gp, hgp⟩ : ∃ gp, w1.heap.size = gp := ⟨_, rfl⟩
  rw [hgp] at kP kB s2 n0 s1 ⊢
  have HGP := Lib.hid hgp
  clear hgp
  have X0 : Hid (Blk W2 gp #[.slice (some ⟨g, 0, none⟩) n c] 24 ∧ OwnI W2 w.heap.size g n c (rowI n) ∧ Below w.heap.size w W2) := Lib.hid ⟨kP, ho2, hbw⟩
  have B0 := Lib.hid kB
  clear kP kB ho2 hbw
  go_loopw [8] (fun iv wr => ∃ j : Nat, j ≤ n - 1 ∧ iv = .int .i64 ((n : Int) - j) ∧ (∃ o, Blk wr (gp + 1) #[o] 24 ∧ wr.ownsRow w.heap.size 3 1 o j (ints ((bndPerm n).take j)) ∧ (∀ q, o.ownBlock = some q → q ≠ g ∧ w.heap.size ≤ q)) ∧ Hid (Blk wr gp #[.slice (some ⟨g, 0, none⟩) n c] 24 ∧ OwnI wr w.heap.size g n c (rowI n) ∧ Below w.heap.size w wr)) (fun iv _ => (intOf iv).toNat)
  case atStart => exact ⟨0, Nat.zero_le _, by go_num, ⟨_, B0.out, World.ownsRow_nil _ _ _ _, fun q h => by cases h⟩, X0⟩
  case round =>
    obtain ⟨j, hj, rfl, ⟨o, kB, hrow, hob⟩, X⟩ := hrel
    have gpw := X.out.1.lt
    by_cases hlt : j < n - 1
    · obtain ⟨z, hz⟩ : ∃ z : Nat, (n : Int) - j = z := ⟨n - j, by omega⟩
      rw [hz]
      have hz1' : (1 : Int) < z := by omega
      have hz2' : z ≤ 1048576 := by omega
      have hget : (bndPerm n).getD j 0 = (z : Int) := by rw [bndPerm_get n j hlt]; omega
      have htk : (bndPerm n).take (j + 1) = (bndPerm n).take j ++ [(z : Int)] := by rw [take_succ' (by rw [bndPerm_len]; exact hlt), hget]
      have HT := Lib.hid htk
      have HZ := Lib.hid hz
      have HROW := Lib.hid hrow
      have HOB := Lib.hid hob
      have HKB := Lib.hid kB
      have gbw := kB.lt
      have q0 := kB.cell 0
      simp only [List.getElem?_toArray, List.getElem?_cons_zero] at q0
      clear hget htk hz hrow hob kB
      go_wp2_with (at_builtin; refine Hid.out ?_)
      refine Lib.hid ?_
      refine wpList_append_own_at _ rfl _ _ 24 rfl w.heap.size 3 i0 (.int .i64 0) 1 8 Try.underlying24 hi hz0 hz1 hz2 rfl (by decide) o j _ rfl (HROW.out.alloc _) ⟨wr.heap.size, 0, none⟩ 1 1 [.int .i64 z] rfl rfl (cell_one_new _ _ _) (by simp [Value.oneCell']) (by unfold maxLen; omega) (by omega) (by have := X.out.2.2.size; simp; omega) ?_
      intro v' w3 hown' hgrow _ hat
      obtain ⟨g3, c3, ev, _⟩ := own_open hown' (by omega)
      subst ev
      have hgb : ∀ q, o.ownBlock = some q → q ≠ gp ∧ q ≠ gp + 1 := fun q hq => by
        rcases HROW.out.2 with ⟨rfl, _⟩ | ⟨g', cap', cur, rfl, _, hg', _⟩
        · cases hq
        · have := Option.some.inj hq
          simp only at this
          subst this
          refine ⟨fun e => ?_, fun e => ?_⟩
          · subst e
            have := (show wr.heap[g']? = _ from X.out.1).symm.trans hg'
            cases this
          · subst e
            have := (show wr.heap[gp + 1]? = _ from HKB.out).symm.trans hg'
            cases this
      have kP3 := blk_grown (X.out.1.below ((Below.refl _ _).alloc (Nat.le_refl _) (.cells #[.int .i64 z] 3))) hgrow (fun e => (hgb _ e.symm).1 rfl)
      have kB3 := blk_grown (HKB.out.below ((Below.refl _ _).alloc (Nat.le_refl _) (.cells #[.int .i64 z] 3))) hgrow (fun e => (hgb _ e.symm).2 rfl)
      have ho3 : OwnI w3 w.heap.size g n c (rowI n) := World.ownsRow.kept (X.out.2.1.alloc _) hgrow (.inr (fun e => (HOB.out _ e.symm).1 rfl))
      have hb3 : Below w.heap.size w w3 := (X.out.2.2.alloc X.out.2.2.size _).grown hgrow (by have := X.out.2.2.size; simp; omega) (fun q e => (HOB.out q e).2)
      have hob3 : ∀ q, (Value.slice (some ⟨g3, 0, none⟩) (j + 1) c3).ownBlock = some q → q ≠ g ∧ w.heap.size ≤ q := fun q hq => by
        rcases hat with h | h
        · exact HOB.out q (h ▸ hq)
        · rw [h] at hq
          have := Option.some.inj hq
          have h2 := (World.ownsRow.lt X.out.2.1 g rfl)
          have h3 := X.out.2.2.size
          simp at this
          omega
      have pf := kB3.frozen
      have p0 := kB3.cell 0
      simp only [List.getElem?_toArray, List.getElem?_cons_zero] at p0
      have X3 : Hid (Blk (w3.setCell ⟨gp + 1, 0, none⟩ (.slice (some ⟨g3, 0, none⟩) (j + 1) c3)) gp #[.slice (some ⟨g, 0, none⟩) n c] 24 ∧ OwnI (w3.setCell ⟨gp + 1, 0, none⟩ (.slice (some ⟨g3, 0, none⟩) (j + 1) c3)) w.heap.size g n c (rowI n) ∧ Below w.heap.size w (w3.setCell ⟨gp + 1, 0, none⟩ (.slice (some ⟨g3, 0, none⟩) (j + 1) c3))) := Lib.hid ⟨kP3.other (by show gp ≠ gp + 1; omega) _, own_set' ho3 kB3 (by decide), hb3.setCell (by show w.heap.size ≤ gp + 1; omega) _⟩
      have R3 : Hid (∃ o, Blk (w3.setCell ⟨gp + 1, 0, none⟩ (.slice (some ⟨g3, 0, none⟩) (j + 1) c3)) (gp + 1) #[o] 24 ∧ (w3.setCell ⟨gp + 1, 0, none⟩ (.slice (some ⟨g3, 0, none⟩) (j + 1) c3)).ownsRow w.heap.size 3 1 o (j + 1) (ints ((bndPerm n).take (j + 1))) ∧ (∀ q, o.ownBlock = some q → q ≠ g ∧ w.heap.size ≤ q)) := Lib.hid ⟨_, kB3.set 0 _, by rw [HT.out, ints_snoc]; exact own_set' hown' kB3 (by decide), hob3⟩
      clear hown' hgrow hat kP3 kB3 ho3 hb3 hob3 hgb q0
      go_wp2_with fail
      go_roundw
      case rel => exact ⟨j + 1, hlt, by have := HZ.out; congr 1; omega, R3.out, X3⟩
      case measure => simp [intOf]; omega
    · have hd : decide (1 < (n : Int) - j) = false := decide_eq_false (by omega)
      obtain ⟨A, cap, rfl⟩ := own_slice hrow
      have hjl : (bndPerm n).length = j := by rw [bndPerm_len]; omega
      rw [← hjl, List.take_length] at hrow
      have hrd : RdI wr A (bndPerm n) := RdI.own (n := j) (c := cap) (by rw [hjl] at hrow ⊢; exact hrow) (fun x hx => by have := bndPerm_in n hn x hx; unfold inR; omega)
      have f : IPf w b N0 g gp A := ⟨HS.out.hb, HNN.out, n0.1, s1, by omega, fun ad e => by
        subst e
        exact hob _ rfl⟩
      have hp : IP w b N0 g n c gp A (bndPerm n) (rowI n) wr := ⟨Nat.le_trans HNN.out X.out.2.2.size, X.out.2.1, by have := X.out.1.cell 0; exact this, hrd, grown_below X.out.2.2⟩
      have q0 := kB.cell 0
      simp only [List.getElem?_toArray, List.getElem?_cons_zero] at q0
      have hgb : gp + 1 ≠ g := by omega
      have hgb2 : gp + 1 ≠ b := by have := HS.out.hb; have := HNN.out; omega
      have KD := draws_any HS.out 187 isFn_Perm #[.pointer (some ⟨gp + 1, 0, none⟩), .pointer (some ⟨gp, 0, none⟩)] (bndPerm n) A cap (stepPerm n)
        (fun _ q W => IP w b N0 g n c gp A (bndPerm n) q W ∧ W.cell? ⟨gp + 1, 0, none⟩ = some (.slice A (bndPerm n).length cap)) (bndPerm_in n hn) (by rw [bndPerm_len]; omega)
        (fun _ _ _ h => h.1.hN) (fun _ _ _ _ h hg => ⟨h.1.src f hg, grown_c hg (fun e => hgb2 (Option.some.inj e)) h.2⟩) (fun _ _ _ h => h.1.rd)
        (fun i q x W hi h0 h1 h => by
          obtain ⟨y, rfl⟩ : ∃ y : Nat, x = y := ⟨x.toNat, by omega⟩
          rw [bndPerm_len] at hi
          rw [bndPerm_get n i hi] at h1
          obtain ⟨ad, e, ha⟩ := h.1.rd.at (k := i) (by rw [bndPerm_len]; exact hi)
          have hbi := ha i (by rw [bndPerm_len]; exact hi)
          rw [bndPerm_get n i hi, show ((n - i : Nat) : Int) = ((n - 1 - i : Nat) : Int) + 1 by omega] at hbi
          have hcl := h.2
          rw [e] at hcl
          refine (doPerm_any w.heap.size g gp (gp + 1) n c q ad _ cap i (n - 1 - i) y W (by rw [bndPerm_len]; exact hi) (by omega) (by omega) hn h.1.own f.pg h.1.cp hcl hbi).mono ?_
          rintro e2 W' ⟨hu, ho, hg⟩
          have hput := h.1.put f (q' := stepPerm n q i (y : Int)) ho hg
          exact ⟨hu, ⟨hput.1, grown_c hg (fun e => hgb (Option.some.inj e)) h.2⟩, hput.2⟩)
        k HKK.out (rowI n) wr (HS.out.keep _ _ _ HJ.out (X.out.2.2.mono HNN.out)) ⟨hp, by rw [hjl]; exact q0⟩
      rw [hjl] at KD
      rw [HRR.out] at KD
      have KDH := Lib.hid KD
      have F := Lib.hid f
      clear KD hrow hob hrd hp hjl f kB X
      go_wp2_with fail
      refine KDH.out.mono ?_
      rintro e w5 ⟨rfl, hJ5, i5, q5, hI5, hq5⟩
      clear HRR KDH
      obtain ⟨Ro, Rk⟩ := R
      cases Ro with
      | none =>
        have HH : Hid (w.grownBy w5 (some b) ∧ J Rk w5) := Lib.hid ⟨hI5.1.gr, hJ5⟩
        clear hI5 hq5 hJ5
        unfold errR
        go_wp2_with fail
        go_ret2
        exact ⟨HH.out.1, HH.out.2, rfl⟩
      | some q =>
        obtain ⟨rfl, _⟩ := hq5 q rfl
        have HH : Hid (w.grownBy w5 (some b) ∧ J Rk w5 ∧ OwnI w5 w.heap.size g n c q5) := Lib.hid ⟨hI5.1.gr, hJ5, hI5.1.own⟩
        have c5 := hI5.1.cp
        clear hI5 hq5 hJ5
        unfold errR
        go_wp2_with fail
        go_ret2
        have hql := HH.out.2.2.len
        exact ⟨HH.out.1, HH.out.2.1, g, c, by rw [hql]; rfl, by rw [hql]; exact HH.out.2.2⟩
end Go.Proofs.Ytpekofpiodaadaa.Hb
end

section
/- A permutation that is dealt: each number once. -/
namespace Go.Proofs.Ytpekofpiodaadaa.Hb
set_option linter.unusedVariables false
open Go.RowKit

theorem swap_perm {p : List Int} {i j : Nat} (hi : i < p.length) (hj : j < p.length) : (swapL p i j).Perm p := by
  rw [List.perm_iff_count]
  intro z
  unfold swapL
  have ei : p.getD i 0 = p[i] := by rw [List.getD_eq_getElem?_getD, List.getElem?_eq_getElem hi]; rfl
  have ej : p.getD j 0 = p[j] := by rw [List.getD_eq_getElem?_getD, List.getElem?_eq_getElem hj]; rfl
  rw [ei, ej]
  have hj' : j < (p.set i p[j]).length := by rw [List.length_set]; exact hj
  have e1 : (p.set i p[j])[j] = p[j] := by
    rw [List.getElem_set]; split
    · rfl
    · rfl
  rw [List.count_set (h := hj'), e1, List.count_set (h := hi)]
  have h1 : (if p[i] == z then 1 else 0) ≤ List.count z p := by
    split
    · rename_i h
      have : p[i] = z := by simpa using h
      exact List.count_pos_iff.2 (this ▸ List.getElem_mem hi)
    · omega
  omega
theorem rowI_nodup (n : Nat) : (rowI n).Nodup := by
  unfold rowI
  rw [List.nodup_iff_pairwise_ne, List.pairwise_map]
  exact (List.nodup_iff_pairwise_ne.1 List.nodup_range).imp (fun h e => h (by omega))
theorem rowI_sorted (n : Nat) : (rowI n).Pairwise (· ≤ ·) := by
  unfold rowI
  rw [List.pairwise_map]
  exact (List.pairwise_lt_range).imp (fun h => by omega)
theorem rowI_mem (n : Nat) (x : Int) : x ∈ rowI n ↔ 0 ≤ x ∧ x < n := by
  simp only [rowI, List.mem_map, List.mem_range]
  constructor
  · rintro ⟨i, hi, rfl⟩; omega
  · intro h; exact ⟨x.toNat, by omega, by omega⟩
theorem draw_some_k {num : Nat → Int} {n : Int} : ∀ {f k : Nat} {x : Int} {k' : Nat}, drawO num n f k = (some x, k') → k < k'
  | 0, k, x, k', h => by cases h
  | f + 1, k, x, k', h => by
    by_cases hc : num k < limD n
    · rw [draw_hit hc] at h; cases h; omega
    · rw [draw_miss hc] at h
      have := draw_some_k h
      omega
theorem run_k {num : Nat → Int} {step : List Int → Nat → Int → List Int} : ∀ (ns : List Int) (i k : Nat) (p q : List Int) (k' : Nat), runO num step ns i p k = (some q, k') → k + ns.length ≤ k'
  | [], i, k, p, q, k', h => by rw [run_nil] at h; cases h; exact Nat.le_refl _
  | n :: ns, i, k, p, q, k', h => by
    rcases hd : drawO num n 64 k with ⟨_ | x, k1⟩
    · rw [run_none hd] at h; cases h
    · rw [run_some hd] at h
      have h1 := draw_some_k hd
      have h2 := run_k ns _ _ _ _ _ h
      simp only [List.length_cons]
      omega
theorem permR_perm {num : Nat → Int} {n k Rk : Nat} {q : List Int} (hn : n ≤ 1048576) (h : runO num (stepPerm n) (bndPerm n) 0 (rowI n) k = (some q, Rk)) : q.Perm (rowI n) := by
  have := run_inv (step := stepPerm n) (fun _ p => p.Perm (rowI n)) (bndPerm n) 0 k (rowI n) q Rk (fun j b r x hj h0 h1 hP => by
    have hjl := (List.getElem?_eq_some_iff.1 hj).1
    rw [bndPerm_len] at hjl
    have hb := bndPerm_get n j hjl
    rw [List.getD_eq_getElem?_getD, hj] at hb
    simp only [Option.getD_some] at hb
    have hlen : r.length = n := by rw [hP.length_eq, rowI_len]
    exact (swap_perm (by rw [hlen]; omega) (by rw [hlen]; omega)).trans hP) (fun z hz => (bndPerm_in n hn z hz).1) (List.Perm.refl _) h
  exact this
end Go.Proofs.Ytpekofpiodaadaa.Hb
end

section
/- Whether numbers are a permutation: the program's way (a set) and the document's (counting). -/
namespace Go.Proofs.Ytpekofpiodaadaa.Hb
set_option linter.unusedVariables false
set_option linter.unusedSimpArgs false
open Go.RowKit Go.Maps

theorem count_le_one {l : List Int} (h : l.Nodup) (z : Int) : l.count z ≤ 1 := by
  induction l with
  | nil => simp
  | cons x r ih =>
    obtain ⟨h1, h2⟩ := List.nodup_cons.1 h
    rw [List.count_cons]
    have := ih h2
    split
    · rename_i e
      have e' : x = z := by simpa using e
      subst e'
      rw [List.count_eq_zero.2 h1]; omega
    · omega
theorem perm_count {p : List Int} {n : Nat} (h : p.Perm (rowI n)) {i : Nat} (hi : i < n) : p.count (i : Int) = 1 := by
  have h1 := count_le_one (h.symm.nodup (rowI_nodup n)) (i : Int)
  have h2 : (i : Int) ∈ p := h.mem_iff.2 ((rowI_mem n _).2 ⟨by omega, by omega⟩)
  have := List.count_pos_iff.2 h2
  omega
theorem perm_in {p : List Int} {n : Nat} (h : p.Perm (rowI n)) : ∀ x ∈ p, 0 ≤ x ∧ x < n := fun x hx => (rowI_mem n x).1 (h.mem_iff.1 hx)
theorem perm_len {p : List Int} {n : Nat} (h : p.Perm (rowI n)) : p.length = n := by rw [h.length_eq, rowI_len]
def keyL (x : Int) : Lit := .int .i64 x
theorem addKey_all : ∀ (xs L : List Int), (L ++ xs).Nodup → (xs.map keyL).foldl addKey (L.map keyL) = (L ++ xs).map keyL
  | [], L, _ => by simp
  | x :: r, L, h => by
    have hx : x ∉ L := fun hx => by
      have := (List.nodup_append.1 h).2.2 x hx x (List.mem_cons_self ..)
      exact this rfl
    have e : (L.map keyL).any (fun y => y.sameKey (keyL x)) = false := by
      rw [List.any_eq_false]
      intro y hy
      obtain ⟨z, hz, rfl⟩ := List.mem_map.1 hy
      rw [sameKey_ne (fun e => by unfold keyL at e; injection e with _ e2; exact hx (e2 ▸ hz))]
      simp
    rw [List.map_cons, List.foldl_cons]
    have e2 : addKey (L.map keyL) (keyL x) = (L ++ [x]).map keyL := by
      unfold addKey
      rw [e]
      simp
    rw [e2, addKey_all r (L ++ [x]) (by rw [List.append_assoc]; exact h), List.append_assoc]
    rfl
def Sn {H : Type} (p : List Int) (k : Nat) : DataW H := setOf (.agg []) ((p.take k).map keyL)
theorem Sn_zero {H : Type} (p : List Int) : Sn (H := H) p 0 = .map [] := by simp [Sn, setOf]
theorem Sn_succ {H : Type} {p : List Int} {k : Nat} (hk : k < p.length) : Sn (H := H) p (k + 1) = (Sn p k).put (keyL (p.getD k 0)) (.agg []) := by
  unfold Sn
  rw [List.take_add_one, List.getElem?_eq_getElem hk, List.map_append]
  simp only [Option.toList_some, List.map_cons, List.map_nil]
  rw [setOf_snoc, List.getD_eq_getElem?_getD, List.getElem?_eq_getElem hk]
  rfl
theorem Sn_size {H : Type} {p : List Int} (h : p.Nodup) : Maps.size (Sn (H := H) p p.length) = p.length := by
  unfold Sn
  rw [List.take_length, size_setOf _ _ (fun x hx => by obtain ⟨z, _, rfl⟩ := List.mem_map.1 hx; exact trivial)]
  have := addKey_all p [] (by simpa using h)
  simp only [List.map_nil, List.nil_append] at this
  rw [this, List.length_map]
set_option maxRecDepth 100000 in
set_option maxHeartbeats 2000000 in
theorem permutes_any (p : List Int) (A : Option Addr) (cap n : Nat) (w : World) (hr : RdI w A p) (hp : p.Perm (rowI n)) (hn : n ≤ 1048576) :
    Calls Try.prog 190 #[.slice A n cap, .int .i64 n] w fun e w' => e = .returned (.bool true) ∧ Below w.heap.size w w' := by
  have hmm := @run_makeMap Try.prog
  have HL := Lib.hid (perm_len hp)
  have HIN := Lib.hid (perm_in hp)
  have HS : Hid (Maps.size (Sn (H := Unit) p n) = n) := Lib.hid (by
    have := Sn_size (H := Unit) (hp.symm.nodup (rowI_nodup n))
    rwa [perm_len hp] at this)
  have HR := Lib.hid hr
  have law := int_keyed Try.underlying3
  clear hr hp
  go_enter Try.func190, Try.ntmps190
  go_wp2_with fail
  go_loopw [11] (fun iv wr => ∃ k : Nat, k ≤ n ∧ iv = .int .i64 k ∧ Hid (wr.ownsMap Try.prog 3 unitElem w.heap.size k (Sn (H := Unit) p k)) ∧ Hid (Below w.heap.size w wr)) (fun iv _ => n - (intOf iv).toNat)
  case atStart => exact ⟨0, Nat.zero_le _, rfl, Lib.hid (by rw [Sn_zero]; exact World.ownsMap_made _ _ _ _), Lib.hid ((Below.refl _ _).alloc (Nat.le_refl _) _)⟩
  case round =>
    obtain ⟨k, hk, rfl, HO, HB⟩ := hrel
    by_cases hlt : k < n
    · have hlt' : (k : Int) < n := by omega
      obtain ⟨ad, rfl, hc0⟩ := (HR.out.below HB.out).at (k := k) (by rw [HL.out]; exact hlt)
      have hc := hc0 k (by rw [HL.out]; exact hlt)
      have hin := HIN.out (p.getD k 0) (by rw [List.getD_eq_getElem?_getD, List.getElem?_eq_getElem (by rw [HL.out]; exact hlt)]; exact List.getElem_mem _)
      have HSN : Hid (Sn (H := Unit) p (k + 1) = (Sn p k).put (keyL (p.getD k 0)) (.agg [])) := Lib.hid (Sn_succ (by rw [HL.out]; exact hlt))
      obtain ⟨x, hx⟩ : ∃ x, p.getD k 0 = x := ⟨_, rfl⟩
      rw [hx] at hc hin HSN
      obtain ⟨x1, x2⟩ := hin
      have e1 : decide (x < 0) = false := decide_eq_false (by omega)
      have e2 : decide ((n : Int) ≤ x) = false := decide_eq_false (by omega)
      have HKEY : Hid (keyOf Try.prog 3 (.int .i64 x) = some (keyL x)) := Lib.hid (keyOf_int_mk Try.underlying3 (WalkArith.wf_i64 (by omega)))
      clear hc0 hx
      go_wp2_with (at_mapUpdate; refine wpList_mapUpdate_own _ rfl _ _ _ 295 rfl 3 296 law Try.underlying295 (unitElem (H := Unit)) w.heap.size k _ rfl HO.out (by unfold maxLen; omega) _ _ _ rfl rfl HKEY.out _ [] unitElem_mk ?_; intro w1 hown1 hgrow1)
      go_roundw
      case rel => exact ⟨k + 1, hlt, by go_num, Lib.hid (by rw [HSN.out]; exact hown1), Lib.hid (HB.out.grown hgrow1 HB.out.size (fun j hj => by cases hj; exact Nat.le_refl _))⟩
      case measure => simp [intOf]; omega
    · obtain rfl : k = n := by omega
      have hs := HS.out
      have e1 : ((k : Int) == k) = true := by simp
      have hlen := HO.out.len (t := 295) Try.underlying295 3
      rw [hs] at hlen
      go_wp2_with fail
      go_ret
      exact ⟨rfl, HB.out⟩
set_option maxRecDepth 100000 in
set_option maxHeartbeats 2000000 in
theorem rpermutes_any (p : List Int) (A : Option Addr) (cap n : Nat) (w : World) (hr : RdI w A p) (hp : p.Perm (rowI n)) (hn : n ≤ 1048576) :
    Calls Try.prog 154 #[.slice A n cap, .int .i64 n] w fun e w' => e = .returned (.bool true) ∧ w' = w := by
  have HL := Lib.hid (perm_len hp)
  have HC := Lib.hid (fun (i : Nat) (hi : i < n) => perm_count hp hi)
  have HR := Lib.hid hr
  have e0 : ((n : Int) != n) = false := by simp
  have e0' : (n != n) = false := by simp
  clear hr hp
  go_enter Try.func154, Try.ntmps154
  go_wp2_with fail
  go_loopw [5] (fun iv wr => ∃ i : Nat, i ≤ n ∧ iv = .int .i64 i ∧ Hid (wr = w)) (fun iv _ => n - (intOf iv).toNat)
  case atStart => exact ⟨0, Nat.zero_le _, rfl, Lib.hid rfl⟩
  case round =>
    obtain ⟨i, hi, rfl, HW⟩ := hrel
    by_cases hlt : i < n
    · have hlt' : (i : Int) < n := by omega
      have HCi := Lib.hid (HC.out i hlt)
      obtain ⟨wo, hwo⟩ : ∃ x, x = wr := ⟨_, rfl⟩
      subst hwo
      go_wp2_with fail
      go_loopw [6, 7] (fun tv kv wr => ∃ (k m : Nat), k ≤ n ∧ m ≤ k ∧ kv = .int .i64 k ∧ tv = .int .i64 m ∧ Hid ((p.take k).count (i : Int) = m) ∧ Hid (wr = w)) (fun _ kv _ => n - (intOf kv).toNat)
      case atStart => exact ⟨0, 0, Nat.zero_le _, Nat.le_refl _, rfl, rfl, Lib.hid (by simp), HW⟩
      case round =>
        obtain ⟨k, m, hk, hm, rfl, rfl, HM, HW2⟩ := hrel
        by_cases hltk : k < n
        · have hltk' : (k : Int) < n := by omega
          have hkl : k < p.length := by rw [HL.out]; exact hltk
          obtain ⟨ad, rfl, hc0⟩ := HR.out.at hkl
          have hc := hc0 k hkl
          rw [← HW2.out] at hc
          have HT : Hid ((p.take (k + 1)).count (i : Int) = (p.take k).count (i : Int) + if p.getD k 0 == (i : Int) then 1 else 0) := Lib.hid (by
            rw [List.take_add_one, List.getElem?_eq_getElem hkl, List.count_append, List.getD_eq_getElem?_getD, List.getElem?_eq_getElem hkl]
            simp [List.count_singleton])
          obtain ⟨x, hx⟩ : ∃ x, p.getD k 0 = x := ⟨_, rfl⟩
          rw [hx] at hc HT
          obtain ⟨z, hz⟩ : ∃ z, (x == (i : Int)) = z := ⟨_, rfl⟩
          rw [hz, HM.out] at HT
          clear hc0 hx hkl
          cases z with
          | true =>
            go_wp2_with fail
            go_roundw
            case rel => exact ⟨k + 1, m + 1, hltk, by omega, by go_num, by go_num, Lib.hid (by rw [HT.out]; rfl), HW2⟩
            case measure => simp [intOf]; omega
          | false =>
            go_wp2_with fail
            go_roundw
            case rel => exact ⟨k + 1, m, hltk, by omega, by go_num, rfl, Lib.hid (by rw [HT.out]; rfl), HW2⟩
            case measure => simp [intOf]; omega
        · obtain rfl : n = k := by omega
          have hm1 : m = 1 := by
            have := HM.out
            rw [List.take_of_length_le (by rw [HL.out]; exact Nat.le_refl _), HCi.out] at this
            exact this.symm
          subst hm1
          go_wp2_with fail
          go_roundw
          case rel => exact ⟨i + 1, hlt, by go_num, HW2⟩
          case measure => simp [intOf]; omega
    · obtain rfl : n = i := by omega
      go_wp2_with fail
      go_ret
      exact ⟨rfl, HW.out⟩
end Go.Proofs.Ytpekofpiodaadaa.Hb
end

section
/- A draw below a bound, of a source that is a stream. -/
namespace Go.Proofs.Ytpekofpiodaadaa.Hb
set_option linter.unusedVariables false
open Go.RowKit

set_option maxRecDepth 100000 in
set_option maxHeartbeats 1000000 in
theorem belowS_any (b : Nat) (num : Nat → Int) (J : Nat → World → Prop) (hnum : ∀ k, 0 ≤ num k)
    (hnext : ∀ k W, k ≤ 4611686018427387968 → J k W → Calls Try.prog 251 #[.pointer (some ⟨b, 0, none⟩)] W fun e W' => e = .returned (.int .u64 (num k)) ∧ J (k + 1) W' ∧ W.grownBy W' (some b))
    (n : Int) (k : Nat) (w : World) (h1 : 0 < n) (h2 : n ≤ 1048576) (hk : k ≤ 4611686018427387904) (hJ : J k w) :
    Calls Try.prog 211 #[.iface 225 (.pointer (some ⟨b, 0, none⟩)), .int .u64 n] w fun e W' => e = .returned (belV (drawO num n 64 k)) ∧ J (drawO num n 64 k).2 W' ∧ w.grownBy W' (some b) := by
  have hz : (n == 0) = false := beq_eq_false_iff_ne.2 (by omega)
  have hsp := spare_is n h1 h2
  obtain ⟨L, hL⟩ : ∃ L, limD n - 1 = L := ⟨_, rfl⟩
  rw [hL] at hsp
  have HL := Lib.hid hL
  clear hL
  have HJ := Lib.hid hJ
  have HK := Lib.hid hk
  have HN := Lib.hid hnext
  have HU := Lib.hid hnum
  clear hJ hk hnext hnum
  go_enter Try.func211, Try.ntmps211
  go_wp2_with fail
  go_loopw [14] (fun iv wr => ∃ i kk : Nat, i ≤ 64 ∧ iv = .int .i64 i ∧ Hid (kk ≤ k + i ∧ drawO num n 64 k = drawO num n (64 - i) kk ∧ J kk wr ∧ w.grownBy wr (some b))) (fun iv _ => 64 - (intOf iv).toNat)
  case atStart => exact ⟨0, k, Nat.zero_le _, rfl, Lib.hid ⟨Nat.le_refl _, rfl, HJ.out, grown_refl _ _⟩⟩
  case round =>
    obtain ⟨i, kk, hi, rfl, HR⟩ := hrel
    by_cases hlt : i < 64
    · have hlt' : (i : Int) < 64 := by omega
      go_wp2_with fail
      refine (HN.out kk _ (by have := HR.out.1; have := HK.out; omega) HR.out.2.2.1).mono ?_
      rintro e w1 ⟨rfl, hJ1, hg1⟩
      obtain ⟨x, hx⟩ : ∃ x, num kk = x := ⟨_, rfl⟩
      rw [hx]
      have hx0 : 0 ≤ x := by rw [← hx]; exact HU.out kk
      by_cases hc : x ≤ L
      · have hd : decide (x ≤ L) = true := decide_eq_true hc
        have hhit : drawO num n 64 k = (some (x % n), kk + 1) := by
          rw [HR.out.2.1, show 64 - i = (64 - i - 1) + 1 by omega, draw_hit (by rw [hx]; have := HL.out; omega), hx]
        have HH := Lib.hid hhit
        have HG := Lib.hid (grown_trans HR.out.2.2.2 hg1)
        have HJ1 := Lib.hid hJ1
        clear hhit hg1 hJ1 hc hx
        go_wp2_with fail
        go_ret2
        rw [HH.out]
        exact ⟨rfl, HJ1.out, HG.out⟩
      · have hd : decide (x ≤ L) = false := decide_eq_false hc
        have hhit : drawO num n 64 k = drawO num n (64 - (i + 1)) (kk + 1) := by
          rw [HR.out.2.1, show 64 - i = (64 - (i + 1)) + 1 by omega, draw_miss (by rw [hx]; have := HL.out; omega)]
        have HH : Hid (kk + 1 ≤ k + (i + 1) ∧ drawO num n 64 k = drawO num n (64 - (i + 1)) (kk + 1) ∧ J (kk + 1) w1 ∧ w.grownBy w1 (some b)) := Lib.hid ⟨by have := HR.out.1; omega, hhit, hJ1, grown_trans HR.out.2.2.2 hg1⟩
        clear hhit hg1 hJ1 hc hx
        go_wp2_with fail
        go_roundw
        case rel => exact ⟨i + 1, kk + 1, hlt, by go_num, HH⟩
        case measure => simp [intOf]; omega
    · obtain rfl : i = 64 := by omega
      have hhit : drawO num n 64 k = (none, kk) := by rw [HR.out.2.1]; rfl
      have HH := Lib.hid hhit
      clear hhit
      go_wp2_with fail
      go_ret2
      rw [HH.out]
      exact ⟨rfl, HR.out.2.2.1, HR.out.2.2.2⟩
end Go.Proofs.Ytpekofpiodaadaa.Hb
end

section
/- A key's stream as a source. -/
namespace Go.Proofs.Ytpekofpiodaadaa.Hb
set_option linter.unusedVariables false
open Go.RowKit

def xsF (z s : Int) : Int := bits .xor .u64 z (z / s)
def mixF (x : Int) : Int := xsF (IntKind.u64.wrap (xsF (IntKind.u64.wrap (xsF (IntKind.u64.wrap (x + 11400714819323198485)) 1073741824 * 13787848793156543929)) 134217728 * 10723151780598845931)) 2147483648
theorem bits_u64 (o : BinOp) (a b : Int) (ho : o = .xor) : 0 ≤ bits o .u64 a b ∧ bits o .u64 a b ≤ 18446744073709551615 := by
  subst ho
  have : ∃ z : Int, bits .xor .u64 a b = IntKind.u64.wrap z := ⟨_, rfl⟩
  obtain ⟨z, hz⟩ := this
  rw [hz, IntKind.wrap_u64]
  omega
theorem mixF_in (x : Int) : 0 ≤ mixF x ∧ mixF x ≤ 18446744073709551615 := bits_u64 _ _ _ rfl
set_option maxRecDepth 100000 in
set_option maxHeartbeats 400000 in
theorem mix_any (x : Int) (w : World) : Calls Try.prog 212 #[.int .u64 x] w fun e w' => e = .returned (.int .u64 (mixF x)) ∧ w' = w := by
  go_enter Try.func212, Try.ntmps212
  go_wp2_with fail
  go_ret
  exact ⟨rfl, rfl⟩
/-- A key's k-th number. -/
def numS (key : Int) (k : Nat) : Int := mixF (bits .xor .u64 key (mixF (k : Int)))
theorem numS_in (key : Int) (k : Nat) : 0 ≤ numS key k ∧ numS key k ≤ 18446744073709551615 := mixF_in _
set_option maxRecDepth 100000 in
set_option maxHeartbeats 400000 in
theorem at_any (key : Int) (k : Nat) (w : World) : Calls Try.prog 252 #[.int .u64 key, .int .u64 k] w fun e w' => e = .returned (.int .u64 (numS key k)) ∧ w' = w := by
  have h1 := mix_any (k : Int) w
  have h2 := mix_any (bits .xor .u64 key (mixF (k : Int))) w
  obtain ⟨x, hx⟩ : ∃ x, mixF (k : Int) = x := ⟨_, rfl⟩
  unfold numS
  rw [hx] at h1 h2 ⊢
  obtain ⟨y, hy⟩ : ∃ y, bits .xor .u64 key x = y := ⟨_, rfl⟩
  rw [hy] at h2 ⊢
  have H1 := Lib.hid h1
  have H2 := Lib.hid h2
  clear h1 h2 hx
  go_enter Try.func252, Try.ntmps252
  go_wp2_with fail
  refine H1.out.mono ?_
  rintro e w1 ⟨rfl, rfl⟩
  go_wp2_with fail
  refine H2.out.mono ?_
  rintro e w2 ⟨rfl, rfl⟩
  go_wp2_with fail
  go_ret
  exact ⟨rfl, rfl⟩
/-- A stream that has handed out k numbers. -/
def StrAt (b : Nat) (key : Int) (k : Nat) (w : World) : Prop := Blk w b #[.int .u64 key, .int .u64 k] 272
set_option maxRecDepth 100000 in
set_option maxHeartbeats 1000000 in
theorem nextS_any (b : Nat) (key : Int) (k : Nat) (w : World) (hk : k ≤ 4611686018427387968) (h : StrAt b key k w) :
    Calls Try.prog 251 #[.pointer (some ⟨b, 0, none⟩)] w fun e W' => e = .returned (.int .u64 (numS key k)) ∧ StrAt b key (k + 1) W' ∧ w.grownBy W' (some b) := by
  have hm := fun W => at_any key k W
  obtain ⟨z, hz⟩ : ∃ z, numS key k = z := ⟨_, rfl⟩
  rw [hz] at hm ⊢
  have HM := Lib.hid hm
  have HB := Lib.hid h
  have p0 := HB.out.cell 0
  have p1 := HB.out.cell 1
  simp only [List.getElem?_toArray, List.getElem?_cons_zero, List.getElem?_cons_succ] at p0 p1
  have hw : IntKind.u64.wrap ((k : Int) + 1) = (k : Int) + 1 := by rw [IntKind.wrap_u64]; omega
  clear hm h hz
  go_enter Try.func251, Try.ntmps251
  go_wp2_with fail
  go_quiet ((go_at_call 252; exact Calls.quiet_of_same (HM.out _)))
  obtain ⟨W1, e1⟩ : ∃ W1, W1 = w.drewN nq := ⟨_, rfl⟩
  rw [← e1]
  have HB1 := Lib.hid (show Blk W1 b #[.int .u64 key, .int .u64 k] 272 from by rw [e1]; exact HB.out.drewN _)
  have HG1 := Lib.hid (show w.grownBy W1 (some b) from by rw [e1]; exact grown_drewN (grown_refl _ _) _)
  clear p0 p1 e1
  have p0 := HB1.out.cell 0
  have p1 := HB1.out.cell 1
  simp only [List.getElem?_toArray, List.getElem?_cons_zero, List.getElem?_cons_succ] at p0 p1
  have pf := HB1.out.frozen
  go_wp2_with fail
  go_ret
  exact ⟨rfl, HB1.out.set 1 _, grown_set HG1.out _ _⟩
end Go.Proofs.Ytpekofpiodaadaa.Hb
end

section
/- The numbers of a key are unlike: plain. -/
namespace Go.Proofs.Ytpekofpiodaadaa.Hb
set_option linter.unusedVariables false
open Go.RowKit

theorem xs_nat {k a b : Nat} (hk : 0 < k) (ha : a < 18446744073709551616) (hb : b < 18446744073709551616) (h : a ^^^ (a >>> k) = b ^^^ (b >>> k)) : a = b := by
  have key : ∀ m i, 64 ≤ i + m → a.testBit i = b.testBit i := by
    intro m
    induction m with
    | zero =>
      intro i hi
      have e : ∀ x, x < 18446744073709551616 → x.testBit i = false := fun x hx => Nat.testBit_lt_two_pow (Nat.lt_of_lt_of_le hx (by
        have : (18446744073709551616 : Nat) = 2 ^ 64 := by decide
        rw [this]
        exact Nat.pow_le_pow_right (by omega) (by omega)))
      rw [e a ha, e b hb]
    | succ m ih =>
      intro i hi
      have h1 := congrArg (fun x => x.testBit i) h
      simp only [Nat.testBit_xor, Nat.testBit_shiftRight] at h1
      have h2 := ih (k + i) (by omega)
      rw [h2] at h1
      revert h1
      cases a.testBit i <;> cases b.testBit i <;> cases b.testBit (k + i) <;> simp
  exact Nat.eq_of_testBit_eq fun i => key 64 i (by omega)
theorem xsF_nat (a k : Nat) (ha : a < 18446744073709551616) : xsF (a : Int) ((2 ^ k : Nat) : Int) = ((a ^^^ (a >>> k) : Nat) : Int) := by
  unfold xsF
  rw [← Int.natCast_ediv, Nat.shiftRight_eq_div_pow]
  exact Go.u64_xor_nat a (a / 2 ^ k) ha (Nat.lt_of_le_of_lt (Nat.div_le_self _ _) ha)
theorem xsF_inj {x y : Int} {k : Nat} (hk : 0 < k) (hx : 0 ≤ x ∧ x ≤ 18446744073709551615) (hy : 0 ≤ y ∧ y ≤ 18446744073709551615) {s : Int} (hs : s = ((2 ^ k : Nat) : Int)) (h : xsF x s = xsF y s) : x = y := by
  subst hs
  obtain ⟨a, rfl⟩ := Int.eq_ofNat_of_zero_le hx.1
  obtain ⟨b, rfl⟩ := Int.eq_ofNat_of_zero_le hy.1
  rw [xsF_nat a k (by omega), xsF_nat b k (by omega)] at h
  rw [xs_nat hk (by omega) (by omega) (Int.ofNat_inj.1 h)]
theorem xsF_in (x s : Int) : 0 ≤ xsF x s ∧ xsF x s ≤ 18446744073709551615 := bits_u64 _ _ _ rfl
theorem wr_in (x : Int) : 0 ≤ IntKind.u64.wrap x ∧ IntKind.u64.wrap x ≤ 18446744073709551615 := by rw [IntKind.wrap_u64]; omega
theorem mul_inj {x y c d q : Int} (hcd : c * d = 1 + 18446744073709551616 * q) (hx : 0 ≤ x ∧ x ≤ 18446744073709551615) (hy : 0 ≤ y ∧ y ≤ 18446744073709551615) (h : IntKind.u64.wrap (x * c) = IntKind.u64.wrap (y * c)) : x = y := by
  rw [IntKind.wrap_u64, IntKind.wrap_u64] at h
  have e : ∀ z : Int, (z * c * d) % 18446744073709551616 = z % 18446744073709551616 := fun z => by
    rw [Int.mul_assoc, hcd, Int.mul_add, Int.mul_one, ← Int.mul_assoc, Int.mul_comm z 18446744073709551616, Int.mul_assoc, Int.add_mul_emod_self_left]
  have h1 : (x * c * d) % 18446744073709551616 = (y * c * d) % 18446744073709551616 := by
    rw [Int.mul_emod, h, ← Int.mul_emod]
  rw [e, e] at h1
  omega
theorem mixF_inj {x y : Int} (hx : 0 ≤ x ∧ x ≤ 18446744073709551615) (hy : 0 ≤ y ∧ y ≤ 18446744073709551615) (h : mixF x = mixF y) : x = y := by
  unfold mixF at h
  have h1 := xsF_inj (k := 31) (by omega) (wr_in _) (wr_in _) (by decide) h
  have h2 := mul_inj (c := 10723151780598845931) (d := 3573116690164977347) (q := (10723151780598845931 * 3573116690164977347 - 1) / 18446744073709551616) (by decide) (xsF_in _ _) (xsF_in _ _) h1
  have h3 := xsF_inj (k := 27) (by omega) (wr_in _) (wr_in _) (by decide) h2
  have h4 := mul_inj (c := 13787848793156543929) (d := 10871156337175269513) (q := (13787848793156543929 * 10871156337175269513 - 1) / 18446744073709551616) (by decide) (xsF_in _ _) (xsF_in _ _) h3
  have h5 := xsF_inj (k := 30) (by omega) (wr_in _) (wr_in _) (by decide) h4
  rw [IntKind.wrap_u64, IntKind.wrap_u64] at h5
  omega
theorem numS_inj {key : Int} (hk : 0 ≤ key ∧ key ≤ 18446744073709551615) {i j : Nat} (hi : i < 4611686018427387904) (hj : j < 4611686018427387904) (h : numS key i = numS key j) : i = j := by
  unfold numS at h
  have h1 := mixF_inj (bits_u64 _ _ _ rfl) (bits_u64 _ _ _ rfl) h
  obtain ⟨K, rfl⟩ := Int.eq_ofNat_of_zero_le hk.1
  obtain ⟨a1, a2⟩ := mixF_in (i : Int)
  obtain ⟨b1, b2⟩ := mixF_in (j : Int)
  obtain ⟨A, hA⟩ := Int.eq_ofNat_of_zero_le a1
  obtain ⟨B, hB⟩ := Int.eq_ofNat_of_zero_le b1
  rw [hA, hB, Go.u64_xor_nat K A (by omega) (by omega), Go.u64_xor_nat K B (by omega) (by omega)] at h1
  have h2 := Int.ofNat_inj.1 h1
  have h3 : A = B := by
    have e := congrArg (fun z => K ^^^ z) h2
    simpa [← Nat.xor_assoc] using e
  have h4 := mixF_inj (x := (i : Int)) (y := (j : Int)) (by omega) (by omega) (by rw [hA, hB, h3])
  omega
end Go.Proofs.Ytpekofpiodaadaa.Hb
end

section
/- What is dealt of a key's stream is dealt of the stream's first numbers, as a list: plain. -/
namespace Go.Proofs.Ytpekofpiodaadaa.Hb
set_option linter.unusedVariables false
open Go.RowKit

theorem pigeon : ∀ (n : Nat) (l : List Int) (a : Int), l.Nodup → (∀ x ∈ l, a ≤ x ∧ x < a + n) → l.length ≤ n
  | 0, [], _, _, _ => Nat.le_refl _
  | 0, x :: r, a, _, h => by have := h x (List.mem_cons_self ..); omega
  | n + 1, l, a, hn, h => by
    have h1 := pigeon n (l.erase (a + n)) a (hn.erase _) (fun x hx => by
      obtain ⟨e1, e2⟩ := (hn.mem_erase_iff).1 hx
      have := h x e2
      omega)
    have h2 := List.length_erase (a := a + (n : Int)) (l := l)
    split at h2 <;> omega
/-- How few numbers are taken: those that serve, and unlike ones that don't. -/
def Taken (num : Nat → Int) (T : Int) (k j : Nat) : Prop := ∃ l : List Int, l.Nodup ∧ (∀ x ∈ l, T ≤ x ∧ x ≤ 18446744073709551615 ∧ ∃ m, m < k ∧ x = num m) ∧ k ≤ j + l.length
theorem Taken.hit {num : Nat → Int} {T : Int} {k j : Nat} (h : Taken num T k j) : Taken num T (k + 1) (j + 1) := by
  obtain ⟨l, h1, h2, h3⟩ := h
  exact ⟨l, h1, fun x hx => by obtain ⟨a, b, m, c, d⟩ := h2 x hx; exact ⟨a, b, m, by omega, d⟩, by omega⟩
theorem Taken.more {num : Nat → Int} {T : Int} {k j : Nat} (h : Taken num T k j) (i : Nat) : Taken num T k (j + i) := by
  obtain ⟨l, h1, h2, h3⟩ := h
  exact ⟨l, h1, h2, by omega⟩
theorem Taken.miss {num : Nat → Int} {T : Int} {k j : Nat} (hinj : ∀ m, m < k → num m ≠ num k) (hT : T ≤ num k ∧ num k ≤ 18446744073709551615) (h : Taken num T k j) : Taken num T (k + 1) j := by
  obtain ⟨l, h1, h2, h3⟩ := h
  refine ⟨num k :: l, List.nodup_cons.2 ⟨fun hx => ?_, h1⟩, fun x hx => ?_, by simp; omega⟩
  · obtain ⟨_, _, m, hm, e⟩ := h2 _ hx
    exact hinj m hm e.symm
  · rcases List.mem_cons.1 hx with rfl | hx
    · exact ⟨hT.1, hT.2, k, by omega, rfl⟩
    · obtain ⟨a, b, m, c, d⟩ := h2 x hx
      exact ⟨a, b, m, by omega, d⟩
theorem draw_taken {num : Nat → Int} {n : Nat} {b : Int} (hb : 0 < b) (hbn : b ≤ n) (hr : ∀ k, num k ≤ 18446744073709551615) (hinj : ∀ i j, i < 4611686018427387904 → j < 4611686018427387904 → num i = num j → i = j) :
    ∀ (f k j : Nat), k + f < 4611686018427387904 → Taken num (18446744073709551616 - n) k j → Taken num (18446744073709551616 - n) (drawO num b f k).2 (j + 1)
  | 0, k, j, _, h => h.more 1
  | f + 1, k, j, hk, h => by
    by_cases hc : num k < limD b
    · rw [draw_hit hc]; exact h.hit
    · rw [draw_miss hc]
      have hl : 18446744073709551616 - (n : Int) ≤ num k := by
        unfold limD at hc
        have := Int.emod_lt_of_pos 18446744073709551616 hb
        omega
      exact draw_taken hb hbn hr hinj f (k + 1) j (by omega) (h.miss (fun m hm e => by have := hinj m k (by omega) (by omega) e; omega) ⟨hl, hr k⟩)
theorem run_taken {num : Nat → Int} {step : List Int → Nat → Int → List Int} {n : Nat} (hr : ∀ k, num k ≤ 18446744073709551615) (hinj : ∀ i j, i < 4611686018427387904 → j < 4611686018427387904 → num i = num j → i = j) :
    ∀ (ns : List Int) (i k : Nat) (p : List Int) (j : Nat), (∀ b ∈ ns, 0 < b ∧ b ≤ n) → k + 64 * ns.length < 4611686018427387904 → Taken num (18446744073709551616 - n) k j → Taken num (18446744073709551616 - n) (runO num step ns i p k).2 (j + ns.length)
  | [], i, k, p, j, _, _, h => by rw [run_nil]; exact h
  | b :: ns, i, k, p, j, hb, hk, h => by
    obtain ⟨hb1, hb2⟩ := hb b (List.mem_cons_self ..)
    simp only [List.length_cons] at hk ⊢
    have hd := draw_taken hb1 hb2 hr hinj 64 k j (by omega) h
    have hdk := (draw_k (num := num) (n := b) (f := 64) (k := k)).2
    rcases he : drawO num b 64 k with ⟨_ | x, k1⟩
    · rw [he] at hd
      rw [run_none he]
      have := hd.more ns.length
      rw [show j + (ns.length + 1) = j + 1 + ns.length by omega]
      exact this
    · rw [he] at hd hdk
      rw [run_some he]
      have := run_taken (step := step) hr hinj ns (i + 1) k1 (step p i x) (j + 1) (fun b hb' => hb b (List.mem_cons_of_mem _ hb')) (by simp only at hdk; omega) hd
      rw [show j + (ns.length + 1) = j + 1 + ns.length by omega]
      exact this
theorem draw_agree {num num' : Nat → Int} {b : Int} : ∀ (f k : Nat), (∀ m, k ≤ m → m < (drawO num b f k).2 → num m = num' m) → drawO num b f k = drawO num' b f k
  | 0, k, _ => rfl
  | f + 1, k, h => by
    have hk : num k = num' k := h k (Nat.le_refl _) (by
      by_cases hc : num k < limD b
      · rw [draw_hit hc]; exact Nat.lt_succ_self _
      · rw [draw_miss hc]
        have := (draw_k (num := num) (n := b) (f := f) (k := k + 1)).1
        omega)
    by_cases hc : num k < limD b
    · rw [draw_hit hc, draw_hit (by rw [← hk]; exact hc), hk]
    · rw [draw_miss hc, draw_miss (by rw [← hk]; exact hc)]
      rw [draw_miss hc] at h
      exact draw_agree f (k + 1) (fun m h1 h2 => h m (by omega) h2)
theorem run_mono {num : Nat → Int} {step : List Int → Nat → Int → List Int} : ∀ (ns : List Int) (i k : Nat) (p : List Int), k ≤ (runO num step ns i p k).2
  | [], i, k, p => by rw [run_nil]; exact Nat.le_refl _
  | b :: ns, i, k, p => by
    have hdk := (draw_k (num := num) (n := b) (f := 64) (k := k)).1
    rcases he : drawO num b 64 k with ⟨_ | x, k1⟩
    · rw [he] at hdk; rw [run_none he]; exact hdk
    · rw [he] at hdk; rw [run_some he]
      exact Nat.le_trans hdk (run_mono ns _ _ _)
theorem run_agree {num num' : Nat → Int} {step : List Int → Nat → Int → List Int} : ∀ (ns : List Int) (i k : Nat) (p : List Int), (∀ m, k ≤ m → m < (runO num step ns i p k).2 → num m = num' m) → runO num step ns i p k = runO num' step ns i p k
  | [], i, k, p, _ => rfl
  | b :: ns, i, k, p, h => by
    have hdk := (draw_k (num := num) (n := b) (f := 64) (k := k)).1
    rcases he : drawO num b 64 k with ⟨_ | x, k1⟩
    · rw [run_none he] at h
      have := draw_agree (num := num) (num' := num') (b := b) 64 k (by rw [he]; exact h)
      rw [run_none he, run_none (this ▸ he)]
    · rw [run_some he] at h
      have hm := run_mono (num := num) (step := step) ns (i + 1) k1 (step p i x)
      have := draw_agree (num := num) (num' := num') (b := b) 64 k (by rw [he]; exact fun m h1 h2 => h m h1 (Nat.lt_of_lt_of_le h2 hm))
      rw [he] at hdk
      rw [run_some he, run_some (this ▸ he)]
      exact run_agree ns (i + 1) k1 _ (fun m h1 h2 => h m (Nat.le_trans hdk h1) h2)
/-- The first numbers of a key. -/
def rowS (key : Int) (m : Nat) : List Int := (List.range m).map (numS key)
theorem rowS_len (key : Int) (m : Nat) : (rowS key m).length = m := by simp [rowS]
theorem rowS_get {key : Int} {m k : Nat} (h : k < m) : (rowS key m).getD k 0 = numS key k := by
  simp [rowS, List.getD_eq_getElem?_getD, h]
theorem perm_list {key : Int} (hk : 0 ≤ key ∧ key ≤ 18446744073709551615) {n : Nat} (hn : n ≤ 1048576) :
    runO (numS key) (stepPerm n) (bndPerm n) 0 (rowI n) 0 = runO (numL (rowS key (3 * n + 64))) (stepPerm n) (bndPerm n) 0 (rowI n) 0 := by
  have ht := run_taken (num := numS key) (step := stepPerm n) (n := n) (fun k => (numS_in key k).2) (fun i j h1 h2 h => numS_inj hk h1 h2 h) (bndPerm n) 0 0 (rowI n) 0 (fun b hb => by
    simp only [bndPerm, List.mem_map, List.mem_range] at hb
    obtain ⟨i, hi, rfl⟩ := hb
    omega) (by rw [bndPerm_len]; omega) ⟨[], List.nodup_nil, by simp, by simp⟩
  obtain ⟨l, h1, h2, h3⟩ := ht
  have h4 := pigeon n l (18446744073709551616 - n) h1 (fun x hx => by have := h2 x hx; omega)
  rw [bndPerm_len] at h3
  exact run_agree _ _ _ _ (fun m _ hm => by
    unfold numL
    rw [rowS_get (by omega)])
end Go.Proofs.Ytpekofpiodaadaa.Hb
end

section
/- The document's mix, key and row of numbers: the walks. -/
namespace Go.Proofs.Ytpekofpiodaadaa.Hb
set_option linter.unusedVariables false
set_option linter.unusedSimpArgs false
open Go.RowKit

theorem ret_u64 {a b : Int} (h : a = b) : Ending.returned (.int .u64 a) = .returned (.int .u64 b) := by rw [h]
set_option maxRecDepth 100000 in
set_option maxHeartbeats 1000000 in
theorem rtimes_any (x y : Int) (hx : 0 ≤ x ∧ x ≤ 18446744073709551615) (hy : 0 ≤ y ∧ y ≤ 18446744073709551615) (w : World) : Calls Try.prog 57 #[.int .u64 x, .int .u64 y] w fun e w' => e = .returned (.int .u64 (IntKind.u64.wrap (x * y))) ∧ w' = w := by
  obtain ⟨R, hR⟩ : ∃ R, IntKind.u64.wrap (x * y) = R := ⟨_, rfl⟩
  rw [hR]
  rw [IntKind.wrap_u64] at hR
  have HR := Lib.hid hR
  clear hR
  have HX := Lib.hid hx
  have HY := Lib.hid hy
  go_enter Try.func57, Try.ntmps57
  go_wp2_with fail
  go_loopw [0, 1, 5] (fun av bv ov wr => ∃ a b o : Int, av = .int .u64 a ∧ bv = .int .u64 b ∧ ov = .int .u64 o ∧ 0 ≤ a ∧ a ≤ 18446744073709551615 ∧ 0 ≤ b ∧ b ≤ 18446744073709551615 ∧ 0 ≤ o ∧ o ≤ 18446744073709551615 ∧ Hid ((o + a * b) % 18446744073709551616 = R) ∧ Hid (wr = w)) (fun _ bv _ _ => (intOf bv).toNat)
  case atStart => exact ⟨x, y, 0, rfl, rfl, rfl, HX.out.1, HX.out.2, HY.out.1, HY.out.2, by omega, by omega, Lib.hid (by rw [Int.zero_add]; exact HR.out), Lib.hid rfl⟩
  case round =>
    obtain ⟨a, b, o, rfl, rfl, rfl, a1, a2, b1, b2, o1, o2, HI, HW⟩ := hrel
    by_cases hb : 0 < b
    · have hw2 : IntKind.u64.wrap (a + a) = (a + a) % 18446744073709551616 := by rw [IntKind.wrap_u64]
      obtain ⟨a', ha'⟩ : ∃ a', (a + a) % 18446744073709551616 = a' := ⟨_, rfl⟩
      obtain ⟨b', hb'⟩ : ∃ b', b / 2 = b' := ⟨_, rfl⟩
      have hq : b.tdiv 2 = b' := by rw [Int.tdiv_eq_ediv_of_nonneg b1]; exact hb'
      have hb'0 : 0 ≤ b' ∧ b' < b ∧ b' ≤ 18446744073709551615 := by omega
      have ha'0 : 0 ≤ a' ∧ a' ≤ 18446744073709551615 := by omega
      have HEV : ∀ z : Int, b = 2 * b' + z → Hid ((o + a * z + a' * b') % 18446744073709551616 = R) := fun z hz => Lib.hid (by
        rw [← HI.out, hz, ← ha']
        rw [Int.add_emod, Int.mul_emod ((a + a) % 18446744073709551616), Int.emod_emod, ← Int.mul_emod, ← Int.add_emod]
        congr 1
        rw [Int.mul_add, Int.add_mul, ← Int.mul_assoc, Int.mul_comm a 2, Int.mul_assoc 2 a b']
        omega)
      have HAQ := Lib.hid (And.intro hb'0 ha'0)
      have hwb : IntKind.u64.wrap b' = b' := by rw [IntKind.wrap_u64]; omega
      have HBB : Hid (b' < b ∧ 0 ≤ b' ∧ 0 < b) := Lib.hid ⟨hb'0.2.1, hb'0.1, hb⟩
      rw [ha'] at hw2
      by_cases hodd : b % 2 = 1
      · have hm : b.tmod 2 = 1 := by rw [Int.tmod_eq_emod_of_nonneg b1]; exact hodd
        obtain ⟨o', ho'⟩ : ∃ o', (o + a) % 18446744073709551616 = o' := ⟨_, rfl⟩
        have hw1 : IntKind.u64.wrap (o + a) = o' := by rw [IntKind.wrap_u64, ho']
        have HN : Hid ((o' + a' * b') % 18446744073709551616 = R) := Lib.hid (by
          have := (HEV 1 (by omega)).out
          rw [Int.mul_one] at this
          rw [← this, ← ho', Int.emod_add_emod])
        have HO : Hid (0 ≤ o' ∧ o' ≤ 18446744073709551615) := Lib.hid (by omega)
        clear ha' hb' ho' HEV hodd hb'0 ha'0
        go_wp2_with fail
        go_roundw
        case rel => exact ⟨a', b', o', rfl, rfl, rfl, HAQ.out.2.1, HAQ.out.2.2, HAQ.out.1.1, HAQ.out.1.2.2, HO.out.1, HO.out.2, HN, HW⟩
        case measure => have := HBB.out; simp [intOf]; omega
      · have hm : b.tmod 2 = 0 := by rw [Int.tmod_eq_emod_of_nonneg b1]; omega
        have HN : Hid ((o + a' * b') % 18446744073709551616 = R) := Lib.hid (by
          have := (HEV 0 (by omega)).out
          rwa [Int.mul_zero, Int.add_zero] at this)
        clear ha' hb' HEV hodd hb'0 ha'0
        go_wp2_with fail
        go_roundw
        case rel => exact ⟨a', b', o, rfl, rfl, rfl, HAQ.out.2.1, HAQ.out.2.2, HAQ.out.1.1, HAQ.out.1.2.2, o1, o2, HN, HW⟩
        case measure => have := HBB.out; simp [intOf]; omega
    · have hb0 : b = 0 := by omega
      have hfin : Hid (o = R) := Lib.hid (by have := HI.out; rw [hb0, Int.mul_zero, Int.add_zero] at this; omega)
      go_wp2_with fail
      go_ret
      exact ⟨ret_u64 hfin.out, HW.out⟩
set_option maxRecDepth 100000 in
set_option maxHeartbeats 1000000 in
theorem rhalf_any (x : Int) (n : Nat) (hn : n ≤ 64) (hx : 0 ≤ x ∧ x ≤ 18446744073709551615) (w : World) : Calls Try.prog 58 #[.int .u64 x, .int .i64 n] w fun e w' => e = .returned (.int .u64 (x / ((2 ^ n : Nat) : Int))) ∧ w' = w := by
  obtain ⟨R, hR⟩ : ∃ R, x / ((2 ^ n : Nat) : Int) = R := ⟨_, rfl⟩
  rw [hR]
  have HR := Lib.hid hR
  clear hR
  have HX := Lib.hid hx
  go_enter Try.func58, Try.ntmps58
  go_wp2_with fail
  go_loopw [0, 5] (fun xv iv wr => ∃ (k : Nat) (z : Int), k ≤ n ∧ iv = .int .i64 k ∧ xv = .int .u64 z ∧ 0 ≤ z ∧ z ≤ 18446744073709551615 ∧ Hid (z = x / ((2 ^ k : Nat) : Int)) ∧ Hid (wr = w)) (fun _ iv _ => n - (intOf iv).toNat)
  case atStart => exact ⟨0, x, Nat.zero_le _, rfl, rfl, HX.out.1, HX.out.2, Lib.hid (by rw [Nat.pow_zero]; exact (Int.ediv_one _).symm), Lib.hid rfl⟩
  case round =>
    obtain ⟨k, z, hk, rfl, rfl, z1, z2, HZ, HW⟩ := hrel
    by_cases hlt : k < n
    · have hlt' : (k : Int) < n := by omega
      have hq : z.tdiv 2 = z / 2 := Int.tdiv_eq_ediv_of_nonneg z1
      have HN : Hid (z / 2 = x / ((2 ^ (k + 1) : Nat) : Int)) := Lib.hid (by
        obtain ⟨X, hX⟩ := Int.eq_ofNat_of_zero_le HX.out.1
        have hz := HZ.out
        rw [hX, ← Int.natCast_ediv] at hz
        rw [hz, hX, ← Int.natCast_ediv, Nat.pow_succ, ← Nat.div_div_eq_div_mul]
        rfl)
      obtain ⟨z', hz'⟩ : ∃ z', z / 2 = z' := ⟨_, rfl⟩
      rw [hz'] at hq HN
      have hb : Hid (0 ≤ z' ∧ z' ≤ 18446744073709551615) := Lib.hid (by omega)
      have hwb : IntKind.u64.wrap z' = z' := by rw [IntKind.wrap_u64]; omega
      clear hz'
      go_wp2_with fail
      go_roundw
      case rel => exact ⟨k + 1, z', hlt, by go_num, rfl, hb.out.1, hb.out.2, HN, HW⟩
      case measure => simp [intOf]; omega
    · obtain rfl : k = n := by omega
      have hfin : Hid (z = R) := Lib.hid (by rw [HZ.out, HR.out])
      go_wp2_with fail
      go_ret
      exact ⟨ret_u64 hfin.out, HW.out⟩
theorem wrU_in (x : Int) : 0 ≤ IntKind.u64.wrap x ∧ IntKind.u64.wrap x ≤ 18446744073709551615 := by rw [IntKind.wrap_u64]; omega
set_option maxRecDepth 100000 in
set_option maxHeartbeats 1000000 in
theorem rmix_any (x : Int) (w : World) : Calls Try.prog 21 #[.int .u64 x] w fun e w' => e = .returned (.int .u64 (mixF x)) ∧ w' = w := by
  unfold mixF
  obtain ⟨z0, hz0⟩ : ∃ z, IntKind.u64.wrap (x + 11400714819323198485) = z := ⟨_, rfl⟩
  have b0 := wrU_in (x + 11400714819323198485)
  rw [hz0] at b0 ⊢
  have K1 := Lib.hid (fun w => rhalf_any z0 30 (by omega) b0 w)
  have c1 := xsF_in z0 1073741824
  unfold xsF at c1 ⊢
  obtain ⟨h1, hh1⟩ : ∃ h, z0 / 1073741824 = h := ⟨_, rfl⟩
  rw [show z0 / ((2 ^ 30 : Nat) : Int) = z0 / 1073741824 from rfl, hh1] at K1
  rw [hh1] at c1 ⊢
  obtain ⟨x1, hx1⟩ : ∃ h, bits .xor .u64 z0 h1 = h := ⟨_, rfl⟩
  rw [hx1] at c1 ⊢
  have T1 := Lib.hid (fun w => rtimes_any x1 13787848793156543929 c1 (by omega) w)
  have d1 := wrU_in (x1 * 13787848793156543929)
  obtain ⟨z1, hz1⟩ : ∃ z, IntKind.u64.wrap (x1 * 13787848793156543929) = z := ⟨_, rfl⟩
  rw [hz1] at T1 d1 ⊢
  have K2 := Lib.hid (fun w => rhalf_any z1 27 (by omega) d1 w)
  have c2 := xsF_in z1 134217728
  unfold xsF at c2
  obtain ⟨h2, hh2⟩ : ∃ h, z1 / 134217728 = h := ⟨_, rfl⟩
  rw [show z1 / ((2 ^ 27 : Nat) : Int) = z1 / 134217728 from rfl, hh2] at K2
  rw [hh2] at c2 ⊢
  obtain ⟨x2, hx2⟩ : ∃ h, bits .xor .u64 z1 h2 = h := ⟨_, rfl⟩
  rw [hx2] at c2 ⊢
  have T2 := Lib.hid (fun w => rtimes_any x2 10723151780598845931 c2 (by omega) w)
  have d2 := wrU_in (x2 * 10723151780598845931)
  obtain ⟨z2, hz2⟩ : ∃ z, IntKind.u64.wrap (x2 * 10723151780598845931) = z := ⟨_, rfl⟩
  rw [hz2] at T2 d2 ⊢
  have K3 := Lib.hid (fun w => rhalf_any z2 31 (by omega) d2 w)
  obtain ⟨h3, hh3⟩ : ∃ h, z2 / 2147483648 = h := ⟨_, rfl⟩
  rw [show z2 / ((2 ^ 31 : Nat) : Int) = z2 / 2147483648 from rfl, hh3] at K3
  rw [hh3]
  clear c1 c2 d1 d2 b0 hh1 hh2 hh3 hz1 hz2
  go_enter Try.func21, Try.ntmps21
  go_wp2_with fail
  refine (K1.out _).mono ?_
  rintro e w1 ⟨rfl, rfl⟩
  go_wp2_with fail
  refine (T1.out _).mono ?_
  rintro e w1 ⟨rfl, rfl⟩
  go_wp2_with fail
  refine (K2.out _).mono ?_
  rintro e w1 ⟨rfl, rfl⟩
  go_wp2_with fail
  refine (T2.out _).mono ?_
  rintro e w1 ⟨rfl, rfl⟩
  go_wp2_with fail
  refine (K3.out _).mono ?_
  rintro e w1 ⟨rfl, rfl⟩
  go_wp2_with fail
  go_ret
  exact ⟨rfl, rfl⟩
set_option maxRecDepth 100000 in
set_option maxHeartbeats 400000 in
theorem rat_any (key : Int) (k : Nat) (w : World) : Calls Try.prog 152 #[.int .u64 key, .int .u64 k] w fun e w' => e = .returned (.int .u64 (numS key k)) ∧ w' = w := by
  have h1 := rmix_any (k : Int) w
  have h2 := rmix_any (bits .xor .u64 key (mixF (k : Int))) w
  obtain ⟨x, hx⟩ : ∃ x, mixF (k : Int) = x := ⟨_, rfl⟩
  unfold numS
  rw [hx] at h1 h2 ⊢
  obtain ⟨y, hy⟩ : ∃ y, bits .xor .u64 key x = y := ⟨_, rfl⟩
  rw [hy] at h2 ⊢
  have H1 := Lib.hid h1
  have H2 := Lib.hid h2
  clear h1 h2 hx
  go_enter Try.func152, Try.ntmps152
  go_wp2_with fail
  refine H1.out.mono ?_
  rintro e w1 ⟨rfl, rfl⟩
  go_wp2_with fail
  refine H2.out.mono ?_
  rintro e w2 ⟨rfl, rfl⟩
  go_wp2_with fail
  go_ret
  exact ⟨rfl, rfl⟩
end Go.Proofs.Ytpekofpiodaadaa.Hb
end

section
/- A key: the program's and the document's; a key's first numbers as a list. -/
namespace Go.Proofs.Ytpekofpiodaadaa.Hb
set_option linter.unusedVariables false
set_option linter.unusedSimpArgs false
open Go.RowKit

def foldF (l : List Int) : Int := l.foldl (fun k x => mixF (bits .xor .u64 k x)) 0
theorem foldF_in (l : List Int) : 0 ≤ foldF l ∧ foldF l ≤ 18446744073709551615 := by
  have : ∀ (l : List Int) (k : Int), 0 ≤ k ∧ k ≤ 18446744073709551615 → 0 ≤ l.foldl (fun k x => mixF (bits .xor .u64 k x)) k ∧ l.foldl (fun k x => mixF (bits .xor .u64 k x)) k ≤ 18446744073709551615 := by
    intro l
    induction l with
    | nil => intro k h; exact h
    | cons x r ih => intro k _; exact ih _ (mixF_in _)
  exact this l 0 (by omega)
theorem foldF_snoc (l : List Int) (x : Int) : foldF (l ++ [x]) = mixF (bits .xor .u64 (foldF l) x) := by unfold foldF; rw [List.foldl_append]; rfl
theorem take_sn {l : List Int} {k : Nat} (h : k < l.length) : l.take (k + 1) = l.take k ++ [l.getD k 0] := by
  rw [List.take_add_one, List.getD_eq_getElem?_getD, List.getElem?_eq_getElem h]; rfl
theorem RdU.at {w : World} {A : Option Addr} {l : List Int} (h : RdU w A l) {k : Nat} (hk : k < l.length) : ∃ ad, A = some ad ∧ w.cell? (ad.add k) = some (.int .u64 (l.getD k 0)) := by
  rcases h.2 with h0 | ⟨ad, e, hc⟩
  · rw [h0] at hk; simp at hk
  · exact ⟨ad, e, hc k hk⟩
set_option maxRecDepth 100000 in
set_option maxHeartbeats 1000000 in
theorem fold_any (l : List Int) (A : Option Addr) (cap : Nat) (w : World) (hr : RdU w A l) (hl : l.length ≤ 9223372036854775806) : Calls Try.prog 188 #[.slice A l.length cap] w fun e w' => e = .returned (.int .u64 (foldF l)) ∧ w' = w := by
  obtain ⟨R, hR⟩ : ∃ R, foldF l = R := ⟨_, rfl⟩
  rw [hR]
  have HR := Lib.hid hR
  obtain ⟨n, hn⟩ : ∃ n, l.length = n := ⟨_, rfl⟩
  have HN := Lib.hid hn
  have HRD := Lib.hid hr
  have KM := Lib.hid (fun x w => mix_any x w)
  rw [hn] at hl ⊢
  clear hR hn hr
  go_enter Try.func188, Try.ntmps188
  go_wp2_with fail
  go_loopw [3, 8] (fun kv iv wr => ∃ (i : Nat) (k : Int), i ≤ n ∧ iv = .int .i64 i ∧ kv = .int .u64 k ∧ Hid (k = foldF (l.take i)) ∧ Hid (wr = w)) (fun _ iv _ => n - (intOf iv).toNat)
  case atStart => exact ⟨0, 0, Nat.zero_le _, rfl, rfl, Lib.hid rfl, Lib.hid rfl⟩
  case round =>
    obtain ⟨i, k, hi, rfl, rfl, HK, HW⟩ := hrel
    by_cases hlt : i < n
    · have hlt' : (i : Int) < n := by omega
      have hil : i < l.length := by rw [HN.out]; exact hlt
      obtain ⟨ad, rfl, hc⟩ := HRD.out.at hil
      have hs : Hid (mixF (bits .xor .u64 k (l.getD i 0)) = foldF (l.take (i + 1))) := Lib.hid (by rw [take_sn hil, foldF_snoc, HK.out])
      have hc2 : wr.cell? (ad.add i) = some (.int .u64 (l.getD i 0)) := by rw [HW.out]; exact hc
      obtain ⟨x, hx⟩ : ∃ x, l.getD i 0 = x := ⟨_, rfl⟩
      rw [hx] at hs hc2
      obtain ⟨y, hy⟩ : ∃ y, bits .xor .u64 k x = y := ⟨_, rfl⟩
      rw [hy] at hs
      have KM2 := Lib.hid (KM.out y)
      obtain ⟨z, hz⟩ : ∃ z, mixF y = z := ⟨_, rfl⟩
      rw [hz] at hs KM2
      clear hc hx hz
      go_wp2_with fail
      refine (KM2.out _).mono ?_
      rintro e w1 ⟨rfl, rfl⟩
      go_wp2_with fail
      go_roundw
      case rel => exact ⟨i + 1, z, hlt, by go_num, rfl, hs, HW⟩
      case measure => simp [intOf]; omega
    · obtain rfl : i = n := by omega
      have hfin : Hid (k = R) := Lib.hid (by rw [HK.out, List.take_of_length_le (by rw [HN.out]; exact Nat.le_refl _), HR.out])
      go_wp2_with fail
      go_ret
      exact ⟨ret_u64 hfin.out, HW.out⟩
set_option maxRecDepth 100000 in
set_option maxHeartbeats 1000000 in
theorem rfold_any (l : List Int) (A : Option Addr) (cap : Nat) (w : World) (hr : RdU w A l) (hl : l.length ≤ 9223372036854775806) : Calls Try.prog 153 #[.slice A l.length cap] w fun e w' => e = .returned (.int .u64 (foldF l)) ∧ w' = w := by
  obtain ⟨R, hR⟩ : ∃ R, foldF l = R := ⟨_, rfl⟩
  rw [hR]
  have HR := Lib.hid hR
  obtain ⟨n, hn⟩ : ∃ n, l.length = n := ⟨_, rfl⟩
  have HN := Lib.hid hn
  have HRD := Lib.hid hr
  have KM := Lib.hid (fun x w => rmix_any x w)
  rw [hn] at hl ⊢
  clear hR hn hr
  go_enter Try.func153, Try.ntmps153
  go_wp2_with fail
  go_loopw [3, 4] (fun kv iv wr => ∃ (i : Nat) (k : Int), i ≤ n ∧ iv = .int .i64 i ∧ kv = .int .u64 k ∧ Hid (k = foldF (l.take i)) ∧ Hid (wr = w)) (fun _ iv _ => n - (intOf iv).toNat)
  case atStart => exact ⟨0, 0, Nat.zero_le _, rfl, rfl, Lib.hid rfl, Lib.hid rfl⟩
  case round =>
    obtain ⟨i, k, hi, rfl, rfl, HK, HW⟩ := hrel
    by_cases hlt : i < n
    · have hlt' : (i : Int) < n := by omega
      have hil : i < l.length := by rw [HN.out]; exact hlt
      obtain ⟨ad, rfl, hc⟩ := HRD.out.at hil
      have hs : Hid (mixF (bits .xor .u64 k (l.getD i 0)) = foldF (l.take (i + 1))) := Lib.hid (by rw [take_sn hil, foldF_snoc, HK.out])
      have hc2 : wr.cell? (ad.add i) = some (.int .u64 (l.getD i 0)) := by rw [HW.out]; exact hc
      obtain ⟨x, hx⟩ : ∃ x, l.getD i 0 = x := ⟨_, rfl⟩
      rw [hx] at hs hc2
      obtain ⟨y, hy⟩ : ∃ y, bits .xor .u64 k x = y := ⟨_, rfl⟩
      rw [hy] at hs
      have KM2 := Lib.hid (KM.out y)
      obtain ⟨z, hz⟩ : ∃ z, mixF y = z := ⟨_, rfl⟩
      rw [hz] at hs KM2
      clear hc hx hz
      go_wp2_with fail
      refine (KM2.out _).mono ?_
      rintro e w1 ⟨rfl, rfl⟩
      go_wp2_with fail
      go_roundw
      case rel => exact ⟨i + 1, z, hlt, by go_num, rfl, hs, HW⟩
      case measure => simp [intOf]; omega
    · obtain rfl : i = n := by omega
      have hfin : Hid (k = R) := Lib.hid (by rw [HK.out, List.take_of_length_le (by rw [HN.out]; exact Nat.le_refl _), HR.out])
      go_wp2_with fail
      go_ret
      exact ⟨ret_u64 hfin.out, HW.out⟩
theorem rdu_four (w : World) (a b c d : Int) (t : TypeId) (ha : 0 ≤ a ∧ a ≤ 18446744073709551615) (hb : 0 ≤ b ∧ b ≤ 18446744073709551615) (hc : 0 ≤ c ∧ c ≤ 18446744073709551615) (hd : 0 ≤ d ∧ d ≤ 18446744073709551615) :
    RdU (w.alloc (.cells #[.int .u64 a, .int .u64 b, .int .u64 c, .int .u64 d] t)) (some ⟨w.heap.size, 0, none⟩) [a, b, c, d] := by
  refine ⟨fun x hx => ?_, .inr ⟨_, rfl, fun i hi => ?_⟩⟩
  · simp only [List.mem_cons, List.not_mem_nil, or_false] at hx
    rcases hx with rfl | rfl | rfl | rfl <;> assumption
  · have k := Blk.new w #[.int .u64 a, .int .u64 b, .int .u64 c, .int .u64 d] t
    rw [show (⟨w.heap.size, 0, none⟩ : Addr).add i = ⟨w.heap.size, i, none⟩ from by unfold Addr.add; split <;> simp_all, k.cell i]
    simp only [List.length_cons, List.length_nil] at hi
    rcases i with _ | _ | _ | _ | i
    · rfl
    · rfl
    · rfl
    · rfl
    · omega
set_option maxRecDepth 100000 in
set_option maxHeartbeats 1000000 in
theorem key_any (a b c d : Int) (ha : 0 ≤ a ∧ a ≤ 18446744073709551615) (hb : 0 ≤ b ∧ b ≤ 18446744073709551615) (hc : 0 ≤ c ∧ c ≤ 18446744073709551615) (hd : 0 ≤ d ∧ d ≤ 18446744073709551615) (w : World) :
    Calls Try.prog 147 #[.int .u64 a, .int .u64 b, .int .u64 c, .int .u64 d] w fun e w' => e = .returned (.int .u64 (foldF [a, b, c, d])) ∧ Below w.heap.size w w' := by
  have K := fold_any [a, b, c, d] (some ⟨w.heap.size, 0, none⟩) 4 _ (rdu_four w a b c d 34 ha hb hc hd) (by simp)
  obtain ⟨R, hR⟩ : ∃ R, foldF [a, b, c, d] = R := ⟨_, rfl⟩
  rw [hR] at K ⊢
  have KH := Lib.hid K
  clear K hR ha hb hc hd
  go_enter Try.func147, Try.ntmps147
  go_wp2_with fail
  refine KH.out.mono ?_
  rintro e w1 ⟨rfl, rfl⟩
  go_wp2_with fail
  go_ret
  exact ⟨rfl, (Below.refl _ _).alloc (Nat.le_refl _) _⟩
set_option maxRecDepth 100000 in
set_option maxHeartbeats 1000000 in
theorem rkey_any (a b c d : Int) (ha : 0 ≤ a ∧ a ≤ 18446744073709551615) (hb : 0 ≤ b ∧ b ≤ 18446744073709551615) (hc : 0 ≤ c ∧ c ≤ 18446744073709551615) (hd : 0 ≤ d ∧ d ≤ 18446744073709551615) (w : World) :
    Calls Try.prog 92 #[.int .u64 a, .int .u64 b, .int .u64 c, .int .u64 d] w fun e w' => e = .returned (.int .u64 (foldF [a, b, c, d])) ∧ Below w.heap.size w w' := by
  have K := rfold_any [a, b, c, d] (some ⟨w.heap.size, 0, none⟩) 4 _ (rdu_four w a b c d 34 ha hb hc hd) (by simp)
  obtain ⟨R, hR⟩ : ∃ R, foldF [a, b, c, d] = R := ⟨_, rfl⟩
  rw [hR] at K ⊢
  have KH := Lib.hid K
  clear K hR ha hb hc hd
  go_enter Try.func92, Try.ntmps92
  go_wp2_with fail
  refine KH.out.mono ?_
  rintro e w1 ⟨rfl, rfl⟩
  go_wp2_with fail
  go_ret
  exact ⟨rfl, (Below.refl _ _).alloc (Nat.le_refl _) _⟩
set_option maxRecDepth 100000 in
theorem newS_any (key : Int) (w : World) : Calls Try.prog 146 #[.int .u64 key] w fun e w' => e = .returned (.pointer (some ⟨w.heap.size, 0, none⟩)) ∧ w' = w.alloc (.cells #[.int .u64 key, .int .u64 0] 272) := by
  go_enter Try.func146, Try.ntmps146
  go_wp2
  go_ret
  exact ⟨rfl, rfl⟩
def u64s (l : List Int) : List Value := l.map fun x => Value.int .u64 x
theorem u64s_snoc (l : List Int) (x : Int) : u64s (l ++ [x]) = u64s l ++ [.int .u64 x] := by simp [u64s]
theorem info_un64 : (Try.prog.info? 34).map (fun i => (i.zero, i.size, i.bytes)) = some (some (.int .u64 0), 1, 8) := by kernel_rfl
theorem RdU.own {w : World} {base n c : Nat} {A : Option Addr} {l : List Int} (h : w.ownsRow base 34 1 (.slice A n c) l.length (u64s l)) (ho : ∀ x ∈ l, 0 ≤ x ∧ x ≤ 18446744073709551615) : RdU w A l := by
  refine ⟨ho, ?_⟩
  by_cases h0 : l = []
  · exact .inl h0
  · obtain ⟨g, cap, hv, _, _, _, hc⟩ := own_open h (by have := List.length_pos_iff.2 h0; omega)
    simp only [Value.slice.injEq] at hv
    obtain ⟨rfl, _, _⟩ := hv
    refine .inr ⟨_, rfl, fun i hi => ?_⟩
    rw [show (⟨g, 0, none⟩ : Addr).add i = ⟨g, i, none⟩ from by unfold Addr.add; split <;> simp_all]
    exact hc i _ (by simp [u64s, List.getD_eq_getElem?_getD, hi])
set_option maxRecDepth 100000 in
set_option maxHeartbeats 1000000 in
theorem rnums_any (key : Int) (n : Nat) (hn : n ≤ 1099511627776) (w : World) : Calls Try.prog 91 #[.int .u64 key, .int .i64 n] w fun e w' => ∃ v, e = .returned v ∧ w'.ownsRow w.heap.size 34 1 v n (u64s (rowS key n)) ∧ Below w.heap.size w w' := by
  have KA := Lib.hid (fun (k : Nat) w => rat_any key k w)
  have HG : Hid (∀ k, k < n → (rowS key n).getD k 0 = numS key k) := Lib.hid (fun k hk => rowS_get hk)
  have HL : Hid ((rowS key n).length = n) := Lib.hid (rowS_len _ _)
  obtain ⟨L, hL⟩ : ∃ L, rowS key n = L := ⟨_, rfl⟩
  rw [hL] at HG HL ⊢
  obtain ⟨i0, hi0, hz0, hz1, hz2⟩ := info_parts info_un64
  clear hL
  go_enter Try.func91, Try.ntmps91
  go_wp2_with fail
  go_loopw [5, 6] (fun o iv wr => ∃ (k : Nat) (a : Option Addr) (c : Nat), k ≤ n ∧ iv = .int .i64 k ∧ o = .slice a k c ∧ Hid (wr.ownsRow w.heap.size 34 1 (.slice a k c) k (u64s (L.take k))) ∧ Hid (Below w.heap.size w wr)) (fun _ iv _ => n - (intOf iv).toNat)
  case atStart =>
    refine ⟨0, _, _, Nat.zero_le _, rfl, rfl, Lib.hid ?_, Lib.hid ((Below.refl _ _).alloc (Nat.le_refl _) _)⟩
    exact World.ownsRow_made w #[] 0 (Nat.le_refl _) (Nat.zero_le _) rfl
  case round =>
    obtain ⟨k, a, c, hk, rfl, rfl, HO, HB⟩ := hrel
    by_cases hlt : k < n
    · have hlt' : (k : Int) < n := by omega
      have hw : IntKind.u64.wrap (k : Int) = (k : Int) := by rw [IntKind.wrap_u64]; omega
      have hg := HG.out k hlt
      obtain ⟨x, hx⟩ : ∃ x, numS key k = x := ⟨_, rfl⟩
      have KA2 := Lib.hid (KA.out k)
      rw [hx] at hg KA2
      have HX := Lib.hid hg
      have hs : w.heap.size ≤ wr.heap.size := HB.out.size
      clear hg hx
      go_wp2_with fail
      refine (KA2.out _).mono ?_
      rintro e w1 ⟨rfl, rfl⟩
      go_wp2_with (at_builtin; refine wpList_append_lies _ rfl _ _ 31 rfl w.heap.size 34 i0 (.int .u64 0) 1 8 Try.underlying31 hi0 hz0 hz1 hz2 rfl (by decide) _ _ _ rfl (HO.out.alloc _) ⟨w1.heap.size, 0, none⟩ 1 1 [.int .u64 x] rfl rfl (cell_one_new _ _ _) (by simp [Value.oneCell']) (by decide) (by unfold maxLen; omega) (by omega) (by simp; omega) _ rfl ?_; intro g2 c2 w2 hown2 hg2 hat2 hlt2)
      go_roundw
      case rel =>
        refine ⟨k + 1, _, c2, hlt, by go_num, rfl, Lib.hid ?_, Lib.hid ?_⟩
        · rw [take_sn (by rw [HL.out]; exact hlt), HX.out, u64s_snoc]; exact hown2
        · exact (HB.out.alloc HB.out.size _).grown hg2 (by have := HB.out.size; simp; omega) (fun q e => (World.ownsRow.lt HO.out q e).1)
      case measure => simp [intOf]; omega
    · obtain rfl : k = n := by omega
      go_wp2_with fail
      go_ret
      refine ⟨_, rfl, ?_, HB.out⟩
      have := HO.out
      rwa [List.take_of_length_le (by rw [HL.out]; exact Nat.le_refl _)] at this
end Go.Proofs.Ytpekofpiodaadaa.Hb
end

section
/- A column is turned: the program's way. -/
namespace Go.Proofs.Ytpekofpiodaadaa.Hb
set_option linter.unusedVariables false
set_option linter.unusedSimpArgs false
open Go.RowKit

def u16s (l : List Int) : List Value := l.map fun x => Value.int .u16 x
theorem u16s_snoc (l : List Int) (x : Int) : u16s (l ++ [x]) = u16s l ++ [.int .u16 x] := by simp [u16s]
theorem u16s_set (l : List Int) (i : Nat) (x : Int) : u16s (l.set i x) = (u16s l).set i (.int .u16 x) := by simp [u16s]
theorem u16s_get {l : List Int} {i : Nat} (h : i < l.length) : (u16s l)[i]? = some (.int .u16 (l.getD i 0)) := by simp [u16s, List.getD_eq_getElem?_getD, h]
theorem info_u16 : (Try.prog.info? 71).map (fun i => (i.zero, i.size, i.bytes)) = some (some (.int .u16 0), 1, 2) := by kernel_rfl
theorem RC.own {w : World} {base n c : Nat} {A : Option Addr} {l : List Int} (h : w.ownsRow base 71 1 (.slice A n c) l.length (u16s l)) (ho : ∀ x ∈ l, 0 ≤ x ∧ x ≤ 65535) : RC w A l := by
  refine ⟨ho, ?_⟩
  by_cases h0 : l = []
  · exact .inl h0
  · obtain ⟨g, cap, hv, _, _, _, hc⟩ := own_open h (by have := List.length_pos_iff.2 h0; omega)
    simp only [Value.slice.injEq] at hv
    obtain ⟨rfl, _, _⟩ := hv
    refine .inr ⟨_, rfl, fun i hi => ?_⟩
    rw [show (⟨g, 0, none⟩ : Addr).add i = ⟨g, i, none⟩ from by unfold Addr.add; split <;> simp_all]
    exact hc i _ (u16s_get hi)
/-- The cells behind k steps. -/
def turnO (P : Nat) (p cells : List Int) (k : Nat) : List Int := (List.range cells.length).map fun t => if P ≤ t ∧ t < P + k then cells.getD (P + (p.getD (t - P) 0).toNat) 0 else cells.getD t 0
theorem turn_len (P : Nat) (p cells : List Int) (k : Nat) : (turnO P p cells k).length = cells.length := by simp [turnO]
theorem turn_get {P : Nat} {p cells : List Int} {k t : Nat} (h : t < cells.length) : (turnO P p cells k).getD t 0 = if P ≤ t ∧ t < P + k then cells.getD (P + (p.getD (t - P) 0).toNat) 0 else cells.getD t 0 := by
  simp [turnO, List.getD_eq_getElem?_getD, h]
theorem getD_ext {l r : List Int} (hl : l.length = r.length) (h : ∀ t, t < l.length → l.getD t 0 = r.getD t 0) : l = r := by
  apply List.ext_getElem hl
  intro i h1 h2
  have := h i h1
  rwa [List.getD_eq_getElem?_getD, List.getD_eq_getElem?_getD, List.getElem?_eq_getElem h1, List.getElem?_eq_getElem h2] at this
theorem turn_zero (P : Nat) (p cells : List Int) : turnO P p cells 0 = cells := getD_ext (turn_len ..) (fun t ht => by
  rw [turn_get (by rwa [turn_len] at ht), if_neg (by omega)])
theorem set_getD (l : List Int) (i : Nat) (v : Int) (t : Nat) : (l.set i v).getD t 0 = if i = t ∧ i < l.length then v else l.getD t 0 := by
  rw [List.getD_eq_getElem?_getD, List.getElem?_set, List.getD_eq_getElem?_getD]
  by_cases e : i = t
  · subst e
    rw [if_pos rfl]
    by_cases h : i < l.length
    · rw [if_pos h, if_pos ⟨rfl, h⟩]; rfl
    · rw [if_neg h, if_neg (fun c => h c.2), List.getElem?_eq_none (by omega)]
  · rw [if_neg e, if_neg (fun c => e c.1)]
theorem turn_set {P : Nat} {p cells : List Int} {k : Nat} (h : P + k < cells.length) : turnO P p cells (k + 1) = (turnO P p cells k).set (P + k) (cells.getD (P + (p.getD k 0).toNat) 0) := getD_ext (by simp [turn_len]) (fun t ht => by
  rw [turn_len] at ht
  rw [turn_get ht, set_getD, turn_len]
  by_cases e : P + k = t
  · subst e
    rw [if_pos (by omega), if_pos ⟨rfl, h⟩]
    congr 3
    congr 1
    omega
  · rw [if_neg (show ¬ (P + k = t ∧ P + k < cells.length) from fun c => e c.1), turn_get ht]
    by_cases c : P ≤ t ∧ t < P + k
    · rw [if_pos c, if_pos (by omega)]
    · rw [if_neg c, if_neg (by omega)])
theorem turn_in {P : Nat} {p cells : List Int} {k : Nat} (h : ∀ x ∈ cells, 0 ≤ x ∧ x ≤ 65535) : ∀ x ∈ turnO P p cells k, 0 ≤ x ∧ x ≤ 65535 := by
  have hg : ∀ t, 0 ≤ cells.getD t 0 ∧ cells.getD t 0 ≤ 65535 := fun t => by
    rw [List.getD_eq_getElem?_getD]
    cases e : cells[t]? with
    | none => simp
    | some y => exact h y (List.mem_of_getElem? e)
  intro x hx
  simp only [turnO, List.mem_map, List.mem_range] at hx
  obtain ⟨t, ht, rfl⟩ := hx
  split
  · exact hg _
  · exact hg _
set_option maxRecDepth 100000 in
set_option maxHeartbeats 1000000 in
theorem clone16_any (cells : List Int) (A : Option Addr) (cap : Nat) (w : World) (hr : RC w A cells) (hn : cells.length ≤ 1099511627776) :
    Calls Try.prog 191 #[.slice A cells.length cap] w fun e w' => ∃ v, e = .returned v ∧ w'.ownsRow w.heap.size 71 1 v cells.length (u16s cells) ∧ Below w.heap.size w w' := by
  have q : ∀ (w : World) (a : Option Addr) (n c n' c' : Nat), (binOp .eql 73 (.slice a n c) (.slice none n' c')).run Try.prog w = .ok (.bool a.isNone) w := fun w a n c n' c' => Lib.run_eql_slice_nil w _ _ a n c n' c' Try.underlying73
  cases A with
  | none =>
    have h0 : cells = [] := by
      rcases hr.2 with h | ⟨ad, e, _⟩
      · exact h
      · cases e
    subst h0
    clear hr
    go_enter Try.func191, Try.ntmps191
    go_wp2_with fail
    go_ret
    exact ⟨_, rfl, World.ownsRow_nil _ _ _ _, Below.refl _ _⟩
  | some ad =>
    obtain ⟨n, hnn⟩ : ∃ n, cells.length = n := ⟨_, rfl⟩
    have HC : Hid (∀ j u, (u16s cells)[j]? = some u → w.cell? (ad.add j) = some u) := Lib.hid (fun j u hu => by
      have hj : j < cells.length := by
        have := (List.getElem?_eq_some_iff.1 hu).1
        simpa [u16s] using this
      obtain ⟨ad', e, hc, _⟩ := hr.at hj
      cases e
      rw [u16s_get hj] at hu
      rw [hc, ← hu])
    have HL : Hid ((u16s cells).length = n) := Lib.hid (by simp [u16s, hnn])
    have HO1 : Hid (∀ u ∈ u16s cells, u.oneCell' = true) := Lib.hid (fun u hu => by simp only [u16s, List.mem_map] at hu; obtain ⟨x, _, rfl⟩ := hu; rfl)
    rw [hnn] at hn ⊢
    obtain ⟨U, hU⟩ : ∃ U, u16s cells = U := ⟨_, rfl⟩
    rw [hU] at HC HL HO1 ⊢
    have hl := HL.out
    obtain ⟨i0, hi0, hz0, hz1, hz2⟩ := info_parts info_u16
    clear hU hr hnn
    go_enter Try.func191, Try.ntmps191
    go_wp2_with (at_builtin; refine wpList_append_own _ rfl _ _ 73 rfl w.heap.size 71 i0 (.int .u16 0) 1 2 Try.underlying73 hi0 hz0 hz1 hz2 rfl (by decide) _ _ _ rfl (World.ownsRow_made w #[] 0 (Nat.le_refl _) (Nat.zero_le _) rfl) ad n cap U rfl (by simp; exact hl) (fun j u hu => (((Below.refl w.heap.size w).alloc (Nat.le_refl _) _).cell (World.block_lt_of_cell? w _ (HC.out j u hu))).trans (HC.out j u hu)) HO1.out (by unfold maxLen; omega) (by omega) (by simp) ?_; intro v2 w2 hown2 hg2 hn2)
    go_wp2_with fail
    go_ret
    refine ⟨_, rfl, by simpa using hown2, ((Below.refl _ w).alloc (Nat.le_refl _) _).grown hg2 (by simp) (fun q e => by cases e; exact Nat.le_refl _)⟩
end Go.Proofs.Ytpekofpiodaadaa.Hb
end

section
/- append of a whole slice, nil or not, onto what the call owns. -/
namespace Go.Proofs.Ytpekofpiodaadaa.Hb
set_option linter.unusedVariables false
set_option linter.unusedSimpArgs false
open Go.RowKit

theorem run_append_nothing {P : Program} {w : World} (base : Nat) (t ty e : TypeId) (i : TypeInfo) (size c : Nat) (ht : P.underlying t = some (.slice e)) (hi : P.info? e = some i)
    (v : Value) (n : Nat) (xs : List Value) (hown : w.ownsRow base e size v n xs) :
    (Builtin.append_ #[t, t] ty #[v, .slice none 0 c]).run P w = .ok v w := by
  rcases hown.2 with ⟨rfl, rfl⟩ | ⟨g, cap, cur, rfl, _, _, hnc, _⟩
  · simp [Builtin.append_, run_underlying ht, sizeOf, typeInfo, hi, Builtin.lenOf, Builtin.firstCells]
  · simp [Builtin.append_, run_underlying ht, sizeOf, typeInfo, hi, Builtin.lenOf, Builtin.firstCells, hnc, storeCells]
theorem wpList_append_any {P : Program} {w : World} {ops : Array Oper} {rest : List Oper} {o : Oper} {a : Act} {Q : Exit → Act → World → Prop} (hgd : o.guard = none) (s x : Operand) (t : TypeId)
    (ho : o.op = .call { callee := .builtin .append, args := #[s, x], argTypes := #[t, t] })
    (base : Nat) (e : TypeId) (i : TypeInfo) (z : Value) (size bytes : Nat) (ht : P.underlying t = some (.slice e)) (hi : P.info? e = some i) (hz : i.zero = some z)
    (hsize : i.size = size) (hby : i.bytes = bytes) (hzs : z.cells.size = size) (hsz : 0 < size)
    (v : Value) (n : Nat) (xs : List Value) (hs : a.eval s = v) (hown : w.ownsRow base e size v n xs)
    (A : Option Addr) (m c : Nat) (news : List Value) (hx : a.eval x = .slice A m c) (hl : news.length = m * size) (hA : (A = none ∧ m = 0) ∨ ∃ ad, A = some ad ∧ ∀ j u, news[j]? = some u → w.cell? (ad.add j) = some u) (h1 : ∀ u ∈ news, u.oneCell' = true)
    (h63 : n + m ≤ maxLen) (hbytes : (n + m) * bytes ≤ 140737488355328) (hbase : base ≤ w.heap.size)
    (h : ∀ v' w', w'.ownsRow base e size v' (n + m) (xs ++ news) → w.grownBy w' v.ownBlock → wpList P ops Q rest (a.put o.dst v') w') : wpList P ops Q (o :: rest) a w := by
  rcases hA with ⟨rfl, rfl⟩ | ⟨ad, rfl, hnews⟩
  · refine wpList_plain hgd fun K hK => ?_
    have hrun := run_append_nothing (P := P) (w := w) base t o.type e i size c ht hi v n xs hown
    have hn : news = [] := List.length_eq_zero_iff.1 (by omega)
    subst hn
    have h2 := h v w (by rw [Nat.add_zero, List.append_nil]; exact hown) ⟨rfl, rfl, rfl, Nat.le_refl _, fun _ _ _ => rfl⟩
    unfold Oper.wp
    simp [execOp, ho, resolve, invoke, builtin, hs, hx, hrun, Result.andThen]
    exact hK _ _ h2
  · exact wpList_append_own w hgd s x t ho base e i z size bytes ht hi hz hsize hby hzs hsz v n xs hs hown ad m c news hx hl hnews h1 h63 hbytes hbase (fun v' w' q1 q2 _ => h v' w' q1 q2)
/-- What a slice of uint16 that is read has. -/
theorem RC.news {w : World} {A : Option Addr} {l : List Int} (h : RC w A l) : (A = none ∧ l.length = 0) ∨ ∃ ad, A = some ad ∧ ∀ j u, (u16s l)[j]? = some u → w.cell? (ad.add j) = some u := by
  cases A with
  | none =>
    rcases h.2 with e | ⟨ad, e, _⟩
    · exact .inl ⟨rfl, by rw [e]; rfl⟩
    · cases e
  | some ad =>
    refine .inr ⟨ad, rfl, fun j u hu => ?_⟩
    have hj : j < l.length := by
      have := (List.getElem?_eq_some_iff.1 hu).1
      simpa [u16s] using this
    obtain ⟨ad', e, hc, _⟩ := h.at hj
    cases e
    rw [u16s_get hj] at hu
    rw [hc, ← hu]
theorem u16s_one (l : List Int) : ∀ u ∈ u16s l, u.oneCell' = true := fun u hu => by simp only [u16s, List.mem_map] at hu; obtain ⟨x, _, rfl⟩ := hu; rfl
theorem u16s_len (l : List Int) : (u16s l).length = l.length := by simp [u16s]
end Go.Proofs.Ytpekofpiodaadaa.Hb
end

section
/- Bytes: slices.Clone, take.count, Put, PutWhole, PutValue. -/
namespace Go.Proofs.Ytpekofpiodaadaa.Hb
set_option linter.unusedVariables false
set_option linter.unusedSimpArgs false
open Go.RowKit

/-- A number's lowest bytes, the greatest one first. -/
def beN (x : Nat) : Nat → List Nat
  | 0 => []
  | k + 1 => x / 256 ^ k % 256 :: beN x k
theorem be_len (x : Nat) : ∀ k, (beN x k).length = k
  | 0 => rfl
  | k + 1 => by rw [beN, List.length_cons, be_len x k]
theorem be_in (x : Nat) : ∀ k, ∀ b ∈ beN x k, b < 256
  | 0, b, h => by cases h
  | k + 1, b, h => by
    rw [beN] at h
    rcases List.mem_cons.1 h with rfl | h
    · omega
    · exact be_in x k b h
theorem be_get (x : Nat) : ∀ k j, j < k → (beN x k)[k - 1 - j]? = some (x / 256 ^ j % 256)
  | 0, j, h => by omega
  | k + 1, j, h => by
    rw [beN]
    by_cases e : j = k
    · subst e
      rw [show j + 1 - 1 - j = 0 from by omega]
      rfl
    · rw [show k + 1 - 1 - j = (k - 1 - j) + 1 from by omega, List.getElem?_cons_succ]
      exact be_get x k j (by omega)
theorem be_take {x k j : Nat} (h : j < k) : (beN x k).take (k - j) = (beN x k).take (k - (j + 1)) ++ [x / 256 ^ j % 256] := by
  have hg := be_get x k j h
  rw [show k - 1 - j = k - (j + 1) from by omega] at hg
  obtain ⟨hh, he⟩ := List.getElem?_eq_some_iff.1 hg
  rw [show k - j = k - (j + 1) + 1 from by omega, List.take_succ_eq_append_getElem hh, he]
def u8s (l : List Nat) : List Value := l.map fun b : Nat => Value.int .u8 (b : Int)
theorem u8s_len (l : List Nat) : (u8s l).length = l.length := by simp [u8s]
theorem u8s_app (l r : List Nat) : u8s (l ++ r) = u8s l ++ u8s r := by simp [u8s]
theorem u8s_one (l : List Nat) : ∀ u ∈ u8s l, u.oneCell' = true := fun u hu => by simp only [u8s, List.mem_map] at hu; obtain ⟨x, _, rfl⟩ := hu; rfl
theorem u8s_get {l : List Nat} {i : Nat} (h : i < l.length) : (u8s l)[i]? = some (.int .u8 (l.getD i 0 : Nat)) := by simp [u8s, List.getD_eq_getElem?_getD, h]
def byR (y : Nat) (c : List Value) : Prop := c = [.int .u8 (y : Int)] ∧ y < 256
/-- Bytes that are read. -/
def RB (w : World) (A : Option Addr) (l : List Nat) : Prop := RowAt w 1 byR A l
theorem RB.below {w w1 : World} {A : Option Addr} {l : List Nat} (h : RB w A l) (hb : Below w.heap.size w w1) : RB w1 A l := RowAt.below h hb
theorem RB.at {w : World} {A : Option Addr} {l : List Nat} (h : RB w A l) {i : Nat} (hi : i < l.length) : ∃ ad, A = some ad ∧ w.cell? (ad.add i) = some (.int .u8 (l.getD i 0 : Nat)) ∧ l.getD i 0 < 256 := by
  obtain ⟨ad, rfl, ha⟩ := h (by omega)
  obtain ⟨c, h1, ⟨rfl, hok⟩, h3⟩ := ha i _ (List.getElem?_eq_getElem hi)
  have e : l.getD i 0 = l[i] := by rw [List.getD_eq_getElem?_getD, List.getElem?_eq_getElem hi]; rfl
  rw [e]
  have e := h3 0 _ rfl
  rw [Nat.mul_one, Nat.add_zero] at e
  exact ⟨ad, rfl, e, hok⟩
theorem RB.nil (w : World) (A : Option Addr) : RB w A [] := fun h => by simp at h
theorem RB.own {w : World} {base n c : Nat} {A : Option Addr} {l : List Nat} (h : w.ownsRow base 5 1 (.slice A n c) l.length (u8s l)) (ho : ∀ x ∈ l, x < 256) : RB w A l := by
  intro h0
  obtain ⟨g, cap, hv, _, _, _, hc⟩ := own_open h h0
  simp only [Value.slice.injEq] at hv
  obtain ⟨rfl, _, _⟩ := hv
  refine ⟨_, rfl, fun i y hy => ⟨[.int .u8 (y : Int)], rfl, ⟨rfl, ho y (List.mem_of_getElem? hy)⟩, fun j u hj => ?_⟩⟩
  obtain rfl : j = 0 := by have := (List.getElem?_eq_some_iff.1 hj).1; simp at this; omega
  simp only [List.getElem?_cons_zero, Option.some.injEq] at hj
  subst hj
  obtain ⟨hi, rfl⟩ := List.getElem?_eq_some_iff.1 hy
  rw [Nat.mul_one, Nat.add_zero, show (⟨g, 0, none⟩ : Addr).add i = ⟨g, i, none⟩ from by unfold Addr.add; split <;> simp_all]
  rw [hc i _ (u8s_get hi), List.getD_eq_getElem?_getD, List.getElem?_eq_getElem hi]
  rfl
theorem RB.news {w : World} {A : Option Addr} {l : List Nat} (h : RB w A l) : (A = none ∧ l.length = 0) ∨ ∃ ad, A = some ad ∧ ∀ j u, (u8s l)[j]? = some u → w.cell? (ad.add j) = some u := by
  cases A with
  | none =>
    rcases Nat.eq_zero_or_pos l.length with e | e
    · exact .inl ⟨rfl, e⟩
    · obtain ⟨ad, e, _⟩ := h e; cases e
  | some ad =>
    refine .inr ⟨ad, rfl, fun j u hu => ?_⟩
    have hj : j < l.length := by
      have := (List.getElem?_eq_some_iff.1 hu).1
      simpa [u8s] using this
    obtain ⟨ad', e, hc, _⟩ := h.at hj
    cases e
    rw [u8s_get hj] at hu
    rw [hc, ← hu]
theorem info_u8 : (Try.prog.info? 5).map (fun i => (i.zero, i.size, i.bytes)) = some (some (.int .u8 0), 1, 1) := by kernel_rfl
theorem clone8_any (l : List Nat) (A : Option Addr) (cap : Nat) (w : World) (hr : RB w A l) (hn : l.length ≤ 1099511627776) :
    Calls Try.prog 122 #[.slice A l.length cap] w fun e w' => ∃ v, e = .returned v ∧ w'.ownsRow w.heap.size 5 1 v l.length (u8s l) ∧ Below w.heap.size w w' := by
  have q : ∀ (w : World) (a : Option Addr) (n c n' c' : Nat), (binOp .eql 54 (.slice a n c) (.slice none n' c')).run Try.prog w = .ok (.bool a.isNone) w := fun w a n c n' c' => Lib.run_eql_slice_nil w _ _ a n c n' c' Try.underlying54
  obtain ⟨i0, hi0, hz0, hz1, hz2⟩ := info_parts info_u8
  have HNW := Lib.hid (fun (w1 : World) (hb : Below w.heap.size w w1) => (hr.below hb).news)
  cases A with
  | none =>
    have h0 : l = [] := by
      rcases Nat.eq_zero_or_pos l.length with h | h
      · exact List.length_eq_zero_iff.1 h
      · obtain ⟨ad, e, _⟩ := hr h; cases e
    subst h0
    clear hr HNW
    go_enter Try.func122, Try.ntmps122
    go_wp2_with fail
    go_ret
    exact ⟨_, rfl, World.ownsRow_nil _ _ _ _, Below.refl _ _⟩
  | some ad =>
    have HL : Hid ((u8s l).length = l.length) := Lib.hid (u8s_len l)
    have HO1 := Lib.hid (u8s_one l)
    obtain ⟨n, hnn⟩ : ∃ n, l.length = n := ⟨_, rfl⟩
    rw [hnn] at hn HL HNW ⊢
    obtain ⟨U, hU⟩ : ∃ U, u8s l = U := ⟨_, rfl⟩
    rw [hU] at HL HO1 HNW ⊢
    clear hr hnn hU
    go_enter Try.func122, Try.ntmps122
    go_wp2_with (at_builtin; refine wpList_append_any rfl _ _ 54 rfl w.heap.size 5 i0 (.int .u8 0) 1 1 Try.underlying54 hi0 hz0 hz1 hz2 rfl (by decide) _ _ _ rfl (World.ownsRow_made w #[] 0 (Nat.le_refl _) (Nat.zero_le _) rfl) (some ad) n cap U rfl (by rw [HL.out, Nat.mul_one]) (HNW.out _ ((Below.refl _ _).alloc (Nat.le_refl _) _)) HO1.out (by unfold maxLen; omega) (by omega) (by simp) ?_; intro v2 w2 hown2 hg2; rw [Nat.zero_add, List.nil_append] at hown2; have HB2 : Below w.heap.size w w2 := ((Below.refl w.heap.size w).alloc (Nat.le_refl _) _).grown hg2 (by simp) (fun q e => by cases e; exact Nat.le_refl _))
    go_ret
    exact ⟨_, rfl, hown2, HB2⟩
theorem tcount_any (k : Nat) (hk : k ≤ 8) (w : World) : Calls Try.prog 176 #[.int .i64 (k : Int)] w (Says (.int .i64 (k : Int)) w) := by
  have m1 : max (k : Int) 0 = k := by omega
  have m2 : min (k : Int) 8 = k := by omega
  go_enter Try.func176, Try.ntmps176
  go_wp2_with fail
  go_ret
  exact ⟨rfl, rfl⟩
theorem shift_be (x j : Nat) (hj : j < 8) : IntKind.u8.wrap ((x : Int) / 2 ^ min (8 * (j : Int)).toNat 64) = ((x / 256 ^ j % 256 : Nat) : Int) := by
  have e1 : min (8 * (j : Int)).toNat 64 = 8 * j := by omega
  have e2 : (2 : Int) ^ (8 * j) = ((2 ^ (8 * j) : Nat) : Int) := by simp
  rw [e1, e2, Nat.pow_mul, show (2 : Nat) ^ 8 = 256 from rfl, ← Int.natCast_ediv]
  generalize x / 256 ^ j = y
  simp [IntKind.wrap, IntKind.bits, IntKind.signed]
theorem shift_be2 (x j : Nat) : (x : Int) / 2 ^ (8 * j) % 256 = ((x / 256 ^ j % 256 : Nat) : Int) := by
  have e2 : (2 : Int) ^ (8 * j) = ((2 ^ (8 * j) : Nat) : Int) := by simp
  rw [e2, Nat.pow_mul, show (2 : Nat) ^ 8 = 256 from rfl, ← Int.natCast_ediv]
  omega
set_option maxRecDepth 100000 in
set_option maxHeartbeats 2000000 in
theorem put_any (l : List Nat) (A : Option Addr) (cap x k : Nat) (w : World) (hr : RB w A l) (hn : l.length ≤ 1099511627768) (hk : k ≤ 8) :
    Calls Try.prog 124 #[.slice A l.length cap, .int .u64 (x : Int), .int .i64 (k : Int)] w fun e w' => ∃ v, e = .returned v ∧ w'.ownsRow w.heap.size 5 1 v (l.length + k) (u8s (l ++ beN x k)) ∧ Below w.heap.size w w' := by
  have KC := Lib.hid (clone8_any l A cap w hr (by omega))
  have KN := Lib.hid (fun w => tcount_any k hk w)
  obtain ⟨i0, hi0, hz0, hz1, hz2⟩ := info_parts info_u8
  have HSN : Hid (∀ j, j < k → u8s (l ++ (beN x k).take (k - j)) = u8s (l ++ (beN x k).take (k - (j + 1))) ++ [.int .u8 ((x / 256 ^ j % 256 : Nat) : Int)]) := Lib.hid (fun j hj => by
    rw [be_take hj, ← List.append_assoc, u8s_app]; rfl)
  have HS0 : Hid (u8s (l ++ (beN x k).take (k - k)) = u8s l) := Lib.hid (by rw [Nat.sub_self]; simp)
  have HSE : Hid (u8s (l ++ (beN x k).take (k - 0)) = u8s (l ++ beN x k)) := Lib.hid (by rw [Nat.sub_zero, List.take_of_length_le (by rw [be_len]; exact Nat.le_refl _)])
  obtain ⟨n, hnn⟩ : ∃ n, l.length = n := ⟨_, rfl⟩
  rw [hnn] at KC hn ⊢
  have HSH := Lib.hid (fun j hj => shift_be x j hj)
  clear hr hnn
  go_enter Try.func124, Try.ntmps124
  go_wp2_with fail
  refine KC.out.mono ?_
  rintro e w1 ⟨v, rfl, ho, hb⟩
  obtain ⟨a0, c0, rfl⟩ := own_slice ho
  have HO0 := Lib.hid ho
  have HB0 := Lib.hid hb
  clear ho hb
  go_wp2_with fail
  refine (KN.out _).mono ?_
  rintro e w2 ⟨rfl, rfl⟩
  have hk1 : wrap64 ((k : Int) - 1) = (k : Int) - 1 := by unfold wrap64; omega
  go_wp2_with fail
  go_loopw [7, 8] (fun ov iv wr => ∃ (j : Nat) (a : Option Addr) (c : Nat), j ≤ k ∧ iv = .int .i64 ((j : Int) - 1) ∧ ov = .slice a (n + (k - j)) c ∧ Hid (wr.ownsRow w.heap.size 5 1 (.slice a (n + (k - j)) c) (n + (k - j)) (u8s (l ++ (beN x k).take (k - j)))) ∧ Hid (Below w.heap.size w wr)) (fun _ iv _ => (intOf iv + 1).toNat)
  case atStart => exact ⟨k, a0, c0, Nat.le_refl _, rfl, by rw [Nat.sub_self]; rfl, Lib.hid (by rw [HS0.out, Nat.sub_self]; exact HO0.out), HB0⟩
  case round =>
    obtain ⟨j, a, c, hj, rfl, rfl, HO, HB⟩ := hrel
    obtain ⟨m, hm⟩ : ∃ m, n + (k - j) = m := ⟨_, rfl⟩
    rw [hm] at HO ⊢
    cases j with
    | zero =>
      have d1 : decide ((0 : Int) ≤ ((0 : Nat) : Int) - 1) = false := by decide
      go_wp2_with fail
      go_ret
      refine ⟨_, rfl, ?_, HB.out⟩
      have := HO.out
      rw [HSE.out] at this
      rw [show n + k = m from by omega]
      exact this
    | succ j =>
      have hj8 : j < 8 := by omega
      have hsw := HB.out.size
      have hsh := HSH.out j hj8
      have hsh2 := shift_be2 x j
      have hsn := HSN.out j (by omega)
      have ij : (((j + 1 : Nat) : Int) - 1) = (j : Int) := by omega
      rw [ij]
      have d1 : decide ((0 : Int) ≤ (j : Int)) = true := decide_eq_true (by omega)
      have hs8 : 0 ≤ 8 * (j : Int) := by omega
      have hbe : m + 1 = n + (k - j) := by omega
      obtain ⟨b, hb⟩ : ∃ b : Nat, x / 256 ^ j % 256 = b := ⟨_, rfl⟩
      rw [hb] at hsh hsh2 hsn
      have HSN2 := Lib.hid hsn
      clear hsn hb ij
      go_wp2_with (at_builtin; refine wpList_append_lies _ rfl _ _ 54 rfl w.heap.size 5 i0 (.int .u8 0) 1 1 Try.underlying54 hi0 hz0 hz1 hz2 rfl (by decide) _ _ _ rfl (HO.out.alloc _) ⟨wr.heap.size, 0, none⟩ 1 1 [.int .u8 (b : Int)] rfl rfl (cell_one_new _ _ _) (by simp [Value.oneCell']) (by decide) (by unfold maxLen; omega) (by omega) (by simp; omega) _ rfl ?_; intro g2 c2 w2 hown2 hg2 hat2 hlt2)
      go_roundw
      case rel => exact ⟨j, _, c2, by omega, by go_num, rfl, Lib.hid (by rw [HSN2.out, ← hbe]; exact hown2), Lib.hid ((HB.out.alloc HB.out.size _).grown hg2 (by simp; omega) (fun q e => (World.ownsRow.lt HO.out q e).1))⟩
      case measure => simp [intOf]
end Go.Proofs.Ytpekofpiodaadaa.Hb
end

section
/- Bytes: take.PutWhole, PutValue, config.Put. -/
namespace Go.Proofs.Ytpekofpiodaadaa.Hb
set_option linter.unusedVariables false
set_option linter.unusedSimpArgs false
open Go.RowKit

theorem own_base_le {w : World} {base b2 : Nat} {e : TypeId} {size n : Nat} {v : Value} {xs : List Value} (h : w.ownsRow base e size v n xs) (hb : b2 ≤ base) : w.ownsRow b2 e size v n xs := by
  refine ⟨h.1, ?_⟩
  rcases h.2 with h2 | ⟨g, cap, cur, q1, q2, q3⟩
  · exact .inl h2
  · exact .inr ⟨g, cap, cur, q1, Nat.le_trans hb q2, q3⟩
/-- A whole number's 64 bits. -/
def u64N (v : Int) : Nat := (v % 18446744073709551616).toNat
theorem u64N_lt (v : Int) : u64N v < 18446744073709551616 := by unfold u64N; omega
theorem u64N_wrap (v : Int) : IntKind.u64.wrap v = (u64N v : Int) := by rw [IntKind.wrap_u64]; unfold u64N; omega
theorem u64N_mod (v : Int) : v % 18446744073709551616 = (u64N v : Int) := by unfold u64N; omega
theorem putw_any (l : List Nat) (A : Option Addr) (cap : Nat) (v : Int) (w : World) (hr : RB w A l) (hn : l.length ≤ 1099511627768) :
    Calls Try.prog 126 #[.slice A l.length cap, .int .i64 v] w fun e w' => ∃ r, e = .returned r ∧ w'.ownsRow w.heap.size 5 1 r (l.length + 8) (u8s (l ++ beN (u64N v) 8)) ∧ Below w.heap.size w w' := by
  have KP := Lib.hid (put_any l A cap (u64N v) 8 w hr hn (Nat.le_refl _))
  have c1 := u64N_wrap v
  have c2 := u64N_mod v
  obtain ⟨n, hnn⟩ : ∃ n, l.length = n := ⟨_, rfl⟩
  rw [hnn] at KP hn ⊢
  obtain ⟨x, hx⟩ : ∃ x, u64N v = x := ⟨_, rfl⟩
  rw [hx] at KP c1 c2 ⊢
  clear hr hnn hx
  go_enter Try.func126, Try.ntmps126
  go_wp2_with fail
  refine KP.out.mono ?_
  rintro e w1 ⟨r, rfl, ho, hb⟩
  go_wp2_with fail
  go_ret
  exact ⟨_, rfl, ho, hb⟩
theorem putv_any (l : List Nat) (A : Option Addr) (cap : Nat) (x : Nat) (w : World) (hr : RB w A l) (hn : l.length ≤ 1099511627768) :
    Calls Try.prog 121 #[.slice A l.length cap, .float .f64 x] w fun e w' => ∃ r, e = .returned r ∧ w'.ownsRow w.heap.size 5 1 r (l.length + 8) (u8s (l ++ beN x 8)) ∧ Below w.heap.size w w' := by
  have KP := Lib.hid (put_any l A cap x 8 w hr hn (Nat.le_refl _))
  have hf := f64bits_run x
  obtain ⟨n, hnn⟩ : ∃ n, l.length = n := ⟨_, rfl⟩
  rw [hnn] at KP hn ⊢
  clear hr hnn
  go_enter Try.func121, Try.ntmps121
  go_wp2_with fail
  refine KP.out.mono ?_
  rintro e w1 ⟨r, rfl, ho, hb⟩
  go_wp2_with fail
  go_ret
  exact ⟨_, rfl, ho, hb⟩
/-- A config's fields, and in how many bytes each stands. -/
def cfgL (k cl b t d l p : Int) : List (Int × Nat) := [(k, 1), (cl, 2), (b, 2), (t, 2), (d, 1), (l, 4), (p, 2)]
def fldB (f : Int × Nat) : List Nat := beN (u64N f.1) f.2
def cfgB (k cl b t d l p : Int) : List Nat := (cfgL k cl b t d l p).flatMap fldB
theorem cfgB_len (k cl b t d l p : Int) : (cfgB k cl b t d l p).length = 14 := by simp [cfgB, cfgL, fldB, be_len]
theorem cfgB_in (k cl b t d l p : Int) : ∀ x ∈ cfgB k cl b t d l p, x < 256 := fun x hx => by
  obtain ⟨f, _, h⟩ := List.mem_flatMap.1 hx
  exact be_in _ _ _ h
theorem fld_at (k cl b t d l p : Int) (j : Nat) (hj : j < 7) : ∃ x lo hi n, (cfgL k cl b t d l p)[j]? = some (x, n) ∧ n ≤ 8 ∧ ∀ w, (Instr.index 204 (fieldsV k cl b t d l p) (.int .i64 (j : Int))).run Try.prog w = .ok (.agg #[.int .i64 x, .int .i64 lo, .int .i64 hi, .int .i64 (n : Nat)]) w := by
  have ix := fun w => index_f k cl b t d l p w j hj
  obtain e | e | e | e | e | e | e : j = 0 ∨ j = 1 ∨ j = 2 ∨ j = 3 ∨ j = 4 ∨ j = 5 ∨ j = 6 := by omega
  all_goals
    subst e
    exact ⟨_, _, _, _, rfl, by omega, ix⟩
theorem fld_take {k cl b t d l p : Int} {j : Nat} {f : Int × Nat} (h : (cfgL k cl b t d l p)[j]? = some f) : ((cfgL k cl b t d l p).take (j + 1)).flatMap fldB = ((cfgL k cl b t d l p).take j).flatMap fldB ++ fldB f := by
  obtain ⟨hh, he⟩ := List.getElem?_eq_some_iff.1 h
  rw [List.take_succ_eq_append_getElem hh, he, List.flatMap_append]
  simp
theorem fld_len (L : List (Int × Nat)) (h : ∀ f ∈ L, f.2 ≤ 8) : (L.flatMap fldB).length ≤ 8 * L.length := by
  induction L with
  | nil => simp
  | cons f r ih =>
    have := ih (fun g hg => h g (List.mem_cons_of_mem _ hg))
    have h0 := h f (List.mem_cons_self ..)
    simp only [List.flatMap_cons, List.length_append, List.length_cons, fldB, be_len] at this ⊢
    omega
set_option maxRecDepth 100000 in
set_option maxHeartbeats 4000000 in
theorem cput_any (s : List Nat) (A : Option Addr) (cap : Nat) (k cl b t d l p : Int) (w : World) (hr : RB w A s) (hn : s.length ≤ 1099511620000) (hs : ∀ x ∈ s, x < 256) (hc : checkO k cl b t d l p = 0) :
    Calls Try.prog 120 #[.slice A s.length cap, .agg #[.int .i64 k, .int .i64 cl, .int .i64 b, .int .i64 t, .int .i64 d, .int .i64 l, .int .i64 p]] w fun e w' => ∃ r, e = .returned r ∧ w'.ownsRow w.heap.size 5 1 r (s.length + 14) (u8s (s ++ cfgB k cl b t d l p)) ∧ Below w.heap.size w w' := by
  have KC := Lib.hid (fun w hr => clone8_any s A cap w hr (by omega))
  have KK := Lib.hid (fun w => check_any k cl b t d l p w)
  rw [hc] at KK
  have KF := Lib.hid (fun w => fields_any k cl b t d l p w)
  have HIX := Lib.hid (fun j hj => fld_at k cl b t d l p j hj)
  have KP := Lib.hid (fun (q : List Nat) (A : Option Addr) (cap x n : Nat) w hr hl hk => put_any q A cap x n w hr hl hk)
  have HTK : Hid (∀ j f, (cfgL k cl b t d l p)[j]? = some f → ((cfgL k cl b t d l p).take (j + 1)).flatMap fldB = ((cfgL k cl b t d l p).take j).flatMap fldB ++ fldB f) := Lib.hid (fun j f h => fld_take h)
  have HE : Hid (((cfgL k cl b t d l p).take 7).flatMap fldB = cfgB k cl b t d l p) := Lib.hid rfl
  have HCL : Hid ((cfgB k cl b t d l p).length = 14) := Lib.hid (cfgB_len ..)
  obtain ⟨L, hL⟩ : ∃ L, cfgL k cl b t d l p = L := ⟨_, rfl⟩
  have HL8 : Hid (∀ j, ((L.take j).flatMap fldB).length ≤ 56) := Lib.hid (fun j => by
    have h1 := fld_len (L.take j) (fun f hf => by
      have := List.mem_of_mem_take hf
      rw [← hL] at this
      simp only [cfgL, List.mem_cons, List.not_mem_nil, or_false] at this
      rcases this with rfl | rfl | rfl | rfl | rfl | rfl | rfl <;> simp)
    have h2 : (L.take j).length ≤ 7 := by
      rw [List.length_take, show L.length = 7 from by rw [← hL]; rfl]
      omega
    omega)
  have HIN : Hid (∀ j, ∀ x ∈ (L.take j).flatMap fldB, x < 256) := Lib.hid (fun j x hx => by
    obtain ⟨f, _, h⟩ := List.mem_flatMap.1 hx
    exact be_in _ _ _ h)
  rw [hL] at HIX HTK HE
  obtain ⟨fv, hfv⟩ : ∃ fv, fieldsV k cl b t d l p = fv := ⟨_, rfl⟩
  rw [hfv] at KF HIX
  obtain ⟨CB, hCB⟩ : ∃ C, cfgB k cl b t d l p = C := ⟨_, rfl⟩
  rw [hCB] at HE HCL ⊢
  obtain ⟨m, hm⟩ : ∃ m, s.length = m := ⟨_, rfl⟩
  have HM := Lib.hid hm
  rw [hm] at KC hn ⊢
  have HRS := Lib.hid hr
  have HSI := Lib.hid hs
  clear hr hm hL hfv hCB hc hs
  go_enter Try.func120, Try.ntmps120
  go_wp2_with fail
  have b0 : Below w.heap.size w (w.alloc (.cells #[.int .i64 k, .int .i64 cl, .int .i64 b, .int .i64 t, .int .i64 d, .int .i64 l, .int .i64 p] 45)) := (Below.refl _ _).alloc (Nat.le_refl _) _
  have kB := Blk.new w #[.int .i64 k, .int .i64 cl, .int .i64 b, .int .i64 t, .int .i64 d, .int .i64 l, .int .i64 p] 45
  obtain ⟨w0, hw0⟩ : ∃ W, w.alloc (.cells #[.int .i64 k, .int .i64 cl, .int .i64 b, .int .i64 t, .int .i64 d, .int .i64 l, .int .i64 p] 45) = W := ⟨_, rfl⟩
  have hs0 : w0.heap.size = w.heap.size + 1 := by rw [← hw0]; simp
  rw [hw0] at b0 kB ⊢
  have HS0 := Lib.hid hs0
  have HB0 := Lib.hid b0
  have HKB := Lib.hid kB
  clear hw0 b0 kB hs0
  refine (KC.out _ (HRS.out.below HB0.out)).mono ?_
  rintro e w1 ⟨v, rfl, ho, hb⟩
  obtain ⟨a0, c0, rfl⟩ := own_slice ho
  have HO1 : Hid (w1.ownsRow (w.heap.size + 1) 5 1 (.slice a0 m c0) m (u8s s)) := Lib.hid (by rw [← HS0.out]; exact ho)
  have HB1 := Lib.hid (HB0.out.trans (hb.mono HB0.out.size))
  have HK1 := Lib.hid (HKB.out.below hb)
  obtain ⟨q0, q1, q2, q3, q4, q5, q6⟩ : w1.cell? ⟨w.heap.size, 0, none⟩ = some (.int .i64 k) ∧ w1.cell? ⟨w.heap.size, 1, none⟩ = some (.int .i64 cl) ∧ w1.cell? ⟨w.heap.size, 2, none⟩ = some (.int .i64 b) ∧ w1.cell? ⟨w.heap.size, 3, none⟩ = some (.int .i64 t) ∧ w1.cell? ⟨w.heap.size, 4, none⟩ = some (.int .i64 d) ∧ w1.cell? ⟨w.heap.size, 5, none⟩ = some (.int .i64 l) ∧ w1.cell? ⟨w.heap.size, 6, none⟩ = some (.int .i64 p) := ⟨HK1.out.cell 0, HK1.out.cell 1, HK1.out.cell 2, HK1.out.cell 3, HK1.out.cell 4, HK1.out.cell 5, HK1.out.cell 6⟩
  clear ho hb
  go_wp2_with fail
  refine (KK.out _).mono ?_
  rintro e w2 ⟨rfl, hb⟩
  have HO2 := Lib.hid (own_below HO1.out hb)
  have HB2 := Lib.hid (HB1.out.trans (hb.mono HB1.out.size))
  have HK2 := Lib.hid (HK1.out.below hb)
  clear hb q0 q1 q2 q3 q4 q5 q6
  obtain ⟨q0, q1, q2, q3, q4, q5, q6⟩ : w2.cell? ⟨w.heap.size, 0, none⟩ = some (.int .i64 k) ∧ w2.cell? ⟨w.heap.size, 1, none⟩ = some (.int .i64 cl) ∧ w2.cell? ⟨w.heap.size, 2, none⟩ = some (.int .i64 b) ∧ w2.cell? ⟨w.heap.size, 3, none⟩ = some (.int .i64 t) ∧ w2.cell? ⟨w.heap.size, 4, none⟩ = some (.int .i64 d) ∧ w2.cell? ⟨w.heap.size, 5, none⟩ = some (.int .i64 l) ∧ w2.cell? ⟨w.heap.size, 6, none⟩ = some (.int .i64 p) := ⟨HK2.out.cell 0, HK2.out.cell 1, HK2.out.cell 2, HK2.out.cell 3, HK2.out.cell 4, HK2.out.cell 5, HK2.out.cell 6⟩
  go_wp2_with fail
  refine (KF.out _).mono ?_
  rintro e w3 ⟨rfl, hb⟩
  have HO3 := Lib.hid (own_below HO2.out hb)
  have HB3 := Lib.hid (HB2.out.trans (hb.mono HB2.out.size))
  clear hb q0 q1 q2 q3 q4 q5 q6
  go_wp2_with fail
  go_loopw [5, 16] (fun ov iv wr => ∃ (j n : Nat) (a : Option Addr) (c : Nat), j ≤ 7 ∧ iv = .int .i64 j ∧ ov = .slice a n c ∧ Hid (n = m + ((L.take j).flatMap fldB).length) ∧ Hid (wr.ownsRow (w.heap.size + 1) 5 1 (.slice a n c) n (u8s (s ++ (L.take j).flatMap fldB))) ∧ Hid (Below w.heap.size w wr)) (fun _ iv _ => 7 - (intOf iv).toNat)
  case atStart => exact ⟨0, m, a0, c0, by omega, rfl, rfl, Lib.hid rfl, Lib.hid (by simp; exact HO3.out), HB3⟩
  case round =>
    obtain ⟨j, n, a, c, hj, rfl, rfl, HNL, HO, HB⟩ := hrel
    by_cases hlt : j < 7
    · obtain ⟨x, lo, hi, n8, hx, hn8, hix⟩ := HIX.out j hlt
      have HX := Lib.hid (HTK.out j _ hx)
      have hl8 := HL8.out j
      have hw1 := u64N_wrap x
      have hw2 := u64N_mod x
      have hsz : (s ++ (L.take j).flatMap fldB).length = n := by rw [List.length_append, HM.out, HNL.out]
      have HSZ := Lib.hid hsz
      have HRB : Hid (∀ o, RB (wr.alloc o) a (s ++ (L.take j).flatMap fldB)) := Lib.hid (fun o => RB.own (by rw [hsz]; exact HO.out.alloc o) (fun y hy => by
        rcases List.mem_append.1 hy with h | h
        · exact HSI.out y h
        · exact HIN.out j y h))
      have KP2 := Lib.hid (fun (o : Obj) => KP.out (s ++ (L.take j).flatMap fldB) a c (u64N x) n8 (wr.alloc o) (HRB.out o) (by have := HNL.out; rw [hsz]; omega) hn8)
      rw [hsz] at KP2
      have HFL : Hid (fldB (x, n8) = beN (u64N x) n8) := Lib.hid rfl
      obtain ⟨ux, hux⟩ : ∃ ux, u64N x = ux := ⟨_, rfl⟩
      rw [hux] at KP2 hw1 hw2 HFL
      have hsw := HB.out.size
      clear hx hsz hux
      go_wp2_with fail
      refine (KP2.out _).mono ?_
      rintro e w4 ⟨r, rfl, ho, hb⟩
      obtain ⟨a4, c4, rfl⟩ := own_slice ho
      have HB4 := Lib.hid ((HB.out.alloc HB.out.size _).trans (hb.mono (by simp; omega)))
      have HO4 := Lib.hid (own_base_le ho (show w.heap.size + 1 ≤ _ by simp; omega))
      clear ho hb
      go_wp2_with fail
      go_roundw
      case rel => exact ⟨j + 1, n + n8, a4, c4, hlt, by go_num, rfl, Lib.hid (by have := HNL.out; rw [HX.out, List.length_append, HFL.out, be_len]; omega), Lib.hid (by rw [HX.out, HFL.out, ← List.append_assoc]; exact HO4.out), HB4⟩
      case measure => simp [intOf]; omega
    · obtain rfl : j = 7 := by omega
      go_wp2_with fail
      go_ret
      refine ⟨_, rfl, ?_, HB.out⟩
      have h := HO.out
      have hnl := HNL.out
      rw [HE.out] at h hnl
      rw [HCL.out] at hnl
      subst hnl
      exact own_base_le h (by omega)
end Go.Proofs.Ytpekofpiodaadaa.Hb
end

section
/- A sheet of bytes: append of bytes in a drawn region, the walk of (*model.sheet).put. -/
namespace Go.Proofs.Ytpekofpiodaadaa.Hb
set_option linter.unusedVariables false
set_option linter.unusedSimpArgs false
open Go.RowKit

theorem append_types {P : Program} {w : World} {t u ty e e2 : TypeId} (ht : P.underlying t = some (.slice e)) (hu : P.underlying u = some (.slice e2)) (b : Option Addr) (n c : Nat) (x : Value) :
    (Builtin.append_ #[t, u] ty #[.slice b n c, x]).run P w = (Builtin.append_ #[t, t] ty #[.slice b n c, x]).run P w := by
  unfold Builtin.append_
  simp only [List.getElem?_toArray, List.getElem?_cons_zero, List.getElem?_cons_succ, Sem.run_bind, run_underlying ht, run_underlying hu, Result.andThen_ok]
section
variable {P : Program} (w : World)
theorem run_append_two (t u ty : TypeId) (base : Nat) (e e2 : TypeId) (i : TypeInfo) (z : Value) (size bytes : Nat) (ht : P.underlying t = some (.slice e)) (hu : P.underlying u = some (.slice e2)) (hi : P.info? e = some i) (hz : i.zero = some z)
    (hsize : i.size = size) (hby : i.bytes = bytes) (hzs : z.cells.size = size) (hsz : 0 < size)
    (v : Value) (n : Nat) (xs : List Value) (hown : w.ownsRow base e size v n xs)
    (A : Option Addr) (m c : Nat) (news : List Value) (hl : news.length = m * size) (hA : (A = none ∧ m = 0) ∨ ∃ ad, A = some ad ∧ ∀ j u, news[j]? = some u → w.cell? (ad.add j) = some u) (h1 : ∀ u ∈ news, u.oneCell' = true)
    (h63 : n + m ≤ maxLen) (hbytes : (n + m) * bytes ≤ 140737488355328) (hbase : base ≤ w.heap.size) :
    ∃ v' w', (Builtin.append_ #[t, u] ty #[v, .slice A m c]).run P w = .ok v' w' ∧ w'.ownsRow base e size v' (n + m) (xs ++ news) ∧ w.grownBy w' v.ownBlock ∧ (v'.ownBlock = v.ownBlock ∨ v'.ownBlock = some w.heap.size) := by
  obtain ⟨a0, c0, rfl⟩ := own_slice hown
  rw [append_types ht hu]
  rcases hA with ⟨rfl, rfl⟩ | ⟨ad, rfl, hnews⟩
  · have hn : news = [] := List.length_eq_zero_iff.1 (by omega)
    subst hn
    exact ⟨_, w, run_append_nothing base t ty e i size c ht hi _ n xs hown, by rw [Nat.add_zero, List.append_nil]; exact hown, ⟨rfl, rfl, rfl, Nat.le_refl _, fun _ _ _ => rfl⟩, .inl rfl⟩
  · obtain ⟨v', w', hr, h2, h3, _, h5⟩ := run_append_own_at (P := P) w base t ty e i z size bytes ht hi hz hsize hby hzs hsz _ n xs hown ad m c news hl hnews h1 h63 hbytes hbase
    exact ⟨v', w', hr, h2, h3, h5⟩
theorem wp_append_two {o : Oper} {a : Act} {K : Act → World → Prop} {Q : Exit → Act → World → Prop} (s x : Operand) (t u : TypeId)
    (ho : o.op = .call { callee := .builtin .append, args := #[s, x], argTypes := #[t, u] })
    (base : Nat) (e e2 : TypeId) (i : TypeInfo) (z : Value) (size bytes : Nat) (ht : P.underlying t = some (.slice e)) (hu : P.underlying u = some (.slice e2)) (hi : P.info? e = some i) (hz : i.zero = some z)
    (hsize : i.size = size) (hby : i.bytes = bytes) (hzs : z.cells.size = size) (hsz : 0 < size)
    (v : Value) (n : Nat) (xs : List Value) (hs : a.eval s = v) (hown : w.ownsRow base e size v n xs)
    (A : Option Addr) (m c : Nat) (news : List Value) (hx : a.eval x = .slice A m c) (hl : news.length = m * size) (hA : (A = none ∧ m = 0) ∨ ∃ ad, A = some ad ∧ ∀ j u, news[j]? = some u → w.cell? (ad.add j) = some u) (h1 : ∀ u ∈ news, u.oneCell' = true)
    (h63 : n + m ≤ maxLen) (hbytes : (n + m) * bytes ≤ 140737488355328) (hbase : base ≤ w.heap.size)
    (h : ∀ v' w', w'.ownsRow base e size v' (n + m) (xs ++ news) → w.grownBy w' v.ownBlock → (v'.ownBlock = v.ownBlock ∨ v'.ownBlock = some w.heap.size) → K (a.put o.dst v') w') : o.wp P a w K Q := by
  obtain ⟨v', w', hr, h2, h3, h5⟩ := run_append_two (P := P) w t u o.type base e e2 i z size bytes ht hu hi hz hsize hby hzs hsz v n xs hown A m c news hl hA h1 h63 hbytes hbase
  unfold Oper.wp execOp
  simp only [ho, resolve, invoke, builtin, Sem.run_bind, Sem.run_pure, Result.andThen_ok, List.map_toArray, List.map_cons, List.map_nil, hs, hx, hr]
  exact h v' w' h2 h3 h5
/-- At a step of a region that draws its order. -/
theorem step_append_two {ops : Array Oper} {o : Oper} {a : Act} {K : Act → World → Prop} {Q : Exit → Act → World → Prop} {E : Prop} (hgd : o.guard = none) (s x : Operand) (t u : TypeId)
    (ho : o.op = .call { callee := .builtin .append, args := #[s, x], argTypes := #[t, u] })
    (base : Nat) (e e2 : TypeId) (i : TypeInfo) (z : Value) (size bytes : Nat) (ht : P.underlying t = some (.slice e)) (hu : P.underlying u = some (.slice e2)) (hi : P.info? e = some i) (hz : i.zero = some z)
    (hsize : i.size = size) (hby : i.bytes = bytes) (hzs : z.cells.size = size) (hsz : 0 < size)
    (v : Value) (n : Nat) (xs : List Value) (hs : a.eval s = v) (hown : w.ownsRow base e size v n xs)
    (A : Option Addr) (m c : Nat) (news : List Value) (hx : a.eval x = .slice A m c) (hl : news.length = m * size) (hA : (A = none ∧ m = 0) ∨ ∃ ad, A = some ad ∧ ∀ j u, news[j]? = some u → w.cell? (ad.add j) = some u) (h1 : ∀ u ∈ news, u.oneCell' = true)
    (h63 : n + m ≤ maxLen) (hbytes : (n + m) * bytes ≤ 140737488355328) (hbase : base ≤ w.heap.size)
    (h : ∀ v' w', w'.ownsRow base e size v' (n + m) (xs ++ news) → w.grownBy w' v.ownBlock → (v'.ownBlock = v.ownBlock ∨ v'.ownBlock = some w.heap.size) → K (a.put o.dst v') w') :
    if Region.wanted o (yielded ops a.tmps) = true then Oper.wp P o a w K Q else E := by
  rw [if_pos (by simp [Region.wanted, hgd])]
  exact wp_append_two w s x t u ho base e e2 i z size bytes ht hu hi hz hsize hby hzs hsz v n xs hs hown A m c news hx hl hA h1 h63 hbytes hbase h
theorem wpList_append_two {ops : Array Oper} {rest : List Oper} {o : Oper} {a : Act} {Q : Exit → Act → World → Prop} (hgd : o.guard = none) (s x : Operand) (t u : TypeId)
    (ho : o.op = .call { callee := .builtin .append, args := #[s, x], argTypes := #[t, u] })
    (base : Nat) (e e2 : TypeId) (i : TypeInfo) (z : Value) (size bytes : Nat) (ht : P.underlying t = some (.slice e)) (hu : P.underlying u = some (.slice e2)) (hi : P.info? e = some i) (hz : i.zero = some z)
    (hsize : i.size = size) (hby : i.bytes = bytes) (hzs : z.cells.size = size) (hsz : 0 < size)
    (v : Value) (n : Nat) (xs : List Value) (hs : a.eval s = v) (hown : w.ownsRow base e size v n xs)
    (A : Option Addr) (m c : Nat) (news : List Value) (hx : a.eval x = .slice A m c) (hl : news.length = m * size) (hA : (A = none ∧ m = 0) ∨ ∃ ad, A = some ad ∧ ∀ j u, news[j]? = some u → w.cell? (ad.add j) = some u) (h1 : ∀ u ∈ news, u.oneCell' = true)
    (h63 : n + m ≤ maxLen) (hbytes : (n + m) * bytes ≤ 140737488355328) (hbase : base ≤ w.heap.size)
    (h : ∀ v' w', w'.ownsRow base e size v' (n + m) (xs ++ news) → w.grownBy w' v.ownBlock → (v'.ownBlock = v.ownBlock ∨ v'.ownBlock = some w.heap.size) → wpList P ops Q rest (a.put o.dst v') w') : wpList P ops Q (o :: rest) a w :=
  wpList_plain hgd fun _ hK => wp_append_two w s x t u ho base e e2 i z size bytes ht hu hi hz hsize hby hzs hsz v n xs hs hown A m c news hx hl hA h1 h63 hbytes hbase fun v' w' h2 h3 h5 => hK _ _ (h v' w' h2 h3 h5)
end
/-- What a sheet is: a variable at S that holds its bytes, which the call owns. -/
structure Sht (w : World) (B S : Nat) (v : Value) (s : List Nat) : Prop where
  form : ∃ a c, v = .slice a s.length c
  kS : Blk w S #[v] 127
  own : w.ownsRow B 5 1 v s.length (u8s s)
  ne : v.ownBlock ≠ some S
  ins : ∀ x ∈ s, x < 256
/-- What turns where bytes are laid down: the variable, its row, and what is made. -/
structure Stp (w : World) (S : Nat) (v : Value) (w' : World) (v' : Value) : Prop where
  os : w'.os = w.os
  tape : w'.tape = w.tape
  output : w'.output = w.output
  size : w.heap.size ≤ w'.heap.size
  block : ∀ k, k < w.heap.size → k ≠ S → v.ownBlock ≠ some k → w'.heap[k]? = w.heap[k]?
  row : ∀ g, v'.ownBlock = some g → v.ownBlock = some g ∨ w.heap.size ≤ g
theorem Stp.trans {w w1 w2 : World} {S : Nat} {v v1 v2 : Value} (h : Stp w S v w1 v1) (k : Stp w1 S v1 w2 v2) : Stp w S v w2 v2 := by
  refine ⟨k.os.trans h.os, k.tape.trans h.tape, k.output.trans h.output, Nat.le_trans h.size k.size, fun i hi hs hv => ?_, fun g hg => ?_⟩
  · refine (k.block i (Nat.lt_of_lt_of_le hi h.size) hs (fun e => ?_)).trans (h.block i hi hs hv)
    rcases h.row i e with e | e
    · exact hv e
    · omega
  · rcases k.row g hg with e | e
    · exact h.row g e
    · exact .inr (Nat.le_trans h.size e)
theorem Stp.of_below {w w1 : World} {S : Nat} {v : Value} (hb : Below w.heap.size w w1) : Stp w S v w1 v := ⟨hb.os, hb.tape, hb.output, hb.size, fun k hk _ _ => hb.block k hk, fun g hg => .inl hg⟩
theorem Stp.blk {w w1 : World} {S q : Nat} {v v1 : Value} {cs : Array Value} {t : TypeId} (h : Stp w S v w1 v1) (hk : Blk w q cs t) (hs : q ≠ S) (hv : v.ownBlock ≠ some q) : Blk w1 q cs t := (h.block q hk.lt hs hv).trans hk
theorem Stp.low {w w1 : World} {S N : Nat} {v v1 : Value} (h : Stp w S v w1 v1) (hN : N ≤ w.heap.size) (hs : N ≤ S) (hv : ∀ g, v.ownBlock = some g → N ≤ g) : Below N w w1 :=
  ⟨h.os, h.tape, h.output, h.size, fun k hk => h.block k (by omega) (by omega) (fun e => by have := hv k e; omega)⟩
theorem Sht.below {w w1 : World} {B S : Nat} {v : Value} {s : List Nat} (h : Sht w B S v s) (hb : Below w.heap.size w w1) : Sht w1 B S v s := ⟨h.form, h.kS.below hb, own_below h.own hb, h.ne, h.ins⟩
end Go.Proofs.Ytpekofpiodaadaa.Hb
end

section
/- The walk of (*model.sheet).put. -/
namespace Go.Proofs.Ytpekofpiodaadaa.Hb
set_option linter.unusedVariables false
set_option linter.unusedSimpArgs false
open Go.RowKit

theorem pnil_any (x k : Nat) (hk : k ≤ 8) (w : World) : Calls Try.prog 124 #[.slice none 0 0, .int .u64 (x : Int), .int .i64 (k : Int)] w fun e w' => ∃ r, e = .returned r ∧ w'.ownsRow w.heap.size 5 1 r k (u8s (beN x k)) ∧ Below w.heap.size w w' := by
  have h := put_any [] none 0 x k w (RB.nil _ _) (by simp) hk
  simp only [List.length_nil, Nat.zero_add, List.nil_append] at h
  exact h
theorem sht_next {w w1 : World} {B S n c : Nat} {a : Option Addr} {s r : List Nat} {v' : Value} (h : Sht w B S (.slice a n c) s) (hn : n = s.length) (hown : w1.ownsRow B 5 1 v' (n + r.length) (u8s s ++ u8s r)) (hg : w.grownBy w1 (Value.slice a n c).ownBlock) (hat : v'.ownBlock = (Value.slice a n c).ownBlock ∨ v'.ownBlock = some w.heap.size) (hr : ∀ x ∈ r, x < 256) :
    Sht (w1.setCell ⟨S, 0, none⟩ v') B S v' (s ++ r) ∧ Stp w S (.slice a n c) (w1.setCell ⟨S, 0, none⟩ v') v' := by
  have hlt := h.kS.lt
  have hne : v'.ownBlock ≠ some S := by
    rcases hat with e | e
    · rw [e]; exact h.ne
    · rw [e]; intro e2; simp at e2; omega
  subst hn
  have hk1 : Blk w1 S #[.slice a s.length c] 127 := own_blk h.kS hg h.ne
  refine ⟨⟨?_, hk1.set 0 v', ?_, hne, fun x hx => ?_⟩, ?_⟩
  · obtain ⟨a', c', rfl⟩ := own_slice hown
    exact ⟨a', c', by rw [List.length_append]⟩
  · rw [List.length_append, u8s_app]
    refine hown.kept (row := some S) ⟨rfl, rfl, rfl, by simp, fun k _ hk => Below.heap_setCell w1 ⟨S, 0, none⟩ v' k (fun e => hk (by rw [e]))⟩ (.inr hne)
  · rcases List.mem_append.1 hx with hx | hx
    · exact h.ins x hx
    · exact hr x hx
  · refine ⟨hg.os, hg.tape, hg.output, by simp; exact hg.size, fun k hk hs hv => ?_, fun g hg' => ?_⟩
    · exact (Below.heap_setCell w1 ⟨S, 0, none⟩ v' k (fun e => hs e)).trans (hg.block k hk (fun e => hv e.symm))
    · rcases hat with e | e
      · exact .inl (by rw [← e]; exact hg')
      · rw [e] at hg'; simp at hg'; exact .inr (by omega)
set_option warningAsError false in
set_option maxRecDepth 100000 in
set_option maxHeartbeats 4000000 in
theorem sput_any (B S x k : Nat) (v : Value) (s : List Nat) (w : World) (h : Sht w B S v s) (hB : B ≤ w.heap.size) (hk : k ≤ 8) (hn : s.length ≤ 1099511620000) :
    Calls Try.prog 119 #[.pointer (some ⟨S, 0, none⟩), .int .u64 (x : Int), .int .i64 (k : Int)] w fun e w' => (∃ r, e = .returned r) ∧ ∃ v', Sht w' B S v' (s ++ beN x k) ∧ Stp w S v w' v' := by
  have KP := Lib.hid (fun w => pnil_any x k hk w)
  obtain ⟨a, c, rfl⟩ := h.form
  obtain ⟨n, hnn⟩ : ∃ n, s.length = n := ⟨_, rfl⟩
  rw [hnn] at h hn ⊢
  have HN := Lib.hid hnn.symm
  have HS := Lib.hid h
  have o0 : w.cell? ⟨S, 0, none⟩ = some (.slice a n c) := h.kS.cell 0
  have o1 := fun i => h.kS.frozen i
  have hlS := h.kS.lt
  have HX0 := Lib.hid ((Below.refl w.heap.size w).drew)
  obtain ⟨i0, hi0, hz0, hz1, hz2⟩ := info_parts info_u8
  clear h hnn
  go_enter Try.func119, Try.ntmps119
  go_region_law (first | (go_simp; go_at_call 124; refine (KP.out _).mono ?_; rintro e w1 ⟨r, rfl, ho, hb⟩; obtain ⟨a4, c4, rfl⟩ := own_slice ho; have HX1 := Lib.hid (HX0.out.trans (hb.mono HX0.out.size)); have HR1 : Hid (RB w1 a4 (beN x k)) := Lib.hid (RB.own (by rw [be_len]; exact ho) (be_in x k)); have HS1 := Lib.hid (HS.out.below HX1.out); have hsz1 := HX1.out.size; have f0 : w1.cell? ⟨S, 0, none⟩ = some (.slice a n c) := HS1.out.kS.cell 0; clear ho hb) | (refine step_append_two _ (by rfl) _ _ 127 54 (by rfl) B 5 5 i0 (.int .u8 0) 1 1 Try.underlying127 Try.underlying54 hi0 hz0 hz1 hz2 rfl (by decide) (.slice a n c) n (u8s s) (by rfl) (by have h := HS1.out.own; rw [← HN.out] at h; exact h) a4 k c4 (u8s (beN x k)) (by rfl) (by rw [u8s_len, be_len, Nat.mul_one]) (by have h := HR1.out.news; rw [be_len] at h; exact h) (u8s_one _) (by unfold maxLen; omega) (by omega) (by omega) ?_; intro v3 w3 hown3 hg3 hat3; obtain ⟨a3, c3, rfl⟩ := own_slice hown3; have HNX := Lib.hid (sht_next HS1.out HN.out (by rw [be_len]; exact hown3) hg3 hat3 (be_in x k)); have kS3 := own_blk HS1.out.kS hg3 HS1.out.ne; have f0 : w3.cell? ⟨S, 0, none⟩ = some (.slice a n c) := kS3.cell 0; have f1 := fun i => kS3.frozen i; have f2 := kS3.lt; clear hown3 hg3 hat3 kS3))
  all_goals
    refine bodyPost_end (results_none rfl _ _ _) rfl ?_
    exact ⟨⟨_, rfl⟩, _, HNX.out.1, (Stp.of_below HX1.out).trans HNX.out.2⟩
end Go.Proofs.Ytpekofpiodaadaa.Hb
end

section
/- The walk of node.Put. -/
namespace Go.Proofs.Ytpekofpiodaadaa.Hb
set_option linter.unusedVariables false
set_option linter.unusedSimpArgs false
open Go.RowKit

def ndB (kind : Int) (n : Nd) : List Nat :=
  if n.f = -1 then (if kind = 0 then [0, u64N n.c % 256] else 0 :: (beN (u64N n.s) 8 ++ beN (u64N n.k) 4)) else 1 :: (beN (u64N n.f) 2 ++ beN (u64N n.b) 2)
theorem ndB_leaf0 {kind : Int} {n : Nd} (h : n.f = -1) (hk : kind = 0) : ndB kind n = [0, u64N n.c % 256] := by unfold ndB; rw [if_pos h, if_pos hk]
theorem ndB_leaf1 {kind : Int} {n : Nd} (h : n.f = -1) (hk : ¬ kind = 0) : ndB kind n = [0] ++ (beN (u64N n.s) 8 ++ beN (u64N n.k) 4) := by unfold ndB; rw [if_pos h, if_neg hk]; rfl
theorem ndB_split {kind : Int} {n : Nd} (h : ¬ n.f = -1) : ndB kind n = [1] ++ (beN (u64N n.f) 2 ++ beN (u64N n.b) 2) := by unfold ndB; rw [if_neg h]; rfl
theorem ndB_len (kind : Int) (n : Nd) : (ndB kind n).length ≤ 13 := by
  unfold ndB
  split
  · split
    · simp
    · simp [be_len]
  · simp [be_len]
theorem ndB_in (kind : Int) (n : Nd) : ∀ x ∈ ndB kind n, x < 256 := by
  intro x hx
  unfold ndB at hx
  split at hx
  · split at hx
    · simp at hx; omega
    · rcases List.mem_cons.1 hx with rfl | hx
      · omega
      · rcases List.mem_append.1 hx with h | h <;> exact be_in _ _ _ h
  · rcases List.mem_cons.1 hx with rfl | hx
    · omega
    · rcases List.mem_append.1 hx with h | h <;> exact be_in _ _ _ h
/-- A tree's bytes. -/
def treeB (kind : Int) (t : List Nd) : List Nat := beN t.length 4 ++ t.flatMap (ndB kind)
theorem treeB_in (kind : Int) (t : List Nd) : ∀ x ∈ treeB kind t, x < 256 := fun x hx => by
  rcases List.mem_append.1 hx with h | h
  · exact be_in _ _ _ h
  · obtain ⟨n, _, h⟩ := List.mem_flatMap.1 h
    exact ndB_in kind n x h
theorem flat_len {t : List Nd} {kind : Int} : (t.flatMap (ndB kind)).length ≤ 13 * t.length := by
  induction t with
  | nil => simp
  | cons n r ih =>
    have := ndB_len kind n
    simp only [List.flatMap_cons, List.length_append, List.length_cons] at ih ⊢
    omega
theorem flat_snoc {t : List Nd} {kind : Int} {i : Nat} {x : Nd} (h : t[i]? = some x) : (t.take (i + 1)).flatMap (ndB kind) = (t.take i).flatMap (ndB kind) ++ ndB kind x := by
  rw [take_snocN h, List.flatMap_append]
  simp
theorem cnil_any (w : World) : Calls Try.prog 122 #[.slice none 0 0] w fun e w' => ∃ v, e = .returned v ∧ w'.ownsRow w.heap.size 5 1 v 0 [] ∧ Below w.heap.size w w' := clone8_any [] none 0 w (RB.nil _ _) (by simp)
/-- What lies in node.Put's boxes, and what it has. -/
structure NpI (sh : Array Value) (B : Nat) (a : Option Addr) (n c : Nat) (s : List Nat) (w wr : World) : Prop where
  kB : Blk wr B sh 132
  own : wr.ownsRow (B + 1) 5 1 (.slice a n c) n (u8s s)
  be : Below w.heap.size w wr
theorem NpI.below {sh : Array Value} {B n c : Nat} {a : Option Addr} {s : List Nat} {w wr w' : World} (h : NpI sh B a n c s w wr) (hb : Below wr.heap.size wr w') : NpI sh B a n c s w w' := ⟨h.kB.below hb, own_below h.own hb, h.be.trans (hb.mono h.be.size)⟩
theorem NpI.app {sh : Array Value} {B n c n' c' : Nat} {a a' : Option Addr} {s s' : List Nat} {w wr w' : World} (h : NpI sh B a n c s w wr) (hB : w.heap.size = B) (hg : wr.grownBy w' (Value.slice a n c).ownBlock) (hown : w'.ownsRow (B + 1) 5 1 (.slice a' n' c') n' (u8s s')) : NpI sh B a' n' c' s' w w' :=
  ⟨own_blk h.kB hg (own_base h.own (Nat.lt_succ_self _)), hown, h.be.grown hg h.be.size (fun q e => by have := (World.ownsRow.lt h.own q e).1; omega)⟩
set_option maxRecDepth 100000 in
set_option maxHeartbeats 8000000 in
theorem nput_any (cols bins kind classes : Int) (t : List Nd) (A : Option Addr) (cap : Nat) (w : World) (hr : RN w A t) (hl : t.length ≤ 4294967295) (hright : rightT cols bins kind classes t = true) :
    Calls Try.prog 62 #[.slice none 0 0, .slice A t.length cap, .agg #[.int .i64 cols, .int .i64 bins, .int .i64 kind, .int .i64 classes]] w fun e w' => ∃ r, e = .returned r ∧ w'.ownsRow w.heap.size 5 1 r (treeB kind t).length (u8s (treeB kind t)) ∧ Below w.heap.size w w' := by
  have KC := Lib.hid (fun w => cnil_any w)
  have KT := Lib.hid (fun w hr => tright_any cols bins kind classes t A cap w hr (by omega))
  rw [hright] at KT
  obtain ⟨⟨_, _, hb2, hb256, hkc⟩, _, _, _, hone⟩ := rightT_is hright
  have HONE := Lib.hid hone
  have KL4 := Lib.hid (fun w => pnil_any t.length 4 (by omega) w)
  have KP := Lib.hid (fun x k hk w => pnil_any x k hk w)
  have KW := Lib.hid (fun v w => putw_any [] none 0 v w (RB.nil _ _) (by simp))
  simp only [List.length_nil, Nat.zero_add, List.nil_append] at KW
  have KQ := Lib.hid (fun (q : List Nat) (A : Option Addr) (cap x n : Nat) w hr hl hk => put_any q A cap x n w hr hl hk)
  obtain ⟨i0, hi0, hz0, hz1, hz2⟩ := info_parts info_u8
  have HTB : Hid (treeB kind t = beN t.length 4 ++ t.flatMap (ndB kind)) := Lib.hid rfl
  obtain ⟨m, hm⟩ : ∃ m, t.length = m := ⟨_, rfl⟩
  have HM := Lib.hid hm
  rw [hm] at KT KL4 HTB hl ⊢
  obtain ⟨L4, hL4⟩ : ∃ L, beN m 4 = L := ⟨_, rfl⟩
  have HL4 : Hid (L4.length = 4) := Lib.hid (by rw [← hL4, be_len])
  have HL4E := Lib.hid hL4
  rw [hL4] at KL4 HTB
  have hw1 : IntKind.u64.wrap (m : Int) = (m : Int) := by rw [IntKind.wrap_u64]; omega
  have hw2 : (m : Int) % 18446744073709551616 = (m : Int) := by omega
  have HRN := Lib.hid hr
  clear hr hm hright hone hL4
  go_enter Try.func62, Try.ntmps62
  go_upto_region 1 with (fail)
  have b0 : Below w.heap.size w (w.alloc (.cells #[.int .i64 cols, .int .i64 bins, .int .i64 kind, .int .i64 classes] 132)) := (Below.refl _ _).alloc (Nat.le_refl _) _
  have kB := Blk.new w #[.int .i64 cols, .int .i64 bins, .int .i64 kind, .int .i64 classes] 132
  obtain ⟨w0, hw0⟩ : ∃ W, w.alloc (.cells #[.int .i64 cols, .int .i64 bins, .int .i64 kind, .int .i64 classes] 132) = W := ⟨_, rfl⟩
  have hs0 : w0.heap.size = w.heap.size + 1 := by rw [← hw0]; simp
  rw [hw0] at b0 kB ⊢
  have HS0 := Lib.hid hs0
  have HB0 := Lib.hid b0
  have HKB := Lib.hid kB
  clear hw0 b0 kB hs0
  go_wp2_with fail
  refine (KC.out _).mono ?_
  rintro e w1 ⟨v, rfl, ho, hb⟩
  obtain ⟨a0, c0, rfl⟩ := own_slice ho
  have HI1 : Hid (NpI #[.int .i64 cols, .int .i64 bins, .int .i64 kind, .int .i64 classes] w.heap.size a0 0 c0 [] w w1) := Lib.hid ⟨HKB.out.below hb, by rw [← HS0.out]; exact ho, HB0.out.trans (hb.mono HB0.out.size)⟩
  clear ho hb
  obtain ⟨s0, s1, s2, s3⟩ : w1.cell? ⟨w.heap.size, 0, none⟩ = some (.int .i64 cols) ∧ w1.cell? ⟨w.heap.size, 1, none⟩ = some (.int .i64 bins) ∧ w1.cell? ⟨w.heap.size, 2, none⟩ = some (.int .i64 kind) ∧ w1.cell? ⟨w.heap.size, 3, none⟩ = some (.int .i64 classes) := ⟨HI1.out.kB.cell 0, HI1.out.kB.cell 1, HI1.out.kB.cell 2, HI1.out.kB.cell 3⟩
  go_wp2_with fail
  refine (KT.out _ (HRN.out.below HI1.out.be)).mono ?_
  rintro e w2 ⟨rfl, hb⟩
  have HI2 := Lib.hid (HI1.out.below hb)
  clear hb s0 s1 s2 s3
  go_wp2_with fail
  refine (KL4.out _).mono ?_
  rintro e w3 ⟨v, rfl, ho, hb⟩
  obtain ⟨a4, c4, rfl⟩ := own_slice ho
  have HI3 := Lib.hid (HI2.out.below hb)
  have HR3 : Hid (RB w3 a4 L4) := Lib.hid (RB.own (by rw [HL4.out]; exact ho) (by rw [← HL4E.out]; exact be_in _ _))
  have hsz3 := HI3.out.be.size
  have hsB : w.heap.size + 1 ≤ w3.heap.size := HI3.out.kB.lt
  clear ho hb
  go_upto_region 5 with (at_builtin; refine wpList_append_two _ rfl _ _ 54 54 rfl (w.heap.size + 1) 5 5 i0 (.int .u8 0) 1 1 Try.underlying54 Try.underlying54 hi0 hz0 hz1 hz2 rfl (by decide) _ _ _ rfl HI3.out.own a4 4 c4 (u8s L4) rfl (by rw [u8s_len, HL4.out]) (by have h := HR3.out.news; rw [HL4.out] at h; exact h) (u8s_one _) (by unfold maxLen; omega) (by omega) (by first | omega | (simp; omega)) ?_; intro v5 w5 hown5 hg5 hat5; rw [← u8s_app, Nat.zero_add, List.nil_append] at hown5; obtain ⟨a5, c5, rfl⟩ := own_slice hown5; have HI5 := Lib.hid (HI3.out.app rfl hg5 hown5); clear hown5 hg5 hat5)
  have hs5 := HI5.out.be.size
  clear hsz3 hsB
  go_wp2_with fail
  clear hw1 hw2 hs5
  go_loopw [7, 25] (fun ov iv wr => ∃ (i n : Nat) (a : Option Addr) (c : Nat), i ≤ m ∧ iv = .int .i64 i ∧ ov = .slice a n c ∧ Hid (n = 4 + ((t.take i).flatMap (ndB kind)).length) ∧ Hid (NpI #[.int .i64 cols, .int .i64 bins, .int .i64 kind, .int .i64 classes] w.heap.size a n c (L4 ++ (t.take i).flatMap (ndB kind)) w wr)) (fun _ iv _ => m - (intOf iv).toNat)
  case atStart => exact ⟨0, 4, a5, c5, Nat.zero_le _, rfl, rfl, Lib.hid rfl, Lib.hid (by simpa using HI5.out)⟩
  case round =>
    obtain ⟨i, n, a, c, hi, rfl, rfl, HNL, HI⟩ := hrel
    by_cases hlt : i < m
    · have hlt' : (i : Int) < m := by omega
      obtain ⟨ad, rfl, x, hx, hxok, hat⟩ := (HRN.out.below HI.out.be).at (i := i) (by rw [HM.out]; exact hlt)
      have hone := HONE.out x (List.mem_of_getElem? hx)
      have HFL := Lib.hid (flat_snoc (kind := kind) hx)
      have HL0 := Lib.hid (fun h hk => ndB_leaf0 (kind := kind) (n := x) h hk)
      have HL1 := Lib.hid (fun h hk => ndB_leaf1 (kind := kind) (n := x) h hk)
      have HSP := Lib.hid (fun h => ndB_split (kind := kind) (n := x) h)
      have hnb : n ≤ 4 + 13 * m := by
        have h1 := HNL.out
        have h2 := flat_len (t := t.take i) (kind := kind)
        have h3 : (t.take i).length ≤ i := List.length_take_le _ _
        omega
      have KL := Lib.hid (fun w => nleaf_any x w)
      obtain ⟨p0, p1, p2, p3, p4, p5⟩ := hat
      obtain ⟨f, b, ll, cx, sx, q⟩ := x
      unfold oneP at hone
      unfold ndV at KL
      simp only at p0 p1 p2 p3 p4 p5 hone KL HL0 HL1 HSP
      have HONX := Lib.hid hone
      obtain ⟨S, hS⟩ : ∃ S, L4 ++ (t.take i).flatMap (ndB kind) = S := ⟨_, rfl⟩
      have HSE : Hid (L4 ++ (t.take (i + 1)).flatMap (ndB kind) = S ++ ndB kind ⟨f, b, ll, cx, sx, q⟩) := Lib.hid (by rw [HFL.out, ← List.append_assoc, hS])
      rw [hS] at HI
      have hsw := HI.out.be.size
      have HNE : Hid ((Value.slice a n c).ownBlock ≠ some wr.heap.size) := Lib.hid (fun e => by have := (World.ownsRow.lt HI.out.own _ e).2; omega)
      clear hx hxok hone hS
      go_wp2_with fail
      refine (KL.out _).mono ?_
      rintro e w2 ⟨rfl, hb⟩
      have kN := Lib.hid ((Blk.new wr #[.int .i64 f, .int .i64 b, .int .i64 ll, .int .i64 cx, .int .i64 sx, .int .i64 q] 90).below hb)
      have HI2 := Lib.hid ((HI.out.below ((Below.refl _ _).alloc (Nat.le_refl _) (.cells #[.int .i64 f, .int .i64 b, .int .i64 ll, .int .i64 cx, .int .i64 sx, .int .i64 q] 90))).below hb)
      have hsw2 : w.heap.size + 1 ≤ w2.heap.size := HI2.out.kB.lt
      clear hb p0 p1 p2 p3 p4 p5 hsw
      by_cases hf : f = -1
      · have fb : (f == -1) = true := beq_iff_eq.2 hf
        by_cases hk : kind = 0
        · have HND := Lib.hid (HL0.out hf hk)
          have kb : (kind == 0) = true := beq_iff_eq.2 hk
          have hcx : 0 ≤ cx ∧ cx < 256 := by
            have h := HONX.out
            rw [if_pos hf, if_pos hk] at h
            rcases hkc with h1 | h1 <;> omega
          have hc1 : IntKind.u8.wrap cx = ((u64N cx % 256 : Nat) : Int) := by
            unfold u64N
            simp [IntKind.wrap, IntKind.bits, IntKind.signed]
            omega
          have hc2 : cx % 256 = ((u64N cx % 256 : Nat) : Int) := by unfold u64N; omega
          obtain ⟨c8, hc8⟩ : ∃ z, u64N cx % 256 = z := ⟨_, rfl⟩
          rw [hc8] at HND hc1 hc2
          have s2 : w2.cell? ⟨w.heap.size, 2, none⟩ = some (.int .i64 kind) := HI2.out.kB.cell 2
          have n3 : w2.cell? ⟨wr.heap.size, 3, none⟩ = some (.int .i64 cx) := kN.out.cell 3
          clear hc8 hf hk hcx
          go_upto_region 15 with (at_builtin; refine wpList_append_two _ rfl _ _ 54 54 rfl (w.heap.size + 1) 5 5 i0 (.int .u8 0) 1 1 Try.underlying54 Try.underlying54 hi0 hz0 hz1 hz2 rfl (by decide) _ _ _ rfl (HI2.out.own.alloc _) (some ⟨w2.heap.size, 0, none⟩) 2 2 (u8s [0, c8]) rfl rfl (by exact .inr ⟨_, rfl, cell_two _ _ _ _⟩) (u8s_one _) (by unfold maxLen; omega) (by omega) (by first | omega | (simp; omega)) ?_; intro v3 w3 hown3 hg3 hat3; rw [← u8s_app] at hown3; obtain ⟨a3, c3, rfl⟩ := own_slice hown3; have HI3' := Lib.hid ((HI2.out.below ((Below.refl _ _).alloc (Nat.le_refl _) (.cells #[.int .u8 0, .int .u8 (c8 : Int)] 5))).app rfl hg3 hown3); have kN3 := Lib.hid (own_blk (kN.out.below ((Below.refl _ _).alloc (Nat.le_refl _) (.cells #[.int .u8 0, .int .u8 (c8 : Int)] 5))) hg3 (fun e => by have h := (World.ownsRow.lt (own_below HI2.out.own ((Below.refl _ _).alloc (Nat.le_refl _) (.cells #[.int .u8 0, .int .u8 (c8 : Int)] 5))) _ e).2; have h2 := HNE.out; exact h2 e)); clear hown3 hg3 hat3)
          go_wp2_with fail
          go_roundw
          case rel => exact ⟨i + 1, n + 2, _, _, hlt, by go_num, rfl, Lib.hid (by have h := HNL.out; have h2 : (ndB kind ⟨f, b, ll, cx, sx, q⟩).length = 2 := (by rw [HND.out]; simp [be_len]); rw [HFL.out, List.length_append, h2]; omega), Lib.hid (by rw [HSE.out, HND.out]; exact HI3'.out)⟩
          case measure => simp [intOf]; omega
        · have HND := Lib.hid (HL1.out hf hk)
          have kb : (kind == 0) = false := beq_eq_false_iff_ne.2 hk
          have s2 : w2.cell? ⟨w.heap.size, 2, none⟩ = some (.int .i64 kind) := HI2.out.kB.cell 2
          have KWs := Lib.hid (fun w => KW.out sx w)
          have KQk := Lib.hid (fun (A : Option Addr) (cap : Nat) w hr => put_any (beN (u64N sx) 8) A cap (u64N q) 4 w hr (by rw [be_len]; omega) (by omega))
          simp only [be_len] at KQk
          have hq1 := u64N_wrap q
          have hq2 := u64N_mod q
          obtain ⟨us, hus⟩ : ∃ z, u64N sx = z := ⟨_, rfl⟩
          obtain ⟨uq, huq⟩ : ∃ z, u64N q = z := ⟨_, rfl⟩
          rw [hus] at HND KWs KQk
          rw [huq] at HND KQk hq1 hq2
          clear hus huq hf hk
          go_upto_region 9 with (at_builtin; refine wpList_append_two _ rfl _ _ 54 54 rfl (w.heap.size + 1) 5 5 i0 (.int .u8 0) 1 1 Try.underlying54 Try.underlying54 hi0 hz0 hz1 hz2 rfl (by decide) _ _ _ rfl (HI2.out.own.alloc _) (some ⟨w2.heap.size, 0, none⟩) 1 1 (u8s [0]) rfl rfl (by exact .inr ⟨_, rfl, cell_one_new _ _ _⟩) (u8s_one _) (by unfold maxLen; omega) (by omega) (by first | omega | (simp; omega)) ?_; intro v3 w3 hown3 hg3 hat3; rw [← u8s_app] at hown3; obtain ⟨a3, c3, rfl⟩ := own_slice hown3; have HI3' := Lib.hid ((HI2.out.below ((Below.refl _ _).alloc (Nat.le_refl _) (.cells #[.int .u8 0] 5))).app rfl hg3 hown3); have kN3 := Lib.hid (own_blk (kN.out.below ((Below.refl _ _).alloc (Nat.le_refl _) (.cells #[.int .u8 0] 5))) hg3 (fun e => by have h := (World.ownsRow.lt (own_below HI2.out.own ((Below.refl _ _).alloc (Nat.le_refl _) (.cells #[.int .u8 0] 5))) _ e).2; have h2 := HNE.out; exact h2 e)); clear hown3 hg3 hat3)
          have p4 : w3.cell? ⟨wr.heap.size, 4, none⟩ = some (.int .i64 sx) := kN3.out.cell 4
          have p5 : w3.cell? ⟨wr.heap.size, 5, none⟩ = some (.int .i64 q) := kN3.out.cell 5
          have HX0 := Lib.hid ((Below.refl w3.heap.size w3).drew)
          clear s2
          go_region_law (first | (go_simp; go_at_call 126; refine (KWs.out _).mono ?_; rintro e w4 ⟨r, rfl, ho, hb⟩; obtain ⟨a4, c4, rfl⟩ := own_slice ho; have HX1 := Lib.hid (HX0.out.trans (hb.mono HX0.out.size)); have HR4 : Hid (RB w4 a4 (beN us 8)) := Lib.hid (RB.own (by rw [be_len]; exact ho) (be_in us 8)); have p4 : w4.cell? ⟨wr.heap.size, 4, none⟩ = some (.int .i64 sx) := (kN3.out.below HX1.out).cell 4; have p5 : w4.cell? ⟨wr.heap.size, 5, none⟩ = some (.int .i64 q) := (kN3.out.below HX1.out).cell 5; clear ho hb) | (go_simp; go_at_call 124; refine (KQk.out _ _ _ HR4.out).mono ?_; rintro e w5 ⟨r, rfl, ho, hb⟩; obtain ⟨a6, c6, rfl⟩ := own_slice ho; have HX2 := Lib.hid (HX1.out.trans (hb.mono HX1.out.size)); have HR5 : Hid (RB w5 a6 (beN us 8 ++ beN uq 4)) := Lib.hid (RB.own (by rw [List.length_append, be_len, be_len]; exact ho) (fun x hx => by rcases List.mem_append.1 hx with h | h <;> exact be_in _ _ _ h)); have HI5' := Lib.hid (HI3'.out.below HX2.out); have hsz5 := HI5'.out.be.size; have hsB5 : w.heap.size + 1 ≤ w5.heap.size := HI5'.out.kB.lt; have p4 : w5.cell? ⟨wr.heap.size, 4, none⟩ = some (.int .i64 sx) := (kN3.out.below HX2.out).cell 4; have p5 : w5.cell? ⟨wr.heap.size, 5, none⟩ = some (.int .i64 q) := (kN3.out.below HX2.out).cell 5; clear ho hb) | (refine step_append_two _ (by rfl) _ _ 54 54 (by rfl) (w.heap.size + 1) 5 5 i0 (.int .u8 0) 1 1 Try.underlying54 Try.underlying54 hi0 hz0 hz1 hz2 rfl (by decide) (.slice a3 (n + 1) c3) (n + 1) (u8s _) (by rfl) HI5'.out.own a6 12 c6 (u8s (beN us 8 ++ beN uq 4)) (by rfl) (by rw [u8s_len, List.length_append, be_len, be_len]) (by have h := HR5.out.news; rw [List.length_append, be_len, be_len] at h; exact h) (u8s_one _) (by unfold maxLen; omega) (by omega) (by omega) ?_; intro v7 w7 hown7 hg7 hat7; rw [← u8s_app] at hown7; obtain ⟨a7, c7, rfl⟩ := own_slice hown7; have HI7 := Lib.hid (HI5'.out.app rfl hg7 hown7); clear hown7 hg7 hat7))
          all_goals
            go_wp2_with fail
            go_roundw
            case rel => exact ⟨i + 1, n + 1 + 12, _, _, hlt, by go_num, rfl, Lib.hid (by have h := HNL.out; have h2 : (ndB kind ⟨f, b, ll, cx, sx, q⟩).length = 13 := (by rw [HND.out]; simp [be_len]); rw [HFL.out, List.length_append, h2]; omega), Lib.hid (by rw [HSE.out, HND.out, ← List.append_assoc]; exact HI7.out)⟩
            case measure => simp [intOf]; omega
      · have fb : (f == -1) = false := beq_eq_false_iff_ne.2 hf
        have HND := Lib.hid (HSP.out hf)
        have KPf := Lib.hid (fun w => pnil_any (u64N f) 2 (by omega) w)
        have KQb := Lib.hid (fun (A : Option Addr) (cap : Nat) w hr => put_any (beN (u64N f) 2) A cap (u64N b) 2 w hr (by rw [be_len]; omega) (by omega))
        simp only [be_len] at KQb
        have hf1 := u64N_wrap f
        have hf2 := u64N_mod f
        have hb1 := u64N_wrap b
        have hb2' := u64N_mod b
        obtain ⟨uf, huf⟩ : ∃ z, u64N f = z := ⟨_, rfl⟩
        obtain ⟨ub, hub⟩ : ∃ z, u64N b = z := ⟨_, rfl⟩
        rw [huf] at HND KPf KQb hf1 hf2
        rw [hub] at HND KQb hb1 hb2'
        clear huf hub hf
        go_upto_region 12 with (at_builtin; refine wpList_append_two _ rfl _ _ 54 54 rfl (w.heap.size + 1) 5 5 i0 (.int .u8 0) 1 1 Try.underlying54 Try.underlying54 hi0 hz0 hz1 hz2 rfl (by decide) _ _ _ rfl (HI2.out.own.alloc _) (some ⟨w2.heap.size, 0, none⟩) 1 1 (u8s [1]) rfl rfl (by exact .inr ⟨_, rfl, cell_one_new _ _ _⟩) (u8s_one _) (by unfold maxLen; omega) (by omega) (by first | omega | (simp; omega)) ?_; intro v3 w3 hown3 hg3 hat3; rw [← u8s_app] at hown3; obtain ⟨a3, c3, rfl⟩ := own_slice hown3; have HI3' := Lib.hid ((HI2.out.below ((Below.refl _ _).alloc (Nat.le_refl _) (.cells #[.int .u8 1] 5))).app rfl hg3 hown3); have kN3 := Lib.hid (own_blk (kN.out.below ((Below.refl _ _).alloc (Nat.le_refl _) (.cells #[.int .u8 1] 5))) hg3 (fun e => by have h := (World.ownsRow.lt (own_below HI2.out.own ((Below.refl _ _).alloc (Nat.le_refl _) (.cells #[.int .u8 1] 5))) _ e).2; have h2 := HNE.out; exact h2 e)); clear hown3 hg3 hat3)
        have p0 : w3.cell? ⟨wr.heap.size, 0, none⟩ = some (.int .i64 f) := kN3.out.cell 0
        have p1 : w3.cell? ⟨wr.heap.size, 1, none⟩ = some (.int .i64 b) := kN3.out.cell 1
        have HX0 := Lib.hid ((Below.refl w3.heap.size w3).drew)
        go_region_law (first | (go_simp; go_at_call 124; refine (KQb.out _ _ _ HR4.out).mono ?_; rintro e w5 ⟨r, rfl, ho, hb⟩; obtain ⟨a6, c6, rfl⟩ := own_slice ho; have HX2 := Lib.hid (HX1.out.trans (hb.mono HX1.out.size)); have HR5 : Hid (RB w5 a6 (beN uf 2 ++ beN ub 2)) := Lib.hid (RB.own (by rw [List.length_append, be_len, be_len]; exact ho) (fun x hx => by rcases List.mem_append.1 hx with h | h <;> exact be_in _ _ _ h)); have HI5' := Lib.hid (HI3'.out.below HX2.out); have hsz5 := HI5'.out.be.size; have hsB5 : w.heap.size + 1 ≤ w5.heap.size := HI5'.out.kB.lt; have p0 : w5.cell? ⟨wr.heap.size, 0, none⟩ = some (.int .i64 f) := (kN3.out.below HX2.out).cell 0; have p1 : w5.cell? ⟨wr.heap.size, 1, none⟩ = some (.int .i64 b) := (kN3.out.below HX2.out).cell 1; clear ho hb) | (go_simp; go_at_call 124; refine (KPf.out _).mono ?_; rintro e w4 ⟨r, rfl, ho, hb⟩; obtain ⟨a4, c4, rfl⟩ := own_slice ho; have HX1 := Lib.hid (HX0.out.trans (hb.mono HX0.out.size)); have HR4 : Hid (RB w4 a4 (beN uf 2)) := Lib.hid (RB.own (by rw [be_len]; exact ho) (be_in uf 2)); have p0 : w4.cell? ⟨wr.heap.size, 0, none⟩ = some (.int .i64 f) := (kN3.out.below HX1.out).cell 0; have p1 : w4.cell? ⟨wr.heap.size, 1, none⟩ = some (.int .i64 b) := (kN3.out.below HX1.out).cell 1; clear ho hb) | (refine step_append_two _ (by rfl) _ _ 54 54 (by rfl) (w.heap.size + 1) 5 5 i0 (.int .u8 0) 1 1 Try.underlying54 Try.underlying54 hi0 hz0 hz1 hz2 rfl (by decide) (.slice a3 (n + 1) c3) (n + 1) (u8s _) (by rfl) HI5'.out.own a6 4 c6 (u8s (beN uf 2 ++ beN ub 2)) (by rfl) (by rw [u8s_len, List.length_append, be_len, be_len]) (by have h := HR5.out.news; rw [List.length_append, be_len, be_len] at h; exact h) (u8s_one _) (by unfold maxLen; omega) (by omega) (by omega) ?_; intro v7 w7 hown7 hg7 hat7; rw [← u8s_app] at hown7; obtain ⟨a7, c7, rfl⟩ := own_slice hown7; have HI7 := Lib.hid (HI5'.out.app rfl hg7 hown7); clear hown7 hg7 hat7))
        all_goals
          go_wp2_with fail
          go_roundw
          case rel => exact ⟨i + 1, n + 1 + 4, _, _, hlt, by go_num, rfl, Lib.hid (by have h := HNL.out; have h2 : (ndB kind ⟨f, b, ll, cx, sx, q⟩).length = 5 := (by rw [HND.out]; simp [be_len]); rw [HFL.out, List.length_append, h2]; omega), Lib.hid (by rw [HSE.out, HND.out, ← List.append_assoc]; exact HI7.out)⟩
          case measure => simp [intOf]; omega
    · obtain rfl : m = i := by omega
      have htk : t.take m = t := List.take_of_length_le (by rw [HM.out]; exact Nat.le_refl _)
      rw [htk] at HI HNL
      have HLT : Hid ((L4 ++ t.flatMap (ndB kind)).length = n) := Lib.hid (by rw [List.length_append, HL4.out, HNL.out])
      go_wp2_with fail
      go_ret
      refine ⟨_, rfl, ?_, HI.out.be⟩
      rw [HTB.out, HLT.out]
      exact own_base_le HI.out.own (Nat.le_succ _)
end Go.Proofs.Ytpekofpiodaadaa.Hb
end

section
/- Edges: the walks of edges.Right and of the document's. -/
namespace Go.Proofs.Ytpekofpiodaadaa.Hb
set_option linter.unusedVariables false
set_option linter.unusedSimpArgs false
open Go.RowKit

def fltR (y : Nat) (c : List Value) : Prop := c = [.float .f64 y] ∧ y < 18446744073709551616
def RF (w : World) (A : Option Addr) (l : List Nat) : Prop := RowAt w 1 fltR A l
theorem RF.below {w w1 : World} {A : Option Addr} {l : List Nat} (h : RF w A l) (hb : Below w.heap.size w w1) : RF w1 A l := RowAt.below h hb
theorem RF.at {w : World} {A : Option Addr} {l : List Nat} (h : RF w A l) {i : Nat} (hi : i < l.length) : ∃ ad, A = some ad ∧ w.cell? (ad.add i) = some (.float .f64 (l.getD i 0)) ∧ l.getD i 0 < 18446744073709551616 := by
  obtain ⟨ad, rfl, ha⟩ := h (by omega)
  obtain ⟨c, h1, ⟨rfl, hok⟩, h3⟩ := ha i _ (List.getElem?_eq_getElem hi)
  have e : l.getD i 0 = l[i] := by rw [List.getD_eq_getElem?_getD, List.getElem?_eq_getElem hi]; rfl
  rw [e]
  have e := h3 0 _ rfl
  rw [Nat.mul_one, Nat.add_zero] at e
  exact ⟨ad, rfl, e, hok⟩
def okE (l : List Nat) (i : Nat) : Bool := !nanF (l.getD i 0) && ((l.getD i 0 == cleanF (l.getD i 0)) && (i == 0 || decide (cmpF (l.getD (i - 1) 0) (l.getD i 0) < 0)))
/-- Could these be edges? -/
def rightE (l : List Nat) : Bool := (List.range l.length).all (okE l) && decide (l.length < 256)
theorem right_no {l : List Nat} {i : Nat} (hi : i < l.length) (h : okE l i = false) : rightE l = false := by
  unfold rightE
  rw [Bool.and_eq_false_iff]
  refine .inl ?_
  rw [List.all_eq_false]
  exact ⟨i, by simpa using hi, by rw [h]; simp⟩
theorem right_yes {l : List Nat} (h : ∀ i, i < l.length → okE l i = true) : rightE l = decide (l.length < 256) := by
  unfold rightE
  rw [show (List.range l.length).all (okE l) = true from List.all_eq_true.2 (fun i hi => h i (by simpa using hi)), Bool.true_and]
theorem ok_nan {l : List Nat} {i x : Nat} (e : l.getD i 0 = x) (h : nanF x = true) : okE l i = false := by unfold okE; rw [e, h]; rfl
theorem ok_unclean {l : List Nat} {i x : Nat} (e : l.getD i 0 = x) (h : x ≠ cleanF x) : okE l i = false := by
  unfold okE; rw [e, beq_eq_false_iff_ne.2 h]; simp
theorem ok_cmp {l : List Nat} {i j x y : Nat} (hj : j + 1 = i) (e : l.getD i 0 = x) (e2 : l.getD j 0 = y) (h : ¬ cmpF y x < 0) : okE l i = false := by
  subst hj
  unfold okE; rw [e, Nat.add_sub_cancel, e2, decide_eq_false h]; simp
theorem ok_zero {l : List Nat} {x : Nat} (e : l.getD 0 0 = x) (h : nanF x = false) (h2 : x = cleanF x) : okE l 0 = true := by
  unfold okE; rw [e, h, ← h2]; simp
theorem ok_next {l : List Nat} {i j x y : Nat} (hj : j + 1 = i) (e : l.getD i 0 = x) (e2 : l.getD j 0 = y) (h : nanF x = false) (h2 : x = cleanF x) (h3 : cmpF y x < 0) : okE l i = true := by
  subst hj
  unfold okE; rw [e, Nat.add_sub_cancel, e2, h, ← h2, decide_eq_true h3]; simp
set_option maxRecDepth 100000 in
set_option maxHeartbeats 2000000 in
theorem eright_any (l : List Nat) (A : Option Addr) (cap : Nat) (w : World) (hr : RF w A l) (hl : l.length ≤ 9223372036854775807) :
    Calls Try.prog 130 #[.slice A l.length cap] w (Says (.bool (rightE l)) w) := by
  have HN : Hid (∀ i, i < l.length → okE l i = false → rightE l = false) := Lib.hid (fun i hi h => right_no hi h)
  have HY : Hid ((∀ i, i < l.length → okE l i = true) → rightE l = decide (l.length < 256)) := Lib.hid right_yes
  obtain ⟨R, hR⟩ : ∃ R, rightE l = R := ⟨_, rfl⟩
  rw [hR] at HN HY ⊢
  obtain ⟨n, hn⟩ : ∃ n, l.length = n := ⟨_, rfl⟩
  have HLN := Lib.hid hn
  rw [hn] at HN HY hl ⊢
  have HR := Lib.hid hr
  clear hR hn hr
  go_enter Try.func130, Try.ntmps130
  go_wp2_with fail
  go_loop [7] (fun iv => ∃ i : Nat, i ≤ n ∧ iv = .int .i64 i ∧ Hid (∀ j, j < i → okE l j = true)) (fun iv => n - (intOf iv).toNat)
  case atStart => exact ⟨0, Nat.zero_le _, rfl, Lib.hid (fun j hj => by omega)⟩
  case round =>
    obtain ⟨i, hi, rfl, HI⟩ := hrel
    by_cases hlt : i < n
    · have hlt' : (i : Int) < n := by omega
      obtain ⟨ad, rfl, hx, hxl⟩ := HR.out.at (i := i) (by rw [HLN.out]; exact hlt)
      obtain ⟨x, ex⟩ : ∃ x, l.getD i 0 = x := ⟨_, rfl⟩
      rw [ex] at hx hxl
      have HEX := Lib.hid ex
      have KM := Lib.hid (fun w => missing_any x w)
      have KC := Lib.hid (fun w => clean_any x w)
      have hf1 := f64bits_run x
      have hf2 := f64bits_run (cleanF x)
      obtain ⟨c, ec⟩ : ∃ c, cleanF x = c := ⟨_, rfl⟩
      have HEC := Lib.hid ec
      rw [ec] at KC hf2
      clear ex ec
      cases hna : nanF x with
      | true =>
        rw [hna] at KM
        have HF := Lib.hid (HN.out i hlt (ok_nan HEX.out hna))
        clear hna
        go_wp2_with fail
        refine (KM.out _).mono ?_
        rintro e w1 ⟨rfl, rfl⟩
        go_wp2_with fail
        go_ret
        exact ⟨by rw [HF.out]; rfl, rfl⟩
      | false =>
        rw [hna] at KM
        have HNA := Lib.hid hna
        clear hna
        by_cases hc : x = c
        · subst hc
          by_cases h0 : i = 0
          · have HO : Hid (okE l i = true) := Lib.hid (by
              have h := HEX.out
              rw [h0] at h ⊢
              exact ok_zero h HNA.out HEC.out.symm)
            have d0 : decide ((0 : Int) < (i : Int)) = false := decide_eq_false (by omega)
            have d0' : decide (0 < i) = false := decide_eq_false (by omega)
            have H0 := Lib.hid h0
            clear h0
            go_wp2_with fail
            refine (KM.out _).mono ?_
            rintro e w1 ⟨rfl, rfl⟩
            go_wp2_with fail
            refine (KC.out _).mono ?_
            rintro e w1 ⟨rfl, rfl⟩
            go_wp2_with fail
            go_round
            case rel => exact ⟨i + 1, hlt, by go_num, Lib.hid (fun j hj => by
              have := H0.out
              obtain rfl : j = i := by omega
              exact HO.out)⟩
            case measure => simp [intOf]; omega
          · obtain ⟨j, hj⟩ : ∃ j, j + 1 = i := ⟨i - 1, by omega⟩
            obtain ⟨ad', e', hy, hyl⟩ := HR.out.at (i := j) (by rw [HLN.out]; omega)
            cases e'
            obtain ⟨y, ey⟩ : ∃ x, l.getD j 0 = x := ⟨_, rfl⟩
            rw [ey] at hy hyl
            have HEY := Lib.hid ey
            have KP := Lib.hid (fun w => fcmp_any y x hyl hxl w)
            obtain ⟨p, ep⟩ : ∃ p, cmpF y x = p := ⟨_, rfl⟩
            rw [ep] at KP
            have HEP := Lib.hid ep
            clear ey ep hyl hxl
            have ws : IntKind.i64.wrap ((i : Int) - 1) = (j : Int) := by rw [IntKind.wrap_i64]; omega
            have ws2 : wrap64 ((i : Int) - 1) = (j : Int) := by unfold wrap64; omega
            have d0 : decide ((0 : Int) < (i : Int)) = true := decide_eq_true (by omega)
            have d0' : decide (0 < i) = true := decide_eq_true (by omega)
            have hjn : (j : Int) < n := by omega
            have HJ := Lib.hid hj
            by_cases hp : p < 0
            · have d1 : decide ((0 : Int) ≤ p) = false := decide_eq_false (by omega)
              have HO := Lib.hid (ok_next HJ.out HEX.out HEY.out HNA.out HEC.out.symm (by rw [HEP.out]; exact hp))
              go_wp2_with fail
              refine (KM.out _).mono ?_
              rintro e w1 ⟨rfl, rfl⟩
              go_wp2_with fail
              refine (KC.out _).mono ?_
              rintro e w1 ⟨rfl, rfl⟩
              go_wp2_with fail
              refine (KP.out _).mono ?_
              rintro e w1 ⟨rfl, rfl⟩
              go_wp2_with fail
              go_round
              case rel => exact ⟨i + 1, hlt, by go_num, Lib.hid (fun q hq => by
                rcases Nat.lt_or_ge q i with h | h
                · exact HI.out q h
                · obtain rfl : q = i := by omega
                  exact HO.out)⟩
              case measure => simp [intOf]; omega
            · have d1 : decide ((0 : Int) ≤ p) = true := decide_eq_true (by omega)
              have HF := Lib.hid (HN.out i hlt (ok_cmp HJ.out HEX.out HEY.out (by rw [HEP.out]; exact hp)))
              go_wp2_with fail
              refine (KM.out _).mono ?_
              rintro e w1 ⟨rfl, rfl⟩
              go_wp2_with fail
              refine (KC.out _).mono ?_
              rintro e w1 ⟨rfl, rfl⟩
              go_wp2_with fail
              refine (KP.out _).mono ?_
              rintro e w1 ⟨rfl, rfl⟩
              go_wp2_with fail
              go_ret
              exact ⟨by rw [HF.out]; rfl, rfl⟩
        · have HF := Lib.hid (HN.out i hlt (ok_unclean HEX.out (by rw [HEC.out]; exact hc)))
          have dc : ((x : Int) != (c : Int)) = true := by simp; omega
          have dc' : (x != c) = true := by simp; omega
          have dc2 : ((x : Int) == (c : Int)) = false := beq_eq_false_iff_ne.2 (by omega)
          have dc3 : (x == c) = false := beq_eq_false_iff_ne.2 (by omega)
          go_wp2_with fail
          refine (KM.out _).mono ?_
          rintro e w1 ⟨rfl, rfl⟩
          go_wp2_with fail
          refine (KC.out _).mono ?_
          rintro e w1 ⟨rfl, rfl⟩
          go_wp2_with fail
          go_ret
          exact ⟨by rw [HF.out]; rfl, rfl⟩
    · obtain rfl : n = i := by omega
      have HF := Lib.hid (HY.out HI.out)
      by_cases h : n < 256
      · have d1 : decide ((n : Int) < 256) = true := decide_eq_true (by omega)
        have d2 : decide (n < 256) = true := decide_eq_true h
        go_wp2_with fail
        go_ret
        exact ⟨by rw [HF.out, d2]; rfl, rfl⟩
      · have d1 : decide ((n : Int) < 256) = false := decide_eq_false (by omega)
        have d2 : decide (n < 256) = false := decide_eq_false h
        go_wp2_with fail
        go_ret
        exact ⟨by rw [HF.out, d2]; rfl, rfl⟩
end Go.Proofs.Ytpekofpiodaadaa.Hb
end

section
/- Forests: how one lies, what is asked of one; model.bound, cuts, shape; node.Depth. -/
namespace Go.Proofs.Ytpekofpiodaadaa.Hb
set_option linter.unusedVariables false
set_option linter.unusedSimpArgs false
open Go.RowKit

structure Fst where
  k : Int
  cl : Int
  b : Int
  t : Int
  d : Int
  l : Int
  p : Int
  cols : Int
  seed : Nat
  edges : List (List Nat)
  trees : List (List Nd)
  num : Int
  den : Int
  shake : List (Int × Int)
def sgR (x : Int × Int) (c : List Value) : Prop := c = [.int .i64 x.1, .int .i64 x.2] ∧ in64 x.1 ∧ in64 x.2
def RE (w : World) (A : Option Addr) (l : List (List Nat)) : Prop := RowAt w 1 (rowK w 1 fltR) A l
def RS2 (w : World) (A : Option Addr) (l : List (Int × Int)) : Prop := RowAt w 2 sgR A l
theorem RE.below {w w1 : World} {A : Option Addr} {l : List (List Nat)} (h : RE w A l) (hb : Below w.heap.size w w1) : RE w1 A l := RowAt.belowR h hb (fun _ _ h => h.below hb)
theorem RS2.below {w w1 : World} {A : Option Addr} {l : List (Int × Int)} (h : RS2 w A l) (hb : Below w.heap.size w w1) : RS2 w1 A l := RowAt.below h hb
theorem RE.at {w : World} {A : Option Addr} {l : List (List Nat)} (h : RE w A l) {i : Nat} (hi : i < l.length) : ∃ ad, A = some ad ∧ ∃ t B cap, l[i]? = some t ∧ w.cell? (ad.add i) = some (.slice B t.length cap) ∧ t.length ≤ cap ∧ cap ≤ 9223372036854775807 ∧ RF w B t := by
  obtain ⟨ad, rfl, ha⟩ := h (by omega)
  obtain ⟨c, h1, ⟨B, cap, rfl, k1, k2, k3⟩, h3⟩ := ha i _ (List.getElem?_eq_getElem hi)
  have e := h3 0 _ rfl
  rw [Nat.mul_one, Nat.add_zero] at e
  exact ⟨ad, rfl, _, B, cap, List.getElem?_eq_getElem hi, e, k1, k2, k3⟩
theorem RS2.at {w : World} {A : Option Addr} {l : List (Int × Int)} (h : RS2 w A l) {i : Nat} (hi : i < l.length) : ∃ ad, A = some ad ∧ ∃ x, l[i]? = some x ∧ in64 x.1 ∧ in64 x.2 ∧ w.cell? (ad.add (i * 2)) = some (.int .i64 x.1) ∧ w.cell? ⟨(ad.add (i * 2)).block, (ad.add (i * 2)).off + 1, none⟩ = some (.int .i64 x.2) := by
  obtain ⟨ad, rfl, ha⟩ := h (by omega)
  obtain ⟨c, h1, ⟨rfl, k1, k2⟩, h3⟩ := ha i _ (List.getElem?_eq_getElem hi)
  have e0 := h3 0 _ rfl
  have e1 := h3 1 _ rfl
  rw [Nat.add_zero] at e0
  rw [add_k ad i 1 2 (by omega) (by omega)] at e1
  exact ⟨ad, rfl, _, List.getElem?_eq_getElem hi, k1, k2, e0, e1⟩
/-- A forest as it lies. -/
def forA (f : Fst) (Ae At As : Option Addr) (ce ct cs : Nat) : Array Value :=
  #[.int .i64 f.k, .int .i64 f.cl, .int .i64 f.b, .int .i64 f.t, .int .i64 f.d, .int .i64 f.l, .int .i64 f.p, .int .i64 f.cols, .int .u64 (f.seed : Int), .slice Ae f.edges.length ce, .slice At f.trees.length ct, .int .i64 f.num, .int .i64 f.den, .slice As f.shake.length cs]
structure RFo (w : World) (f : Fst) (Ae At As : Option Addr) : Prop where
  re : RE w Ae f.edges
  rt : RT w At f.trees
  rs : RS2 w As f.shake
theorem RFo.below {w w1 : World} {f : Fst} {Ae At As : Option Addr} (h : RFo w f Ae At As) (hb : Below w.heap.size w w1) : RFo w1 f Ae At As := ⟨h.re.below hb, h.rt.below hb, h.rs.below hb⟩
structure OkF (f : Fst) : Prop where
  le : f.edges.length ≤ 9223372036854775807
  lt : f.trees.length ≤ 9223372036854775807
  ls : f.shake.length ≤ 9223372036854775807
  ee : ∀ l ∈ f.edges, l.length ≤ 4294967295
  tt : ∀ t ∈ f.trees, t.length ≤ 4294967295
theorem Blk.cells14 {w : World} {g : Nat} {a0 a1 a2 a3 a4 a5 a6 a7 a8 a9 a10 a11 a12 a13 : Value} {t : TypeId} (h : Blk w g #[a0, a1, a2, a3, a4, a5, a6, a7, a8, a9, a10, a11, a12, a13] t) :
    w.cell? ⟨g, 0, none⟩ = some a0 ∧ w.cell? ⟨g, 1, none⟩ = some a1 ∧ w.cell? ⟨g, 2, none⟩ = some a2 ∧ w.cell? ⟨g, 3, none⟩ = some a3 ∧ w.cell? ⟨g, 4, none⟩ = some a4 ∧ w.cell? ⟨g, 5, none⟩ = some a5 ∧ w.cell? ⟨g, 6, none⟩ = some a6 ∧ w.cell? ⟨g, 7, none⟩ = some a7 ∧ w.cell? ⟨g, 8, none⟩ = some a8 ∧ w.cell? ⟨g, 9, none⟩ = some a9 ∧ w.cell? ⟨g, 10, none⟩ = some a10 ∧ w.cell? ⟨g, 11, none⟩ = some a11 ∧ w.cell? ⟨g, 12, none⟩ = some a12 ∧ w.cell? ⟨g, 13, none⟩ = some a13 :=
  ⟨h.cell 0, h.cell 1, h.cell 2, h.cell 3, h.cell 4, h.cell 5, h.cell 6, h.cell 7, h.cell 8, h.cell 9, h.cell 10, h.cell 11, h.cell 12, h.cell 13⟩
/-- What is asked of a forest. -/
def bndO (kind den : Int) : Int := if kind = 1 then IntKind.i64.wrap (den * 4398046511104) else den
def cutsE (b : Int) (l : List Nat) : Bool := rightE l && decide ((l.length : Int) < b)
def depO (t : List Nd) : Int := if rightT 1024 256 0 256 t then maxO (depthsO t) else if rightT 1024 256 1 0 t then maxO (depthsO t) else 0
def treeE (f : Fst) (t : List Nd) : Bool := rightT f.cols f.b f.k f.cl t && decide (depO t ≤ f.d)
def shkE (f : Fst) (x : Int × Int) : Bool := !(x.2 != f.den || (decide (bndO f.k f.den < x.1) || decide (x.1 < IntKind.i64.wrap (-(bndO f.k f.den)))))
def outE (f : Fst) : Bool := !(decide (f.den < 0) || (decide (1048576 < f.den) || (decide (f.num < 0) || decide (bndO f.k f.den < f.num))))
def errsE (f : Fst) : Bool := outE f && (f.shake.all (shkE f) && ((f.shake.length : Int) == f.cols))
def headE (f : Fst) : Bool := (checkO f.k f.cl f.b f.t f.d f.l f.p == 0) && (decide (1 ≤ f.cols ∧ f.cols ≤ 1024 ∧ (f.edges.length : Int) = f.cols ∧ (f.trees.length : Int) = f.t) && errsE f)
def mayF (f : Fst) : Bool := headE f && (f.edges.all (cutsE f.b) && f.trees.all (treeE f))
def cfgF (k cl b t d l p : Int) : Array Value := #[.int .i64 k, .int .i64 cl, .int .i64 b, .int .i64 t, .int .i64 d, .int .i64 l, .int .i64 p]
theorem wrapI_fst (x : Int) : IntKind.i64.wrap x = wrap64 x := by rw [IntKind.wrap_i64]; unfold wrap64; omega
theorem bound_any (k cl b t d l p den : Int) (w : World) : Calls Try.prog 129 #[.agg (cfgF k cl b t d l p), .int .i64 den] w fun e w' => e = .returned (.int .i64 (bndO k den)) ∧ Below w.heap.size w w' := by
  unfold cfgF
  by_cases hk : k = 1
  · have kb : (k == 1) = true := beq_iff_eq.2 hk
    have HB : Hid (bndO k den = IntKind.i64.wrap (den * 4398046511104)) := Lib.hid (if_pos hk)
    clear hk
    go_enter Try.func129, Try.ntmps129
    go_wp2_with fail
    go_ret
    exact ⟨by rw [HB.out, wrapI_fst]; rfl, (Below.refl _ _).alloc (Nat.le_refl _) _⟩
  · have kb : (k == 1) = false := beq_eq_false_iff_ne.2 hk
    have HB : Hid (bndO k den = den) := Lib.hid (if_neg hk)
    clear hk
    go_enter Try.func129, Try.ntmps129
    go_wp2_with fail
    go_ret
    exact ⟨by rw [HB.out]; rfl, (Below.refl _ _).alloc (Nat.le_refl _) _⟩
theorem cuts_any (k cl b t d l p : Int) (es : List Nat) (A : Option Addr) (cap : Nat) (w : World) (hr : RF w A es) (hl : es.length ≤ 9223372036854775807) :
    Calls Try.prog 72 #[.agg (cfgF k cl b t d l p), .slice A es.length cap] w fun e w' => e = .returned (.bool (cutsE b es)) ∧ Below w.heap.size w w' := by
  have KR := Lib.hid (fun w hr => eright_any es A cap w hr hl)
  have HR := Lib.hid hr
  have HC : Hid (cutsE b es = (rightE es && decide ((es.length : Int) < b))) := Lib.hid rfl
  obtain ⟨n, hn⟩ : ∃ n, es.length = n := ⟨_, rfl⟩
  rw [hn] at KR HC hl ⊢
  obtain ⟨r, hre⟩ : ∃ r, rightE es = r := ⟨_, rfl⟩
  rw [hre] at KR HC
  obtain ⟨C, hC⟩ : ∃ r, cutsE b es = r := ⟨_, rfl⟩
  rw [hC] at HC ⊢
  unfold cfgF
  have HBE := Lib.hid ((Below.refl w.heap.size w).alloc (Nat.le_refl _) (.cells #[.int .i64 k, .int .i64 cl, .int .i64 b, .int .i64 t, .int .i64 d, .int .i64 l, .int .i64 p] 45))
  clear hr hn hre hC
  cases r with
  | false =>
    go_enter Try.func72, Try.ntmps72
    go_wp2_with fail
    refine (KR.out _ (HR.out.below HBE.out)).mono ?_
    rintro e w1 ⟨rfl, rfl⟩
    go_wp2_with fail
    go_ret
    exact ⟨by rw [HC.out]; rfl, HBE.out⟩
  | true =>
    by_cases h : (n : Int) < b
    · have d1 : decide ((n : Int) < b) = true := decide_eq_true h
      have HC2 : Hid (C = true) := Lib.hid (by rw [HC.out, d1]; rfl)
      clear h
      go_enter Try.func72, Try.ntmps72
      go_wp2_with fail
      refine (KR.out _ (HR.out.below HBE.out)).mono ?_
      rintro e w1 ⟨rfl, rfl⟩
      go_wp2_with fail
      go_ret
      exact ⟨by rw [HC2.out]; rfl, HBE.out⟩
    · have d1 : decide ((n : Int) < b) = false := decide_eq_false h
      have HC2 : Hid (C = false) := Lib.hid (by rw [HC.out, d1]; rfl)
      clear h
      go_enter Try.func72, Try.ntmps72
      go_wp2_with fail
      refine (KR.out _ (HR.out.below HBE.out)).mono ?_
      rintro e w1 ⟨rfl, rfl⟩
      go_wp2_with fail
      go_ret
      exact ⟨by rw [HC2.out]; rfl, HBE.out⟩
theorem shape_any (f : Fst) (Ae At As : Option Addr) (ce ct cs : Nat) (w : World) : Calls Try.prog 63 #[.agg (forA f Ae At As ce ct cs)] w fun e w' =>
    e = .returned (.agg #[.int .i64 f.cols, .int .i64 f.b, .int .i64 f.k, .int .i64 f.cl]) ∧ Below w.heap.size w w' := by
  unfold forA
  go_enter Try.func63, Try.ntmps63
  go_wp2_with fail
  refine bodyPost_ret (results_cell rfl _ _ (w.heap.size + 1) 132 #[.int .i64 f.cols, .int .i64 f.b, .int .i64 f.k, .int .i64 f.cl] _ rfl ?_ Try.underlying132 rfl (by kernel_rfl)) rfl ⟨rfl, ?_⟩
  · have := Blk.new (w.alloc (.cells (forA f Ae At As ce ct cs) 59)) #[.int .i64 f.cols, .int .i64 f.b, .int .i64 f.k, .int .i64 f.cl] 132
    rw [World.size_alloc] at this
    exact this
  · exact ((Below.refl _ _).alloc (Nat.le_refl _) _).alloc (by simp) _
end Go.Proofs.Ytpekofpiodaadaa.Hb
end

section
/- The walks of node.Depth, model.tree, model.errors. -/
namespace Go.Proofs.Ytpekofpiodaadaa.Hb
set_option linter.unusedVariables false
set_option linter.unusedSimpArgs false
open Go.RowKit

set_option maxRecDepth 100000 in
set_option maxHeartbeats 4000000 in
theorem ndepth_any (t : List Nd) (A : Option Addr) (cap : Nat) (w : World) (hr : RN w A t) (hl : t.length ≤ 1099511627776) :
    Calls Try.prog 131 #[.slice A t.length cap] w fun e w' => e = .returned (.int .i64 (depO t)) ∧ Below w.heap.size w w' := by
  have K0 := Lib.hid (fun w hr => tright_any 1024 256 0 256 t A cap w hr hl)
  have K1 := Lib.hid (fun w hr => tright_any 1024 256 1 0 t A cap w hr hl)
  unfold shpA at K0 K1
  have KD := Lib.hid (fun w hr => depths_any t A cap w hr hl)
  have KX := Lib.hid (fun A c w hr h0 => smax_any (depthsO t) A c w hr h0 (by have := depths_len t; omega))
  have HR0 : Hid (rightT 1024 256 0 256 t = true → depthsO t ≠ []) := Lib.hid (fun h e => by
    obtain ⟨_, h0, ⟨ds, hd, he⟩, _⟩ := rightT_is h
    unfold rightT at h
    rw [e] at h
    simp at h)
  have HR1 : Hid (rightT 1024 256 1 0 t = true → depthsO t ≠ []) := Lib.hid (fun h e => by
    unfold rightT at h
    rw [e] at h
    simp at h)
  have HD : Hid (depO t = if rightT 1024 256 0 256 t then maxO (depthsO t) else if rightT 1024 256 1 0 t then maxO (depthsO t) else 0) := Lib.hid rfl
  have HLow := Lib.hid (depths_low t)
  have HLen := Lib.hid (depths_len t)
  have HZero := Lib.hid (dep_zero (t := t))
  obtain ⟨D, hD⟩ : ∃ D, depO t = D := ⟨_, rfl⟩
  obtain ⟨r0, hr0⟩ : ∃ r, rightT 1024 256 0 256 t = r := ⟨_, rfl⟩
  obtain ⟨r1, hr1⟩ : ∃ r, rightT 1024 256 1 0 t = r := ⟨_, rfl⟩
  obtain ⟨ds, hds⟩ : ∃ ds, depthsO t = ds := ⟨_, rfl⟩
  obtain ⟨n, hn⟩ : ∃ n, t.length = n := ⟨_, rfl⟩
  rw [hD, hr0, hr1, hds] at HD
  rw [hD]
  rw [hr0] at K0 HR0
  rw [hr1] at K1 HR1
  rw [hds] at KD KX HR0 HR1 HLow HLen HZero
  rw [hn] at K0 K1 KD HLen hl ⊢
  have HRN := Lib.hid hr
  clear hD hr0 hr1 hds hn hr
  go_enter Try.func131, Try.ntmps131
  go_wp2_with fail
  have kS := Blk.new w #[.int .i64 1024, .int .i64 256, .int .i64 0, .int .i64 256, .int .i64 1024, .int .i64 256, .int .i64 1, .int .i64 0] 132
  have be0 := Lib.hid ((Below.refl w.heap.size w).alloc (Nat.le_refl _) (.cells #[.int .i64 1024, .int .i64 256, .int .i64 0, .int .i64 256, .int .i64 1024, .int .i64 256, .int .i64 1, .int .i64 0] 132))
  have HKS := Lib.hid kS
  clear kS
  go_loopw [9] (fun iv wr => ∃ i : Nat, i ≤ 2 ∧ iv = .int .i64 i ∧ Hid ((1 ≤ i → r0 = false) ∧ (2 ≤ i → r1 = false)) ∧ Hid (Blk wr w.heap.size #[.int .i64 1024, .int .i64 256, .int .i64 0, .int .i64 256, .int .i64 1024, .int .i64 256, .int .i64 1, .int .i64 0] 132) ∧ Hid (Below w.heap.size w wr)) (fun iv _ => 2 - (intOf iv).toNat)
  case atStart => exact ⟨0, by omega, rfl, Lib.hid ⟨fun h => by omega, fun h => by omega⟩, HKS, be0⟩
  case round =>
    obtain ⟨i, hi, rfl, HI, HK, HB⟩ := hrel
    have q0 := HK.out.cell 0
    have q1 := HK.out.cell 1
    have q2 := HK.out.cell 2
    have q3 := HK.out.cell 3
    have q4 := HK.out.cell 4
    have q5 := HK.out.cell 5
    have q6 := HK.out.cell 6
    have q7 := HK.out.cell 7
    simp only [List.getElem?_toArray, List.getElem?_cons_zero, List.getElem?_cons_succ] at q0 q1 q2 q3 q4 q5 q6 q7
    have hlS := HK.out.lt
    have hsw := HB.out.size
    obtain e | e | e : i = 0 ∨ i = 1 ∨ i = 2 := by omega
    · subst e
      go_wp2_with fail
      refine (K0.out _ (HRN.out.below (HB.out.alloc HB.out.size _))).mono ?_
      rintro e w1 ⟨rfl, hb⟩
      have HB1 := Lib.hid ((HB.out.alloc HB.out.size (.cells #[.int .i64 1024, .int .i64 256, .int .i64 0, .int .i64 256] 132)).trans (hb.mono (by simp; omega)))
      have HK1 := Lib.hid ((HK.out.below ((Below.refl _ _).alloc (Nat.le_refl _) (.cells #[.int .i64 1024, .int .i64 256, .int .i64 0, .int .i64 256] 132))).below hb)
      clear hb q0 q1 q2 q3 q4 q5 q6 q7 hlS
      cases r0 with
      | false =>
        go_wp2_with fail
        go_roundw
        case rel => exact ⟨1, by omega, rfl, Lib.hid ⟨fun _ => by first | trivial | rfl, fun h => by omega⟩, HK1, HB1⟩
        case measure => simp [intOf]
      | true =>
        have hd0 := HR0.out rfl
        have HDD : Hid (D = maxO ds) := Lib.hid (by rw [HD.out]; simp)
        go_wp2_with fail
        refine (KD.out _ (HRN.out.below HB1.out)).mono ?_
        rintro e w2 ⟨v, rfl, ho, hb⟩
        obtain ⟨va, vc, rfl⟩ := own_slice ho
        have HB2 := Lib.hid (HB1.out.trans (hb.mono HB1.out.size))
        have KX2 := Lib.hid (KX.out va vc w2 (RdI.own ho (fun x hx => by have := HLow.out x hx; have := HLen.out; unfold inR; omega)) hd0)
        have hme : maxF ds = maxO ds := maxF_O (HZero.out hd0)
        rw [hme] at KX2
        obtain ⟨M, hM⟩ : ∃ M, maxO ds = M := ⟨_, rfl⟩
        obtain ⟨nd, hnd⟩ : ∃ M, ds.length = M := ⟨_, rfl⟩
        rw [hM, hnd] at KX2
        rw [hM] at HDD
        rw [hnd]
        clear ho hb hme hM hnd hd0 KX
        go_wp2_with fail
        refine KX2.out.mono ?_
        rintro e w3 ⟨rfl, rfl⟩
        go_wp2_with fail
        go_ret
        exact ⟨by rw [HDD.out]; rfl, HB2.out⟩
    · subst e
      go_wp2_with fail
      refine (K1.out _ (HRN.out.below (HB.out.alloc HB.out.size _))).mono ?_
      rintro e w1 ⟨rfl, hb⟩
      have HB1 := Lib.hid ((HB.out.alloc HB.out.size (.cells #[.int .i64 1024, .int .i64 256, .int .i64 1, .int .i64 0] 132)).trans (hb.mono (by simp; omega)))
      have HK1 := Lib.hid ((HK.out.below ((Below.refl _ _).alloc (Nat.le_refl _) (.cells #[.int .i64 1024, .int .i64 256, .int .i64 1, .int .i64 0] 132))).below hb)
      clear hb q0 q1 q2 q3 q4 q5 q6 q7 hlS
      cases r1 with
      | false =>
        go_wp2_with fail
        go_roundw
        case rel => exact ⟨2, by omega, rfl, Lib.hid ⟨fun _ => HI.out.1 (by omega), fun h => by first | trivial | rfl⟩, HK1, HB1⟩
        case measure => simp [intOf]
      | true =>
        have hd0 := HR1.out rfl
        have HDD : Hid (D = maxO ds) := Lib.hid (by rw [HD.out, HI.out.1 (by omega)]; simp)
        go_wp2_with fail
        refine (KD.out _ (HRN.out.below HB1.out)).mono ?_
        rintro e w2 ⟨v, rfl, ho, hb⟩
        obtain ⟨va, vc, rfl⟩ := own_slice ho
        have HB2 := Lib.hid (HB1.out.trans (hb.mono HB1.out.size))
        have KX2 := Lib.hid (KX.out va vc w2 (RdI.own ho (fun x hx => by have := HLow.out x hx; have := HLen.out; unfold inR; omega)) hd0)
        have hme : maxF ds = maxO ds := maxF_O (HZero.out hd0)
        rw [hme] at KX2
        obtain ⟨M, hM⟩ : ∃ M, maxO ds = M := ⟨_, rfl⟩
        obtain ⟨nd, hnd⟩ : ∃ M, ds.length = M := ⟨_, rfl⟩
        rw [hM, hnd] at KX2
        rw [hM] at HDD
        rw [hnd]
        clear ho hb hme hM hnd hd0 KX
        go_wp2_with fail
        refine KX2.out.mono ?_
        rintro e w3 ⟨rfl, rfl⟩
        go_wp2_with fail
        go_ret
        exact ⟨by rw [HDD.out]; rfl, HB2.out⟩
    · subst e
      have HF := Lib.hid (And.intro (HI.out.1 (by omega)) (HI.out.2 (by omega)))
      go_wp2_with fail
      go_ret
      exact ⟨by rw [HD.out, HF.out.1, HF.out.2]; rfl, HB.out⟩
end Go.Proofs.Ytpekofpiodaadaa.Hb
end

section
/- The walk of model.tree. -/
namespace Go.Proofs.Ytpekofpiodaadaa.Hb
set_option linter.unusedVariables false
set_option linter.unusedSimpArgs false
open Go.RowKit

set_option maxRecDepth 100000 in
set_option maxHeartbeats 4000000 in
theorem mtree_any (f : Fst) (Ae At As : Option Addr) (ce ct cs : Nat) (t : List Nd) (A : Option Addr) (cap : Nat) (w : World) (hr : RN w A t) (hl : t.length ≤ 1099511627776) :
    Calls Try.prog 73 #[.agg (forA f Ae At As ce ct cs), .slice A t.length cap] w fun e w' => e = .returned (.bool (treeE f t)) ∧ Below w.heap.size w w' := by
  have KS := Lib.hid (fun w => shape_any f Ae At As ce ct cs w)
  have KR := Lib.hid (fun w hr => tright_any f.cols f.b f.k f.cl t A cap w hr hl)
  unfold shpA at KR
  have KD := Lib.hid (fun w hr => ndepth_any t A cap w hr hl)
  have HT : Hid (treeE f t = (rightT f.cols f.b f.k f.cl t && decide (depO t ≤ f.d))) := Lib.hid rfl
  obtain ⟨T, hT⟩ : ∃ T, treeE f t = T := ⟨_, rfl⟩
  obtain ⟨R, hR⟩ : ∃ R, rightT f.cols f.b f.k f.cl t = R := ⟨_, rfl⟩
  obtain ⟨D, hD⟩ : ∃ D, depO t = D := ⟨_, rfl⟩
  rw [hT, hR, hD] at HT
  rw [hR] at KR
  rw [hD] at KD
  rw [hT]
  have HRN := Lib.hid hr
  obtain ⟨n, hn⟩ : ∃ n, t.length = n := ⟨_, rfl⟩
  rw [hn] at KR KD hl ⊢
  unfold forA at KS ⊢
  obtain ⟨ne, hne⟩ : ∃ n, f.edges.length = n := ⟨_, rfl⟩
  obtain ⟨nt, hnt⟩ : ∃ n, f.trees.length = n := ⟨_, rfl⟩
  obtain ⟨ns, hns⟩ : ∃ n, f.shake.length = n := ⟨_, rfl⟩
  obtain ⟨k, cl, b, tt, d, l, p, cols, seed, edges, trees, num, den, shake⟩ := f
  simp only at KS KR HT hne hnt hns ⊢
  rw [hne, hnt, hns] at KS ⊢
  clear hT hR hD hr hn hne hnt hns
  go_enter Try.func73, Try.ntmps73
  go_upto_region 1 with (fail)
  have kB := Blk.new w #[.int .i64 k, .int .i64 cl, .int .i64 b, .int .i64 tt, .int .i64 d, .int .i64 l, .int .i64 p, .int .i64 cols, .int .u64 (seed : Int), .slice Ae ne ce, .slice At nt ct, .int .i64 num, .int .i64 den, .slice As ns cs] 59
  have HBE := Lib.hid ((Below.refl w.heap.size w).alloc (Nat.le_refl _) (.cells #[.int .i64 k, .int .i64 cl, .int .i64 b, .int .i64 tt, .int .i64 d, .int .i64 l, .int .i64 p, .int .i64 cols, .int .u64 (seed : Int), .slice Ae ne ce, .slice At nt ct, .int .i64 num, .int .i64 den, .slice As ns cs] 59))
  obtain ⟨w0, hw0⟩ : ∃ W, w.alloc (.cells #[.int .i64 k, .int .i64 cl, .int .i64 b, .int .i64 tt, .int .i64 d, .int .i64 l, .int .i64 p, .int .i64 cols, .int .u64 (seed : Int), .slice Ae ne ce, .slice At nt ct, .int .i64 num, .int .i64 den, .slice As ns cs] 59) = W := ⟨_, rfl⟩
  rw [hw0] at kB HBE ⊢
  obtain ⟨q0, q1, q2, q3, q4, q5, q6, q7, q8, q9, q10, q11, q12, q13⟩ := kB.cells14
  have hlB := kB.lt
  have KB := Lib.hid kB
  have HX0 := Lib.hid ((Below.refl w0.heap.size w0).drew)
  clear hw0 kB
  cases R with
  | false =>
    have HTF : Hid (T = false) := Lib.hid HT.out
    refine wp_region_held_drew (S := (fun W => W.cell? ⟨w.heap.size, 0, none⟩ = some (.int .i64 k) ∧ W.cell? ⟨w.heap.size, 1, none⟩ = some (.int .i64 cl) ∧ W.cell? ⟨w.heap.size, 2, none⟩ = some (.int .i64 b) ∧ W.cell? ⟨w.heap.size, 3, none⟩ = some (.int .i64 tt) ∧ W.cell? ⟨w.heap.size, 4, none⟩ = some (.int .i64 d) ∧ W.cell? ⟨w.heap.size, 5, none⟩ = some (.int .i64 l) ∧ W.cell? ⟨w.heap.size, 6, none⟩ = some (.int .i64 p) ∧ W.cell? ⟨w.heap.size, 7, none⟩ = some (.int .i64 cols) ∧ W.cell? ⟨w.heap.size, 8, none⟩ = some (.int .u64 (seed : Int)) ∧ W.cell? ⟨w.heap.size, 9, none⟩ = some (.slice Ae ne ce) ∧ W.cell? ⟨w.heap.size, 10, none⟩ = some (.slice At nt ct) ∧ W.cell? ⟨w.heap.size, 11, none⟩ = some (.int .i64 num) ∧ W.cell? ⟨w.heap.size, 12, none⟩ = some (.int .i64 den) ∧ W.cell? ⟨w.heap.size, 13, none⟩ = some (.slice As ns cs))) (by kernel_rfl) ?_ (fun hS0 => ?_)
    · exact (KB.out.below HX0.out).cells14
    refine' wpAnyH_take (i := 0) (v := _) rfl (by kernel_rfl) (by kernel_rfl) (by kernel_rfl) (fun _ _ _ h => h) (Or.inl ⟨by rfl, ?hya0⟩) hS0 ?resta0
    case hya0 => (intro w hSw; (try dsimp only at hSw); go_simp; try with_reducible rfl)
    simp only [Act.put, List.setIfInBounds_toArray, List.set_cons_zero, List.set_cons_succ, List.getElem_toArray, List.getElem_cons_zero, List.getElem_cons_succ]
    refine' wpAnyH_take (i := 1) (v := _) rfl (by kernel_rfl) (by kernel_rfl) (by kernel_rfl) (fun _ _ _ h => h) (Or.inl ⟨by rfl, ?hya1⟩) hS0 ?resta1
    case hya1 => (intro w hSw; (try dsimp only at hSw); go_simp; try with_reducible rfl)
    simp only [Act.put, List.setIfInBounds_toArray, List.set_cons_zero, List.set_cons_succ, List.getElem_toArray, List.getElem_cons_zero, List.getElem_cons_succ]
    refine wpAnyH_ready (rs := [2]) (by kernel_rfl) (by simp) ?_
    refine AllReadyH.cons rfl (fun K hK => ?_) AllReadyH.nil
    go_simp
    refine (KS.out _).mono ?_
    rintro e w1 ⟨rfl, hb⟩
    have HX1 := Lib.hid (HX0.out.trans (hb.mono HX0.out.size))
    clear hb
    refine hK.out _ _ (KB.out.below HX1.out).cells14 (fun hS1 => ?_)
    clear hK K
    refine wpAnyH_ready (rs := [3]) (by kernel_rfl) (by simp) ?_
    refine AllReadyH.cons rfl (fun K hK => ?_) AllReadyH.nil
    go_simp
    refine (KR.out _ (HRN.out.below (HBE.out.trans (HX1.out.mono HBE.out.size)))).mono ?_
    rintro e w2 ⟨rfl, hb⟩
    have HX2 := Lib.hid (HX1.out.trans (hb.mono HX1.out.size))
    clear hb
    refine hK.out _ _ (KB.out.below HX2.out).cells14 (fun hS2 => ?_)
    clear hK K
    refine' wpAnyH_take (i := 4) (v := _) rfl (by kernel_rfl) (by kernel_rfl) (by kernel_rfl) (fun _ _ _ h => h) (Or.inl ⟨by rfl, ?hya4⟩) hS2 ?resta4
    case hya4 => (intro w hSw; (try dsimp only at hSw); go_simp; try with_reducible rfl)
    simp only [Act.put, List.setIfInBounds_toArray, List.set_cons_zero, List.set_cons_succ, List.getElem_toArray, List.getElem_cons_zero, List.getElem_cons_succ]
    refine' wpAnyH_take (i := 5) (v := _) rfl (by kernel_rfl) (by kernel_rfl) (by kernel_rfl) (fun _ _ _ h => h) (Or.inr ⟨by rfl, rfl⟩) hS2 ?resta5
    simp only [Act.put, List.setIfInBounds_toArray, List.set_cons_zero, List.set_cons_succ, List.getElem_toArray, List.getElem_cons_zero, List.getElem_cons_succ]
    refine' wpAnyH_take (i := 6) (v := _) rfl (by kernel_rfl) (by kernel_rfl) (by kernel_rfl) (fun _ _ _ h => h) (Or.inr ⟨by rfl, rfl⟩) hS2 ?resta6
    simp only [Act.put, List.setIfInBounds_toArray, List.set_cons_zero, List.set_cons_succ, List.getElem_toArray, List.getElem_cons_zero, List.getElem_cons_succ]
    refine' wpAnyH_take (i := 7) (v := _) rfl (by kernel_rfl) (by kernel_rfl) (by kernel_rfl) (fun _ _ _ h => h) (Or.inr ⟨by rfl, rfl⟩) hS2 ?resta7
    simp only [Act.put, List.setIfInBounds_toArray, List.set_cons_zero, List.set_cons_succ, List.getElem_toArray, List.getElem_cons_zero, List.getElem_cons_succ]
    refine' wpAnyH_take (i := 8) (v := _) rfl (by kernel_rfl) (by kernel_rfl) (by kernel_rfl) (fun _ _ _ h => h) (Or.inr ⟨by rfl, rfl⟩) hS2 ?resta8
    simp only [Act.put, List.setIfInBounds_toArray, List.set_cons_zero, List.set_cons_succ, List.getElem_toArray, List.getElem_cons_zero, List.getElem_cons_succ]
    refine' wpAnyH_take (i := 9) (v := _) rfl (by kernel_rfl) (by kernel_rfl) (by kernel_rfl) (fun _ _ _ h => h) (Or.inr ⟨by rfl, rfl⟩) hS2 ?resta9
    simp only [Act.put, List.setIfInBounds_toArray, List.set_cons_zero, List.set_cons_succ, List.getElem_toArray, List.getElem_cons_zero, List.getElem_cons_succ]
    refine' wpAnyH_take (i := 10) (v := _) rfl (by kernel_rfl) (by kernel_rfl) (by kernel_rfl) (fun _ _ _ h => h) (Or.inr ⟨by rfl, rfl⟩) hS2 ?resta10
    simp only [Act.put, List.setIfInBounds_toArray, List.set_cons_zero, List.set_cons_succ, List.getElem_toArray, List.getElem_cons_zero, List.getElem_cons_succ]
    refine' wpAnyH_take (i := 11) (v := _) rfl (by kernel_rfl) (by kernel_rfl) (by kernel_rfl) (fun _ _ _ h => h) (Or.inl ⟨by rfl, ?hya11⟩) hS2 ?resta11
    case hya11 => (intro w hSw; (try dsimp only at hSw); go_simp; try with_reducible rfl)
    simp only [Act.put, List.setIfInBounds_toArray, List.set_cons_zero, List.set_cons_succ, List.getElem_toArray, List.getElem_cons_zero, List.getElem_cons_succ]
    refine' wpAnyH_take (i := 12) (v := _) rfl (by kernel_rfl) (by kernel_rfl) (by kernel_rfl) (fun _ _ _ h => h) (Or.inl ⟨by rfl, ?hya12⟩) hS2 ?resta12
    case hya12 => (intro w hSw; (try dsimp only at hSw); go_simp; try with_reducible rfl)
    simp only [Act.put, List.setIfInBounds_toArray, List.set_cons_zero, List.set_cons_succ, List.getElem_toArray, List.getElem_cons_zero, List.getElem_cons_succ]
    refine wpAnyH_done (by kernel_rfl) ?_ _
    go_wp2
    go_ret
    exact ⟨by rw [HTF.out]; simp, HBE.out.trans (HX2.out.mono HBE.out.size)⟩
  | true =>
    by_cases hd : D ≤ d
    · have d1 : decide (D ≤ d) = true := decide_eq_true hd
      have HTF : Hid (T = true) := Lib.hid (by rw [HT.out, d1]; rfl)
      clear hd
      go_region_held3 (fun W => W.cell? ⟨w.heap.size, 0, none⟩ = some (.int .i64 k) ∧ W.cell? ⟨w.heap.size, 1, none⟩ = some (.int .i64 cl) ∧ W.cell? ⟨w.heap.size, 2, none⟩ = some (.int .i64 b) ∧ W.cell? ⟨w.heap.size, 3, none⟩ = some (.int .i64 tt) ∧ W.cell? ⟨w.heap.size, 4, none⟩ = some (.int .i64 d) ∧ W.cell? ⟨w.heap.size, 5, none⟩ = some (.int .i64 l) ∧ W.cell? ⟨w.heap.size, 6, none⟩ = some (.int .i64 p) ∧ W.cell? ⟨w.heap.size, 7, none⟩ = some (.int .i64 cols) ∧ W.cell? ⟨w.heap.size, 8, none⟩ = some (.int .u64 (seed : Int)) ∧ W.cell? ⟨w.heap.size, 9, none⟩ = some (.slice Ae ne ce) ∧ W.cell? ⟨w.heap.size, 10, none⟩ = some (.slice At nt ct) ∧ W.cell? ⟨w.heap.size, 11, none⟩ = some (.int .i64 num) ∧ W.cell? ⟨w.heap.size, 12, none⟩ = some (.int .i64 den) ∧ W.cell? ⟨w.heap.size, 13, none⟩ = some (.slice As ns cs)) (go_keep) (first | (go_at_call 63; refine (KS.out _).mono ?_; rintro e w1 ⟨rfl, hb⟩; have HX1 := Lib.hid (HX0.out.trans (hb.mono HX0.out.size)); obtain ⟨z0, z1, z2, z3, z4, z5, z6, z7, z8, z9, z10, z11, z12, z13⟩ := (KB.out.below HX1.out).cells14; clear hb) | (go_at_call 123; refine (KR.out _ (HRN.out.below (HBE.out.trans (HX1.out.mono HBE.out.size)))).mono ?_; rintro e w2 ⟨rfl, hb⟩; have HX2 := Lib.hid (HX1.out.trans (hb.mono HX1.out.size)); obtain ⟨z0, z1, z2, z3, z4, z5, z6, z7, z8, z9, z10, z11, z12, z13⟩ := (KB.out.below HX2.out).cells14; clear hb) | (go_at_call 131; refine (KD.out _ (HRN.out.below (HBE.out.trans (HX2.out.mono HBE.out.size)))).mono ?_; rintro e w3 ⟨rfl, hb⟩; have HX3 := Lib.hid (HX2.out.trans (hb.mono HX2.out.size)); obtain ⟨z0, z1, z2, z3, z4, z5, z6, z7, z8, z9, z10, z11, z12, z13⟩ := (KB.out.below HX3.out).cells14; clear hb))
      all_goals
        go_wp2
        go_ret
        exact ⟨by rw [HTF.out]; rfl, HBE.out.trans (HX3.out.mono HBE.out.size)⟩
    · have d1 : decide (D ≤ d) = false := decide_eq_false hd
      have HTF : Hid (T = false) := Lib.hid (by rw [HT.out, d1]; rfl)
      clear hd
      go_region_held3 (fun W => W.cell? ⟨w.heap.size, 0, none⟩ = some (.int .i64 k) ∧ W.cell? ⟨w.heap.size, 1, none⟩ = some (.int .i64 cl) ∧ W.cell? ⟨w.heap.size, 2, none⟩ = some (.int .i64 b) ∧ W.cell? ⟨w.heap.size, 3, none⟩ = some (.int .i64 tt) ∧ W.cell? ⟨w.heap.size, 4, none⟩ = some (.int .i64 d) ∧ W.cell? ⟨w.heap.size, 5, none⟩ = some (.int .i64 l) ∧ W.cell? ⟨w.heap.size, 6, none⟩ = some (.int .i64 p) ∧ W.cell? ⟨w.heap.size, 7, none⟩ = some (.int .i64 cols) ∧ W.cell? ⟨w.heap.size, 8, none⟩ = some (.int .u64 (seed : Int)) ∧ W.cell? ⟨w.heap.size, 9, none⟩ = some (.slice Ae ne ce) ∧ W.cell? ⟨w.heap.size, 10, none⟩ = some (.slice At nt ct) ∧ W.cell? ⟨w.heap.size, 11, none⟩ = some (.int .i64 num) ∧ W.cell? ⟨w.heap.size, 12, none⟩ = some (.int .i64 den) ∧ W.cell? ⟨w.heap.size, 13, none⟩ = some (.slice As ns cs)) (go_keep) (first | (go_at_call 63; refine (KS.out _).mono ?_; rintro e w1 ⟨rfl, hb⟩; have HX1 := Lib.hid (HX0.out.trans (hb.mono HX0.out.size)); obtain ⟨z0, z1, z2, z3, z4, z5, z6, z7, z8, z9, z10, z11, z12, z13⟩ := (KB.out.below HX1.out).cells14; clear hb) | (go_at_call 123; refine (KR.out _ (HRN.out.below (HBE.out.trans (HX1.out.mono HBE.out.size)))).mono ?_; rintro e w2 ⟨rfl, hb⟩; have HX2 := Lib.hid (HX1.out.trans (hb.mono HX1.out.size)); obtain ⟨z0, z1, z2, z3, z4, z5, z6, z7, z8, z9, z10, z11, z12, z13⟩ := (KB.out.below HX2.out).cells14; clear hb) | (go_at_call 131; refine (KD.out _ (HRN.out.below (HBE.out.trans (HX2.out.mono HBE.out.size)))).mono ?_; rintro e w3 ⟨rfl, hb⟩; have HX3 := Lib.hid (HX2.out.trans (hb.mono HX2.out.size)); obtain ⟨z0, z1, z2, z3, z4, z5, z6, z7, z8, z9, z10, z11, z12, z13⟩ := (KB.out.below HX3.out).cells14; clear hb))
      all_goals
        go_wp2
        go_ret
        exact ⟨by rw [HTF.out]; rfl, HBE.out.trans (HX3.out.mono HBE.out.size)⟩
end Go.Proofs.Ytpekofpiodaadaa.Hb
end

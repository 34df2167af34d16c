/- The walk of the law ShardSame (under way). -/
import Derived.Test.YteckbgpkoanhfaaHbGreat13
import Derived.Test.YteckbgpkoanhfaaHbPureSame2
import Derived.Test.YteckbgpkoanhfaaHbParts2
import Derived.Test.YteckbgpkoanhfaaHbSame2
import Derived.Test.YteckbgpkoanhfaaHbLawCuts
namespace Go.Proofs.Yteckbgpkoanhfaa.Hb
set_option linter.unusedVariables false
open Go.RowKit

/-- What the law answers where it does not speak: the chapter's example. -/
theorem lateTrue {w W : World} {e : Ending} {W' : World} (h : True0 W e W') (hb : Below w.heap.size w W) : e = .returned (.bool true) ∧ Below w.heap.size w W' := ⟨h.1, hb.trans (h.2.mono hb.size)⟩
set_option maxRecDepth 100000 in
set_option maxHeartbeats 4000000 in
theorem same13_any (s : Smp) (A1 A2 A3 : Option Addr) (c1 c2 c3 : Nat) (col : Int) (is : List Int) (Ar : Option Addr) (cr : Nat) (pp : Int) (p8 : Int) (h8 : 0 ≤ p8 ∧ p8 ≤ 255) (w : World) (RS : RdS w s A1 A2 A3) (RI : RdI w Ar is) (hli : is.length ≤ 9223372036854775807) (hcc : s.cells.length ≤ c1) (hcr : is.length ≤ cr) :
    Calls Try.prog 12 #[.agg (smpC s A1 A2 A3 c1 c2 c3), .agg #[.int .i64 col, .slice Ar is.length cr, .int .i64 pp], .int .u8 p8] w fun e w' => e = .returned (.bool true) ∧ Below w.heap.size w w' := by
  have hgr := fun w => great13_any s A1 A2 A3 c1 c2 c3 w
  obtain ⟨gr, hg⟩ : ∃ gr, greatS s = gr := ⟨_, rfl⟩
  rw [hg] at hgr
  have KG := Lib.hid hgr
  obtain ⟨n, hn⟩ : ∃ n, is.length = n := ⟨_, rfl⟩
  rw [hn] at hli hcr ⊢
  unfold smpC at KG ⊢
  clear hgr
  cases gr with
  | true =>
    clear hg
    go_enter Try.func12, Try.ntmps12
    go_wp2_with fail
    refine (KG.out _).mono ?_
    rintro e w1 ⟨rfl, hb1⟩
    go_wp2_with fail
    refine (fixed13_any _).mono ?_
    rintro e w2 ⟨rfl, hb2⟩
    go_wp2
    go_ret
    exact ⟨rfl, (((Below.refl _ w).alloc (Nat.le_refl _) _).alloc (by simp) _).trans ((hb1.mono (by simp; omega)).trans (hb2.mono (by have := hb1.size; simp at this; omega)))⟩
  | false =>
    go_enter Try.func12, Try.ntmps12
    go_wp2_with fail
    obtain ⟨W0, e0⟩ : ∃ W, W = (w.alloc (.cells #[.int .i64 s.k, .int .i64 s.cl, .int .i64 s.b, .int .i64 s.t, .int .i64 s.d, .int .i64 s.l, .int .i64 s.p, .int .i64 s.rows, .int .i64 s.cols, .slice A1 s.cells.length c1, .slice A2 s.tgt.length c2, .slice A3 s.wgt.length c3] 72)).alloc (.cells #[.int .i64 col, .slice Ar n cr, .int .i64 pp] 74) := ⟨_, rfl⟩
    rw [← e0]
    obtain ⟨kS, kA, bW, zW⟩ := boxes2' w _ _ _ _ W0 e0
    clear e0
    refine (KG.out _).mono ?_
    rintro e w1 ⟨rfl, hb1⟩
    replace kS := kS.below hb1
    replace kA := kA.below hb1
    replace bW := bW.trans (hb1.mono bW.size)
    clear hb1 zW KG
    obtain ⟨a0, a1, a2, a3, a4, a5, a6, a7, a8, a9, a10, a11⟩ := kS.cells12
    have q0 := kA.cell 0
    have q1 := kA.cell 1
    have q2 := kA.cell 2
    simp only [List.getElem?_toArray, List.getElem?_cons_zero, List.getElem?_cons_succ] at q0 q1 q2
    by_cases h1 : 100 < n
    · have d1 : decide (100 < (n : Int)) = true := decide_eq_true (by omega)
      go_wp2_with fail
      refine (fixed13_any _).mono ?_
      rintro e w2 ⟨rfl, hb2⟩
      go_wp2
      go_ret
      exact lateTrue ⟨rfl, hb2⟩ bW
    · have d1 : decide (100 < (n : Int)) = false := decide_eq_false (by omega)
      by_cases h2 : 20 < s.b
      · have d2 : decide (20 < s.b) = true := decide_eq_true h2
        go_wp2_with fail
        refine (fixed13_any _).mono ?_
        rintro e w2 ⟨rfl, hb2⟩
        go_wp2
        go_ret
        exact lateTrue ⟨rfl, hb2⟩ bW
      · have d2 : decide (20 < s.b) = false := decide_eq_false h2
        by_cases h3 : 20 < s.cl
        · have d3 : decide (20 < s.cl) = true := decide_eq_true h3
          go_wp2_with fail
          refine (fixed13_any _).mono ?_
          rintro e w2 ⟨rfl, hb2⟩
          go_wp2
          go_ret
          exact lateTrue ⟨rfl, hb2⟩ bW
        · have d3 : decide (20 < s.cl) = false := decide_eq_false h3
          have HG := Lib.hid hg
          have HN := Lib.hid hn
          have HRI := Lib.hid (RI.below bW)
          have HRS := Lib.hid (RS.below bW)
          have hn100 : n ≤ 100 := by omega
          clear hg hn h1 h2 h3
          go_wp2_with fail
          go_loopw [7, 38] (fun tv iv wr => ∃ j : Nat, j ≤ n ∧ tv = .int .i64 (wSum s (is.take j) : Nat) ∧ iv = .int .i64 j ∧ wr = w1 ∧ Hid (Wi s (is.take j)) ∧ wSum s (is.take j) ≤ j * 1048576) (fun _ iv _ => n - (intOf iv).toNat)
          case atStart => exact ⟨0, by omega, rfl, rfl, rfl, Lib.hid (fun i hi => by simp at hi), Nat.zero_le _⟩
          case round =>
            obtain ⟨j, hj, rfl, rfl, rfl, HWj, hsum⟩ := hrel
            by_cases hlt : j < n
            · obtain ⟨ad, rfl, ha⟩ := HRI.out.at (k := j) (by rw [HN.out]; exact hlt)
              have z1 := ha j (by rw [HN.out]; exact hlt)
              obtain ⟨x, hx⟩ : ∃ x, is.getD j 0 = x := ⟨_, rfl⟩
              rw [hx] at z1
              have hlt' : (j : Int) < n := by omega
              have HX := Lib.hid hx
              clear ha hx
              by_cases g1 : x < 0
              · have g1d : decide (x < 0) = true := decide_eq_true g1
                go_wp2_with fail
                refine (fixed13_any _).mono ?_
                rintro e w2 ⟨rfl, hb2⟩
                go_wp2
                go_ret
                exact lateTrue ⟨rfl, hb2⟩ bW
              have g1d : decide (x < 0) = false := decide_eq_false g1
              obtain ⟨i, rfl⟩ : ∃ i : Nat, x = i := ⟨x.toNat, by omega⟩
              by_cases g2 : (s.tgt.length : Int) ≤ (i : Int)
              · have g2d : decide ((s.tgt.length : Int) ≤ (i : Int)) = true := decide_eq_true g2
                go_wp2_with fail
                refine (fixed13_any _).mono ?_
                rintro e w2 ⟨rfl, hb2⟩
                go_wp2
                go_ret
                exact lateTrue ⟨rfl, hb2⟩ bW
              have g2d : decide ((s.tgt.length : Int) ≤ (i : Int)) = false := decide_eq_false g2
              by_cases g3 : (s.wgt.length : Int) ≤ (i : Int)
              · have g3d : decide ((s.wgt.length : Int) ≤ (i : Int)) = true := decide_eq_true g3
                go_wp2_with fail
                refine (fixed13_any _).mono ?_
                rintro e w2 ⟨rfl, hb2⟩
                go_wp2
                go_ret
                exact lateTrue ⟨rfl, hb2⟩ bW
              have g3d : decide ((s.wgt.length : Int) ≤ (i : Int)) = false := decide_eq_false g3
              obtain ⟨a3, rfl, y3⟩ := HRS.out.r3.at (k := i) (by omega)
              replace y3 := y3 i (by omega)
              have g3i : (i : Int) < s.wgt.length := by omega
              have g2i : (i : Int) < s.tgt.length := by omega
              obtain ⟨kv, hkv⟩ : ∃ kv, s.wgt.getD i 0 = kv := ⟨_, rfl⟩
              rw [hkv] at y3
              have HKV := Lib.hid hkv
              clear hkv
              by_cases g4 : kv < 0
              · have g4d : decide (kv < 0) = true := decide_eq_true g4
                go_wp2_with fail
                refine (fixed13_any _).mono ?_
                rintro e w2 ⟨rfl, hb2⟩
                go_wp2
                go_ret
                exact lateTrue ⟨rfl, hb2⟩ bW
              have g4d : decide (kv < 0) = false := decide_eq_false g4
              by_cases g5 : 1048576 < kv
              · have g5d : decide (1048576 < kv) = true := decide_eq_true g5
                go_wp2_with fail
                refine (fixed13_any _).mono ?_
                rintro e w2 ⟨rfl, hb2⟩
                go_wp2
                go_ret
                exact lateTrue ⟨rfl, hb2⟩ bW
              have g5d : decide (1048576 < kv) = false := decide_eq_false g5
              obtain ⟨a2, rfl, y2⟩ := HRS.out.r2.at (k := i) (by omega)
              replace y2 := y2 i (by omega)
              obtain ⟨tv, htv⟩ : ∃ tv, s.tgt.getD i 0 = tv := ⟨_, rfl⟩
              rw [htv] at y2
              have HTV := Lib.hid htv
              clear htv
              by_cases g6 : 1048576 < tv
              · have g6d : decide (1048576 < tv) = true := decide_eq_true g6
                go_wp2_with fail
                refine (fixed13_any _).mono ?_
                rintro e w2 ⟨rfl, hb2⟩
                go_wp2
                go_ret
                exact lateTrue ⟨rfl, hb2⟩ bW
              have g6d : decide (1048576 < tv) = false := decide_eq_false g6
              by_cases g7 : tv < -1048576
              · have g7d : decide (tv < -1048576) = true := decide_eq_true g7
                go_wp2_with fail
                refine (fixed13_any _).mono ?_
                rintro e w2 ⟨rfl, hb2⟩
                go_wp2
                go_ret
                exact lateTrue ⟨rfl, hb2⟩ bW
              have g7d : decide (tv < -1048576) = false := decide_eq_false g7
              have htk : is.take (j + 1) = is.take j ++ [(i : Int)] := by
                have hlt2 : j < is.length := by rw [HN.out]; exact hlt
                have hx := HX.out
                rw [List.getD_eq_getElem?_getD, List.getElem?_eq_getElem hlt2] at hx
                rw [List.take_add_one, List.getElem?_eq_getElem hlt2, ← hx]
                rfl
              have hkv : wOf s (i : Int) = kv.toNat := by unfold wOf; rw [Int.toNat_natCast, HKV.out]
              have hws : wSum s (is.take (j + 1)) = wSum s (is.take j) + kv.toNat := by rw [htk, wSum_append, wSum_cons, hkv]; rfl
              have hwi : Wi s (is.take (j + 1)) := by
                rw [htk]
                intro y hy
                rcases List.mem_append.1 hy with hy | hy
                · exact HWj.out y hy
                · rw [List.mem_singleton] at hy
                  subst hy
                  rw [Int.toNat_natCast, HKV.out, HTV.out]
                  omega
              obtain ⟨S, hS⟩ : ∃ S, wSum s (is.take j) = S := ⟨_, rfl⟩
              rw [hS] at hws hsum ⊢
              have hww : IntKind.i64.wrap ((S : Int) + kv) = ((S + kv.toNat : Nat) : Int) := by rw [IntKind.wrap_i64]; omega
              have HWS := Lib.hid hws
              have HWI := Lib.hid hwi
              have hsum2 : S + kv.toNat ≤ (j + 1) * 1048576 := by omega
              clear htk hkv hws hwi hS g1 g2 g3 g4 g5 g6 g7
              go_wp2_with fail
              go_roundw
              case rel => exact ⟨j + 1, hlt, by rw [HWS.out]; congr 1; omega, by go_num, trivial, HWI, by rw [HWS.out]; exact hsum2⟩
              case measure => simp [intOf]; omega
            · obtain rfl : j = n := by omega
              have hta : is.take j = is := by rw [← HN.out, List.take_length]
              rw [hta] at hsum HWj ⊢
              obtain ⟨T, hT⟩ : ∃ T, wSum s is = T := ⟨_, rfl⟩
              rw [hT]
              by_cases g1 : 1048576 < (T : Int)
              · have g1d : decide (1048576 < (T : Int)) = true := decide_eq_true g1
                go_wp2_with fail
                refine (fixed13_any _).mono ?_
                rintro e w2 ⟨rfl, hb2⟩
                go_wp2
                go_ret
                exact lateTrue ⟨rfl, hb2⟩ bW
              have g1d : decide (1048576 < (T : Int)) = false := decide_eq_false g1
              have hsame : ∀ p, 1 ≤ p ∧ p ≤ 64 → partsO s col is p = histO s col is := fun p hp => parts_same hp HWj.out (by rw [hT]; omega)
              have HS := Lib.hid hsame
              have kh := fun W (hb : Below wr.heap.size wr W) => shist_any s A1 A2 A3 c1 c2 c3 col is Ar cr W (HRS.out.below hb) (HRI.out.below hb) (by rw [HN.out]; exact hli) hcc
              have kp := fun p W (hb : Below wr.heap.size wr W) => sparts_any s A1 A2 A3 c1 c2 c3 col is Ar cr p W (HRS.out.below hb) (HRI.out.below hb) (by rw [HN.out]; exact hli) hcc (by rw [HN.out]; exact hcr)
              rw [HN.out] at kh kp
              unfold smpC at kh kp
              have KH := Lib.hid kh
              have KP' := Lib.hid kp
              clear hta hT hsame kh kp hsum
              go_wp2_with fail
              obtain ⟨r, hr⟩ : ∃ r, histO s col is = r := ⟨_, rfl⟩
              rw [hr] at KH HS
              obtain ⟨hh, hhh⟩ : ∃ x, valO h0 r = x := ⟨_, rfl⟩
              obtain ⟨er, her⟩ : ∃ x, errO r = x := ⟨_, rfl⟩
              have hfi : fine hh := by
                rw [← hhh]
                cases r with
                | error e => exact ⟨⟨fun x hx => by simp [valO, h0] at hx, fun x hx => by simp [valO, h0] at hx⟩, by simp [valO, h0], by simp [valO, h0]⟩
                | ok y => exact hist_fine HRS.out.r2.1 HRS.out.r3.1 hr
              unfold ResH at KH KP'
              rw [hhh, her] at KH
              have HFI := Lib.hid hfi
              have HHH := Lib.hid hhh
              have HER := Lib.hid her
              clear hr hfi hhh her g1
              refine (KH.out _ (Below.refl _ _)).mono ?_
              rintro e w2 ⟨v, rfl, ⟨v1, v2, rfl, o1, o2⟩, hb2⟩
              obtain ⟨B1, d1', rfl⟩ := own_slice o1
              obtain ⟨B2, d2', rfl⟩ := own_slice o2
              replace kS := kS.below hb2
              replace kA := kA.below hb2
              clear a0 a1 a2 a3 a4 a5 a6 a7 a8 a9 a10 a11 q0 q1 q2
              obtain ⟨a0, a1, a2, a3, a4, a5, a6, a7, a8, a9, a10, a11⟩ := kS.cells12
              have q0 := kA.cell 0
              have q1 := kA.cell 1
              simp only [List.getElem?_toArray, List.getElem?_cons_zero, List.getElem?_cons_succ] at q0 q1
              have lS := kS.lt
              have lA := kA.lt
              have nS : w.heap.size ≠ w2.heap.size := by omega
              have nA : w.heap.size + 1 ≠ w2.heap.size := by omega
              have m1 : IntKind.u8.wrap (p8 % 64) = p8 % 64 := by rw [IntKind.wrap_u8]; omega
              have kp2 := fun W hb => KP'.out (1 + p8 % 64) W hb
              rw [HS.out (1 + p8 % 64) (by omega), HHH.out, HER.out] at kp2
              have KP2 := Lib.hid kp2
              have eer : (er == er) = true := beq_self_eq_true er
              clear kp2
              go_wp2_with fail
              obtain ⟨W3, e3⟩ : ∃ W, W = w2.alloc (.cells #[.int .i64 hh.kind, .int .i64 hh.bins, .int .i64 hh.classes, .slice B1 hh.counts.length d1', .slice B2 hh.moms.length d2'] 36) := ⟨_, rfl⟩
              rw [← e3]
              have bx : Below w2.heap.size w2 W3 := by rw [e3]; exact (Below.refl _ _).alloc (Nat.le_refl _) _
              have kH : Blk W3 w2.heap.size #[.int .i64 hh.kind, .int .i64 hh.bins, .int .i64 hh.classes, .slice B1 hh.counts.length d1', .slice B2 hh.moms.length d2'] 36 := by rw [e3]; exact Blk.new _ _ _
              have nH := HNew.below (⟨_, _, rfl, o1, o2⟩ : HNew _ hh w2 (.agg #[.int .i64 hh.kind, .int .i64 hh.bins, .int .i64 hh.classes, .slice B1 hh.counts.length d1', .slice B2 hh.moms.length d2'])) bx
              refine (KP2.out _ (hb2.trans (bx.mono hb2.size))).mono ?_
              rintro e w4 ⟨v', rfl, ⟨v3, v4, rfl, o3, o4⟩, hb4⟩
              obtain ⟨D1, d3', rfl⟩ := own_slice o3
              obtain ⟨D2, d4', rfl⟩ := own_slice o4
              replace kH := kH.below hb4
              replace nH := nH.below hb4
              have bW4 : Below w.heap.size w w4 := bW.trans ((hb2.mono bW.size).trans ((bx.mono (Nat.le_trans bW.size hb2.size)).trans (hb4.mono (Nat.le_trans (Nat.le_trans bW.size hb2.size) bx.size))))
              have lH := kH.lt
              have nn : w2.heap.size ≠ w4.heap.size := by omega
              obtain ⟨u0, u1, u2, u3, u4⟩ := kH.cells5
              clear a0 a1 a2 a3 a4 a5 a6 a7 a8 a9 a10 a11 q0 q1 kS kA e3 o1 o2 hb4 bx hb2
              go_wp2_with fail
              obtain ⟨W5, e5⟩ : ∃ W, W = w4.alloc (.cells #[.int .i64 hh.kind, .int .i64 hh.bins, .int .i64 hh.classes, .slice D1 hh.counts.length d3', .slice D2 hh.moms.length d4'] 36) := ⟨_, rfl⟩
              rw [← e5]
              have bx5 : Below w4.heap.size w4 W5 := by rw [e5]; exact (Below.refl _ _).alloc (Nat.le_refl _) _
              have kP : Blk W5 w4.heap.size #[.int .i64 hh.kind, .int .i64 hh.bins, .int .i64 hh.classes, .slice D1 hh.counts.length d3', .slice D2 hh.moms.length d4'] 36 := by rw [e5]; exact Blk.new _ _ _
              have nP := HNew.below (⟨_, _, rfl, o3, o4⟩ : HNew _ hh w4 (.agg #[.int .i64 hh.kind, .int .i64 hh.bins, .int .i64 hh.classes, .slice D1 hh.counts.length d3', .slice D2 hh.moms.length d4'])) bx5
              refine (fixed13_any _).mono ?_
              rintro e w6 ⟨rfl, hb6⟩
              replace kH := (kH.below bx5).below hb6
              replace nH := (nH.below bx5).below hb6
              replace kP := kP.below hb6
              replace nP := nP.below hb6
              have bW6 := bW4.trans ((bx5.mono bW4.size).trans (hb6.mono (Nat.le_trans bW4.size bx5.size)))
              clear u0 u1 u2 u3 u4 e5 bx5 hb6 o3 o4
              obtain ⟨u0, u1, u2, u3, u4⟩ := kH.cells5
              obtain ⟨t0, t1, t2, t3, t4⟩ := kP.cells5
              go_wp2_with fail
              refine (same_any (nH.rd HFI.out.1 HFI.out.2.1 HFI.out.2.2) (nP.rd HFI.out.1 HFI.out.2.1 HFI.out.2.2)).mono ?_
              rintro e w7 ⟨rfl, hb7⟩
              rw [decide_eq_true rfl]
              go_wp2
              go_ret
              exact ⟨rfl, bW6.trans (hb7.mono bW6.size)⟩
end Go.Proofs.Yteckbgpkoanhfaa.Hb

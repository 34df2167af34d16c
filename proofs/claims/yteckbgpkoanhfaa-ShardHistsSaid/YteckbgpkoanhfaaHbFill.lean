/- The walk of shard.fill. -/
import Derived.Test.YteckbgpkoanhfaaHbSmp
import Derived.Test.YteckbgpkoanhfaaHbHistJ
import Derived.Deep.RegionHeld3
import Derived.Deep.DeepCutAuto
namespace Go.Proofs.Yteckbgpkoanhfaa.Hb
set_option linter.unusedVariables false
open Go.RowKit

/-- Cells of one kind, read. -/
def RdG (mk : Int → Value) (w : World) (A : Option Addr) (l : List Int) : Prop := l = [] ∨ ∃ ad : Addr, A = some ad ∧ ∀ i, i < l.length → w.cell? (ad.add i) = some (mk (l.getD i 0))
theorem RdG.below {mk : Int → Value} {w w1 : World} {A : Option Addr} {l : List Int} (h : RdG mk w A l) (hb : Below w.heap.size w w1) : RdG mk w1 A l :=
  h.imp id fun ⟨ad, e, hc⟩ => ⟨ad, e, fun i hi => (hb.cell (World.block_lt_of_cell? w _ (hc i hi))).trans (hc i hi)⟩
theorem RdG.at {mk : Int → Value} {w : World} {A : Option Addr} {l : List Int} (h : RdG mk w A l) {k : Nat} (hk : k < l.length) : ∃ ad : Addr, A = some ad ∧ ∀ i, i < l.length → w.cell? (ad.add i) = some (mk (l.getD i 0)) := by
  rcases h with rfl | h
  · simp at hk
  · exact h
theorem getD_cut (l : List Int) (p r i : Nat) (hi : i < r) : ((l.drop p).take r).getD i 0 = l.getD (p + i) 0 := by
  rw [List.getD_eq_getElem?_getD, List.getD_eq_getElem?_getD, List.getElem?_take, if_pos hi, List.getElem?_drop]
theorem len_cut {l : List Int} {p r : Nat} (h : p + r ≤ l.length) : ((l.drop p).take r).length = r := by simp; omega
theorem RdG.cut {mk : Int → Value} {w : World} {A : Option Addr} {l : List Int} (h : RdG mk w A l) (p r c : Nat) (hp : p + r ≤ l.length) (hc : l.length ≤ c) :
    RdG mk w (if c = p then A else A.map (·.add (p * 1))) ((l.drop p).take r) := by
  rcases Nat.eq_zero_or_pos r with rfl | hr
  · exact .inl (by simp)
  · rw [if_neg (by omega)]
    obtain ⟨ad, rfl, ha⟩ := h.at (k := p) (by omega)
    refine .inr ⟨ad.add (p * 1), rfl, fun i hi => ?_⟩
    rw [len_cut hp] at hi
    rw [Nat.mul_one, Addr.add_add, ha _ (by omega), getD_cut l p r i hi]
theorem RdI.g {w : World} {A : Option Addr} {l : List Int} (h : RdI w A l) : RdG (.int .i64) w A l := h.2
theorem RdG.i {w : World} {A : Option Addr} {l : List Int} (h : RdG (.int .i64) w A l) (hr : ∀ x ∈ l, inR x) : RdI w A l := ⟨hr, h⟩

def celAt (s : Smp) (col i : Int) : Int := s.cells.getD (col * s.rows + i).toNat 0
def fillO (s : Smp) (col : Int) : List Int → H → Except Int H
  | [], h => .ok h
  | i :: is, h => if i < 0 ∨ i ≥ s.rows then .error 5 else
    match addO h (celAt s col i) (s.tgt.getD i.toNat 0) (s.wgt.getD i.toNat 0) with
    | .error e => .error e
    | .ok h' => fillO s col is h'
theorem fill_out {s : Smp} {col i : Int} {is : List Int} {h : H} (hi : i < 0 ∨ i ≥ s.rows) : fillO s col (i :: is) h = .error 5 := by rw [fillO, if_pos hi]
theorem fill_err {s : Smp} {col i : Int} {is : List Int} {h : H} {e : Int} (hi : ¬ (i < 0 ∨ i ≥ s.rows)) (he : addO h (celAt s col i) (s.tgt.getD i.toNat 0) (s.wgt.getD i.toNat 0) = .error e) : fillO s col (i :: is) h = .error e := by rw [fillO, if_neg hi, he]
theorem fill_go {s : Smp} {col i : Int} {is : List Int} {h h' : H} (hi : ¬ (i < 0 ∨ i ≥ s.rows)) (he : addO h (celAt s col i) (s.tgt.getD i.toNat 0) (s.wgt.getD i.toNat 0) = .ok h') : fillO s col (i :: is) h = fillO s col is h' := by rw [fillO, if_neg hi, he]
theorem drop_at {is : List Int} {j : Nat} (h : j < is.length) : is.drop j = is.getD j 0 :: is.drop (j + 1) := by
  rw [List.drop_eq_getElem_cons h, List.getD_eq_getElem?_getD, List.getElem?_eq_getElem h]; rfl
/-- An error of Add is not 0. -/
theorem add_err {h : H} {b t k e : Int} (he : addO h b t k = .error e) : (e != 0) = true := by
  by_cases hr : rightP h
  · by_cases hb : addBad h b t
    · rw [add_5 hr hb] at he; cases he; rfl
    · by_cases hk : k < 0
      · rw [add_1 hr hb hk] at he; cases he; rfl
      · by_cases h0 : h.kind = 0
        · rw [add_c hr hb hk h0] at he
          cases hl : lim (h.counts.getD (b * h.classes + t).toNat 0 + k) with
          | none => rw [hl] at he; cases he; rfl
          | some n => rw [hl] at he; cases he
        · rw [add_m hr hb hk h0] at he
          cases hm : momentO t k with
          | error e1 =>
            rw [hm] at he; cases he
            unfold momentO at hm
            cases h1 : lim (t * k) with
            | none => rw [h1] at hm; cases hm; rfl
            | some s =>
              rw [h1] at hm; simp only at hm
              cases h2 : lim (t * s) with
              | none => rw [h2] at hm; cases hm; rfl
              | some q => rw [h2] at hm; cases hm
          | ok m =>
            rw [hm] at he
            simp only at he
            cases hm2 : momO opP (h.moms.getD b.toNat m0) m with
            | error e1 =>
              rw [hm2] at he; cases he
              unfold momO opP at hm2
              cases h1 : lim ((h.moms.getD b.toNat m0).c + m.c) with
              | none => rw [h1] at hm2; cases hm2; rfl
              | some c1 =>
                rw [h1] at hm2; simp only at hm2
                cases h2 : lim ((h.moms.getD b.toNat m0).s + m.s) with
                | none => rw [h2] at hm2; cases hm2; rfl
                | some c2 =>
                  rw [h2] at hm2; simp only at hm2
                  cases h3 : lim ((h.moms.getD b.toNat m0).q + m.q) with
                  | none => rw [h3] at hm2; cases hm2; rfl
                  | some c3 => rw [h3] at hm2; cases hm2
            | ok m' => rw [hm2] at he; cases he
  · rw [add_8 hr] at he; cases he; rfl
/-- A sample's rows, read. -/
structure RdS (w : World) (s : Smp) (A1 A2 A3 : Option Addr) : Prop where
  r1 : RdG (.int .u16) w A1 s.cells
  r2 : RdI w A2 s.tgt
  r3 : RdI w A3 s.wgt
  o1 : ∀ x ∈ s.cells, 0 ≤ x ∧ x ≤ 65535
  l1 : s.cells.length ≤ 9223372036854775807
  l2 : s.tgt.length ≤ 9223372036854775807
  l3 : s.wgt.length ≤ 9223372036854775807
theorem RdS.below {w w1 : World} {s : Smp} {A1 A2 A3 : Option Addr} (h : RdS w s A1 A2 A3) (hb : Below w.heap.size w w1) : RdS w1 s A1 A2 A3 := ⟨h.r1.below hb, h.r2.below hb, h.r3.below hb, h.o1, h.l1, h.l2, h.l3⟩
structure FillP (s : Smp) (col : Int) (is : List Int) (h : H) (base g : Nat) (v1 v2 : Value) (w w' : World) : Prop where
  hm : ∃ h', HM base g h' v1 v2 w' ∧ okH h' ∧ ∀ x, fillO s col is h = .ok x → h' = x
  be : Below base w w'
set_option maxRecDepth 100000 in
set_option maxHeartbeats 4000000 in
theorem fill_any (s : Smp) (A1 A2 A3 : Option Addr) (c1 c2 c3 : Nat) (w0 : World) (RS : RdS w0 s A1 A2 A3) (hr : rightS s = true) (col : Int) (hc0 : 0 ≤ col) (hc1 : col < s.cols) (is : List Int) (Ar : Option Addr) (cr : Nat) (RI : RdI w0 Ar is) (hli : is.length ≤ 9223372036854775807) (hcc : s.cells.length ≤ c1)
    (base g : Nat) (h : H) (v1 v2 : Value) (w : World) (hm : HM base g h v1 v2 w) (ho : okH h) (hl : h.counts.length ≤ 65792 ∧ h.moms.length ≤ 65792) (hB0 : Below w0.heap.size w0 w) (hb0 : w0.heap.size ≤ base) (hb1 : base ≤ w.heap.size) :
    Calls Try.prog 58 #[.pointer (some ⟨g, 0, none⟩), .agg (smpC s A1 A2 A3 c1 c2 c3), .int .i64 col, .slice Ar is.length cr] w fun e w' => e = .returned (.int .i64 (errO (fillO s col is h))) ∧ FillP s col is h base g v1 v2 w w' := by
  obtain ⟨_, ⟨⟨q1, q2⟩, ⟨q3, q4⟩, q5⟩, q6, q7⟩ := rightS_is hr
  obtain ⟨R, hR⟩ : ∃ R : Nat, s.rows = R := ⟨s.rows.toNat, by omega⟩
  obtain ⟨C, hC⟩ : ∃ C : Nat, col = C := ⟨col.toNat, by omega⟩
  subst hC
  have e1 : (C : Int) * s.rows = ((C * R : Nat) : Int) := by rw [hR]; simp
  have e2 : ((C : Int) + 1) * s.rows = ((C * R + R : Nat) : Int) := by rw [hR, Int.add_mul]; simp
  have e3 : C * R + R ≤ s.cells.length := by
    have : ((C : Int) + 1) * s.rows ≤ s.cols * s.rows := Int.mul_le_mul_of_nonneg_right (by omega) q1
    rw [e2] at this
    rw [Int.mul_comm] at q5
    omega
  have hcel : ∀ i : Nat, celAt s C i = s.cells.getD (C * R + i) 0 := fun i => by unfold celAt; rw [e1]; congr 1
  have u1 := RS.l1
  obtain ⟨P, hP⟩ : ∃ P, C * R = P := ⟨_, rfl⟩
  rw [hP] at e1 e2 e3 hcel
  have w1 : IntKind.i64.wrap ((C : Int) * s.rows) = (P : Int) := by rw [e1, IntKind.wrap_i64]; omega
  have w2 : IntKind.i64.wrap ((C : Int) + 1) = (C : Int) + 1 := by rw [IntKind.wrap_i64]; omega
  have w3 : IntKind.i64.wrap (((C : Int) + 1) * s.rows) = ((P + R : Nat) : Int) := by rw [e2, IntKind.wrap_i64]; omega
  obtain ⟨rs, hrs⟩ : ∃ rs, s.rows = rs := ⟨_, rfl⟩
  unfold smpC
  rw [hrs] at w1 w3 ⊢
  have rc := RS.r1.cut P R c1 e3 hcc
  rw [Nat.mul_one] at rc
  obtain ⟨B, hB⟩ : ∃ B, (if c1 = P then A1 else Option.map (fun x => x.add P) A1) = B := ⟨_, rfl⟩
  rw [hB] at rc
  have HRC := Lib.hid rc
  have HE3 := Lib.hid e3
  clear rc
  have HCL := Lib.hid hcel
  have HRS := Lib.hid RS
  have HRI := Lib.hid RI
  have HHM := Lib.hid hm
  have HO := Lib.hid ho
  have HR := Lib.hid hR
  have x1 : (P : Int) ≤ ((P + R : Nat) : Int) := by omega
  have x2 : ((P + R : Nat) : Int) ≤ (c1 : Int) := by omega
  have HW := Lib.hid (And.intro q6 q7)
  clear hcel RS RI hm ho hR e1 e2 hr q1 q2 q3 q4 q5 hrs hP hc0 hc1 q6 q7
  go_enter Try.func58, Try.ntmps58
  go_wp2_with fail
  rw [show P + R - P = R from Nat.add_sub_cancel_left P R]
  obtain ⟨n, hn⟩ : ∃ n, is.length = n := ⟨_, rfl⟩
  have HN := Lib.hid hn
  rw [hn] at hli ⊢
  obtain ⟨W1, e1⟩ : ∃ W, W = w.alloc (.cells #[.int .i64 s.k, .int .i64 s.cl, .int .i64 s.b, .int .i64 s.t, .int .i64 s.d, .int .i64 s.l, .int .i64 s.p, .int .i64 rs, .int .i64 s.cols, .slice A1 s.cells.length c1, .slice A2 s.tgt.length c2, .slice A3 s.wgt.length c3] 72) := ⟨_, rfl⟩
  rw [← e1]
  have bW : Below w.heap.size w W1 := by rw [e1]; exact (Below.refl _ _).alloc (Nat.le_refl _) _
  have kS : Blk W1 w.heap.size #[.int .i64 s.k, .int .i64 s.cl, .int .i64 s.b, .int .i64 s.t, .int .i64 s.d, .int .i64 s.l, .int .i64 s.p, .int .i64 rs, .int .i64 s.cols, .slice A1 s.cells.length c1, .slice A2 s.tgt.length c2, .slice A3 s.wgt.length c3] 72 := by rw [e1]; exact Blk.new _ _ _
  have gS : g < w.heap.size := HHM.out.blk.lt
  have HM1 := Lib.hid (HHM.out.below bW)
  have HB1 := Lib.hid (show Below base w W1 from bW.mono hb1)
  have HB0 := Lib.hid (show Below w0.heap.size w0 W1 from hB0.trans (bW.mono hB0.size))
  have HKS := Lib.hid kS
  have HL := Lib.hid hl
  have HQ1 := Lib.hid (show ∀ q, v1.ownBlock = some q → base ≤ q ∧ q < w.heap.size from fun q hq => World.ownsRow.lt HHM.out.r1 q hq)
  have HQ2 := Lib.hid (show ∀ q, v2.ownBlock = some q → base ≤ q ∧ q < w.heap.size from fun q hq => World.ownsRow.lt HHM.out.r2 q hq)
  obtain ⟨gs, hgs⟩ : ∃ g, w.heap.size = g := ⟨_, rfl⟩
  rw [hgs] at HKS HQ1 HQ2 gS ⊢
  clear e1 bW kS hl hgs hn hB w1 w2 w3 e3 hB0 HHM
  go_loopw [30] (fun iv wr => ∃ (j : Nat) (hc : H), j ≤ n ∧ iv = .int .i64 j ∧ Hid (okH hc) ∧ Hid (hc.counts.length ≤ 65792 ∧ hc.moms.length ≤ 65792) ∧ Hid (HM base g hc v1 v2 wr) ∧ Hid (Blk wr gs #[.int .i64 s.k, .int .i64 s.cl, .int .i64 s.b, .int .i64 s.t, .int .i64 s.d, .int .i64 s.l, .int .i64 s.p, .int .i64 rs, .int .i64 s.cols, .slice A1 s.cells.length c1, .slice A2 s.tgt.length c2, .slice A3 s.wgt.length c3] 72) ∧ Hid (Below base w wr) ∧ Hid (Below w0.heap.size w0 wr) ∧ Hid (fillO s C is h = fillO s C (is.drop j) hc)) (fun iv _ => n - (intOf iv).toNat)
  case atStart => exact ⟨0, h, by omega, rfl, HO, HL, HM1, HKS, HB1, HB0, Lib.hid rfl⟩
  case round =>
    obtain ⟨j, hc, hj, rfl, HOc, HLc, HMc, HKc, HBc, HB0c, HFc⟩ := hrel
    clear HM1 HKS HB1 HB0 HO HL
    by_cases hlt : j < n
    · obtain ⟨ad, rfl, ha⟩ := (HRI.out.below HB0c.out).at (k := j) (by rw [HN.out]; exact hlt)
      have z1 := ha j (by rw [HN.out]; exact hlt)
      have hd := drop_at (is := is) (j := j) (by rw [HN.out]; exact hlt)
      obtain ⟨x, hx⟩ : ∃ x, is.getD j 0 = x := ⟨_, rfl⟩
      rw [hx] at z1 hd
      have hlt' : (j : Int) < n := by omega
      have HD := Lib.hid hd
      clear ha hx hd
      by_cases hx0 : x < 0 ∨ (R : Int) ≤ x
      · have HX0 := Lib.hid (show x < 0 ∨ x ≥ s.rows by rw [HR.out]; exact hx0)
        by_cases hx1 : x < 0
        · have b1 : decide (x < 0) = true := decide_eq_true hx1
          clear hx0 hx1
          go_wp2
          go_ret
          exact ⟨ret_i64 (by rw [HFc.out, HD.out, fill_out HX0.out]; rfl), ⟨_, HMc.out, HOc.out, fun y hy => by rw [HFc.out, HD.out, fill_out HX0.out] at hy; cases hy⟩, HBc.out⟩
        · have b1 : decide (x < 0) = false := decide_eq_false hx1
          have b2 : decide ((R : Int) ≤ x) = true := decide_eq_true (by omega)
          clear hx0 hx1
          go_wp2
          go_ret
          exact ⟨ret_i64 (by rw [HFc.out, HD.out, fill_out HX0.out]; rfl), ⟨_, HMc.out, HOc.out, fun y hy => by rw [HFc.out, HD.out, fill_out HX0.out] at hy; cases hy⟩, HBc.out⟩
      · obtain ⟨i, rfl⟩ : ∃ i : Nat, x = i := ⟨x.toNat, by omega⟩
        have hi : i < R := by omega
        have b1 : decide ((i : Int) < 0) = false := decide_eq_false (by omega)
        have b2 : decide ((R : Int) ≤ i) = false := decide_eq_false (by omega)
        have HX0 := Lib.hid (show ¬ ((i : Int) < 0 ∨ (i : Int) ≥ s.rows) by rw [HR.out]; exact hx0)
        have lt2 : (s.tgt.length : Int) = (R : Int) := HW.out.1.trans HR.out
        have lt3 : (s.wgt.length : Int) = (R : Int) := HW.out.2.trans HR.out
        have s0 := HRS.out
        have rcut := HRC.out
        have lcut : ((s.cells.drop P).take R).length = R := len_cut HE3.out
        obtain ⟨a1, rfl, y1⟩ := rcut.at (k := i) (by omega)
        obtain ⟨a2, rfl, y2⟩ := s0.r2.at (k := i) (by omega)
        obtain ⟨a3, rfl, y3⟩ := s0.r3.at (k := i) (by omega)
        replace y1 := y1 i (by omega)
        replace y2 := y2 i (by omega)
        replace y3 := y3 i (by omega)
        have it := s0.r2.inR (k := i) (by omega)
        have ik := s0.r3.inR (k := i) (by omega)
        rw [getD_cut _ _ _ _ hi] at y1
        have ic : 0 ≤ s.cells.getD (P + i) 0 ∧ s.cells.getD (P + i) 0 ≤ 65535 := by
          have hlen : P + i < s.cells.length := by have := HE3.out; omega
          rw [List.getD_eq_getElem?_getD, List.getElem?_eq_getElem hlen]
          exact s0.o1 _ (List.getElem_mem hlen)
        have hce := HCL.out i
        obtain ⟨cv, hcv⟩ : ∃ cv, s.cells.getD (P + i) 0 = cv := ⟨_, rfl⟩
        obtain ⟨tv, htv⟩ : ∃ tv, s.tgt.getD i 0 = tv := ⟨_, rfl⟩
        obtain ⟨kv, hkv⟩ : ∃ kv, s.wgt.getD i 0 = kv := ⟨_, rfl⟩
        rw [hcv] at y1 ic hce
        rw [htv] at y2 it
        rw [hkv] at y3 ik
        have wc : IntKind.i64.wrap cv = cv := by rw [IntKind.wrap_i64]; omega
        have Y1 := Lib.hid y1
        have Y2 := Lib.hid y2
        have Y3 := Lib.hid y3
        replace y1 := (HB0c.out.cell (World.block_lt_of_cell? w0 _ y1)).trans y1
        replace y2 := (HB0c.out.cell (World.block_lt_of_cell? w0 _ y2)).trans y2
        replace y3 := (HB0c.out.cell (World.block_lt_of_cell? w0 _ y3)).trans y3
        have IT := Lib.hid it
        have IK := Lib.hid ik
        obtain ⟨X, hX⟩ : ∃ X, errO (addO hc cv tv kv) = X := ⟨_, rfl⟩
        obtain ⟨h2, hh2⟩ : ∃ h2, valO hc (addO hc cv tv kv) = h2 := ⟨_, rfl⟩
        have hO2 := add_ok cv tv kv HOc.out
        have hL2 := add_lens hc cv tv kv
        rw [hh2] at hO2 hL2
        have hFF : ((X != 0) = true ∧ fillO s C is h = .error X) ∨ (X = 0 ∧ fillO s C is h = fillO s C (is.drop (j + 1)) h2) := by
          rw [HFc.out, HD.out]
          cases ha : addO hc cv tv kv with
          | error e =>
            rw [ha] at hX
            left
            subst hX
            exact ⟨add_err ha, fill_err HX0.out (by rw [hce, Int.toNat_natCast, htv, hkv]; exact ha)⟩
          | ok h3 =>
            rw [ha] at hX hh2
            right
            obtain rfl : h3 = h2 := hh2
            exact ⟨hX.symm, fill_go HX0.out (by rw [hce, Int.toNat_natCast, htv, hkv]; exact ha)⟩
        have HFF := Lib.hid hFF
        have HX := Lib.hid hX
        have HH2 := Lib.hid hh2
        have HO2 := Lib.hid hO2
        have HL2 := Lib.hid (show h2.counts.length ≤ 65792 ∧ h2.moms.length ≤ 65792 by have := HLc.out; omega)
        have M0 := Lib.hid (HMc.out.below (Below.refl _ wr).drew)
        have K0 := Lib.hid (HKc.out.below (Below.refl _ wr).drew)
        have FS : ∀ (w8 : World) (row : Option Nat), HM base g (valO hc (addO hc cv tv kv)) v1 v2 w8 → wr.drew.grownBy w8 row → (row = none ∨ row = v1.ownBlock ∨ row = v2.ownBlock) → Hid (HM base g (valO hc (addO hc cv tv kv)) v1 v2 w8) ∧ Hid (Blk w8 gs #[.int .i64 s.k, .int .i64 s.cl, .int .i64 s.b, .int .i64 s.t, .int .i64 s.d, .int .i64 s.l, .int .i64 s.p, .int .i64 rs, .int .i64 s.cols, .slice A1 s.cells.length c1, .slice (some a2) s.tgt.length c2, .slice (some a3) s.wgt.length c3] 72) ∧ Hid (Below base w w8) ∧ Hid (Below w0.heap.size w0 w8) ∧
            w8.cell? ⟨gs, 10, none⟩ = some (.slice (some a2) s.tgt.length c2) ∧ w8.cell? ⟨gs, 11, none⟩ = some (.slice (some a3) s.wgt.length c3) ∧ w8.cell? (a1.add i) = some (.int .u16 cv) ∧ w8.cell? (a2.add i) = some (.int .i64 tv) ∧ w8.cell? (a3.add i) = some (.int .i64 kv) := by
          intro w8 row hM8 hg8 hrow
          have hq8 : ∀ q, row = some q → base ≤ q ∧ q < gs := fun q e => by
            rcases hrow with h | h | h
            · rw [h] at e; cases e
            · exact HQ1.out q (by rw [← h]; exact e)
            · exact HQ2.out q (by rw [← h]; exact e)
          have K8 : Blk w8 gs #[.int .i64 s.k, .int .i64 s.cl, .int .i64 s.b, .int .i64 s.t, .int .i64 s.d, .int .i64 s.l, .int .i64 s.p, .int .i64 rs, .int .i64 s.cols, .slice A1 s.cells.length c1, .slice (some a2) s.tgt.length c2, .slice (some a3) s.wgt.length c3] 72 := (hg8.block gs K0.out.lt (fun e => by have := (hq8 gs e.symm).2; omega)).trans K0.out
          have B08 : Below w0.heap.size w0 w8 := (HB0c.out.trans ((Below.refl _ wr).drew.mono HB0c.out.size)).grown hg8 HB0c.out.size (fun q e => by have := (hq8 q e).1; omega)
          exact ⟨Lib.hid hM8, Lib.hid K8, Lib.hid ((HBc.out.trans ((Below.refl _ wr).drew.mono (Nat.le_trans hb1 HBc.out.size))).grown hg8 (Nat.le_trans hb1 HBc.out.size) (fun q e => (hq8 q e).1)), Lib.hid B08, K8.cell 10, K8.cell 11,
            (B08.cell (World.block_lt_of_cell? w0 _ Y1.out)).trans Y1.out, (B08.cell (World.block_lt_of_cell? w0 _ Y2.out)).trans Y2.out, (B08.cell (World.block_lt_of_cell? w0 _ Y3.out)).trans Y3.out⟩
        replace FS := Lib.hid FS
        have i2 : (i : Int) < s.tgt.length := by omega
        have i3 : (i : Int) < s.wgt.length := by omega
        have i1 : (i : Int) < R := by omega
        obtain ⟨k0, k1, k2, k3, k4, k5, k6, k7, k8, k9, k10, k11⟩ := HKc.out.cells12
        clear hx0 s0 rcut lcut it ik ic hce hcv htv hkv hX hh2 hO2 hL2 hFF lt2 lt3 hi k0 k1 k2 k3 k4 k5 k6 k7 k8 k9
        go_upto_region 7 with (fail)
        go_cut [12] (fun ea wc => ea = .int .i64 X ∧ Hid (HM base g h2 v1 v2 wc) ∧ Hid (Blk wc gs #[.int .i64 s.k, .int .i64 s.cl, .int .i64 s.b, .int .i64 s.t, .int .i64 s.d, .int .i64 s.l, .int .i64 s.p, .int .i64 rs, .int .i64 s.cols, .slice A1 s.cells.length c1, .slice (some a2) s.tgt.length c2, .slice (some a3) s.wgt.length c3] 72) ∧ Hid (Below base w wc) ∧ Hid (Below w0.heap.size w0 wc))
        case first =>
          go_region_held3 (fun W => W.cell? ⟨gs, 10, none⟩ = some (.slice (some a2) s.tgt.length c2) ∧ W.cell? ⟨gs, 11, none⟩ = some (.slice (some a3) s.wgt.length c3) ∧ W.cell? (a1.add i) = some (.int .u16 cv) ∧ W.cell? (a2.add i) = some (.int .i64 tv) ∧ W.cell? (a3.add i) = some (.int .i64 kv)) (go_keep)
            (first | (go_at_call 21; refine (add_any hc base g v1 v2 cv tv kv _ M0.out HOc.out IT.out IK.out (by have := HLc.out; omega) (by have := HLc.out; omega)).mono ?_; rintro e w8 ⟨row, rfl, hM8, hg8, hrow⟩; obtain ⟨HM8, HK8, HB8, HB08, f10, f11, f1, f2, f3⟩ := FS.out w8 row hM8 hg8 hrow; clear hM8 hg8 hrow))
          all_goals
            go_wp2
            go_meet
            case rel => exact ⟨by rw [HX.out], by rw [← HH2.out]; exact HM8, HK8, HB8, HB08⟩
        case rest =>
          obtain ⟨rfl, HMd, HKd, HBd, HB0d⟩ := hcut
          clear y1 y2 y3 z1 k10 k11
          rcases HFF.out with ⟨hx1, hx2⟩ | ⟨rfl, hx2⟩
          · have HX2 := Lib.hid hx2
            clear hx2 HFF
            go_wp2
            go_ret
            exact ⟨ret_i64 (by rw [HX2.out]; rfl), ⟨_, HMd.out, HO2.out, fun y hy => by rw [HX2.out] at hy; cases hy⟩, HBd.out⟩
          · have HX2 := Lib.hid hx2
            clear hx2 HFF
            go_wp2
            go_roundw
            case rel => exact ⟨j + 1, h2, hlt, by go_num, HO2, HL2, HMd, HKd, HBd, HB0d, HX2⟩
            case measure => simp [intOf]; omega
    · obtain rfl : j = n := by omega
      have HX2 := Lib.hid (show fillO s C is h = .ok hc by rw [HFc.out, ← HN.out, List.drop_length]; rfl)
      go_wp2
      go_ret
      exact ⟨ret_i64 (by rw [HX2.out]; rfl), ⟨_, HMc.out, HOc.out, fun y hy => by rw [HX2.out] at hy; cases hy; rfl⟩, HBc.out⟩
end Go.Proofs.Yteckbgpkoanhfaa.Hb

/- The walk of the law ShardHists. -/
import Derived.Test.YteckbgpkoanhfaaHbRParts2
import Derived.Test.YteckbgpkoanhfaaHbGreat13
import Derived.Test.YteckbgpkoanhfaaHbSame2
import Derived.Test.YteckbgpkoanhfaaHbTurns
import Derived.OwnWalk
namespace Go.Proofs.Yteckbgpkoanhfaa.Hb
set_option linter.unusedVariables false
open Go.RowKit

theorem lateTrue2 {w W : World} {e : Ending} {W' : World} (h : True0 W e W') (hb : Below w.heap.size w W) : e = .returned (.bool true) ∧ Below w.heap.size w W' := ⟨h.1, hb.trans (h.2.mono hb.size)⟩
theorem wpList_wanted {P : Program} {ops : Array Oper} {Q : Exit → Act → World → Prop} {a : Act} {w : World} {rest : List Oper} {o : Oper} (hw : Region.wanted o (yielded ops a.tmps) = true)
    (h : ∀ K : Act → World → Prop, (∀ a w, wpList P ops Q rest a w → K a w) → o.wp P a w K Q) : wpList P ops Q (o :: rest) a w :=
  wpList_step fun K hK => by simp only [hw, if_true]; exact h K hK
theorem wpList_make_full_w {P : Program} (w : World) {ops : Array Oper} {rest : List Oper} {o : Oper} {a : Act} {Q : Exit → Act → World → Prop}
    (hw : Region.wanted o (yielded ops a.tmps) = true) (l c : Operand) (t : TypeId) (hop : o.op = Op.makeSlice t l c)
    (base : Nat) (e : TypeId) (i : TypeInfo) (z : Value) (size : Nat) (h1 : P.underlying t = some (.slice e)) (h2 : P.info? e = some i) (h3 : i.zero = some z) (h4 : i.size = size)
    (kl kc : IntKind) (L C : Int) (n : Nat) (hl : a.eval l = .int kl L) (hc : a.eval c = .int kc C) (hL : L = (n : Int)) (hC : C = (n : Int)) (b2 : i.bytes * n ≤ 281474976710656) (b3 : n ≤ maxLen) (b4 : base ≤ w.heap.size)
    (hK : ∀ w', w'.ownsRow base e size (.slice (some ⟨w.heap.size, 0, none⟩) n n) n (madeCells z.cells (n * size)).toList → w.grownBy w' none → wpList P ops Q rest (a.put o.dst (.slice (some ⟨w.heap.size, 0, none⟩) n n)) w') :
    wpList P ops Q (o :: rest) a w := by
  refine wpList_wanted hw fun K hK' => ?_
  obtain ⟨w', hrun, r1, r2⟩ := run_make_full (P := P) w base t e i z size h1 h2 h3 h4 kl kc n b2 b3 b4
  subst hL
  subst hC
  unfold Oper.wp
  simp [execOp, hop, hl, hc, hrun, Result.andThen]
  exact hK' _ _ (hK w' r1 r2)
theorem merge_fine : ∀ {bs : List H} {a x : H}, fine a → mergeO a bs = .ok x → fine x
  | [], a, x, hf, h => by cases h; exact hf
  | b :: bs, a, x, hf, h => by
    rw [mergeO] at h
    cases hb : bothO opP a b with
    | error e => rw [hb] at h; cases h
    | ok m => rw [hb] at h; exact merge_fine (both_fine hf hb) h
theorem coll_fine {α : Type} {f : α → Except Int H} (hf : ∀ x y, f x = .ok y → fine y) : ∀ {xs : List α} {hs : List H}, collO f xs = .ok hs → ∀ h ∈ hs, fine h
  | [], hs, e => by cases e; simp
  | x :: xs, hs, e => by
    rw [collO] at e
    cases hx : f x with
    | error e1 => rw [hx] at e; cases e
    | ok y =>
      rw [hx] at e
      simp only at e
      cases hc : collO f xs with
      | error e1 => rw [hc] at e; cases e
      | ok ys =>
        rw [hc] at e
        cases e
        intro h hh
        rcases List.mem_cons.1 hh with rfl | hh
        · exact hf _ _ hx
        · exact coll_fine hf hc h hh
theorem parts_fine {s : Smp} (h2 : ∀ x ∈ s.tgt, inR x) (h3 : ∀ x ∈ s.wgt, inR x) {col : Int} {is : List Int} {p : Int} {x : H} (e : partsO s col is p = .ok x) : fine x := by
  unfold partsO at e
  split at e
  · cases hc : collO (fun x => histO s col (cutI is x)) (upto is.length p p.toNat) with
    | error e1 => rw [hc] at e; cases e
    | ok hs =>
      rw [hc] at e
      have hf := coll_fine (fun a b hab => hist_fine h2 h3 hab) hc
      cases hs with
      | nil => cases e
      | cons a bs => exact merge_fine (hf a (by simp)) e
  · cases e
theorem fine_h0 : fine h0 := ⟨⟨fun x hx => by simp [h0] at hx, fun x hx => by simp [h0] at hx⟩, by simp [h0], by simp [h0]⟩
theorem fine_val {r : Except Int H} (h : ∀ x, r = .ok x → fine x) : fine (valO h0 r) := by
  cases r with
  | error e => exact fine_h0
  | ok y => exact h y rfl
theorem below_to {w0 w1 w2 : World} (h : Below w0.heap.size w0 w1) (hb : Below w1.heap.size w1 w2) : Below w0.heap.size w0 w2 := h.trans (hb.mono h.size)
/-- The bins and classes of a sample, as many zeros. -/
theorem zeros_rd {m : Nat} {w w' : World} {cs : List Value} (hm : m ≤ 2000) (h : w'.ownsRow w.heap.size 2 1 (.slice (some ⟨w.heap.size, 0, none⟩) m m) m (madeCells (Value.int .i64 0).cells (m * 1)).toList) :
    RdH w' ⟨0, 0, 0, List.replicate m 0, []⟩ (.agg #[.int .i64 0, .int .i64 0, .int .i64 0, .slice (some ⟨w.heap.size, 0, none⟩) m m, .slice none 0 0]) := by
  have hn : HNew w.heap.size ⟨0, 0, 0, List.replicate m 0, []⟩ w' (.agg #[.int .i64 0, .int .i64 0, .int .i64 0, .slice (some ⟨w.heap.size, 0, none⟩) m m, .slice none 0 0]) := by
    refine ⟨_, _, rfl, ?_, World.ownsRow_nil _ _ _ _⟩
    show w'.ownsRow _ _ _ _ (List.replicate m (0 : Int)).length (ints (List.replicate m 0))
    rw [Nat.mul_one] at h
    rw [List.length_replicate, ints_zeros, ← toList_madeCells_one]
    exact h
  refine hn.rd ⟨fun x hx => ?_, fun x hx => by simp at hx⟩ (by simp; omega) (by simp)
  rw [List.eq_of_mem_replicate hx]
  unfold inR
  omega
set_option maxRecDepth 100000 in
set_option maxHeartbeats 4000000 in
theorem hists13_any (s : Smp) (A1 A2 A3 : Option Addr) (c1 c2 c3 : Nat) (col : Int) (is : List Int) (Ar : Option Addr) (cr : Nat) (pp : Int) (w : World) (RS : RdS w s A1 A2 A3) (RI : RdI w Ar is) (hli : is.length ≤ 9223372036854775807) (hcc : s.cells.length ≤ c1) (hcr : is.length ≤ cr) :
    Calls Try.prog 11 #[.agg (smpC s A1 A2 A3 c1 c2 c3), .agg #[.int .i64 col, .slice Ar is.length cr, .int .i64 pp]] w fun e w' => e = .returned (.bool true) ∧ Below w.heap.size w w' := by
  have hgr := fun w => great13_any s A1 A2 A3 c1 c2 c3 w
  obtain ⟨gr, hg⟩ : ∃ gr, greatS s = gr := ⟨_, rfl⟩
  rw [hg] at hgr
  have KG := Lib.hid hgr
  obtain ⟨n, hn⟩ : ∃ n, is.length = n := ⟨_, rfl⟩
  have HN := Lib.hid hn
  rw [hn] at hli hcr ⊢
  unfold smpC at KG ⊢
  obtain ⟨i0, hi, hz0, hz1, hz2⟩ := info_parts info_int
  obtain ⟨X, hX⟩ : ∃ X, wrap64 (s.b * s.cl) = X := ⟨_, rfl⟩
  clear hgr hg hn
  go_enter Try.func11, Try.ntmps11
  go_upto_region 1 with (fail)
  obtain ⟨W0, e0⟩ : ∃ W, W = (w.alloc (.cells #[.int .i64 s.k, .int .i64 s.cl, .int .i64 s.b, .int .i64 s.t, .int .i64 s.d, .int .i64 s.l, .int .i64 s.p, .int .i64 s.rows, .int .i64 s.cols, .slice A1 s.cells.length c1, .slice A2 s.tgt.length c2, .slice A3 s.wgt.length c3] 72)).alloc (.cells #[.int .i64 col, .slice Ar n cr, .int .i64 pp] 74) := ⟨_, rfl⟩
  rw [← e0]
  obtain ⟨kS, kA, bW, zW⟩ := boxes2' w _ _ _ _ W0 e0
  clear e0
  obtain ⟨a0, a1, a2, a3, a4, a5, a6, a7, a8, a9, a10, a11⟩ := kS.cells12
  obtain ⟨q0, q1, q2⟩ := cells3 kA
  go_cut [34] (fun bv wc => ∃ b, bv = .bool b ∧ Hid (Below W0.heap.size W0 wc))
  case first =>
    go_wp2_with fail
    refine (KG.out _).mono ?_
    rintro e w1 ⟨rfl, hb1⟩
    have kS1 := kS.below hb1
    have kA1 := kA.below hb1
    clear a0 a1 a2 a3 a4 a5 a6 a7 a8 a9 a10 a11 q0 q1 q2
    obtain ⟨a0, a1, a2, a3, a4, a5, a6, a7, a8, a9, a10, a11⟩ := kS1.cells12
    obtain ⟨q0, q1, q2⟩ := cells3 kA1
    cases gr with
    | true =>
      go_wp2_with fail
      go_meet
      case rel => exact ⟨_, rfl, Lib.hid hb1⟩
    | false =>
      by_cases h1 : 100 < n
      · have d1 : decide (100 < (n : Int)) = true := decide_eq_true (by omega)
        go_wp2_with fail
        go_meet
        case rel => exact ⟨_, rfl, Lib.hid hb1⟩
      · have d1 : decide (100 < (n : Int)) = false := decide_eq_false (by omega)
        clear h1
        rcases (show X < 0 ∨ (0 ≤ X ∧ 2000 < X) ∨ (0 ≤ X ∧ X ≤ 2000) by omega) with x1 | ⟨x1, x2⟩ | ⟨x1, x2⟩
        · have x1' : ¬ 0 ≤ X := by omega
          go_wp2_with (at_make; refine wpList_make_full_w _ (by rfl) _ _ 33 rfl w1.heap.size 2 i0 (.int .i64 0) 1 Try.underlying33 hi hz0 hz1 .i64 .i64 _ _ 0 rfl rfl (by first | rfl | omega) (by first | rfl | omega) (by rw [hz2]; omega) (by unfold maxLen; omega) (Nat.le_refl _) ?_; intro w2 hown hgrow)
          all_goals
            have rd := zeros_rd (cs := []) (m := 0) (by omega) hown
            have b2 := hb1.trans (below_grown hgrow _ hb1.size)
            refine (great_any rd).mono ?_
            rintro e w3 ⟨rfl, hb3⟩
            go_wp2_with fail
            go_meet
            case rel => exact ⟨_, rfl, Lib.hid (b2.trans (hb3.mono b2.size))⟩
        · go_wp2_with (at_make; refine wpList_make_full_w _ (by rfl) _ _ 33 rfl w1.heap.size 2 i0 (.int .i64 0) 1 Try.underlying33 hi hz0 hz1 .i64 .i64 _ _ 2000 rfl rfl (by first | rfl | omega) (by first | rfl | omega) (by rw [hz2]; omega) (by unfold maxLen; omega) (Nat.le_refl _) ?_; intro w2 hown hgrow)
          all_goals
            have rd := zeros_rd (cs := []) (m := 2000) (by omega) hown
            have b2 := hb1.trans (below_grown hgrow _ hb1.size)
            refine (great_any rd).mono ?_
            rintro e w3 ⟨rfl, hb3⟩
            go_wp2_with fail
            go_meet
            case rel => exact ⟨_, rfl, Lib.hid (b2.trans (hb3.mono b2.size))⟩
        · obtain ⟨m, rfl⟩ : ∃ m : Nat, X = m := ⟨X.toNat, by omega⟩
          have x3 : ¬ 2000 < (m : Int) := by omega
          have x4 : m ≤ 2000 := by omega
          go_wp2_with (at_make; refine wpList_make_full_w _ (by rfl) _ _ 33 rfl w1.heap.size 2 i0 (.int .i64 0) 1 Try.underlying33 hi hz0 hz1 .i64 .i64 _ _ m rfl rfl (by first | rfl | omega) (by first | rfl | omega) (by rw [hz2]; omega) (by unfold maxLen; omega) (Nat.le_refl _) ?_; intro w2 hown hgrow)
          all_goals
            have rd := zeros_rd (cs := []) (m := m) (by omega) hown
            have b2 := hb1.trans (below_grown hgrow _ hb1.size)
            refine (great_any rd).mono ?_
            rintro e w3 ⟨rfl, hb3⟩
            go_wp2_with fail
            go_meet
            case rel => exact ⟨_, rfl, Lib.hid (b2.trans (hb3.mono b2.size))⟩
  case rest =>
    obtain ⟨b, rfl, HB0⟩ := hcut
    have kS1 := kS.below HB0.out
    have kA1 := kA.below HB0.out
    have bW1 := bW.trans (HB0.out.mono bW.size)
    have HRI := Lib.hid (RI.below bW1)
    have HRS := Lib.hid (RS.below bW1)
    clear a0 a1 a2 a3 a4 a5 a6 a7 a8 a9 a10 a11 q0 q1 q2 kS kA bW zW HB0 KG hX
    cases b with
    | true =>
      go_wp2_with fail
      refine (fixed13_any _).mono ?_
      rintro e w2 ⟨rfl, hb2⟩
      go_wp2
      go_ret
      exact lateTrue2 ⟨rfl, hb2⟩ bW1
    | false =>
      obtain ⟨r, hr⟩ : ∃ r, histO s col is = r := ⟨_, rfl⟩
      obtain ⟨hh, hhh⟩ : ∃ x, valO h0 r = x := ⟨_, rfl⟩
      obtain ⟨er, her⟩ : ∃ x, errO r = x := ⟨_, rfl⟩
      obtain ⟨r2, hr2⟩ : ∃ r, partsO s col is pp = r := ⟨_, rfl⟩
      obtain ⟨hp, hhp⟩ : ∃ x, valO h0 r2 = x := ⟨_, rfl⟩
      obtain ⟨ep, hep⟩ : ∃ x, errO r2 = x := ⟨_, rfl⟩
      have hfi : fine hh := by rw [← hhh]; exact fine_val (fun x hx => hist_fine HRS.out.r2.1 HRS.out.r3.1 (hr.trans hx))
      have hfp : fine hp := by rw [← hhp]; exact fine_val (fun x hx => parts_fine HRS.out.r2.1 HRS.out.r3.1 (hr2.trans hx))
      have k1 := fun W (hb : Below wc.heap.size wc W) => shist_any s A1 A2 A3 c1 c2 c3 col is Ar cr W (HRS.out.below hb) (HRI.out.below hb) (by rw [HN.out]; exact hli) hcc
      have k2 := fun W (hb : Below wc.heap.size wc W) => rhist_any s A1 A2 A3 c1 c2 c3 col is Ar cr W (HRS.out.below hb) (HRI.out.below hb) (by rw [HN.out]; exact hli)
      have k3 := fun W (hb : Below wc.heap.size wc W) => sparts_any s A1 A2 A3 c1 c2 c3 col is Ar cr pp W (HRS.out.below hb) (HRI.out.below hb) (by rw [HN.out]; exact hli) hcc (by rw [HN.out]; exact hcr)
      have k4 := fun W (hb : Below wc.heap.size wc W) => rparts_any s A1 A2 A3 c1 c2 c3 col is Ar cr pp W (HRS.out.below hb) (HRI.out.below hb) (by rw [HN.out]; exact hli) (by rw [HN.out]; exact hcr)
      rw [HN.out, hr] at k1 k2
      rw [HN.out, hr2] at k3 k4
      unfold smpC ResH at k1 k2 k3 k4
      rw [hhh, her] at k1 k2
      rw [hhp, hep] at k3 k4
      have k5 := fun W => sright_any s A1 A2 A3 c1 c2 c3 W HRS.out.l1 HRS.out.l2 HRS.out.l3
      have k6 := fun W => rsright_any s A1 A2 A3 c1 c2 c3 W HRS.out.l1 HRS.out.l2 HRS.out.l3
      unfold smpC at k5 k6
      obtain ⟨rt, hrt⟩ : ∃ x, rightS s = x := ⟨_, rfl⟩
      rw [hrt] at k5 k6
      have K1 := Lib.hid k1
      have K2 := Lib.hid k2
      have K3 := Lib.hid k3
      have K4 := Lib.hid k4
      have K5 := Lib.hid k5
      have K6 := Lib.hid k6
      have HFI := Lib.hid hfi
      have HFP := Lib.hid hfp
      have eq1 : (er == er) = true := beq_self_eq_true er
      have eq2 : (ep == ep) = true := beq_self_eq_true ep
      have eq3 : (rt == rt) = true := beq_self_eq_true rt
      have BB := Below.refl wc.heap.size wc
      have wl := bW1.size
      clear hr hhh her hr2 hhp hep hfi hfp k1 k2 k3 k4 k5 k6 hrt HRS HRI RS RI
      obtain ⟨a0, a1, a2, a3, a4, a5, a6, a7, a8, a9, a10, a11⟩ := kS1.cells12
      obtain ⟨q0, q1, q2⟩ := cells3 kA1
      go_wp2_with fail
      refine (K1.out _ BB).mono ?_
      rintro e u1 ⟨v, rfl, ⟨v1, v2, rfl, o1, o2⟩, hb⟩
      obtain ⟨X1, x1, rfl⟩ := own_slice o1
      obtain ⟨Y1, y1, rfl⟩ := own_slice o2
      replace o1 := World.ownsRow.mono o1 (base' := w.heap.size) (Nat.le_trans wl BB.size)
      replace o2 := World.ownsRow.mono o2 (base' := w.heap.size) (Nat.le_trans wl BB.size)
      replace kS1 := kS1.below hb
      replace kA1 := kA1.below hb
      replace BB := (below_to BB hb)
      clear hb a0 a1 a2 a3 a4 a5 a6 a7 a8 a9 a10 a11 q0 q1 q2
      obtain ⟨a0, a1, a2, a3, a4, a5, a6, a7, a8, a9, a10, a11⟩ := kS1.cells12
      obtain ⟨q0, q1, q2⟩ := cells3 kA1
      have lSl1 := kS1.lt
      have lAl1 := kA1.lt
      have lS1 : w.heap.size ≠ u1.heap.size := by have := kS1.lt; omega
      have lA1 : w.heap.size + 1 ≠ u1.heap.size := by have := kA1.lt; omega
      go_wp2_with fail
      obtain ⟨V1, f1⟩ : ∃ W, W = u1.alloc (.cells #[.int .i64 hh.kind, .int .i64 hh.bins, .int .i64 hh.classes, .slice X1 hh.counts.length x1, .slice Y1 hh.moms.length y1] 36) := ⟨_, rfl⟩
      rw [← f1]
      have bx1 : Below u1.heap.size u1 V1 := by rw [f1]; exact (Below.refl _ _).alloc (Nat.le_refl _) _
      have O1 : HB w.heap.size u1.heap.size hh X1 Y1 x1 y1 V1 := by
        rw [f1]
        exact ⟨Blk.new _ _ _, o1.alloc _, o2.alloc _⟩
      obtain ⟨g1, hg1⟩ : ∃ g, u1.heap.size = g := ⟨_, rfl⟩
      have lg1 : w.heap.size + 1 < g1 := by have := kA1.lt; omega
      rw [hg1] at O1 ⊢
      replace kS1 := kS1.below bx1
      replace kA1 := kA1.below bx1
      replace BB := (below_to BB bx1)
      clear f1 bx1 o1 o2 hg1
      refine (K2.out _ BB).mono ?_
      rintro e u2 ⟨v, rfl, ⟨v1, v2, rfl, o1, o2⟩, hb⟩
      obtain ⟨X2, x2, rfl⟩ := own_slice o1
      obtain ⟨Y2, y2, rfl⟩ := own_slice o2
      replace o1 := World.ownsRow.mono o1 (base' := w.heap.size) (Nat.le_trans wl BB.size)
      replace o2 := World.ownsRow.mono o2 (base' := w.heap.size) (Nat.le_trans wl BB.size)
      replace kS1 := kS1.below hb
      replace kA1 := kA1.below hb
      replace O1 := O1.below hb
      replace BB := (below_to BB hb)
      clear hb a0 a1 a2 a3 a4 a5 a6 a7 a8 a9 a10 a11 q0 q1 q2
      obtain ⟨a0, a1, a2, a3, a4, a5, a6, a7, a8, a9, a10, a11⟩ := kS1.cells12
      obtain ⟨q0, q1, q2⟩ := cells3 kA1
      have lSl2 := kS1.lt
      have lAl2 := kA1.lt
      have lS2 : w.heap.size ≠ u2.heap.size := by have := kS1.lt; omega
      have lA2 : w.heap.size + 1 ≠ u2.heap.size := by have := kA1.lt; omega
      go_wp2_with fail
      obtain ⟨V2, f2⟩ : ∃ W, W = u2.alloc (.cells #[.int .i64 hh.kind, .int .i64 hh.bins, .int .i64 hh.classes, .slice X2 hh.counts.length x2, .slice Y2 hh.moms.length y2] 36) := ⟨_, rfl⟩
      rw [← f2]
      have bx2 : Below u2.heap.size u2 V2 := by rw [f2]; exact (Below.refl _ _).alloc (Nat.le_refl _) _
      have O2 : HB w.heap.size u2.heap.size hh X2 Y2 x2 y2 V2 := by
        rw [f2]
        exact ⟨Blk.new _ _ _, o1.alloc _, o2.alloc _⟩
      obtain ⟨g2, hg2⟩ : ∃ g, u2.heap.size = g := ⟨_, rfl⟩
      have lg2 : w.heap.size + 1 < g2 := by have := kA1.lt; omega
      rw [hg2] at O2 ⊢
      replace kS1 := kS1.below bx2
      replace kA1 := kA1.below bx2
      replace O1 := O1.below bx2
      replace BB := (below_to BB bx2)
      clear f2 bx2 o1 o2 hg2
      refine (K3.out _ BB).mono ?_
      rintro e u3 ⟨v, rfl, ⟨v1, v2, rfl, o1, o2⟩, hb⟩
      obtain ⟨X3, x3, rfl⟩ := own_slice o1
      obtain ⟨Y3, y3, rfl⟩ := own_slice o2
      replace o1 := World.ownsRow.mono o1 (base' := w.heap.size) (Nat.le_trans wl BB.size)
      replace o2 := World.ownsRow.mono o2 (base' := w.heap.size) (Nat.le_trans wl BB.size)
      replace kS1 := kS1.below hb
      replace kA1 := kA1.below hb
      replace O1 := O1.below hb
      replace O2 := O2.below hb
      replace BB := (below_to BB hb)
      clear hb a0 a1 a2 a3 a4 a5 a6 a7 a8 a9 a10 a11 q0 q1 q2
      obtain ⟨a0, a1, a2, a3, a4, a5, a6, a7, a8, a9, a10, a11⟩ := kS1.cells12
      obtain ⟨q0, q1, q2⟩ := cells3 kA1
      have lSl3 := kS1.lt
      have lAl3 := kA1.lt
      have lS3 : w.heap.size ≠ u3.heap.size := by have := kS1.lt; omega
      have lA3 : w.heap.size + 1 ≠ u3.heap.size := by have := kA1.lt; omega
      go_wp2_with fail
      obtain ⟨V3, f3⟩ : ∃ W, W = u3.alloc (.cells #[.int .i64 hp.kind, .int .i64 hp.bins, .int .i64 hp.classes, .slice X3 hp.counts.length x3, .slice Y3 hp.moms.length y3] 36) := ⟨_, rfl⟩
      rw [← f3]
      have bx3 : Below u3.heap.size u3 V3 := by rw [f3]; exact (Below.refl _ _).alloc (Nat.le_refl _) _
      have O3 : HB w.heap.size u3.heap.size hp X3 Y3 x3 y3 V3 := by
        rw [f3]
        exact ⟨Blk.new _ _ _, o1.alloc _, o2.alloc _⟩
      obtain ⟨g3, hg3⟩ : ∃ g, u3.heap.size = g := ⟨_, rfl⟩
      have lg3 : w.heap.size + 1 < g3 := by have := kA1.lt; omega
      rw [hg3] at O3 ⊢
      replace kS1 := kS1.below bx3
      replace kA1 := kA1.below bx3
      replace O1 := O1.below bx3
      replace O2 := O2.below bx3
      replace BB := (below_to BB bx3)
      clear f3 bx3 o1 o2 hg3
      refine (K4.out _ BB).mono ?_
      rintro e u4 ⟨v, rfl, ⟨v1, v2, rfl, o1, o2⟩, hb⟩
      obtain ⟨X4, x4, rfl⟩ := own_slice o1
      obtain ⟨Y4, y4, rfl⟩ := own_slice o2
      replace o1 := World.ownsRow.mono o1 (base' := w.heap.size) (Nat.le_trans wl BB.size)
      replace o2 := World.ownsRow.mono o2 (base' := w.heap.size) (Nat.le_trans wl BB.size)
      replace kS1 := kS1.below hb
      replace kA1 := kA1.below hb
      replace O1 := O1.below hb
      replace O2 := O2.below hb
      replace O3 := O3.below hb
      replace BB := (below_to BB hb)
      clear hb a0 a1 a2 a3 a4 a5 a6 a7 a8 a9 a10 a11 q0 q1 q2
      obtain ⟨a0, a1, a2, a3, a4, a5, a6, a7, a8, a9, a10, a11⟩ := kS1.cells12
      obtain ⟨q0, q1, q2⟩ := cells3 kA1
      have lSl4 := kS1.lt
      have lAl4 := kA1.lt
      have lS4 : w.heap.size ≠ u4.heap.size := by have := kS1.lt; omega
      have lA4 : w.heap.size + 1 ≠ u4.heap.size := by have := kA1.lt; omega
      go_upto_region 7 with (fail)
      obtain ⟨V4, f4⟩ : ∃ W, W = u4.alloc (.cells #[.int .i64 hp.kind, .int .i64 hp.bins, .int .i64 hp.classes, .slice X4 hp.counts.length x4, .slice Y4 hp.moms.length y4] 36) := ⟨_, rfl⟩
      rw [← f4]
      have bx4 : Below u4.heap.size u4 V4 := by rw [f4]; exact (Below.refl _ _).alloc (Nat.le_refl _) _
      have O4 : HB w.heap.size u4.heap.size hp X4 Y4 x4 y4 V4 := by
        rw [f4]
        exact ⟨Blk.new _ _ _, o1.alloc _, o2.alloc _⟩
      obtain ⟨g4, hg4⟩ : ∃ g, u4.heap.size = g := ⟨_, rfl⟩
      rw [hg4] at O4 ⊢
      replace kS1 := kS1.below bx4
      replace O1 := O1.below bx4
      replace O2 := O2.below bx4
      replace O3 := O3.below bx4
      replace BB := (below_to BB bx4)
      have bWV : Below w.heap.size w V4 := bW1.trans (BB.mono wl)
      have HSS : ∀ W, Below V4.heap.size V4 W → (W.cell? ⟨w.heap.size, 0, none⟩ = some (.int .i64 s.k) ∧ W.cell? ⟨w.heap.size, 1, none⟩ = some (.int .i64 s.cl) ∧ W.cell? ⟨w.heap.size, 2, none⟩ = some (.int .i64 s.b) ∧ W.cell? ⟨w.heap.size, 3, none⟩ = some (.int .i64 s.t) ∧ W.cell? ⟨w.heap.size, 4, none⟩ = some (.int .i64 s.d) ∧ W.cell? ⟨w.heap.size, 5, none⟩ = some (.int .i64 s.l) ∧ W.cell? ⟨w.heap.size, 6, none⟩ = some (.int .i64 s.p) ∧ W.cell? ⟨w.heap.size, 7, none⟩ = some (.int .i64 s.rows) ∧ W.cell? ⟨w.heap.size, 8, none⟩ = some (.int .i64 s.cols) ∧ W.cell? ⟨w.heap.size, 9, none⟩ = some (.slice A1 s.cells.length c1) ∧ W.cell? ⟨w.heap.size, 10, none⟩ = some (.slice A2 s.tgt.length c2) ∧ W.cell? ⟨w.heap.size, 11, none⟩ = some (.slice A3 s.wgt.length c3) ∧ W.cell? ⟨g1, 0, none⟩ = some (.int .i64 hh.kind) ∧ W.cell? ⟨g1, 1, none⟩ = some (.int .i64 hh.bins) ∧ W.cell? ⟨g1, 2, none⟩ = some (.int .i64 hh.classes) ∧ W.cell? ⟨g1, 3, none⟩ = some (.slice X1 hh.counts.length x1) ∧ W.cell? ⟨g1, 4, none⟩ = some (.slice Y1 hh.moms.length y1) ∧ W.cell? ⟨g2, 0, none⟩ = some (.int .i64 hh.kind) ∧ W.cell? ⟨g2, 1, none⟩ = some (.int .i64 hh.bins) ∧ W.cell? ⟨g2, 2, none⟩ = some (.int .i64 hh.classes) ∧ W.cell? ⟨g2, 3, none⟩ = some (.slice X2 hh.counts.length x2) ∧ W.cell? ⟨g2, 4, none⟩ = some (.slice Y2 hh.moms.length y2) ∧ W.cell? ⟨g3, 0, none⟩ = some (.int .i64 hp.kind) ∧ W.cell? ⟨g3, 1, none⟩ = some (.int .i64 hp.bins) ∧ W.cell? ⟨g3, 2, none⟩ = some (.int .i64 hp.classes) ∧ W.cell? ⟨g3, 3, none⟩ = some (.slice X3 hp.counts.length x3) ∧ W.cell? ⟨g3, 4, none⟩ = some (.slice Y3 hp.moms.length y3) ∧ W.cell? ⟨g4, 0, none⟩ = some (.int .i64 hp.kind) ∧ W.cell? ⟨g4, 1, none⟩ = some (.int .i64 hp.bins) ∧ W.cell? ⟨g4, 2, none⟩ = some (.int .i64 hp.classes) ∧ W.cell? ⟨g4, 3, none⟩ = some (.slice X4 hp.counts.length x4) ∧ W.cell? ⟨g4, 4, none⟩ = some (.slice Y4 hp.moms.length y4)) := fun W hb => by
        obtain ⟨a0, a1, a2, a3, a4, a5, a6, a7, a8, a9, a10, a11⟩ := (kS1.below hb).cells12
        obtain ⟨⟨b0, b1, b2, b3, b4⟩, _⟩ := (O1.below hb).cells
        obtain ⟨⟨d0, d1, d2, d3, d4⟩, _⟩ := (O2.below hb).cells
        obtain ⟨⟨e0, e1, e2, e3, e4⟩, _⟩ := (O3.below hb).cells
        obtain ⟨⟨f0, f1, f2, f3, f4⟩, _⟩ := (O4.below hb).cells
        exact ⟨a0, a1, a2, a3, a4, a5, a6, a7, a8, a9, a10, a11, b0, b1, b2, b3, b4, d0, d1, d2, d3, d4, e0, e1, e2, e3, e4, f0, f1, f2, f3, f4⟩
      have KS1 := Lib.hid (fun W (hb : Below V4.heap.size V4 W) => same_any ((O1.below hb).new.rd HFI.out.1 HFI.out.2.1 HFI.out.2.2) ((O2.below hb).new.rd HFI.out.1 HFI.out.2.1 HFI.out.2.2))
      have KS2 := Lib.hid (fun W (hb : Below V4.heap.size V4 W) => same_any ((O3.below hb).new.rd HFP.out.1 HFP.out.2.1 HFP.out.2.2) ((O4.below hb).new.rd HFP.out.1 HFP.out.2.1 HFP.out.2.2))
      rw [decide_eq_true rfl] at KS1 KS2
      replace HSS := Lib.hid HSS
      have HBW := Lib.hid bWV
      have S0 := HSS.out V4.drew ((Below.refl _ V4).drew)
      have SV := HSS.out V4 (Below.refl _ V4)
      clear f4 bx4 o1 o2 hg4 kS1 kA1 O1 O2 O3 O4 BB bW1 bWV a0 a1 a2 a3 a4 a5 a6 a7 a8 a9 a10 a11 q0 q1 q2
      obtain ⟨s0, s1, s2, s3, s4, s5, s6, s7, s8, s9, s10, s11, s12, s13, s14, s15, s16, s17, s18, s19, s20, s21, s22, s23, s24, s25, s26, s27, s28, s29, s30, s31⟩ := SV
      go_region_held3 (fun W => W.cell? ⟨w.heap.size, 0, none⟩ = some (.int .i64 s.k) ∧ W.cell? ⟨w.heap.size, 1, none⟩ = some (.int .i64 s.cl) ∧ W.cell? ⟨w.heap.size, 2, none⟩ = some (.int .i64 s.b) ∧ W.cell? ⟨w.heap.size, 3, none⟩ = some (.int .i64 s.t) ∧ W.cell? ⟨w.heap.size, 4, none⟩ = some (.int .i64 s.d) ∧ W.cell? ⟨w.heap.size, 5, none⟩ = some (.int .i64 s.l) ∧ W.cell? ⟨w.heap.size, 6, none⟩ = some (.int .i64 s.p) ∧ W.cell? ⟨w.heap.size, 7, none⟩ = some (.int .i64 s.rows) ∧ W.cell? ⟨w.heap.size, 8, none⟩ = some (.int .i64 s.cols) ∧ W.cell? ⟨w.heap.size, 9, none⟩ = some (.slice A1 s.cells.length c1) ∧ W.cell? ⟨w.heap.size, 10, none⟩ = some (.slice A2 s.tgt.length c2) ∧ W.cell? ⟨w.heap.size, 11, none⟩ = some (.slice A3 s.wgt.length c3) ∧ W.cell? ⟨g1, 0, none⟩ = some (.int .i64 hh.kind) ∧ W.cell? ⟨g1, 1, none⟩ = some (.int .i64 hh.bins) ∧ W.cell? ⟨g1, 2, none⟩ = some (.int .i64 hh.classes) ∧ W.cell? ⟨g1, 3, none⟩ = some (.slice X1 hh.counts.length x1) ∧ W.cell? ⟨g1, 4, none⟩ = some (.slice Y1 hh.moms.length y1) ∧ W.cell? ⟨g2, 0, none⟩ = some (.int .i64 hh.kind) ∧ W.cell? ⟨g2, 1, none⟩ = some (.int .i64 hh.bins) ∧ W.cell? ⟨g2, 2, none⟩ = some (.int .i64 hh.classes) ∧ W.cell? ⟨g2, 3, none⟩ = some (.slice X2 hh.counts.length x2) ∧ W.cell? ⟨g2, 4, none⟩ = some (.slice Y2 hh.moms.length y2) ∧ W.cell? ⟨g3, 0, none⟩ = some (.int .i64 hp.kind) ∧ W.cell? ⟨g3, 1, none⟩ = some (.int .i64 hp.bins) ∧ W.cell? ⟨g3, 2, none⟩ = some (.int .i64 hp.classes) ∧ W.cell? ⟨g3, 3, none⟩ = some (.slice X3 hp.counts.length x3) ∧ W.cell? ⟨g3, 4, none⟩ = some (.slice Y3 hp.moms.length y3) ∧ W.cell? ⟨g4, 0, none⟩ = some (.int .i64 hp.kind) ∧ W.cell? ⟨g4, 1, none⟩ = some (.int .i64 hp.bins) ∧ W.cell? ⟨g4, 2, none⟩ = some (.int .i64 hp.classes) ∧ W.cell? ⟨g4, 3, none⟩ = some (.slice X4 hp.counts.length x4) ∧ W.cell? ⟨g4, 4, none⟩ = some (.slice Y4 hp.moms.length y4)) (first | assumption | go_keep)
        (first
          | (go_at_call 15; refine (fixed13_any _).mono ?_; rintro e wF ⟨rfl, hb⟩; have bF := below_to ((Below.refl V4.heap.size V4).drew) hb; have SF := HSS.out _ bF; clear hb)
          | (go_at_call 38; refine (K5.out _).mono ?_; rintro e wA ⟨rfl, hb⟩; have bA : Below V4.heap.size V4 wA := (by first | exact (below_to bR hb) | exact (below_to bF hb)); have SA := HSS.out _ bA; clear hb)
          | (go_at_call 39; refine (K6.out _).mono ?_; rintro e wR ⟨rfl, hb⟩; have bR : Below V4.heap.size V4 wR := (by first | exact (below_to bA hb) | exact (below_to bF hb)); have SR := HSS.out _ bR; clear hb)
          | (go_at_call_of 19 (X1); refine (KS1.out _ (by first | exact bA | exact bR)).mono ?_; rintro e wG ⟨rfl, hb⟩; have bG : Below V4.heap.size V4 wG := (by first | exact (below_to bA hb) | exact (below_to bR hb)); have SG := HSS.out _ bG; clear hb)
          | (go_at_call_of 19 (X3); refine (KS2.out _ (by exact bG)).mono ?_; rintro e wH ⟨rfl, hb⟩; have bH : Below V4.heap.size V4 wH := (below_to bG hb); have SH := HSS.out _ bH; clear hb))
      all_goals
        go_wp2
        go_ret
        exact ⟨rfl, HBW.out.trans (bH.mono HBW.out.size)⟩
end Go.Proofs.Yteckbgpkoanhfaa.Hb

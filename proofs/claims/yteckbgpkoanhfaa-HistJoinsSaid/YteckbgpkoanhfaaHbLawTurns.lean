/- The walk of the law HistTurns. -/
import Derived.Test.YteckbgpkoanhfaaHbTurns
namespace Go.Proofs.Yteckbgpkoanhfaa.Hb
open Go.RowKit

/-- A histogram in a box of its own. -/
structure BxH (W : World) (g : Nat) (h : H) (A1 A2 : Option Addr) (c1 c2 : Nat) : Prop where
  blk : Blk W g #[.int .i64 h.kind, .int .i64 h.bins, .int .i64 h.classes, .slice A1 h.counts.length c1, .slice A2 h.moms.length c2] 36
  rd : RdH W h (hV h A1 A2 c1 c2)
theorem BxH.below {W W1 : World} {g : Nat} {h : H} {A1 A2 : Option Addr} {c1 c2 : Nat} (x : BxH W g h A1 A2 c1 c2) (hb : Below W.heap.size W W1) : BxH W1 g h A1 A2 c1 c2 := ⟨x.blk.below hb, x.rd.below hb⟩
theorem BxH.alloc {W : World} {g : Nat} {h : H} {A1 A2 : Option Addr} {c1 c2 : Nat} (x : BxH W g h A1 A2 c1 c2) (o : Obj) : BxH (W.alloc o) g h A1 A2 c1 c2 := x.below ((Below.refl _ _).alloc (Nat.le_refl _) _)
theorem BxH.new {W : World} {h : H} {A1 A2 : Option Addr} {c1 c2 : Nat} (r : RdH W h (hV h A1 A2 c1 c2)) : BxH (W.alloc (.cells #[.int .i64 h.kind, .int .i64 h.bins, .int .i64 h.classes, .slice A1 h.counts.length c1, .slice A2 h.moms.length c2] 36)) W.heap.size h A1 A2 c1 c2 :=
  ⟨Blk.new _ _ _, r.below ((Below.refl _ _).alloc (Nat.le_refl _) _)⟩
def MergeP (a b x : H) (e1 : Int) : Prop := ∀ W va vb, RdH W a va → RdH W b vb → Calls Try.prog 24 #[va, vb] W fun e w' => ∃ v, e = .returned (.tuple #[v, .int .i64 e1]) ∧ RdH w' x v ∧ Below W.heap.size W w'
theorem ok_of {f : Nat} {op : Int → Int → Bool → Except Int Int} (hop : IsOp f op) {a b : H} (h : errO (bothO op a b) = 0) : ∃ x, bothO op a b = .ok x := by
  cases x1 : bothO op a b with
  | ok x => exact ⟨x, rfl⟩
  | error e =>
    have := both_no0 hop x1
    rw [x1] at h
    rw [show e = 0 from h] at this
    cases this
theorem MergeP.mk (a b : H) : MergeP a b (valO h0 (bothO opP a b)) (errO (bothO opP a b)) := fun _ _ _ ra rb => merge_rd ra rb

set_option maxRecDepth 100000 in
set_option maxHeartbeats 4000000 in
theorem turns_small {a b c x l z r : H} {e1 e3 e4 e5 : Int} {va vb vc : Value} {w : World} (ra : RdH w a va) (rb : RdH w b vb) (rc : RdH w c vc) (ga : greatB a = false) (gb : greatB b = false) (gc : greatB c = false)
    (m1 : MergeP a b x e1) (m2 : MergeP b a x e1) (m3 : MergeP x c l e3) (m4 : MergeP b c z e4) (m5 : MergeP a z r e5) (hfin : e1 = 0 → e3 = 0 → e4 = 0 → e5 = 0 → l = r) :
    Calls Try.prog 7 #[va, vb, vc] w fun e w' => e = .returned (.bool true) ∧ Below w.heap.size w w' := by
  have HF := Lib.hid hfin
  have GA := Lib.hid ga
  have GB := Lib.hid gb
  have GC := Lib.hid gc
  have M1 := Lib.hid m1
  have M2 := Lib.hid m2
  have M3 := Lib.hid m3
  have M4 := Lib.hid m4
  have M5 := Lib.hid m5
  have RA := Lib.hid ra
  have RB := Lib.hid rb
  have RC := Lib.hid rc
  have x11 : (e1 != e1) = false := bne_eq_false_iff_eq.2 rfl
  clear hfin ga gb gc m1 m2 m3 m4 m5
  obtain ⟨A1, A2, c1, c2, rfl, _⟩ := ra
  obtain ⟨A3, A4, c3, c4, rfl, _⟩ := rb
  obtain ⟨A5, A6, c5, c6, rfl, _⟩ := rc
  go_enter Try.func7, Try.ntmps7
  unfold hV
  go_wp2_with fail
  have Xa := ((BxH.new RA.out).alloc (.cells #[.int .i64 b.kind, .int .i64 b.bins, .int .i64 b.classes, .slice A3 b.counts.length c3, .slice A4 b.moms.length c4] 36)).alloc (.cells #[.int .i64 c.kind, .int .i64 c.bins, .int .i64 c.classes, .slice A5 c.counts.length c5, .slice A6 c.moms.length c6] 36)
  have Xb := (BxH.new (RB.out.below ((Below.refl _ _).alloc (Nat.le_refl _) (.cells #[.int .i64 a.kind, .int .i64 a.bins, .int .i64 a.classes, .slice A1 a.counts.length c1, .slice A2 a.moms.length c2] 36)))).alloc (.cells #[.int .i64 c.kind, .int .i64 c.bins, .int .i64 c.classes, .slice A5 c.counts.length c5, .slice A6 c.moms.length c6] 36)
  have Xc := BxH.new (RC.out.below (((Below.refl _ _).alloc (Nat.le_refl _) (.cells #[.int .i64 a.kind, .int .i64 a.bins, .int .i64 a.classes, .slice A1 a.counts.length c1, .slice A2 a.moms.length c2] 36)).alloc (by simp) (.cells #[.int .i64 b.kind, .int .i64 b.bins, .int .i64 b.classes, .slice A3 b.counts.length c3, .slice A4 b.moms.length c4] 36)))
  have bw : Below w.heap.size w (((w.alloc (.cells #[.int .i64 a.kind, .int .i64 a.bins, .int .i64 a.classes, .slice A1 a.counts.length c1, .slice A2 a.moms.length c2] 36)).alloc (.cells #[.int .i64 b.kind, .int .i64 b.bins, .int .i64 b.classes, .slice A3 b.counts.length c3, .slice A4 b.moms.length c4] 36)).alloc (.cells #[.int .i64 c.kind, .int .i64 c.bins, .int .i64 c.classes, .slice A5 c.counts.length c5, .slice A6 c.moms.length c6] 36)) := (((Below.refl _ w).alloc (Nat.le_refl _) _).alloc (by simp) _).alloc (by simp; omega) _
  simp only [World.size_alloc] at Xa Xb Xc
  obtain ⟨W0, e0⟩ : ∃ W0, W0 = ((w.alloc (.cells #[.int .i64 a.kind, .int .i64 a.bins, .int .i64 a.classes, .slice A1 a.counts.length c1, .slice A2 a.moms.length c2] 36)).alloc (.cells #[.int .i64 b.kind, .int .i64 b.bins, .int .i64 b.classes, .slice A3 b.counts.length c3, .slice A4 b.moms.length c4] 36)).alloc (.cells #[.int .i64 c.kind, .int .i64 c.bins, .int .i64 c.classes, .slice A5 c.counts.length c5, .slice A6 c.moms.length c6] 36) := ⟨_, rfl⟩
  rw [← e0] at Xa Xb Xc bw ⊢
  clear e0
  refine (great_any Xa.rd).mono ?_
  rintro e w1 ⟨rfl, hb⟩
  rw [GA.out]
  replace Xa := Xa.below hb
  replace Xb := Xb.below hb
  replace Xc := Xc.below hb
  replace bw := bw.trans (hb.mono bw.size)
  clear hb
  obtain ⟨fb0, fb1, fb2, fb3, fb4⟩ := Xb.blk.cells5
  go_wp2_with fail
  refine (great_any Xb.rd).mono ?_
  rintro e w2 ⟨rfl, hb⟩
  rw [GB.out]
  replace Xa := Xa.below hb
  replace Xb := Xb.below hb
  replace Xc := Xc.below hb
  replace bw := bw.trans (hb.mono bw.size)
  clear hb
  clear fb0 fb1 fb2 fb3 fb4
  obtain ⟨fc0, fc1, fc2, fc3, fc4⟩ := Xc.blk.cells5
  go_wp2_with fail
  refine (great_any Xc.rd).mono ?_
  rintro e w3 ⟨rfl, hb⟩
  rw [GC.out]
  replace Xa := Xa.below hb
  replace Xb := Xb.below hb
  replace Xc := Xc.below hb
  replace bw := bw.trans (hb.mono bw.size)
  clear hb
  clear fc0 fc1 fc2 fc3 fc4
  obtain ⟨fa0, fa1, fa2, fa3, fa4⟩ := Xa.blk.cells5
  obtain ⟨fb0, fb1, fb2, fb3, fb4⟩ := Xb.blk.cells5
  go_wp2_with fail
  refine (M1.out _ _ _ Xa.rd Xb.rd).mono ?_
  rintro e w4 ⟨v, rfl, rv, hb⟩
  obtain ⟨A1x, A2x, c1x, c2x, rfl, _⟩ := id rv
  replace Xa := Xa.below hb
  replace Xb := Xb.below hb
  replace Xc := Xc.below hb
  replace bw := bw.trans (hb.mono bw.size)
  clear hb
  clear fa0 fa1 fa2 fa3 fa4 fb0 fb1 fb2 fb3 fb4
  obtain ⟨fb0, fb1, fb2, fb3, fb4⟩ := Xb.blk.cells5
  obtain ⟨fa0, fa1, fa2, fa3, fa4⟩ := Xa.blk.cells5
  have Lb := Xb.blk.lt
  have La := Xa.blk.lt
  unfold hV
  go_wp2_with (fail)
  clear fb0 fb1 fb2 fb3 fb4 fa0 fa1 fa2 fa3 fa4
  clear Lb
  clear La
  replace Xa := Xa.alloc (.cells #[.int .i64 x.kind, .int .i64 x.bins, .int .i64 x.classes, .slice A1x x.counts.length c1x, .slice A2x x.moms.length c2x] 36)
  replace Xb := Xb.alloc (.cells #[.int .i64 x.kind, .int .i64 x.bins, .int .i64 x.classes, .slice A1x x.counts.length c1x, .slice A2x x.moms.length c2x] 36)
  replace Xc := Xc.alloc (.cells #[.int .i64 x.kind, .int .i64 x.bins, .int .i64 x.classes, .slice A1x x.counts.length c1x, .slice A2x x.moms.length c2x] 36)
  replace bw := bw.alloc bw.size (.cells #[.int .i64 x.kind, .int .i64 x.bins, .int .i64 x.classes, .slice A1x x.counts.length c1x, .slice A2x x.moms.length c2x] 36)
  have Xx := BxH.new rv
  clear rv
  obtain ⟨Z4, ez⟩ : ∃ Z, Z = w4.alloc (.cells #[.int .i64 x.kind, .int .i64 x.bins, .int .i64 x.classes, .slice A1x x.counts.length c1x, .slice A2x x.moms.length c2x] 36) := ⟨_, rfl⟩
  obtain ⟨gx, hg⟩ : ∃ g, g = w4.heap.size := ⟨_, rfl⟩
  rw [← ez, ← hg] at Xx
  rw [← ez] at Xa Xb Xc bw
  rw [← ez] at ⊢
  try rw [← hg]
  clear ez hg
  refine (M2.out _ _ _ Xb.rd Xa.rd).mono ?_
  rintro e w5 ⟨v, rfl, rv, hb⟩
  obtain ⟨A1y, A2y, c1y, c2y, rfl, _⟩ := id rv
  replace Xa := Xa.below hb
  replace Xb := Xb.below hb
  replace Xc := Xc.below hb
  replace Xx := Xx.below hb
  replace bw := bw.trans (hb.mono bw.size)
  clear hb
  obtain ⟨fx0, fx1, fx2, fx3, fx4⟩ := Xx.blk.cells5
  have Lx := Xx.blk.lt
  unfold hV
  go_wp2_with (fail)
  clear fx0 fx1 fx2 fx3 fx4
  clear Lx
  replace Xa := Xa.alloc (.cells #[.int .i64 x.kind, .int .i64 x.bins, .int .i64 x.classes, .slice A1y x.counts.length c1y, .slice A2y x.moms.length c2y] 36)
  replace Xb := Xb.alloc (.cells #[.int .i64 x.kind, .int .i64 x.bins, .int .i64 x.classes, .slice A1y x.counts.length c1y, .slice A2y x.moms.length c2y] 36)
  replace Xc := Xc.alloc (.cells #[.int .i64 x.kind, .int .i64 x.bins, .int .i64 x.classes, .slice A1y x.counts.length c1y, .slice A2y x.moms.length c2y] 36)
  replace Xx := Xx.alloc (.cells #[.int .i64 x.kind, .int .i64 x.bins, .int .i64 x.classes, .slice A1y x.counts.length c1y, .slice A2y x.moms.length c2y] 36)
  replace bw := bw.alloc bw.size (.cells #[.int .i64 x.kind, .int .i64 x.bins, .int .i64 x.classes, .slice A1y x.counts.length c1y, .slice A2y x.moms.length c2y] 36)
  have Xy := BxH.new rv
  clear rv
  obtain ⟨Z5, ez⟩ : ∃ Z, Z = w5.alloc (.cells #[.int .i64 x.kind, .int .i64 x.bins, .int .i64 x.classes, .slice A1y x.counts.length c1y, .slice A2y x.moms.length c2y] 36) := ⟨_, rfl⟩
  obtain ⟨gy, hg⟩ : ∃ g, g = w5.heap.size := ⟨_, rfl⟩
  rw [← ez, ← hg] at Xy
  rw [← ez] at Xa Xb Xc Xx bw
  rw [← ez] at ⊢
  try rw [← hg]
  clear ez hg
  refine (same_any Xx.rd Xy.rd).mono ?_
  rintro e w6 ⟨rfl, hb⟩
  rw [decide_eq_true rfl]
  replace Xa := Xa.below hb
  replace Xb := Xb.below hb
  replace Xc := Xc.below hb
  replace Xx := Xx.below hb
  replace Xy := Xy.below hb
  replace bw := bw.trans (hb.mono bw.size)
  clear hb
  obtain ⟨fx0, fx1, fx2, fx3, fx4⟩ := Xx.blk.cells5
  obtain ⟨fc0, fc1, fc2, fc3, fc4⟩ := Xc.blk.cells5
  go_wp2_with fail
  refine (M3.out _ _ _ Xx.rd Xc.rd).mono ?_
  rintro e w7 ⟨v, rfl, rv, hb⟩
  obtain ⟨A1l, A2l, c1l, c2l, rfl, _⟩ := id rv
  replace Xa := Xa.below hb
  replace Xb := Xb.below hb
  replace Xc := Xc.below hb
  replace Xx := Xx.below hb
  replace Xy := Xy.below hb
  replace bw := bw.trans (hb.mono bw.size)
  clear hb
  clear fx0 fx1 fx2 fx3 fx4 fc0 fc1 fc2 fc3 fc4
  obtain ⟨fb0, fb1, fb2, fb3, fb4⟩ := Xb.blk.cells5
  obtain ⟨fc0, fc1, fc2, fc3, fc4⟩ := Xc.blk.cells5
  have Lb := Xb.blk.lt
  have Lc := Xc.blk.lt
  unfold hV
  go_wp2_with (fail)
  clear fb0 fb1 fb2 fb3 fb4 fc0 fc1 fc2 fc3 fc4
  clear Lb
  clear Lc
  replace Xa := Xa.alloc (.cells #[.int .i64 l.kind, .int .i64 l.bins, .int .i64 l.classes, .slice A1l l.counts.length c1l, .slice A2l l.moms.length c2l] 36)
  replace Xb := Xb.alloc (.cells #[.int .i64 l.kind, .int .i64 l.bins, .int .i64 l.classes, .slice A1l l.counts.length c1l, .slice A2l l.moms.length c2l] 36)
  replace Xc := Xc.alloc (.cells #[.int .i64 l.kind, .int .i64 l.bins, .int .i64 l.classes, .slice A1l l.counts.length c1l, .slice A2l l.moms.length c2l] 36)
  replace Xx := Xx.alloc (.cells #[.int .i64 l.kind, .int .i64 l.bins, .int .i64 l.classes, .slice A1l l.counts.length c1l, .slice A2l l.moms.length c2l] 36)
  replace Xy := Xy.alloc (.cells #[.int .i64 l.kind, .int .i64 l.bins, .int .i64 l.classes, .slice A1l l.counts.length c1l, .slice A2l l.moms.length c2l] 36)
  replace bw := bw.alloc bw.size (.cells #[.int .i64 l.kind, .int .i64 l.bins, .int .i64 l.classes, .slice A1l l.counts.length c1l, .slice A2l l.moms.length c2l] 36)
  have Xl := BxH.new rv
  clear rv
  obtain ⟨Z7, ez⟩ : ∃ Z, Z = w7.alloc (.cells #[.int .i64 l.kind, .int .i64 l.bins, .int .i64 l.classes, .slice A1l l.counts.length c1l, .slice A2l l.moms.length c2l] 36) := ⟨_, rfl⟩
  obtain ⟨gl, hg⟩ : ∃ g, g = w7.heap.size := ⟨_, rfl⟩
  rw [← ez, ← hg] at Xl
  rw [← ez] at Xa Xb Xc Xx Xy bw
  rw [← ez] at ⊢
  try rw [← hg]
  clear ez hg
  refine (M4.out _ _ _ Xb.rd Xc.rd).mono ?_
  rintro e w8 ⟨v, rfl, rv, hb⟩
  obtain ⟨A1z, A2z, c1z, c2z, rfl, _⟩ := id rv
  replace Xa := Xa.below hb
  replace Xb := Xb.below hb
  replace Xc := Xc.below hb
  replace Xx := Xx.below hb
  replace Xy := Xy.below hb
  replace Xl := Xl.below hb
  replace bw := bw.trans (hb.mono bw.size)
  clear hb
  obtain ⟨fa0, fa1, fa2, fa3, fa4⟩ := Xa.blk.cells5
  have La := Xa.blk.lt
  unfold hV
  go_wp2_with (fail)
  clear fa0 fa1 fa2 fa3 fa4
  clear La
  replace Xa := Xa.alloc (.cells #[.int .i64 z.kind, .int .i64 z.bins, .int .i64 z.classes, .slice A1z z.counts.length c1z, .slice A2z z.moms.length c2z] 36)
  replace Xb := Xb.alloc (.cells #[.int .i64 z.kind, .int .i64 z.bins, .int .i64 z.classes, .slice A1z z.counts.length c1z, .slice A2z z.moms.length c2z] 36)
  replace Xc := Xc.alloc (.cells #[.int .i64 z.kind, .int .i64 z.bins, .int .i64 z.classes, .slice A1z z.counts.length c1z, .slice A2z z.moms.length c2z] 36)
  replace Xx := Xx.alloc (.cells #[.int .i64 z.kind, .int .i64 z.bins, .int .i64 z.classes, .slice A1z z.counts.length c1z, .slice A2z z.moms.length c2z] 36)
  replace Xy := Xy.alloc (.cells #[.int .i64 z.kind, .int .i64 z.bins, .int .i64 z.classes, .slice A1z z.counts.length c1z, .slice A2z z.moms.length c2z] 36)
  replace Xl := Xl.alloc (.cells #[.int .i64 z.kind, .int .i64 z.bins, .int .i64 z.classes, .slice A1z z.counts.length c1z, .slice A2z z.moms.length c2z] 36)
  replace bw := bw.alloc bw.size (.cells #[.int .i64 z.kind, .int .i64 z.bins, .int .i64 z.classes, .slice A1z z.counts.length c1z, .slice A2z z.moms.length c2z] 36)
  have Xz := BxH.new rv
  clear rv
  obtain ⟨Z8, ez⟩ : ∃ Z, Z = w8.alloc (.cells #[.int .i64 z.kind, .int .i64 z.bins, .int .i64 z.classes, .slice A1z z.counts.length c1z, .slice A2z z.moms.length c2z] 36) := ⟨_, rfl⟩
  obtain ⟨gz, hg⟩ : ∃ g, g = w8.heap.size := ⟨_, rfl⟩
  rw [← ez, ← hg] at Xz
  rw [← ez] at Xa Xb Xc Xx Xy Xl bw
  rw [← ez] at ⊢
  try rw [← hg]
  clear ez hg
  refine (M5.out _ _ _ Xa.rd Xz.rd).mono ?_
  rintro e w9 ⟨v, rfl, rv, hb⟩
  obtain ⟨A1r, A2r, c1r, c2r, rfl, _⟩ := id rv
  replace Xa := Xa.below hb
  replace Xb := Xb.below hb
  replace Xc := Xc.below hb
  replace Xx := Xx.below hb
  replace Xy := Xy.below hb
  replace Xl := Xl.below hb
  replace Xz := Xz.below hb
  replace bw := bw.trans (hb.mono bw.size)
  clear hb
  unfold hV
  go_wp2_with fail
  all_goals
    have Xr := BxH.new rv
    have Xl' := Xl.alloc (.cells #[.int .i64 r.kind, .int .i64 r.bins, .int .i64 r.classes, .slice A1r r.counts.length c1r, .slice A2r r.moms.length c2r] 36)
    have bw' := bw.alloc bw.size (.cells #[.int .i64 r.kind, .int .i64 r.bins, .int .i64 r.classes, .slice A1r r.counts.length c1r, .slice A2r r.moms.length c2r] 36)
    refine (fixed12_any _).mono ?_
    rintro e w10 ⟨rfl, hb⟩
    replace Xr := Xr.below hb
    replace Xl' := Xl'.below hb
    replace bw' := bw'.trans (hb.mono bw'.size)
    clear hb rv
    obtain ⟨fr0, fr1, fr2, fr3, fr4⟩ := Xr.blk.cells5
    obtain ⟨fl0, fl1, fl2, fl3, fl4⟩ := Xl'.blk.cells5
    go_wp2_with fail
    first
    | (go_ret; exact ⟨rfl, bw'⟩)
    | (refine (same_any Xl'.rd Xr.rd).mono ?_
       rintro e w11 ⟨rfl, hb⟩
       rw [decide_eq_true (HF.out (by first | rfl | assumption | (apply bne_eq_false_iff_eq.1; assumption)) (by first | rfl | assumption | (apply bne_eq_false_iff_eq.1; assumption)) (by first | rfl | assumption | (apply bne_eq_false_iff_eq.1; assumption)) (by first | rfl | assumption | (apply bne_eq_false_iff_eq.1; assumption)))]
       go_wp2_with fail
       go_ret
       exact ⟨rfl, bw'.trans (hb.mono bw'.size)⟩)
set_option maxRecDepth 100000 in
set_option maxHeartbeats 4000000 in
theorem turns_great {a b c : H} {va vb vc : Value} {w : World} (ra : RdH w a va) (rb : RdH w b vb) (rc : RdH w c vc) (hg : greatB a = true ∨ (greatB a = false ∧ greatB b = true) ∨ (greatB a = false ∧ greatB b = false ∧ greatB c = true)) :
    Calls Try.prog 7 #[va, vb, vc] w fun e w' => e = .returned (.bool true) ∧ Below w.heap.size w w' := by
  have HG := Lib.hid hg
  have RA := Lib.hid ra
  have RB := Lib.hid rb
  have RC := Lib.hid rc
  clear hg
  obtain ⟨A1, A2, c1, c2, rfl, _⟩ := ra
  obtain ⟨A3, A4, c3, c4, rfl, _⟩ := rb
  obtain ⟨A5, A6, c5, c6, rfl, _⟩ := rc
  go_enter Try.func7, Try.ntmps7
  unfold hV
  go_wp2_with fail
  have Xa := ((BxH.new RA.out).alloc (.cells #[.int .i64 b.kind, .int .i64 b.bins, .int .i64 b.classes, .slice A3 b.counts.length c3, .slice A4 b.moms.length c4] 36)).alloc (.cells #[.int .i64 c.kind, .int .i64 c.bins, .int .i64 c.classes, .slice A5 c.counts.length c5, .slice A6 c.moms.length c6] 36)
  have Xb := (BxH.new (RB.out.below ((Below.refl _ _).alloc (Nat.le_refl _) (.cells #[.int .i64 a.kind, .int .i64 a.bins, .int .i64 a.classes, .slice A1 a.counts.length c1, .slice A2 a.moms.length c2] 36)))).alloc (.cells #[.int .i64 c.kind, .int .i64 c.bins, .int .i64 c.classes, .slice A5 c.counts.length c5, .slice A6 c.moms.length c6] 36)
  have Xc := BxH.new (RC.out.below (((Below.refl _ _).alloc (Nat.le_refl _) (.cells #[.int .i64 a.kind, .int .i64 a.bins, .int .i64 a.classes, .slice A1 a.counts.length c1, .slice A2 a.moms.length c2] 36)).alloc (by simp) (.cells #[.int .i64 b.kind, .int .i64 b.bins, .int .i64 b.classes, .slice A3 b.counts.length c3, .slice A4 b.moms.length c4] 36)))
  have bw : Below w.heap.size w (((w.alloc (.cells #[.int .i64 a.kind, .int .i64 a.bins, .int .i64 a.classes, .slice A1 a.counts.length c1, .slice A2 a.moms.length c2] 36)).alloc (.cells #[.int .i64 b.kind, .int .i64 b.bins, .int .i64 b.classes, .slice A3 b.counts.length c3, .slice A4 b.moms.length c4] 36)).alloc (.cells #[.int .i64 c.kind, .int .i64 c.bins, .int .i64 c.classes, .slice A5 c.counts.length c5, .slice A6 c.moms.length c6] 36)) := (((Below.refl _ w).alloc (Nat.le_refl _) _).alloc (by simp) _).alloc (by simp; omega) _
  simp only [World.size_alloc] at Xa Xb Xc
  obtain ⟨W0, e0⟩ : ∃ W0, W0 = ((w.alloc (.cells #[.int .i64 a.kind, .int .i64 a.bins, .int .i64 a.classes, .slice A1 a.counts.length c1, .slice A2 a.moms.length c2] 36)).alloc (.cells #[.int .i64 b.kind, .int .i64 b.bins, .int .i64 b.classes, .slice A3 b.counts.length c3, .slice A4 b.moms.length c4] 36)).alloc (.cells #[.int .i64 c.kind, .int .i64 c.bins, .int .i64 c.classes, .slice A5 c.counts.length c5, .slice A6 c.moms.length c6] 36) := ⟨_, rfl⟩
  rw [← e0] at Xa Xb Xc bw ⊢
  clear e0
  refine (great_any Xa.rd).mono ?_
  rintro e w1 ⟨rfl, hb⟩
  replace Xa := Xa.below hb
  replace Xb := Xb.below hb
  replace Xc := Xc.below hb
  replace bw := bw.trans (hb.mono bw.size)
  clear hb
  obtain ⟨fb0, fb1, fb2, fb3, fb4⟩ := Xb.blk.cells5
  rcases HG.out with h | ⟨h, h2⟩ | ⟨h, h2, h3⟩
  · rw [h]
    clear h
    go_wp2_with fail
    refine (fixed12_any _).mono ?_
    rintro e w2 ⟨rfl, hb⟩
    go_wp2_with fail
    go_ret
    exact ⟨rfl, bw.trans (hb.mono bw.size)⟩
  · rw [h]
    have H2 := Lib.hid h2
    clear h h2
    go_wp2_with fail
    refine (great_any Xb.rd).mono ?_
    rintro e w2 ⟨rfl, hb⟩
    rw [H2.out]
    replace bw := bw.trans (hb.mono bw.size)
    clear hb
    go_wp2_with fail
    refine (fixed12_any _).mono ?_
    rintro e w3 ⟨rfl, hb⟩
    go_wp2_with fail
    go_ret
    exact ⟨rfl, bw.trans (hb.mono bw.size)⟩
  · rw [h]
    have H2 := Lib.hid h2
    have H3 := Lib.hid h3
    clear h h2 h3
    go_wp2_with fail
    refine (great_any Xb.rd).mono ?_
    rintro e w2 ⟨rfl, hb⟩
    rw [H2.out]
    replace Xc := Xc.below hb
    replace bw := bw.trans (hb.mono bw.size)
    clear hb fb0 fb1 fb2 fb3 fb4
    obtain ⟨fc0, fc1, fc2, fc3, fc4⟩ := Xc.blk.cells5
    go_wp2_with fail
    refine (great_any Xc.rd).mono ?_
    rintro e w3 ⟨rfl, hb⟩
    rw [H3.out]
    replace bw := bw.trans (hb.mono bw.size)
    clear hb
    go_wp2_with fail
    refine (fixed12_any _).mono ?_
    rintro e w4 ⟨rfl, hb⟩
    go_wp2_with fail
    go_ret
    exact ⟨rfl, bw.trans (hb.mono bw.size)⟩
theorem turns_any (w : World) (va : Value) (ra : ∃ a, RdH w a va) (vb : Value) (rb : ∃ b, RdH w b vb) (vc : Value) (rc : ∃ c, RdH w c vc) :
    Calls Try.prog 7 #[va, vb, vc] w fun e w' => e = .returned (.bool true) ∧ Below w.heap.size w w' := by
  obtain ⟨a, ra⟩ := ra
  obtain ⟨b, rb⟩ := rb
  obtain ⟨c, rc⟩ := rc
  cases ga : greatB a with
  | true => exact turns_great ra rb rc (.inl ga)
  | false =>
    cases gb : greatB b with
    | true => exact turns_great ra rb rc (.inr (.inl ⟨ga, gb⟩))
    | false =>
      cases gc : greatB c with
      | true => exact turns_great ra rb rc (.inr (.inr ⟨ga, gb, gc⟩))
      | false =>
        refine turns_small ra rb rc ga gb gc (MergeP.mk a b) (by rw [both_comm a b]; exact MergeP.mk b a) (MergeP.mk _ c) (MergeP.mk b c) (MergeP.mk a _) ?_
        intro h1 h2 h3 h4
        obtain ⟨x, x1⟩ := ok_of plus_is h1
        rw [x1] at h2 ⊢
        change errO (bothO opP x c) = 0 at h2
        change valO h0 (bothO opP x c) = _
        obtain ⟨l, x2⟩ := ok_of plus_is h2
        obtain ⟨z, x3⟩ := ok_of plus_is h3
        rw [x3] at h4 ⊢
        change errO (bothO opP a z) = 0 at h4
        obtain ⟨r, x4⟩ := ok_of plus_is h4
        rw [x2]
        change l = valO h0 (bothO opP a z)
        rw [x4]
        exact both_assoc x1 x2 x3 x4
end Go.Proofs.Yteckbgpkoanhfaa.Hb

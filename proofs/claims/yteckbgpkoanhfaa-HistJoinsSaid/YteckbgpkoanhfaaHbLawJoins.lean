/- The walk of the law HistJoins. -/
import Derived.Test.YteckbgpkoanhfaaHbRefL
import Derived.Test.YteckbgpkoanhfaaHbLawTurns
import Derived.Deep.RegionWith
import Derived.Deep.RegionHeld3
namespace Go.Proofs.Yteckbgpkoanhfaa.Hb
open Go.RowKit

theorem hright_rd {a : H} {va : Value} {w : World} (ra : RdH w a va) : Calls Try.prog 20 #[va] w fun e w' => e = .returned (.bool (rightB a)) ∧ Below w.heap.size w w' := by
  obtain ⟨A1, A2, c1, c2, rfl, _, _, l1, l2⟩ := ra
  exact right_any a A1 A2 c1 c2 w l1 l2
theorem copy_rd {a : H} {va : Value} {w : World} (ra : RdH w a va) (hg : greatB a = false) : Calls Try.prog 28 #[va] w fun e w' => ∃ v, e = .returned v ∧ RdH w' a v ∧ Below w.heap.size w w' :=
  (copy_any ra hg).mono fun _ _ ⟨v, h1, h2, h3⟩ => ⟨v, h1, h2.rd ra.ok ra.lens.1 ra.lens.2, h3⟩
theorem rmerge_rd {a b : H} {va vb : Value} {w : World} (ra : RdH w a va) (rb : RdH w b vb) (ga : greatB a = false) : Calls Try.prog 29 #[va, vb] w (ResR (bothO opP a b) w) :=
  (rmerge_any ra rb ga).mono fun _ _ ⟨v, h1, h2, h3⟩ => ⟨v, h1, h2.rd (okH_both plus_is a b) (Nat.le_trans (len_both a b).1 ra.lens.1) (Nat.le_trans (len_both a b).2 ra.lens.2), h3⟩
theorem rless_rd {a b : H} {va vb : Value} {w : World} (ra : RdH w a va) (rb : RdH w b vb) (ga : greatB a = false) : Calls Try.prog 31 #[va, vb] w (ResR (bothO opM a b) w) :=
  (rless_any ra rb ga).mono fun _ _ ⟨v, h1, h2, h3⟩ => ⟨v, h1, h2.rd (okH_both minus_is a b) (Nat.le_trans (len_both a b).1 ra.lens.1) (Nat.le_trans (len_both a b).2 ra.lens.2), h3⟩
theorem both_errB {f : Nat} {op : Int → Int → Bool → Except Int Int} (hop : IsOp f op) (a b : H) : 0 ≤ errO (bothO op a b) ∧ errO (bothO op a b) ≤ 8 := by
  cases h : bothO op a b with
  | ok x => simp [errO]
  | error e =>
    show 0 ≤ e ∧ e ≤ 8
    by_cases hl : likeP a b
    · have hn := like_len hl
      unfold bothO at h
      rw [if_pos hl] at h
      cases h1 : rowsO (fun x y => op x y false) a.counts b.counts with
      | error e1 =>
        rw [h1] at h; cases h
        exact rows_errP (P := fun e => 0 ≤ e ∧ e ≤ 8) (fun x y e h => by rcases hop.err h with rfl | rfl <;> decide) _ _ _ (by omega) h1
      | ok c =>
        rw [h1] at h; simp only at h
        cases h2 : rowsO (momO op) a.moms b.moms with
        | error e1 =>
          rw [h2] at h; cases h
          exact rows_errP (P := fun e => 0 ≤ e ∧ e ≤ 8) (fun x y e h => by
            unfold momO at h
            cases k1 : op x.c y.c false with
            | error e1 => rw [k1] at h; cases h; rcases hop.err k1 with rfl | rfl <;> decide
            | ok c =>
              rw [k1] at h; simp only at h
              cases k2 : op x.s y.s true with
              | error e1 => rw [k2] at h; cases h; rcases hop.err k2 with rfl | rfl <;> decide
              | ok s =>
                rw [k2] at h; simp only at h
                cases k3 : op x.q y.q false with
                | error e1 => rw [k3] at h; cases h; rcases hop.err k3 with rfl | rfl <;> decide
                | ok q => rw [k3] at h; cases h) _ _ _ (by omega) h2
        | ok m => rw [h2] at h; cases h
    · rw [both_err hl] at h; cases h; decide
/-- A histogram of the caller's own. -/
structure OwnH (W : World) (h : H) (B1 B2 : Option Addr) (d1 d2 : Nat) : Prop where
  r1 : W.ownsRow 0 2 1 (.slice B1 h.counts.length d1) h.counts.length (ints h.counts)
  r2 : W.ownsRow 0 52 3 (.slice B2 h.moms.length d2) h.moms.length (momC h.moms)
  ok : okH h
  l1 : h.counts.length ≤ 9223372036854775807
  l2 : h.moms.length ≤ 9223372036854775807
theorem OwnH.below {W W1 : World} {h : H} {B1 B2 : Option Addr} {d1 d2 : Nat} (o : OwnH W h B1 B2 d1 d2) (hb : Below W.heap.size W W1) : OwnH W1 h B1 B2 d1 d2 := ⟨own_below o.r1 hb, own_below o.r2 hb, o.ok, o.l1, o.l2⟩
theorem OwnH.set5 {W : World} {h : H} {B1 B2 : Option Addr} {d1 d2 g : Nat} {cs : Array Value} (o : OwnH W h B1 B2 d1 d2) (hb : Blk W g cs 36) (x0 x1 x2 x3 x4 : Value) : OwnH (((((W.setCell ⟨g, 0, none⟩ x0).setCell ⟨g, 1, none⟩ x1).setCell ⟨g, 2, none⟩ x2).setCell ⟨g, 3, none⟩ x3).setCell ⟨g, 4, none⟩ x4) h B1 B2 d1 d2 :=
  ⟨own_set5 o.r1 hb (by decide) _ _ _ _ _, own_set5 o.r2 hb (by decide) _ _ _ _ _, o.ok, o.l1, o.l2⟩
theorem OwnH.rd {W : World} {h : H} {B1 B2 : Option Addr} {d1 d2 : Nat} (o : OwnH W h B1 B2 d1 d2) : RdH W h (hV h B1 B2 d1 d2) := ⟨B1, B2, d1, d2, rfl, RdI.own o.r1 o.ok.o1, RdM.own o.r2 o.ok.o2, o.l1, o.l2⟩
theorem copy_own {a : H} {va : Value} {w : World} (ra : RdH w a va) (hg : greatB a = false) : Calls Try.prog 28 #[va] w fun e w' => ∃ B1 B2 d1 d2, e = .returned (hV a B1 B2 d1 d2) ∧ OwnH w' a B1 B2 d1 d2 ∧ Below w.heap.size w w' :=
  (copy_any ra hg).mono fun _ _ ⟨v, h1, ⟨v1, v2, h2, r1, r2⟩, h3⟩ => by
    subst h1 h2
    obtain ⟨B1, d1, rfl⟩ := own_slice r1
    obtain ⟨B2, d2, rfl⟩ := own_slice r2
    exact ⟨B1, B2, d1, d2, rfl, ⟨World.ownsRow.mono r1 (Nat.zero_le _), World.ownsRow.mono r2 (Nat.zero_le _), ra.ok, ra.lens.1, ra.lens.2⟩, h3⟩
theorem blk_other5 {W : World} {g g' : Nat} {cs : Array Value} {t : TypeId} (h : Blk W g cs t) (hne : g ≠ g') (x0 x1 x2 x3 x4 : Value) : Blk (((((W.setCell ⟨g', 0, none⟩ x0).setCell ⟨g', 1, none⟩ x1).setCell ⟨g', 2, none⟩ x2).setCell ⟨g', 3, none⟩ x3).setCell ⟨g', 4, none⟩ x4) g cs t :=
  ((((h.other (p := ⟨g', 0, none⟩) hne _).other (p := ⟨g', 1, none⟩) hne _).other (p := ⟨g', 2, none⟩) hne _).other (p := ⟨g', 3, none⟩) hne _).other (p := ⟨g', 4, none⟩) hne _
theorem blk_alloc {W : World} {g : Nat} {cs : Array Value} {t : TypeId} (h : Blk W g cs t) (o : Obj) : Blk (W.alloc o) g cs t := h.below ((Below.refl _ _).alloc (Nat.le_refl _) _)
/-- Both histograms in their boxes, both copies made. -/
structure JS (a b : H) (A1 A2 A3 A4 Bx1 Bx2 By1 By2 : Option Addr) (c1 c2 c3 c4 ex1 ex2 ey1 ey2 : Nat) (w W : World) : Prop where
  ba : Blk W w.heap.size #[.int .i64 a.kind, .int .i64 a.bins, .int .i64 a.classes, .slice A1 a.counts.length c1, .slice A2 a.moms.length c2] 36
  bb : Blk W (w.heap.size + 1) #[.int .i64 b.kind, .int .i64 b.bins, .int .i64 b.classes, .slice A3 b.counts.length c3, .slice A4 b.moms.length c4] 36
  be : Below w.heap.size w W
  oa : OwnH W a Bx1 Bx2 ex1 ex2
  ob : OwnH W b By1 By2 ey1 ey2
section
variable {a b : H} {A1 A2 A3 A4 Bx1 Bx2 By1 By2 : Option Addr} {c1 c2 c3 c4 ex1 ex2 ey1 ey2 : Nat} {w W : World}
theorem JS.alloc (j : JS a b A1 A2 A3 A4 Bx1 Bx2 By1 By2 c1 c2 c3 c4 ex1 ex2 ey1 ey2 w W) (o : Obj) : JS a b A1 A2 A3 A4 Bx1 Bx2 By1 By2 c1 c2 c3 c4 ex1 ex2 ey1 ey2 w (W.alloc o) :=
  ⟨blk_alloc j.ba o, blk_alloc j.bb o, j.be.alloc j.be.size o, j.oa.below ((Below.refl _ _).alloc (Nat.le_refl _) _), j.ob.below ((Below.refl _ _).alloc (Nat.le_refl _) _)⟩
theorem JS.set5 (j : JS a b A1 A2 A3 A4 Bx1 Bx2 By1 By2 c1 c2 c3 c4 ex1 ex2 ey1 ey2 w W) {g : Nat} {cs : Array Value} (hz : Blk W g cs 36) (hg : w.heap.size + 1 < g) (x0 x1 x2 x3 x4 : Value) :
    JS a b A1 A2 A3 A4 Bx1 Bx2 By1 By2 c1 c2 c3 c4 ex1 ex2 ey1 ey2 w (((((W.setCell ⟨g, 0, none⟩ x0).setCell ⟨g, 1, none⟩ x1).setCell ⟨g, 2, none⟩ x2).setCell ⟨g, 3, none⟩ x3).setCell ⟨g, 4, none⟩ x4) :=
  ⟨blk_other5 j.ba (by omega) _ _ _ _ _, blk_other5 j.bb (by omega) _ _ _ _ _, below5 j.be (by omega) _ _ _ _ _, j.oa.set5 hz _ _ _ _ _, j.ob.set5 hz _ _ _ _ _⟩
/-- What the statement leaves. -/
def JE (a b : H) (A1 A2 A3 A4 : Option Addr) (c1 c2 c3 c4 : Nat) (w : World) (p q : Value) (wc : World) : Prop := ∃ gx gy Bx1 Bx2 By1 By2 ex1 ex2 ey1 ey2, p = .pointer (some ⟨gx, 0, none⟩) ∧ q = .pointer (some ⟨gy, 0, none⟩) ∧ BxH wc gx a Bx1 Bx2 ex1 ex2 ∧ BxH wc gy b By1 By2 ey1 ey2 ∧ BxH wc w.heap.size a A1 A2 c1 c2 ∧ BxH wc (w.heap.size + 1) b A3 A4 c3 c4 ∧ Below w.heap.size w wc
theorem JS.close (j : JS a b A1 A2 A3 A4 Bx1 Bx2 By1 By2 c1 c2 c3 c4 ex1 ex2 ey1 ey2 w W) (ra : RdH w a (hV a A1 A2 c1 c2)) (rb : RdH w b (hV b A3 A4 c3 c4)) {gx gy : Nat}
    (hx : Blk W gx #[.int .i64 a.kind, .int .i64 a.bins, .int .i64 a.classes, .slice Bx1 a.counts.length ex1, .slice Bx2 a.moms.length ex2] 36) (hy : Blk W gy #[.int .i64 b.kind, .int .i64 b.bins, .int .i64 b.classes, .slice By1 b.counts.length ey1, .slice By2 b.moms.length ey2] 36) :
    JE a b A1 A2 A3 A4 c1 c2 c3 c4 w (.pointer (some ⟨gx, 0, none⟩)) (.pointer (some ⟨gy, 0, none⟩)) W :=
  ⟨gx, gy, Bx1, Bx2, By1, By2, ex1, ex2, ey1, ey2, rfl, rfl, ⟨hx, j.oa.rd⟩, ⟨hy, j.ob.rd⟩, ⟨j.ba, ra.below j.be⟩, ⟨j.bb, rb.below j.be⟩, j.be⟩
theorem F1 (j : JS a b A1 A2 A3 A4 Bx1 Bx2 By1 By2 c1 c2 c3 c4 ex1 ex2 ey1 ey2 w W) (ra : RdH w a (hV a A1 A2 c1 c2)) (rb : RdH w b (hV b A3 A4 c3 c4)) : JE a b A1 A2 A3 A4 c1 c2 c3 c4 w (.pointer (some ⟨W.heap.size, 0, none⟩)) (.pointer (some ⟨W.heap.size + 1, 0, none⟩)) ((W.alloc (.cells #[.int .i64 a.kind, .int .i64 a.bins, .int .i64 a.classes, .slice Bx1 a.counts.length ex1, .slice Bx2 a.moms.length ex2] 36)).alloc (.cells #[.int .i64 b.kind, .int .i64 b.bins, .int .i64 b.classes, .slice By1 b.counts.length ey1, .slice By2 b.moms.length ey2] 36)) := ((j.alloc _).alloc _).close ra rb (blk_alloc (Blk.new W _ _) _) (by have := Blk.new (W.alloc (.cells #[.int .i64 a.kind, .int .i64 a.bins, .int .i64 a.classes, .slice Bx1 a.counts.length ex1, .slice Bx2 a.moms.length ex2] 36)) #[.int .i64 b.kind, .int .i64 b.bins, .int .i64 b.classes, .slice By1 b.counts.length ey1, .slice By2 b.moms.length ey2] 36; rwa [World.size_alloc] at this)
theorem F2 (j : JS a b A1 A2 A3 A4 Bx1 Bx2 By1 By2 c1 c2 c3 c4 ex1 ex2 ey1 ey2 w W) (ra : RdH w a (hV a A1 A2 c1 c2)) (rb : RdH w b (hV b A3 A4 c3 c4)) : JE a b A1 A2 A3 A4 c1 c2 c3 c4 w (.pointer (some ⟨W.heap.size + 1, 0, none⟩)) (.pointer (some ⟨W.heap.size, 0, none⟩)) ((W.alloc (.cells #[.int .i64 b.kind, .int .i64 b.bins, .int .i64 b.classes, .slice By1 b.counts.length ey1, .slice By2 b.moms.length ey2] 36)).alloc (.cells #[.int .i64 a.kind, .int .i64 a.bins, .int .i64 a.classes, .slice Bx1 a.counts.length ex1, .slice Bx2 a.moms.length ex2] 36)) := ((j.alloc _).alloc _).close ra rb (by have := Blk.new (W.alloc (.cells #[.int .i64 b.kind, .int .i64 b.bins, .int .i64 b.classes, .slice By1 b.counts.length ey1, .slice By2 b.moms.length ey2] 36)) #[.int .i64 a.kind, .int .i64 a.bins, .int .i64 a.classes, .slice Bx1 a.counts.length ex1, .slice Bx2 a.moms.length ex2] 36; rwa [World.size_alloc] at this) (blk_alloc (Blk.new W _ _) _)
theorem F3 (j : JS a b A1 A2 A3 A4 Bx1 Bx2 By1 By2 c1 c2 c3 c4 ex1 ex2 ey1 ey2 w W) (ra : RdH w a (hV a A1 A2 c1 c2)) (rb : RdH w b (hV b A3 A4 c3 c4)) {g : Nat} {x0 x1 x2 x3 x4 : Value} (hz : Blk W g #[x0, x1, x2, x3, x4] 36) (hg : w.heap.size + 1 < g) : JE a b A1 A2 A3 A4 c1 c2 c3 c4 w (.pointer (some ⟨g, 0, none⟩)) (.pointer (some ⟨W.heap.size, 0, none⟩)) ((((((W.setCell ⟨g, 0, none⟩ (.int .i64 a.kind)).setCell ⟨g, 1, none⟩ (.int .i64 a.bins)).setCell ⟨g, 2, none⟩ (.int .i64 a.classes)).setCell ⟨g, 3, none⟩ (.slice Bx1 a.counts.length ex1)).setCell ⟨g, 4, none⟩ (.slice Bx2 a.moms.length ex2)).alloc (.cells #[.int .i64 b.kind, .int .i64 b.bins, .int .i64 b.classes, .slice By1 b.counts.length ey1, .slice By2 b.moms.length ey2] 36)) := ((j.set5 hz hg _ _ _ _ _).alloc _).close ra rb (blk_alloc (set5 hz _ _ _ _ _) _) (by have := Blk.new (((((W.setCell ⟨g, 0, none⟩ (.int .i64 a.kind)).setCell ⟨g, 1, none⟩ (.int .i64 a.bins)).setCell ⟨g, 2, none⟩ (.int .i64 a.classes)).setCell ⟨g, 3, none⟩ (.slice Bx1 a.counts.length ex1)).setCell ⟨g, 4, none⟩ (.slice Bx2 a.moms.length ex2)) #[.int .i64 b.kind, .int .i64 b.bins, .int .i64 b.classes, .slice By1 b.counts.length ey1, .slice By2 b.moms.length ey2] 36; simpa using this)
theorem F4 (j : JS a b A1 A2 A3 A4 Bx1 Bx2 By1 By2 c1 c2 c3 c4 ex1 ex2 ey1 ey2 w W) (ra : RdH w a (hV a A1 A2 c1 c2)) (rb : RdH w b (hV b A3 A4 c3 c4)) {g : Nat} {x0 x1 x2 x3 x4 : Value} (hz : Blk W g #[x0, x1, x2, x3, x4] 36) (hg : w.heap.size + 1 < g) : JE a b A1 A2 A3 A4 c1 c2 c3 c4 w (.pointer (some ⟨W.heap.size, 0, none⟩)) (.pointer (some ⟨g, 0, none⟩)) ((((((W.setCell ⟨g, 0, none⟩ (.int .i64 b.kind)).setCell ⟨g, 1, none⟩ (.int .i64 b.bins)).setCell ⟨g, 2, none⟩ (.int .i64 b.classes)).setCell ⟨g, 3, none⟩ (.slice By1 b.counts.length ey1)).setCell ⟨g, 4, none⟩ (.slice By2 b.moms.length ey2)).alloc (.cells #[.int .i64 a.kind, .int .i64 a.bins, .int .i64 a.classes, .slice Bx1 a.counts.length ex1, .slice Bx2 a.moms.length ex2] 36)) := ((j.set5 hz hg _ _ _ _ _).alloc _).close ra rb (by have := Blk.new (((((W.setCell ⟨g, 0, none⟩ (.int .i64 b.kind)).setCell ⟨g, 1, none⟩ (.int .i64 b.bins)).setCell ⟨g, 2, none⟩ (.int .i64 b.classes)).setCell ⟨g, 3, none⟩ (.slice By1 b.counts.length ey1)).setCell ⟨g, 4, none⟩ (.slice By2 b.moms.length ey2)) #[.int .i64 a.kind, .int .i64 a.bins, .int .i64 a.classes, .slice Bx1 a.counts.length ex1, .slice Bx2 a.moms.length ex2] 36; simpa using this) (blk_alloc (set5 hz _ _ _ _ _) _)
theorem F5 (j : JS a b A1 A2 A3 A4 Bx1 Bx2 By1 By2 c1 c2 c3 c4 ex1 ex2 ey1 ey2 w W) (ra : RdH w a (hV a A1 A2 c1 c2)) (rb : RdH w b (hV b A3 A4 c3 c4)) {g g' : Nat} {x0 x1 x2 x3 x4 y0 y1 y2 y3 y4 : Value} (hz : Blk W g #[x0, x1, x2, x3, x4] 36) (hy : Blk W g' #[y0, y1, y2, y3, y4] 36) (hg : w.heap.size + 1 < g) (hg' : w.heap.size + 1 < g') (hne : g ≠ g') : JE a b A1 A2 A3 A4 c1 c2 c3 c4 w (.pointer (some ⟨g, 0, none⟩)) (.pointer (some ⟨g', 0, none⟩)) (((((((((((W.setCell ⟨g, 0, none⟩ (.int .i64 a.kind)).setCell ⟨g, 1, none⟩ (.int .i64 a.bins)).setCell ⟨g, 2, none⟩ (.int .i64 a.classes)).setCell ⟨g, 3, none⟩ (.slice Bx1 a.counts.length ex1)).setCell ⟨g, 4, none⟩ (.slice Bx2 a.moms.length ex2)).setCell ⟨g', 0, none⟩ (.int .i64 b.kind)).setCell ⟨g', 1, none⟩ (.int .i64 b.bins)).setCell ⟨g', 2, none⟩ (.int .i64 b.classes)).setCell ⟨g', 3, none⟩ (.slice By1 b.counts.length ey1)).setCell ⟨g', 4, none⟩ (.slice By2 b.moms.length ey2))) := ((j.set5 hz hg _ _ _ _ _).set5 (blk_other5 hy hne.symm _ _ _ _ _) hg' _ _ _ _ _).close ra rb (blk_other5 (set5 hz _ _ _ _ _) hne _ _ _ _ _) (set5 (blk_other5 hy hne.symm _ _ _ _ _) _ _ _ _ _)
end

set_option maxRecDepth 100000 in
set_option maxHeartbeats 4000000 in
theorem joins_great {a b : H} {va vb : Value} {w : World} (ra : RdH w a va) (rb : RdH w b vb) (hg : greatB a = true ∨ (greatB a = false ∧ greatB b = true)) :
    Calls Try.prog 9 #[va, vb] w fun e w' => e = .returned (.bool true) ∧ Below w.heap.size w w' := by
  have HG := Lib.hid hg
  have RA := Lib.hid ra
  have RB := Lib.hid rb
  clear hg
  obtain ⟨A1, A2, c1, c2, rfl, _⟩ := ra
  obtain ⟨A3, A4, c3, c4, rfl, _⟩ := rb
  go_enter Try.func9, Try.ntmps9
  unfold hV
  go_wp2_with fail
  obtain ⟨W0, e0⟩ : ∃ W0, W0 = (w.alloc (.cells #[.int .i64 a.kind, .int .i64 a.bins, .int .i64 a.classes, .slice A1 a.counts.length c1, .slice A2 a.moms.length c2] 36)).alloc (.cells #[.int .i64 b.kind, .int .i64 b.bins, .int .i64 b.classes, .slice A3 b.counts.length c3, .slice A4 b.moms.length c4] 36) := ⟨_, rfl⟩
  have Xa := (BxH.new RA.out).alloc (.cells #[.int .i64 b.kind, .int .i64 b.bins, .int .i64 b.classes, .slice A3 b.counts.length c3, .slice A4 b.moms.length c4] 36)
  have Xb := BxH.new (RB.out.below ((Below.refl _ _).alloc (Nat.le_refl _) (.cells #[.int .i64 a.kind, .int .i64 a.bins, .int .i64 a.classes, .slice A1 a.counts.length c1, .slice A2 a.moms.length c2] 36)))
  have bw : Below w.heap.size w ((w.alloc (.cells #[.int .i64 a.kind, .int .i64 a.bins, .int .i64 a.classes, .slice A1 a.counts.length c1, .slice A2 a.moms.length c2] 36)).alloc (.cells #[.int .i64 b.kind, .int .i64 b.bins, .int .i64 b.classes, .slice A3 b.counts.length c3, .slice A4 b.moms.length c4] 36)) := ((Below.refl _ w).alloc (Nat.le_refl _) _).alloc (by simp) _
  simp only [World.size_alloc] at Xa Xb
  rw [← e0] at Xa Xb bw ⊢
  clear e0
  refine (great_any Xa.rd).mono ?_
  rintro e w1 ⟨rfl, hb⟩
  replace Xb := Xb.below hb
  replace bw := bw.trans (hb.mono bw.size)
  clear hb
  obtain ⟨fb0, fb1, fb2, fb3, fb4⟩ := Xb.blk.cells5
  rcases HG.out with h | ⟨h, h2⟩
  · rw [h]
    clear h
    go_wp2_with fail
    refine (fixed12_any _).mono ?_
    rintro e w2 ⟨rfl, hb⟩
    go_wp2_with fail
    go_ret
    exact ⟨rfl, bw.trans (hb.mono bw.size)⟩
  · rw [h]
    have H2 := Lib.hid h2
    clear h h2
    go_wp2_with fail
    refine (great_any Xb.rd).mono ?_
    rintro e w2 ⟨rfl, hb⟩
    rw [H2.out]
    replace bw := bw.trans (hb.mono bw.size)
    clear hb
    go_wp2_with fail
    refine (fixed12_any _).mono ?_
    rintro e w3 ⟨rfl, hb⟩
    go_wp2_with fail
    go_ret
    exact ⟨rfl, bw.trans (hb.mono bw.size)⟩
set_option maxRecDepth 100000 in
set_option maxHeartbeats 8000000 in
theorem joins_small {a b m l : H} {e1 e2 : Int} {va vb : Value} {w : World} (ra : RdH w a va) (rb : RdH w b vb) (ga : greatB a = false) (gb : greatB b = false) (hm : valO h0 (bothO opP a b) = m) (hl : valO h0 (bothO opM a b) = l) (h1 : errO (bothO opP a b) = e1) (h2 : errO (bothO opM a b) = e2) :
    Calls Try.prog 9 #[va, vb] w fun e w' => e = .returned (.bool true) ∧ Below w.heap.size w w' := by
  have b1 := both_errB plus_is a b
  have b2 := both_errB minus_is a b
  rw [h1] at b1
  rw [h2] at b2
  have M1 := Lib.hid (fun W va vb (ra : RdH W a va) (rb : RdH W b vb) => merge_rd ra rb)
  have M2 := Lib.hid (fun W va vb (ra : RdH W a va) (rb : RdH W b vb) => rmerge_rd ra rb ga)
  have M3 := Lib.hid (fun W va vb (ra : RdH W a va) (rb : RdH W b vb) => less_rd ra rb)
  have M4 := Lib.hid (fun W va vb (ra : RdH W a va) (rb : RdH W b vb) => rless_rd ra rb ga)
  unfold ResR at M1 M2 M3 M4
  rw [hm, h1] at M1 M2
  rw [hl, h2] at M3 M4
  obtain ⟨r0, hr0⟩ : ∃ r0, rightB a = r0 := ⟨_, rfl⟩
  have HR0 := Lib.hid hr0
  have GA := Lib.hid ga
  have GB := Lib.hid gb
  have RA := Lib.hid ra
  have RB := Lib.hid rb
  have w1' : IntKind.i64.wrap e1 = e1 := by rw [IntKind.wrap_i64]; omega
  have w2' : IntKind.i64.wrap e2 = e2 := by rw [IntKind.wrap_i64]; omega
  have x11 : (e1 == e1) = true := beq_self_eq_true e1
  have x22 : (e2 == e2) = true := beq_self_eq_true e2
  have x33 : (r0 == r0) = true := beq_self_eq_true r0
  obtain ⟨b1a, b1b⟩ := b1
  obtain ⟨b2a, b2b⟩ := b2
  clear ga gb hm hl h1 h2 hr0
  obtain ⟨A1, A2, c1, c2, rfl, _⟩ := ra
  obtain ⟨A3, A4, c3, c4, rfl, _⟩ := rb
  go_enter Try.func9, Try.ntmps9
  unfold hV
  go_wp2_with fail
  obtain ⟨W0, e0⟩ : ∃ W0, W0 = (w.alloc (.cells #[.int .i64 a.kind, .int .i64 a.bins, .int .i64 a.classes, .slice A1 a.counts.length c1, .slice A2 a.moms.length c2] 36)).alloc (.cells #[.int .i64 b.kind, .int .i64 b.bins, .int .i64 b.classes, .slice A3 b.counts.length c3, .slice A4 b.moms.length c4] 36) := ⟨_, rfl⟩
  have Xa := (BxH.new RA.out).alloc (.cells #[.int .i64 b.kind, .int .i64 b.bins, .int .i64 b.classes, .slice A3 b.counts.length c3, .slice A4 b.moms.length c4] 36)
  have Xb := BxH.new (RB.out.below ((Below.refl _ _).alloc (Nat.le_refl _) (.cells #[.int .i64 a.kind, .int .i64 a.bins, .int .i64 a.classes, .slice A1 a.counts.length c1, .slice A2 a.moms.length c2] 36)))
  have bw : Below w.heap.size w ((w.alloc (.cells #[.int .i64 a.kind, .int .i64 a.bins, .int .i64 a.classes, .slice A1 a.counts.length c1, .slice A2 a.moms.length c2] 36)).alloc (.cells #[.int .i64 b.kind, .int .i64 b.bins, .int .i64 b.classes, .slice A3 b.counts.length c3, .slice A4 b.moms.length c4] 36)) := ((Below.refl _ w).alloc (Nat.le_refl _) _).alloc (by simp) _
  simp only [World.size_alloc] at Xa Xb
  rw [← e0] at Xa Xb bw ⊢
  clear e0
  refine (great_any Xa.rd).mono ?_
  rintro e w1 ⟨rfl, hb⟩
  rw [GA.out]
  replace Xa := Xa.below hb
  replace Xb := Xb.below hb
  replace bw := bw.trans (hb.mono bw.size)
  clear hb
  obtain ⟨fb0, fb1, fb2, fb3, fb4⟩ := Xb.blk.cells5
  have Lb := Xb.blk.lt
  go_wp2_with (fail)
  refine (great_any Xb.rd).mono ?_
  rintro e w2 ⟨rfl, hb⟩
  rw [GB.out]
  replace Xa := Xa.below hb
  replace Xb := Xb.below hb
  replace bw := bw.trans (hb.mono bw.size)
  clear hb
  clear fb0 fb1 fb2 fb3 fb4 Lb
  obtain ⟨fa0, fa1, fa2, fa3, fa4⟩ := Xa.blk.cells5
  have La := Xa.blk.lt
  obtain ⟨fb0, fb1, fb2, fb3, fb4⟩ := Xb.blk.cells5
  have Lb := Xb.blk.lt
  go_wp2_with (fail)
  clear fa0 fa1 fa2 fa3 fa4 La
  clear fb0 fb1 fb2 fb3 fb4 Lb
  obtain ⟨fa0, fa1, fa2, fa3, fa4⟩ := Xa.blk.cells5
  have La := Xa.blk.lt
  obtain ⟨fb0, fb1, fb2, fb3, fb4⟩ := Xb.blk.cells5
  have Lb := Xb.blk.lt
  go_cut [5, 6] (fun p q wc => JE a b A1 A2 A3 A4 c1 c2 c3 c4 w p q wc)
  case first =>
    have CP := Lib.hid (fun W va (ra : RdH W a va) => copy_own ra GA.out)
    have CQ := Lib.hid (fun W vb (rb : RdH W b vb) => copy_own rb GB.out)
    have XA := Lib.hid Xa
    have BW := Lib.hid bw
    have XB := Lib.hid Xb
    go_region_held3 (fun W => (W.cell? ⟨w.heap.size, 0, none⟩ = some (.int .i64 a.kind) ∧ W.cell? ⟨w.heap.size, 1, none⟩ = some (.int .i64 a.bins) ∧ W.cell? ⟨w.heap.size, 2, none⟩ = some (.int .i64 a.classes) ∧ W.cell? ⟨w.heap.size, 3, none⟩ = some (.slice A1 a.counts.length c1) ∧ W.cell? ⟨w.heap.size, 4, none⟩ = some (.slice A2 a.moms.length c2)) ∧
      W.cell? ⟨w.heap.size + 1, 0, none⟩ = some (.int .i64 b.kind) ∧ W.cell? ⟨w.heap.size + 1, 1, none⟩ = some (.int .i64 b.bins) ∧ W.cell? ⟨w.heap.size + 1, 2, none⟩ = some (.int .i64 b.classes) ∧ W.cell? ⟨w.heap.size + 1, 3, none⟩ = some (.slice A3 b.counts.length c3) ∧ W.cell? ⟨w.heap.size + 1, 4, none⟩ = some (.slice A4 b.moms.length c4)) (go_keep)
      (first
      | (go_at_call_of 28 (a.kind); refine (CP.out _ _ (XA.out.rd.below ?_)).mono ?_; (first | exact (Below.refl _ _).drew | exact ((Below.refl _ _).drew).alloc (Nat.le_refl _) _ | exact (((Below.refl _ _).drew).alloc (Nat.le_refl _) _).alloc (by simp) _); rintro e w6 ⟨Bx1, Bx2, ex1, ex2, rfl, rv6, hb6⟩; have hk6 : Below w2.heap.size w2 w6 := (by first | exact ((Below.refl _ w2).drew).trans hb6 | exact (((Below.refl _ w2).drew).alloc (Nat.le_refl _) _).trans (hb6.mono (by simp)) | exact ((((Below.refl _ w2).drew).alloc (Nat.le_refl _) _).alloc (by simp) _).trans (hb6.mono (by simp; omega))); have XB6 := Lib.hid (XB.out.below hk6); have XA6 := Lib.hid (XA.out.below hk6); have L2 := XB.out.blk.lt; have L6 := hk6.size; obtain ⟨u0, u1, u2, u3, u4⟩ := XA6.out.blk.cells5; obtain ⟨u5, u6, u7, u8, u9⟩ := XB6.out.blk.cells5; (first | (have zp1 : Blk w6 w2.heap.size #[.int .i64 0, .int .i64 0, .int .i64 0, .slice none 0 0, .slice none 0 0] 36 := Blk.below (Blk.new w2.drew #[.int .i64 0, .int .i64 0, .int .i64 0, .slice none 0 0, .slice none 0 0] 36) hb6; have zp1f := zp1.frozen; have zp1l := zp1.lt; obtain ⟨zpa0, zpa1, zpa2, zpa3, zpa4⟩ := zp1.cells5) | skip); (first | (have zp1 : Blk w6 w2.heap.size #[.int .i64 0, .int .i64 0, .int .i64 0, .slice none 0 0, .slice none 0 0] 36 := Blk.below ((Blk.new w2.drew #[.int .i64 0, .int .i64 0, .int .i64 0, .slice none 0 0, .slice none 0 0] 36).below ((Below.refl _ _).alloc (Nat.le_refl _) (.cells #[.int .i64 0, .int .i64 0, .int .i64 0, .slice none 0 0, .slice none 0 0] 36))) hb6; have zp2 := Blk.below (Blk.new (w2.drew.alloc (.cells #[.int .i64 0, .int .i64 0, .int .i64 0, .slice none 0 0, .slice none 0 0] 36)) #[.int .i64 0, .int .i64 0, .int .i64 0, .slice none 0 0, .slice none 0 0] 36) hb6; rw [World.size_alloc] at zp2; replace zp2 : Blk w6 (w2.heap.size + 1) #[.int .i64 0, .int .i64 0, .int .i64 0, .slice none 0 0, .slice none 0 0] 36 := zp2; have zp1f := zp1.frozen; have zp2f := zp2.frozen; have zp1l := zp1.lt; have zp2l := zp2.lt; obtain ⟨zpa0, zpa1, zpa2, zpa3, zpa4⟩ := zp1.cells5; obtain ⟨zpb0, zpb1, zpb2, zpb3, zpb4⟩ := zp2.cells5) | skip); have RV6 := Lib.hid rv6; clear rv6; have na0 : w.heap.size ≠ w2.heap.size := (by omega); have na1 : w2.heap.size ≠ w.heap.size := (by omega); have na2 : w.heap.size ≠ w2.heap.size + 1 := (by omega); have na3 : w2.heap.size + 1 ≠ w.heap.size := (by omega); have na4 : w.heap.size ≠ w6.heap.size := (by omega); have na5 : w6.heap.size ≠ w.heap.size := (by omega); have na6 : w.heap.size ≠ w6.heap.size + 1 := (by omega); have na7 : w6.heap.size + 1 ≠ w.heap.size := (by omega); have na8 : w.heap.size + 1 ≠ w2.heap.size := (by omega); have na9 : w2.heap.size ≠ w.heap.size + 1 := (by omega); have na10 : w.heap.size + 1 ≠ w2.heap.size + 1 := (by omega); have na11 : w2.heap.size + 1 ≠ w.heap.size + 1 := (by omega); have na12 : w.heap.size + 1 ≠ w6.heap.size := (by omega); have na13 : w6.heap.size ≠ w.heap.size + 1 := (by omega); have na14 : w.heap.size + 1 ≠ w6.heap.size + 1 := (by omega); have na15 : w6.heap.size + 1 ≠ w.heap.size + 1 := (by omega); unfold hV)
      | (go_at_call_of 28 (b.kind); refine (CQ.out _ _ (XB6.out.rd.below ?_)).mono ?_; (first | exact (Below.refl _ _) | exact ((Below.refl _ _)).alloc (Nat.le_refl _) _ | exact (((Below.refl _ _)).alloc (Nat.le_refl _) _).alloc (by simp) _); rintro e w7 ⟨By1, By2, ey1, ey2, rfl, rv7, hb7⟩; have hk7 : Below w6.heap.size w6 w7 := (by first | exact ((Below.refl _ w6)).trans hb7 | exact (((Below.refl _ w6)).alloc (Nat.le_refl _) _).trans (hb7.mono (by simp)) | exact ((((Below.refl _ w6)).alloc (Nat.le_refl _) _).alloc (by simp) _).trans (hb7.mono (by simp; omega))); have XB7 := Lib.hid (XB6.out.below hk7); have XA7 := Lib.hid (XA6.out.below hk7); have L7 := hk7.size; obtain ⟨y0, y1, y2, y3, y4⟩ := XA7.out.blk.cells5; obtain ⟨y5, y6, y7, y8, y9⟩ := XB7.out.blk.cells5; (first | (have zm1 : Blk w7 w6.heap.size #[.int .i64 0, .int .i64 0, .int .i64 0, .slice none 0 0, .slice none 0 0] 36 := Blk.below (Blk.new w6 #[.int .i64 0, .int .i64 0, .int .i64 0, .slice none 0 0, .slice none 0 0] 36) hb7; have zm1f := zm1.frozen; have zm1l := zm1.lt; obtain ⟨zma0, zma1, zma2, zma3, zma4⟩ := zm1.cells5) | skip); (first | (have zm1 : Blk w7 w6.heap.size #[.int .i64 0, .int .i64 0, .int .i64 0, .slice none 0 0, .slice none 0 0] 36 := Blk.below ((Blk.new w6 #[.int .i64 0, .int .i64 0, .int .i64 0, .slice none 0 0, .slice none 0 0] 36).below ((Below.refl _ _).alloc (Nat.le_refl _) (.cells #[.int .i64 0, .int .i64 0, .int .i64 0, .slice none 0 0, .slice none 0 0] 36))) hb7; have zm2 := Blk.below (Blk.new (w6.alloc (.cells #[.int .i64 0, .int .i64 0, .int .i64 0, .slice none 0 0, .slice none 0 0] 36)) #[.int .i64 0, .int .i64 0, .int .i64 0, .slice none 0 0, .slice none 0 0] 36) hb7; rw [World.size_alloc] at zm2; replace zm2 : Blk w7 (w6.heap.size + 1) #[.int .i64 0, .int .i64 0, .int .i64 0, .slice none 0 0, .slice none 0 0] 36 := zm2; have zm1f := zm1.frozen; have zm2f := zm2.frozen; have zm1l := zm1.lt; have zm2l := zm2.lt; obtain ⟨zma0, zma1, zma2, zma3, zma4⟩ := zm1.cells5; obtain ⟨zmb0, zmb1, zmb2, zmb3, zmb4⟩ := zm2.cells5) | skip); (first | (have zq1 := zp1.below hk7; have zq1f := zq1.frozen; obtain ⟨zqa0, zqa1, zqa2, zqa3, zqa4⟩ := zq1.cells5; have lq1 := zp1.lt; have lq1' := zq1.lt; have nq1 : w2.heap.size ≠ w6.heap.size := (by omega); have nq2 : w6.heap.size ≠ w2.heap.size := (by omega)) | skip); (first | (have zq2 := zp2.below hk7; have zq2f := zq2.frozen; obtain ⟨zqb0, zqb1, zqb2, zqb3, zqb4⟩ := zq2.cells5; have lq2 := zp2.lt; have lq2' := zq2.lt) | skip); have RV7 := Lib.hid rv7; clear rv7; have nb0 : w.heap.size ≠ w7.heap.size := (by omega); have nb1 : w7.heap.size ≠ w.heap.size := (by omega); have nb2 : w.heap.size ≠ w7.heap.size + 1 := (by omega); have nb3 : w7.heap.size + 1 ≠ w.heap.size := (by omega); have nb4 : w.heap.size + 1 ≠ w7.heap.size := (by omega); have nb5 : w7.heap.size ≠ w.heap.size + 1 := (by omega); have nb6 : w.heap.size + 1 ≠ w7.heap.size + 1 := (by omega); have nb7 : w7.heap.size + 1 ≠ w.heap.size + 1 := (by omega); unfold hV))
    all_goals
      have J7 : JS a b A1 A2 A3 A4 Bx1 Bx2 By1 By2 c1 c2 c3 c4 ex1 ex2 ey1 ey2 w w7 := ⟨XA7.out.blk, XB7.out.blk, BW.out.trans ((hk6.trans (hk7.mono hk6.size)).mono BW.out.size), RV6.out.below hk7, RV7.out⟩
      go_wp2
      go_meet
      case rel =>
        show JE a b A1 A2 A3 A4 c1 c2 c3 c4 w _ _ _
        first
        | with_reducible exact F1 J7 RA.out RB.out
        | with_reducible exact F2 J7 RA.out RB.out
        | with_reducible exact F3 J7 RA.out RB.out zm1 (Nat.lt_of_lt_of_le L2 L6)
        | with_reducible exact F4 J7 RA.out RB.out zm1 (Nat.lt_of_lt_of_le L2 L6)
        | with_reducible exact F3 J7 RA.out RB.out zq1 L2
        | with_reducible exact F4 J7 RA.out RB.out zq1 L2
        | with_reducible exact F5 J7 RA.out RB.out zm1 zm2 (Nat.lt_of_lt_of_le L2 L6) (Nat.lt_succ_of_lt (Nat.lt_of_lt_of_le L2 L6)) (Nat.ne_of_lt (Nat.lt_succ_self _))
        | with_reducible exact F5 J7 RA.out RB.out zm2 zm1 (Nat.lt_succ_of_lt (Nat.lt_of_lt_of_le L2 L6)) (Nat.lt_of_lt_of_le L2 L6) (Nat.ne_of_gt (Nat.lt_succ_self _))
        | with_reducible exact F5 J7 RA.out RB.out zq1 zq2 L2 (Nat.lt_succ_of_lt L2) (Nat.ne_of_lt (Nat.lt_succ_self _))
        | with_reducible exact F5 J7 RA.out RB.out zq2 zq1 (Nat.lt_succ_of_lt L2) L2 (Nat.ne_of_gt (Nat.lt_succ_self _))
        | with_reducible exact F5 J7 RA.out RB.out zq1 zm1 L2 (Nat.lt_of_lt_of_le L2 L6) (Nat.ne_of_lt lq1)
        | with_reducible exact F5 J7 RA.out RB.out zm1 zq1 (Nat.lt_of_lt_of_le L2 L6) L2 (Nat.ne_of_gt lq1)
  case rest =>
    clear Xa Xb bw fa0 fa1 fa2 fa3 fa4 La fb0 fb1 fb2 fb3 fb4 Lb
    obtain ⟨gx, gy, A1x, A2x, A1y, A2y, c1x, c2x, c1y, c2y, rfl, rfl, Xx, Xy, Xa, Xb, bw⟩ := hcut
    obtain ⟨fa0, fa1, fa2, fa3, fa4⟩ := Xa.blk.cells5
    have La := Xa.blk.lt
    obtain ⟨fb0, fb1, fb2, fb3, fb4⟩ := Xb.blk.cells5
    have Lb := Xb.blk.lt
    go_wp2_with (fail)
    refine (M1.out _ _ _ Xa.rd Xb.rd).mono ?_
    rintro e w3 ⟨v, rfl, rv, hb⟩
    obtain ⟨A1m, A2m, c1m, c2m, rfl, _⟩ := id rv
    replace Xa := Xa.below hb
    replace Xb := Xb.below hb
    replace Xx := Xx.below hb
    replace Xy := Xy.below hb
    replace bw := bw.trans (hb.mono bw.size)
    clear hb
    clear fa0 fa1 fa2 fa3 fa4 La
    clear fb0 fb1 fb2 fb3 fb4 Lb
    obtain ⟨fx0, fx1, fx2, fx3, fx4⟩ := Xx.blk.cells5
    have Lx := Xx.blk.lt
    obtain ⟨fy0, fy1, fy2, fy3, fy4⟩ := Xy.blk.cells5
    have Ly := Xy.blk.lt
    unfold hV
    go_wp2_with (fail)
    clear fx0 fx1 fx2 fx3 fx4 Lx
    clear fy0 fy1 fy2 fy3 fy4 Ly
    replace Xa := Xa.alloc (.cells #[.int .i64 m.kind, .int .i64 m.bins, .int .i64 m.classes, .slice A1m m.counts.length c1m, .slice A2m m.moms.length c2m] 36)
    replace Xb := Xb.alloc (.cells #[.int .i64 m.kind, .int .i64 m.bins, .int .i64 m.classes, .slice A1m m.counts.length c1m, .slice A2m m.moms.length c2m] 36)
    replace Xx := Xx.alloc (.cells #[.int .i64 m.kind, .int .i64 m.bins, .int .i64 m.classes, .slice A1m m.counts.length c1m, .slice A2m m.moms.length c2m] 36)
    replace Xy := Xy.alloc (.cells #[.int .i64 m.kind, .int .i64 m.bins, .int .i64 m.classes, .slice A1m m.counts.length c1m, .slice A2m m.moms.length c2m] 36)
    replace bw := bw.alloc bw.size (.cells #[.int .i64 m.kind, .int .i64 m.bins, .int .i64 m.classes, .slice A1m m.counts.length c1m, .slice A2m m.moms.length c2m] 36)
    have Xm := BxH.new rv
    clear rv
    obtain ⟨Z3, ez⟩ : ∃ Z, Z = w3.alloc (.cells #[.int .i64 m.kind, .int .i64 m.bins, .int .i64 m.classes, .slice A1m m.counts.length c1m, .slice A2m m.moms.length c2m] 36) := ⟨_, rfl⟩
    obtain ⟨gm, hg⟩ : ∃ g, g = w3.heap.size := ⟨_, rfl⟩
    rw [← ez, ← hg] at Xm
    rw [← ez] at Xa Xb Xx Xy bw
    rw [← ez] at ⊢
    try rw [← hg]
    clear ez hg
    refine (M2.out _ _ _ Xx.rd Xy.rd).mono ?_
    rintro e w4 ⟨v, rfl, rv, hb⟩
    obtain ⟨A1n, A2n, c1n, c2n, rfl, _⟩ := id rv
    replace Xa := Xa.below hb
    replace Xb := Xb.below hb
    replace Xx := Xx.below hb
    replace Xy := Xy.below hb
    replace Xm := Xm.below hb
    replace bw := bw.trans (hb.mono bw.size)
    clear hb
    obtain ⟨fa0, fa1, fa2, fa3, fa4⟩ := Xa.blk.cells5
    have La := Xa.blk.lt
    obtain ⟨fb0, fb1, fb2, fb3, fb4⟩ := Xb.blk.cells5
    have Lb := Xb.blk.lt
    unfold hV
    go_wp2_with (fail)
    clear fa0 fa1 fa2 fa3 fa4 La
    clear fb0 fb1 fb2 fb3 fb4 Lb
    replace Xa := Xa.alloc (.cells #[.int .i64 m.kind, .int .i64 m.bins, .int .i64 m.classes, .slice A1n m.counts.length c1n, .slice A2n m.moms.length c2n] 36)
    replace Xb := Xb.alloc (.cells #[.int .i64 m.kind, .int .i64 m.bins, .int .i64 m.classes, .slice A1n m.counts.length c1n, .slice A2n m.moms.length c2n] 36)
    replace Xx := Xx.alloc (.cells #[.int .i64 m.kind, .int .i64 m.bins, .int .i64 m.classes, .slice A1n m.counts.length c1n, .slice A2n m.moms.length c2n] 36)
    replace Xy := Xy.alloc (.cells #[.int .i64 m.kind, .int .i64 m.bins, .int .i64 m.classes, .slice A1n m.counts.length c1n, .slice A2n m.moms.length c2n] 36)
    replace Xm := Xm.alloc (.cells #[.int .i64 m.kind, .int .i64 m.bins, .int .i64 m.classes, .slice A1n m.counts.length c1n, .slice A2n m.moms.length c2n] 36)
    replace bw := bw.alloc bw.size (.cells #[.int .i64 m.kind, .int .i64 m.bins, .int .i64 m.classes, .slice A1n m.counts.length c1n, .slice A2n m.moms.length c2n] 36)
    have Xn := BxH.new rv
    clear rv
    obtain ⟨Z4, ez⟩ : ∃ Z, Z = w4.alloc (.cells #[.int .i64 m.kind, .int .i64 m.bins, .int .i64 m.classes, .slice A1n m.counts.length c1n, .slice A2n m.moms.length c2n] 36) := ⟨_, rfl⟩
    obtain ⟨gn, hg⟩ : ∃ g, g = w4.heap.size := ⟨_, rfl⟩
    rw [← ez, ← hg] at Xn
    rw [← ez] at Xa Xb Xx Xy Xm bw
    rw [← ez] at ⊢
    try rw [← hg]
    clear ez hg
    refine (M3.out _ _ _ Xa.rd Xb.rd).mono ?_
    rintro e w5 ⟨v, rfl, rv, hb⟩
    obtain ⟨A1l, A2l, c1l, c2l, rfl, _⟩ := id rv
    replace Xa := Xa.below hb
    replace Xb := Xb.below hb
    replace Xx := Xx.below hb
    replace Xy := Xy.below hb
    replace Xm := Xm.below hb
    replace Xn := Xn.below hb
    replace bw := bw.trans (hb.mono bw.size)
    clear hb
    obtain ⟨fx0, fx1, fx2, fx3, fx4⟩ := Xx.blk.cells5
    have Lx := Xx.blk.lt
    obtain ⟨fy0, fy1, fy2, fy3, fy4⟩ := Xy.blk.cells5
    have Ly := Xy.blk.lt
    unfold hV
    go_wp2_with (fail)
    clear fx0 fx1 fx2 fx3 fx4 Lx
    clear fy0 fy1 fy2 fy3 fy4 Ly
    replace Xa := Xa.alloc (.cells #[.int .i64 l.kind, .int .i64 l.bins, .int .i64 l.classes, .slice A1l l.counts.length c1l, .slice A2l l.moms.length c2l] 36)
    replace Xb := Xb.alloc (.cells #[.int .i64 l.kind, .int .i64 l.bins, .int .i64 l.classes, .slice A1l l.counts.length c1l, .slice A2l l.moms.length c2l] 36)
    replace Xx := Xx.alloc (.cells #[.int .i64 l.kind, .int .i64 l.bins, .int .i64 l.classes, .slice A1l l.counts.length c1l, .slice A2l l.moms.length c2l] 36)
    replace Xy := Xy.alloc (.cells #[.int .i64 l.kind, .int .i64 l.bins, .int .i64 l.classes, .slice A1l l.counts.length c1l, .slice A2l l.moms.length c2l] 36)
    replace Xm := Xm.alloc (.cells #[.int .i64 l.kind, .int .i64 l.bins, .int .i64 l.classes, .slice A1l l.counts.length c1l, .slice A2l l.moms.length c2l] 36)
    replace Xn := Xn.alloc (.cells #[.int .i64 l.kind, .int .i64 l.bins, .int .i64 l.classes, .slice A1l l.counts.length c1l, .slice A2l l.moms.length c2l] 36)
    replace bw := bw.alloc bw.size (.cells #[.int .i64 l.kind, .int .i64 l.bins, .int .i64 l.classes, .slice A1l l.counts.length c1l, .slice A2l l.moms.length c2l] 36)
    have Xl := BxH.new rv
    clear rv
    obtain ⟨Z5, ez⟩ : ∃ Z, Z = w5.alloc (.cells #[.int .i64 l.kind, .int .i64 l.bins, .int .i64 l.classes, .slice A1l l.counts.length c1l, .slice A2l l.moms.length c2l] 36) := ⟨_, rfl⟩
    obtain ⟨gl, hg⟩ : ∃ g, g = w5.heap.size := ⟨_, rfl⟩
    rw [← ez, ← hg] at Xl
    rw [← ez] at Xa Xb Xx Xy Xm Xn bw
    rw [← ez] at ⊢
    try rw [← hg]
    clear ez hg
    refine (M4.out _ _ _ Xx.rd Xy.rd).mono ?_
    rintro e w6 ⟨v, rfl, rv, hb⟩
    obtain ⟨A1k, A2k, c1k, c2k, rfl, _⟩ := id rv
    replace Xa := Xa.below hb
    replace Xb := Xb.below hb
    replace Xx := Xx.below hb
    replace Xy := Xy.below hb
    replace Xm := Xm.below hb
    replace Xn := Xn.below hb
    replace Xl := Xl.below hb
    replace bw := bw.trans (hb.mono bw.size)
    clear hb
    unfold hV
    go_wp2_with (fail)
    replace Xa := Xa.alloc (.cells #[.int .i64 l.kind, .int .i64 l.bins, .int .i64 l.classes, .slice A1k l.counts.length c1k, .slice A2k l.moms.length c2k] 36)
    replace Xb := Xb.alloc (.cells #[.int .i64 l.kind, .int .i64 l.bins, .int .i64 l.classes, .slice A1k l.counts.length c1k, .slice A2k l.moms.length c2k] 36)
    replace Xx := Xx.alloc (.cells #[.int .i64 l.kind, .int .i64 l.bins, .int .i64 l.classes, .slice A1k l.counts.length c1k, .slice A2k l.moms.length c2k] 36)
    replace Xy := Xy.alloc (.cells #[.int .i64 l.kind, .int .i64 l.bins, .int .i64 l.classes, .slice A1k l.counts.length c1k, .slice A2k l.moms.length c2k] 36)
    replace Xm := Xm.alloc (.cells #[.int .i64 l.kind, .int .i64 l.bins, .int .i64 l.classes, .slice A1k l.counts.length c1k, .slice A2k l.moms.length c2k] 36)
    replace Xn := Xn.alloc (.cells #[.int .i64 l.kind, .int .i64 l.bins, .int .i64 l.classes, .slice A1k l.counts.length c1k, .slice A2k l.moms.length c2k] 36)
    replace Xl := Xl.alloc (.cells #[.int .i64 l.kind, .int .i64 l.bins, .int .i64 l.classes, .slice A1k l.counts.length c1k, .slice A2k l.moms.length c2k] 36)
    replace bw := bw.alloc bw.size (.cells #[.int .i64 l.kind, .int .i64 l.bins, .int .i64 l.classes, .slice A1k l.counts.length c1k, .slice A2k l.moms.length c2k] 36)
    have Xk := BxH.new rv
    clear rv
    obtain ⟨Z6, ez⟩ : ∃ Z, Z = w6.alloc (.cells #[.int .i64 l.kind, .int .i64 l.bins, .int .i64 l.classes, .slice A1k l.counts.length c1k, .slice A2k l.moms.length c2k] 36) := ⟨_, rfl⟩
    obtain ⟨gk, hg⟩ : ∃ g, g = w6.heap.size := ⟨_, rfl⟩
    rw [← ez, ← hg] at Xk
    rw [← ez] at Xa Xb Xx Xy Xm Xn Xl bw
    rw [← ez] at ⊢
    try rw [← hg]
    clear ez hg
    obtain ⟨fa0, fa1, fa2, fa3, fa4⟩ := Xa.blk.cells5
    obtain ⟨fb0, fb1, fb2, fb3, fb4⟩ := Xb.blk.cells5
    obtain ⟨fx0, fx1, fx2, fx3, fx4⟩ := Xx.blk.cells5
    obtain ⟨fy0, fy1, fy2, fy3, fy4⟩ := Xy.blk.cells5
    obtain ⟨fm0, fm1, fm2, fm3, fm4⟩ := Xm.blk.cells5
    obtain ⟨fn0, fn1, fn2, fn3, fn4⟩ := Xn.blk.cells5
    obtain ⟨fl0, fl1, fl2, fl3, fl4⟩ := Xl.blk.cells5
    obtain ⟨fk0, fk1, fk2, fk3, fk4⟩ := Xk.blk.cells5
    replace Xa := Xa.below ((Below.refl _ _).drew)
    replace Xb := Xb.below ((Below.refl _ _).drew)
    replace Xx := Xx.below ((Below.refl _ _).drew)
    replace Xy := Xy.below ((Below.refl _ _).drew)
    replace Xm := Xm.below ((Below.refl _ _).drew)
    replace Xn := Xn.below ((Below.refl _ _).drew)
    replace Xl := Xl.below ((Below.refl _ _).drew)
    replace Xk := Xk.below ((Below.refl _ _).drew)
    replace bw := bw.drew
    go_region_held3 (fun W => (W.cell? ⟨w.heap.size, 0, none⟩ = some (.int .i64 a.kind) ∧ W.cell? ⟨w.heap.size, 1, none⟩ = some (.int .i64 a.bins) ∧ W.cell? ⟨w.heap.size, 2, none⟩ = some (.int .i64 a.classes) ∧ W.cell? ⟨w.heap.size, 3, none⟩ = some (.slice A1 a.counts.length c1) ∧ W.cell? ⟨w.heap.size, 4, none⟩ = some (.slice A2 a.moms.length c2)) ∧ (W.cell? ⟨w.heap.size + 1, 0, none⟩ = some (.int .i64 b.kind) ∧ W.cell? ⟨w.heap.size + 1, 1, none⟩ = some (.int .i64 b.bins) ∧ W.cell? ⟨w.heap.size + 1, 2, none⟩ = some (.int .i64 b.classes) ∧ W.cell? ⟨w.heap.size + 1, 3, none⟩ = some (.slice A3 b.counts.length c3) ∧ W.cell? ⟨w.heap.size + 1, 4, none⟩ = some (.slice A4 b.moms.length c4)) ∧ (W.cell? ⟨gx, 0, none⟩ = some (.int .i64 a.kind) ∧ W.cell? ⟨gx, 1, none⟩ = some (.int .i64 a.bins) ∧ W.cell? ⟨gx, 2, none⟩ = some (.int .i64 a.classes) ∧ W.cell? ⟨gx, 3, none⟩ = some (.slice A1x a.counts.length c1x) ∧ W.cell? ⟨gx, 4, none⟩ = some (.slice A2x a.moms.length c2x)) ∧ (W.cell? ⟨gy, 0, none⟩ = some (.int .i64 b.kind) ∧ W.cell? ⟨gy, 1, none⟩ = some (.int .i64 b.bins) ∧ W.cell? ⟨gy, 2, none⟩ = some (.int .i64 b.classes) ∧ W.cell? ⟨gy, 3, none⟩ = some (.slice A1y b.counts.length c1y) ∧ W.cell? ⟨gy, 4, none⟩ = some (.slice A2y b.moms.length c2y)) ∧ (W.cell? ⟨gm, 0, none⟩ = some (.int .i64 m.kind) ∧ W.cell? ⟨gm, 1, none⟩ = some (.int .i64 m.bins) ∧ W.cell? ⟨gm, 2, none⟩ = some (.int .i64 m.classes) ∧ W.cell? ⟨gm, 3, none⟩ = some (.slice A1m m.counts.length c1m) ∧ W.cell? ⟨gm, 4, none⟩ = some (.slice A2m m.moms.length c2m)) ∧ (W.cell? ⟨gn, 0, none⟩ = some (.int .i64 m.kind) ∧ W.cell? ⟨gn, 1, none⟩ = some (.int .i64 m.bins) ∧ W.cell? ⟨gn, 2, none⟩ = some (.int .i64 m.classes) ∧ W.cell? ⟨gn, 3, none⟩ = some (.slice A1n m.counts.length c1n) ∧ W.cell? ⟨gn, 4, none⟩ = some (.slice A2n m.moms.length c2n)) ∧ (W.cell? ⟨gl, 0, none⟩ = some (.int .i64 l.kind) ∧ W.cell? ⟨gl, 1, none⟩ = some (.int .i64 l.bins) ∧ W.cell? ⟨gl, 2, none⟩ = some (.int .i64 l.classes) ∧ W.cell? ⟨gl, 3, none⟩ = some (.slice A1l l.counts.length c1l) ∧ W.cell? ⟨gl, 4, none⟩ = some (.slice A2l l.moms.length c2l)) ∧ (W.cell? ⟨gk, 0, none⟩ = some (.int .i64 l.kind) ∧ W.cell? ⟨gk, 1, none⟩ = some (.int .i64 l.bins) ∧ W.cell? ⟨gk, 2, none⟩ = some (.int .i64 l.classes) ∧ W.cell? ⟨gk, 3, none⟩ = some (.slice A1k l.counts.length c1k) ∧ W.cell? ⟨gk, 4, none⟩ = some (.slice A2k l.moms.length c2k))) (go_keep)
      (first
      | (go_at_call 16; refine (fixed12_any _).mono ?_; rintro e wn ⟨rfl, hb⟩; replace Xa := Xa.below hb; replace Xb := Xb.below hb; replace Xx := Xx.below hb; replace Xy := Xy.below hb; replace Xm := Xm.below hb; replace Xn := Xn.below hb; replace Xl := Xl.below hb; replace Xk := Xk.below hb; replace bw := bw.trans (hb.mono bw.size); clear hb; clear fa0 fa1 fa2 fa3 fa4 fb0 fb1 fb2 fb3 fb4 fx0 fx1 fx2 fx3 fx4 fy0 fy1 fy2 fy3 fy4 fm0 fm1 fm2 fm3 fm4 fn0 fn1 fn2 fn3 fn4 fl0 fl1 fl2 fl3 fl4 fk0 fk1 fk2 fk3 fk4; obtain ⟨fa0, fa1, fa2, fa3, fa4⟩ := Xa.blk.cells5; obtain ⟨fb0, fb1, fb2, fb3, fb4⟩ := Xb.blk.cells5; obtain ⟨fx0, fx1, fx2, fx3, fx4⟩ := Xx.blk.cells5; obtain ⟨fy0, fy1, fy2, fy3, fy4⟩ := Xy.blk.cells5; obtain ⟨fm0, fm1, fm2, fm3, fm4⟩ := Xm.blk.cells5; obtain ⟨fn0, fn1, fn2, fn3, fn4⟩ := Xn.blk.cells5; obtain ⟨fl0, fl1, fl2, fl3, fl4⟩ := Xl.blk.cells5; obtain ⟨fk0, fk1, fk2, fk3, fk4⟩ := Xk.blk.cells5)
      | (go_at_call_of 19 (A1m); refine (same_any Xm.rd Xn.rd).mono ?_; rintro e wn ⟨rfl, hb⟩; rw [decide_eq_true rfl]; replace Xa := Xa.below hb; replace Xb := Xb.below hb; replace Xx := Xx.below hb; replace Xy := Xy.below hb; replace Xm := Xm.below hb; replace Xn := Xn.below hb; replace Xl := Xl.below hb; replace Xk := Xk.below hb; replace bw := bw.trans (hb.mono bw.size); clear hb; clear fa0 fa1 fa2 fa3 fa4 fb0 fb1 fb2 fb3 fb4 fx0 fx1 fx2 fx3 fx4 fy0 fy1 fy2 fy3 fy4 fm0 fm1 fm2 fm3 fm4 fn0 fn1 fn2 fn3 fn4 fl0 fl1 fl2 fl3 fl4 fk0 fk1 fk2 fk3 fk4; obtain ⟨fa0, fa1, fa2, fa3, fa4⟩ := Xa.blk.cells5; obtain ⟨fb0, fb1, fb2, fb3, fb4⟩ := Xb.blk.cells5; obtain ⟨fx0, fx1, fx2, fx3, fx4⟩ := Xx.blk.cells5; obtain ⟨fy0, fy1, fy2, fy3, fy4⟩ := Xy.blk.cells5; obtain ⟨fm0, fm1, fm2, fm3, fm4⟩ := Xm.blk.cells5; obtain ⟨fn0, fn1, fn2, fn3, fn4⟩ := Xn.blk.cells5; obtain ⟨fl0, fl1, fl2, fl3, fl4⟩ := Xl.blk.cells5; obtain ⟨fk0, fk1, fk2, fk3, fk4⟩ := Xk.blk.cells5)
      | (go_at_call_of 19 (A1l); refine (same_any Xl.rd Xk.rd).mono ?_; rintro e wn ⟨rfl, hb⟩; rw [decide_eq_true rfl]; replace Xa := Xa.below hb; replace Xb := Xb.below hb; replace Xx := Xx.below hb; replace Xy := Xy.below hb; replace Xm := Xm.below hb; replace Xn := Xn.below hb; replace Xl := Xl.below hb; replace Xk := Xk.below hb; replace bw := bw.trans (hb.mono bw.size); clear hb; clear fa0 fa1 fa2 fa3 fa4 fb0 fb1 fb2 fb3 fb4 fx0 fx1 fx2 fx3 fx4 fy0 fy1 fy2 fy3 fy4 fm0 fm1 fm2 fm3 fm4 fn0 fn1 fn2 fn3 fn4 fl0 fl1 fl2 fl3 fl4 fk0 fk1 fk2 fk3 fk4; obtain ⟨fa0, fa1, fa2, fa3, fa4⟩ := Xa.blk.cells5; obtain ⟨fb0, fb1, fb2, fb3, fb4⟩ := Xb.blk.cells5; obtain ⟨fx0, fx1, fx2, fx3, fx4⟩ := Xx.blk.cells5; obtain ⟨fy0, fy1, fy2, fy3, fy4⟩ := Xy.blk.cells5; obtain ⟨fm0, fm1, fm2, fm3, fm4⟩ := Xm.blk.cells5; obtain ⟨fn0, fn1, fn2, fn3, fn4⟩ := Xn.blk.cells5; obtain ⟨fl0, fl1, fl2, fl3, fl4⟩ := Xl.blk.cells5; obtain ⟨fk0, fk1, fk2, fk3, fk4⟩ := Xk.blk.cells5)
      | (go_at_call 20; refine (hright_rd Xa.rd).mono ?_; rintro e wn ⟨rfl, hb⟩; rw [HR0.out]; replace Xa := Xa.below hb; replace Xb := Xb.below hb; replace Xx := Xx.below hb; replace Xy := Xy.below hb; replace Xm := Xm.below hb; replace Xn := Xn.below hb; replace Xl := Xl.below hb; replace Xk := Xk.below hb; replace bw := bw.trans (hb.mono bw.size); clear hb; clear fa0 fa1 fa2 fa3 fa4 fb0 fb1 fb2 fb3 fb4 fx0 fx1 fx2 fx3 fx4 fy0 fy1 fy2 fy3 fy4 fm0 fm1 fm2 fm3 fm4 fn0 fn1 fn2 fn3 fn4 fl0 fl1 fl2 fl3 fl4 fk0 fk1 fk2 fk3 fk4; obtain ⟨fa0, fa1, fa2, fa3, fa4⟩ := Xa.blk.cells5; obtain ⟨fb0, fb1, fb2, fb3, fb4⟩ := Xb.blk.cells5; obtain ⟨fx0, fx1, fx2, fx3, fx4⟩ := Xx.blk.cells5; obtain ⟨fy0, fy1, fy2, fy3, fy4⟩ := Xy.blk.cells5; obtain ⟨fm0, fm1, fm2, fm3, fm4⟩ := Xm.blk.cells5; obtain ⟨fn0, fn1, fn2, fn3, fn4⟩ := Xn.blk.cells5; obtain ⟨fl0, fl1, fl2, fl3, fl4⟩ := Xl.blk.cells5; obtain ⟨fk0, fk1, fk2, fk3, fk4⟩ := Xk.blk.cells5)
      | (go_at_call 32; refine (rright_rd Xa.rd).mono ?_; rintro e wn ⟨rfl, hb⟩; rw [HR0.out]; replace Xa := Xa.below hb; replace Xb := Xb.below hb; replace Xx := Xx.below hb; replace Xy := Xy.below hb; replace Xm := Xm.below hb; replace Xn := Xn.below hb; replace Xl := Xl.below hb; replace Xk := Xk.below hb; replace bw := bw.trans (hb.mono bw.size); clear hb; clear fa0 fa1 fa2 fa3 fa4 fb0 fb1 fb2 fb3 fb4 fx0 fx1 fx2 fx3 fx4 fy0 fy1 fy2 fy3 fy4 fm0 fm1 fm2 fm3 fm4 fn0 fn1 fn2 fn3 fn4 fl0 fl1 fl2 fl3 fl4 fk0 fk1 fk2 fk3 fk4; obtain ⟨fa0, fa1, fa2, fa3, fa4⟩ := Xa.blk.cells5; obtain ⟨fb0, fb1, fb2, fb3, fb4⟩ := Xb.blk.cells5; obtain ⟨fx0, fx1, fx2, fx3, fx4⟩ := Xx.blk.cells5; obtain ⟨fy0, fy1, fy2, fy3, fy4⟩ := Xy.blk.cells5; obtain ⟨fm0, fm1, fm2, fm3, fm4⟩ := Xm.blk.cells5; obtain ⟨fn0, fn1, fn2, fn3, fn4⟩ := Xn.blk.cells5; obtain ⟨fl0, fl1, fl2, fl3, fl4⟩ := Xl.blk.cells5; obtain ⟨fk0, fk1, fk2, fk3, fk4⟩ := Xk.blk.cells5)
      | (go_at_call_of 19 (A1x); refine (same_any Xa.rd Xx.rd).mono ?_; rintro e wn ⟨rfl, hb⟩; rw [decide_eq_true rfl]; replace Xa := Xa.below hb; replace Xb := Xb.below hb; replace Xx := Xx.below hb; replace Xy := Xy.below hb; replace Xm := Xm.below hb; replace Xn := Xn.below hb; replace Xl := Xl.below hb; replace Xk := Xk.below hb; replace bw := bw.trans (hb.mono bw.size); clear hb; clear fa0 fa1 fa2 fa3 fa4 fb0 fb1 fb2 fb3 fb4 fx0 fx1 fx2 fx3 fx4 fy0 fy1 fy2 fy3 fy4 fm0 fm1 fm2 fm3 fm4 fn0 fn1 fn2 fn3 fn4 fl0 fl1 fl2 fl3 fl4 fk0 fk1 fk2 fk3 fk4; obtain ⟨fa0, fa1, fa2, fa3, fa4⟩ := Xa.blk.cells5; obtain ⟨fb0, fb1, fb2, fb3, fb4⟩ := Xb.blk.cells5; obtain ⟨fx0, fx1, fx2, fx3, fx4⟩ := Xx.blk.cells5; obtain ⟨fy0, fy1, fy2, fy3, fy4⟩ := Xy.blk.cells5; obtain ⟨fm0, fm1, fm2, fm3, fm4⟩ := Xm.blk.cells5; obtain ⟨fn0, fn1, fn2, fn3, fn4⟩ := Xn.blk.cells5; obtain ⟨fl0, fl1, fl2, fl3, fl4⟩ := Xl.blk.cells5; obtain ⟨fk0, fk1, fk2, fk3, fk4⟩ := Xk.blk.cells5)
      | (go_at_call_of 19 (A1y); refine (same_any Xb.rd Xy.rd).mono ?_; rintro e wn ⟨rfl, hb⟩; rw [decide_eq_true rfl]; replace Xa := Xa.below hb; replace Xb := Xb.below hb; replace Xx := Xx.below hb; replace Xy := Xy.below hb; replace Xm := Xm.below hb; replace Xn := Xn.below hb; replace Xl := Xl.below hb; replace Xk := Xk.below hb; replace bw := bw.trans (hb.mono bw.size); clear hb; clear fa0 fa1 fa2 fa3 fa4 fb0 fb1 fb2 fb3 fb4 fx0 fx1 fx2 fx3 fx4 fy0 fy1 fy2 fy3 fy4 fm0 fm1 fm2 fm3 fm4 fn0 fn1 fn2 fn3 fn4 fl0 fl1 fl2 fl3 fl4 fk0 fk1 fk2 fk3 fk4; obtain ⟨fa0, fa1, fa2, fa3, fa4⟩ := Xa.blk.cells5; obtain ⟨fb0, fb1, fb2, fb3, fb4⟩ := Xb.blk.cells5; obtain ⟨fx0, fx1, fx2, fx3, fx4⟩ := Xx.blk.cells5; obtain ⟨fy0, fy1, fy2, fy3, fy4⟩ := Xy.blk.cells5; obtain ⟨fm0, fm1, fm2, fm3, fm4⟩ := Xm.blk.cells5; obtain ⟨fn0, fn1, fn2, fn3, fn4⟩ := Xn.blk.cells5; obtain ⟨fl0, fl1, fl2, fl3, fl4⟩ := Xl.blk.cells5; obtain ⟨fk0, fk1, fk2, fk3, fk4⟩ := Xk.blk.cells5))
    all_goals
      go_wp2
      go_ret
      exact ⟨rfl, bw⟩
theorem joins_any (w : World) (va : Value) (ra : ∃ a, RdH w a va) (vb : Value) (rb : ∃ b, RdH w b vb) :
    Calls Try.prog 9 #[va, vb] w fun e w' => e = .returned (.bool true) ∧ Below w.heap.size w w' := by
  obtain ⟨a, ra⟩ := ra
  obtain ⟨b, rb⟩ := rb
  cases ga : greatB a with
  | true => exact joins_great ra rb (.inl ga)
  | false =>
    cases gb : greatB b with
    | true => exact joins_great ra rb (.inr ⟨ga, gb⟩)
    | false => exact joins_small ra rb ga gb rfl rfl rfl rfl
end Go.Proofs.Yteckbgpkoanhfaa.Hb

/- The walks of the document's answer, layer 12: Same; Merge and Less of the layer itself. -/
import Derived.Test.YteckbgpkoanhfaaHbHistC
import Derived.Test.YteckbgpkoanhfaaHbRead
import Derived.Deep.QuietTactic
import Derived.BigQuiet
namespace Go.Proofs.Yteckbgpkoanhfaa.Hb
open Go.RowKit

theorem boxes3 (w : World) (X1 X2 X3 : Array Value) (t1 t2 t3 : TypeId) (W : World) (h : W = ((w.alloc (.cells X1 t1)).alloc (.cells X2 t2)).alloc (.cells X3 t3)) :
    Blk W (w.heap.size + 1 + 1) X3 t3 ∧ Below w.heap.size w W ∧ W.heap.size = w.heap.size + 1 + 1 + 1 := by
  subst h
  refine ⟨?_, ?_, by simp⟩
  · have := Blk.new ((w.alloc (.cells X1 t1)).alloc (.cells X2 t2)) X3 t3
    simpa using this
  · exact (((Below.refl _ w).alloc (Nat.le_refl _) _).alloc (by simp) _).alloc (by simp; omega) _
theorem boxes2' (w : World) (X1 X2 : Array Value) (t1 t2 : TypeId) (W : World) (h : W = (w.alloc (.cells X1 t1)).alloc (.cells X2 t2)) :
    Blk W w.heap.size X1 t1 ∧ Blk W (w.heap.size + 1) X2 t2 ∧ Below w.heap.size w W ∧ W.heap.size = w.heap.size + 1 + 1 := by
  subst h
  refine ⟨?_, ?_, ?_, by simp⟩
  · exact (Blk.new w X1 t1).below ((Below.refl _ _).alloc (Nat.le_refl _) _)
  · have := Blk.new (w.alloc (.cells X1 t1)) X2 t2
    simpa using this
  · exact ((Below.refl _ w).alloc (Nat.le_refl _) _).alloc (by simp) _
set_option maxRecDepth 100000 in
set_option maxHeartbeats 1000000 in
theorem merge_any {a b : H} {va vb : Value} {w : World} (ra : RdH w a va) (rb : RdH w b vb) : Calls Try.prog 24 #[va, vb] w (ResH (bothO opP a b) w) := by
  obtain ⟨A1, A2, c1, c2, rfl, r1, r2, l1, l2⟩ := ra
  obtain ⟨A3, A4, c3, c4, rfl, r3, r4, l3, l4⟩ := rb
  have hb := fun W (h : Below w.heap.size w W) => both_any 48 opP plus_is a b A1 A2 A3 A4 c1 c2 c3 c4 W l1 l2 l3 l4 (r1.below h) (r2.below h) (r3.below h) (r4.below h)
  unfold hV at hb ⊢
  have HB := Lib.hid hb
  clear hb
  go_enter Try.func24, Try.ntmps24
  go_wp2_with fail
  obtain ⟨W4, e4⟩ : ∃ W4, W4 = ((w.alloc (.cells #[.int .i64 a.kind, .int .i64 a.bins, .int .i64 a.classes, .slice A1 a.counts.length c1, .slice A2 a.moms.length c2] 36)).alloc (.cells #[.int .i64 b.kind, .int .i64 b.bins, .int .i64 b.classes, .slice A3 b.counts.length c3, .slice A4 b.moms.length c4] 36)).alloc (.cells #[.int .i64 0, .int .i64 0, .int .i64 0, .slice none 0 0, .slice none 0 0] 36) := ⟨_, rfl⟩
  rw [← e4]
  obtain ⟨k3, kb, ks⟩ := boxes3 w _ _ _ _ _ _ W4 e4
  clear e4
  refine (HB.out W4 kb).mono ?_
  rintro e w5 ⟨v, rfl, ⟨v1, v2, rfl, o1, o2⟩, hb5⟩
  obtain ⟨B1, d1, rfl⟩ := own_slice o1
  obtain ⟨B2, d2, rfl⟩ := own_slice o2
  have k5 := k3.below hb5
  obtain ⟨p0, p1, p2, p3, p4⟩ := k5.cells5
  have pf := k5.frozen
  have b5 := kb.trans (hb5.mono kb.size)
  have O1 := Lib.hid (World.ownsRow.mono o1 (base' := w.heap.size) kb.size)
  have O2 := Lib.hid (World.ownsRow.mono o2 (base' := w.heap.size) kb.size)
  clear o1 o2
  go_wp2
  refine bodyPost_ret (results_ct rfl _ _ (w.heap.size + 1 + 1) 36 _ _ rfl (set5 k5 _ _ _ _ _) Try.underlying36 rfl size_hist) rfl ?_
  exact ⟨_, rfl, ⟨_, _, rfl, own_set5 O1.out k5 (by decide) _ _ _ _ _, own_set5 O2.out k5 (by decide) _ _ _ _ _⟩, below5 b5 (by omega) _ _ _ _ _⟩
set_option maxRecDepth 100000 in
set_option maxHeartbeats 1000000 in
theorem less_any {a b : H} {va vb : Value} {w : World} (ra : RdH w a va) (rb : RdH w b vb) : Calls Try.prog 30 #[va, vb] w (ResH (bothO opM a b) w) := by
  obtain ⟨A1, A2, c1, c2, rfl, r1, r2, l1, l2⟩ := ra
  obtain ⟨A3, A4, c3, c4, rfl, r3, r4, l3, l4⟩ := rb
  have hb := fun W (h : Below w.heap.size w W) => both_any 54 opM minus_is a b A1 A2 A3 A4 c1 c2 c3 c4 W l1 l2 l3 l4 (r1.below h) (r2.below h) (r3.below h) (r4.below h)
  unfold hV at hb ⊢
  have HB := Lib.hid hb
  clear hb
  go_enter Try.func30, Try.ntmps30
  go_wp2_with fail
  obtain ⟨W4, e4⟩ : ∃ W4, W4 = ((w.alloc (.cells #[.int .i64 a.kind, .int .i64 a.bins, .int .i64 a.classes, .slice A1 a.counts.length c1, .slice A2 a.moms.length c2] 36)).alloc (.cells #[.int .i64 b.kind, .int .i64 b.bins, .int .i64 b.classes, .slice A3 b.counts.length c3, .slice A4 b.moms.length c4] 36)).alloc (.cells #[.int .i64 0, .int .i64 0, .int .i64 0, .slice none 0 0, .slice none 0 0] 36) := ⟨_, rfl⟩
  rw [← e4]
  obtain ⟨k3, kb, ks⟩ := boxes3 w _ _ _ _ _ _ W4 e4
  clear e4
  refine (HB.out W4 kb).mono ?_
  rintro e w5 ⟨v, rfl, ⟨v1, v2, rfl, o1, o2⟩, hb5⟩
  obtain ⟨B1, d1, rfl⟩ := own_slice o1
  obtain ⟨B2, d2, rfl⟩ := own_slice o2
  have k5 := k3.below hb5
  obtain ⟨p0, p1, p2, p3, p4⟩ := k5.cells5
  have pf := k5.frozen
  have b5 := kb.trans (hb5.mono kb.size)
  have O1 := Lib.hid (World.ownsRow.mono o1 (base' := w.heap.size) kb.size)
  have O2 := Lib.hid (World.ownsRow.mono o2 (base' := w.heap.size) kb.size)
  clear o1 o2
  go_wp2
  refine bodyPost_ret (results_ct rfl _ _ (w.heap.size + 1 + 1) 36 _ _ rfl (set5 k5 _ _ _ _ _) Try.underlying36 rfl size_hist) rfl ?_
  exact ⟨_, rfl, ⟨_, _, rfl, own_set5 O1.out k5 (by decide) _ _ _ _ _, own_set5 O2.out k5 (by decide) _ _ _ _ _⟩, below5 b5 (by omega) _ _ _ _ _⟩

theorem decF {a b : H} (h : ¬ a = b) : Ending.returned (.bool false) = .returned (.bool (decide (a = b))) := by rw [decide_eq_false h]
set_option maxRecDepth 100000 in
set_option maxHeartbeats 4000000 in
theorem same_head {a b : H} {va vb : Value} {w : World} (ra : RdH w a va) (rb : RdH w b vb) (hne : ¬ (a.kind = b.kind ∧ a.bins = b.bins ∧ a.classes = b.classes ∧ a.counts.length = b.counts.length ∧ a.moms.length = b.moms.length)) : Calls Try.prog 19 #[va, vb] w fun e w' => e = .returned (.bool (decide (a = b))) ∧ Below w.heap.size w w' := by
  obtain ⟨A1, A2, c1, c2, rfl, r1, r2, l1, l2⟩ := ra
  obtain ⟨A3, A4, c3, c4, rfl, r3, r4, l3, l4⟩ := rb
  unfold hV
  have D := decF (a := a) (b := b) (fun e => hne (by rw [e]; exact ⟨rfl, rfl, rfl, rfl, rfl⟩))
  have hx : (a.kind ≠ b.kind) ∨ (a.kind = b.kind ∧ a.bins ≠ b.bins) ∨ (a.kind = b.kind ∧ a.bins = b.bins ∧ a.classes ≠ b.classes) ∨ (a.kind = b.kind ∧ a.bins = b.bins ∧ a.classes = b.classes ∧ a.counts.length ≠ b.counts.length) ∨ (a.kind = b.kind ∧ a.bins = b.bins ∧ a.classes = b.classes ∧ a.counts.length = b.counts.length ∧ a.moms.length ≠ b.moms.length) := by omega
  have D' := Lib.hid D
  have f1 : ∀ {x y : Int}, x ≠ y → (x != y) = true := fun h => bne_iff_ne.2 h
  have f2 : ∀ {x y : Int}, x = y → (x != y) = false := fun h => bne_eq_false_iff_eq.2 h
  have i1 : ∀ {x y : Nat}, x ≠ y → (x : Int) ≠ y := fun h => by omega
  have i2 : ∀ {x y : Nat}, x = y → (x : Int) = y := fun h => by omega
  clear hne D r1 r2 r3 r4 l1 l2 l3 l4
  rcases hx with x1 | ⟨x1, x2⟩ | ⟨x1, x2, x3⟩ | ⟨x1, x2, x3, x4⟩ | ⟨x1, x2, x3, x4, x5⟩
  · replace x1 := f1 x1
    clear f1 f2 i1 i2
    go_enter Try.func19, Try.ntmps19
    go_wp2
    go_ret
    exact ⟨D'.out, ((Below.refl _ w).alloc (Nat.le_refl _) _).alloc (by simp) _⟩
  · replace x1 := f2 x1
    replace x2 := f1 x2
    clear f1 f2 i1 i2
    go_enter Try.func19, Try.ntmps19
    go_wp2
    go_ret
    exact ⟨D'.out, ((Below.refl _ w).alloc (Nat.le_refl _) _).alloc (by simp) _⟩
  · replace x1 := f2 x1
    replace x2 := f2 x2
    replace x3 := f1 x3
    clear f1 f2 i1 i2
    go_enter Try.func19, Try.ntmps19
    go_wp2
    go_ret
    exact ⟨D'.out, ((Below.refl _ w).alloc (Nat.le_refl _) _).alloc (by simp) _⟩
  · replace x1 := f2 x1
    replace x2 := f2 x2
    replace x3 := f2 x3
    replace x4 := f1 (i1 x4)
    clear f1 f2 i1 i2
    go_enter Try.func19, Try.ntmps19
    go_wp2
    go_ret
    exact ⟨D'.out, ((Below.refl _ w).alloc (Nat.le_refl _) _).alloc (by simp) _⟩
  · replace x1 := f2 x1
    replace x2 := f2 x2
    replace x3 := f2 x3
    replace x4 := f2 (i2 x4)
    replace x5 := f1 (i1 x5)
    clear f1 f2 i1 i2
    go_enter Try.func19, Try.ntmps19
    go_wp2
    go_ret
    exact ⟨D'.out, ((Below.refl _ w).alloc (Nat.le_refl _) _).alloc (by simp) _⟩
end Go.Proofs.Yteckbgpkoanhfaa.Hb

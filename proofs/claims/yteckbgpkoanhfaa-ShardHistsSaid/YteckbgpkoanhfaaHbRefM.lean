/- The document's answer, layer 12: like, Merge, Less. -/
import Derived.Test.YteckbgpkoanhfaaHbCopy
import Derived.Test.YteckbgpkoanhfaaHbRef12
import Derived.Test.YteckbgpkoanhfaaHbHistG
import Derived.Deep.RegionHeld3
import Derived.Deep.DeepCutAuto
namespace Go.Proofs.Yteckbgpkoanhfaa.Hb
open Go.RowKit

theorem rright_rd {a : H} {va : Value} {w : World} (ra : RdH w a va) : Calls Try.prog 32 #[va] w fun e w' => e = .returned (.bool (rightB a)) ∧ Below w.heap.size w w' := by
  obtain ⟨A1, A2, c1, c2, rfl, _, _, l1, l2⟩ := ra
  exact rright_any a A1 A2 c1 c2 w l1 l2
theorem like_dec (a b : H) : decide (likeP a b) = (rightB a && (rightB b && ((a.kind == b.kind) && ((a.bins == b.bins) && (a.classes == b.classes))))) := by
  rw [Bool.eq_iff_iff, decide_eq_true_iff]
  simp only [Bool.and_eq_true, beq_iff_eq, rightB, decide_eq_true_iff]
  exact Iff.rfl
set_option maxRecDepth 100000 in
set_option maxHeartbeats 2000000 in
theorem rlike_any {a b : H} {va vb : Value} {w : World} (ra : RdH w a va) (rb : RdH w b vb) : Calls Try.prog 53 #[va, vb] w fun e w' => e = .returned (.bool (decide (likeP a b))) ∧ Below w.heap.size w w' := by
  rw [like_dec]
  have ka := fun W (h : Below w.heap.size w W) => rright_rd (ra.below h)
  have kb := fun W (h : Below w.heap.size w W) => rright_rd (rb.below h)
  obtain ⟨x1, hx1⟩ : ∃ x, (a.kind == b.kind) = x := ⟨_, rfl⟩
  obtain ⟨x2, hx2⟩ : ∃ x, (a.bins == b.bins) = x := ⟨_, rfl⟩
  obtain ⟨x3, hx3⟩ : ∃ x, (a.classes == b.classes) = x := ⟨_, rfl⟩
  obtain ⟨y1, hy1⟩ : ∃ x, rightB a = x := ⟨_, rfl⟩
  obtain ⟨y2, hy2⟩ : ∃ x, rightB b = x := ⟨_, rfl⟩
  rw [hy1] at ka
  rw [hy2] at kb
  rw [hx1, hx2, hx3, hy1, hy2]
  have KA := Lib.hid ka
  have KB := Lib.hid kb
  obtain ⟨A1, A2, c1, c2, rfl, _⟩ := ra
  obtain ⟨A3, A4, c3, c4, rfl, _⟩ := rb
  clear ka kb hy1 hy2
  unfold hV at KA KB ⊢
  go_enter Try.func53, Try.ntmps53
  go_wp2_with fail
  obtain ⟨W2, e2⟩ : ∃ W2, W2 = (w.alloc (.cells #[.int .i64 a.kind, .int .i64 a.bins, .int .i64 a.classes, .slice A1 a.counts.length c1, .slice A2 a.moms.length c2] 36)).alloc (.cells #[.int .i64 b.kind, .int .i64 b.bins, .int .i64 b.classes, .slice A3 b.counts.length c3, .slice A4 b.moms.length c4] 36) := ⟨_, rfl⟩
  rw [← e2]
  obtain ⟨k0, k1, kb, ks⟩ := boxes2' w _ _ _ _ W2 e2
  clear e2
  refine (KA.out W2 kb).mono ?_
  rintro e w1 ⟨rfl, hb⟩
  replace k0 := k0.below hb
  replace k1 := k1.below hb
  replace kb := kb.trans (hb.mono kb.size)
  clear hb
  obtain ⟨p0, p1, p2, p3, p4⟩ := k0.cells5
  obtain ⟨q0, q1, q2, q3, q4⟩ := k1.cells5
  cases y1 with
  | false =>
    go_wp2_with fail
    go_ret
    exact ⟨rfl, kb⟩
  | true =>
    go_wp2_with fail
    refine (KB.out w1 kb).mono ?_
    rintro e w2 ⟨rfl, hb⟩
    replace k0 := k0.below hb
    replace k1 := k1.below hb
    replace kb := kb.trans (hb.mono kb.size)
    clear hb p0 p1 p2 p3 p4 q0 q1 q2 q3 q4
    obtain ⟨p0, p1, p2, p3, p4⟩ := k0.cells5
    obtain ⟨q0, q1, q2, q3, q4⟩ := k1.cells5
    cases y2 with
    | false =>
      cases x1 <;> cases x2 <;> cases x3
      all_goals
        go_wp2_with fail
        go_ret
        exact ⟨rfl, kb⟩
    | true =>
      cases x1 <;> cases x2 <;> cases x3
      all_goals
        go_wp2_with fail
        go_ret
        exact ⟨rfl, kb⟩
/-- The blocks that a call of Merge or Less begins with. -/
structure BR (a b : H) (A1 A2 A3 A4 : Option Addr) (c1 c2 c3 c4 : Nat) (n : Nat) (w W : World) : Prop where
  b0 : Blk W n #[.int .i64 a.kind, .int .i64 a.bins, .int .i64 a.classes, .slice A1 a.counts.length c1, .slice A2 a.moms.length c2] 36
  b1 : Blk W (n + 1) #[.int .i64 b.kind, .int .i64 b.bins, .int .i64 b.classes, .slice A3 b.counts.length c3, .slice A4 b.moms.length c4] 36
  b2 : Blk W (n + 1 + 1) #[.int .i64 0, .int .i64 0, .int .i64 0, .slice none 0 0, .slice none 0 0] 36
  be : Below n w W
theorem BR.below {a b : H} {A1 A2 A3 A4 : Option Addr} {c1 c2 c3 c4 n : Nat} {w W W1 : World} (h : BR a b A1 A2 A3 A4 c1 c2 c3 c4 n w W) (hb : Below W.heap.size W W1) : BR a b A1 A2 A3 A4 c1 c2 c3 c4 n w W1 :=
  ⟨h.b0.below hb, h.b1.below hb, h.b2.below hb, h.be.trans (hb.mono (by have := h.b0.lt; omega))⟩
theorem BR.cells {a b : H} {A1 A2 A3 A4 : Option Addr} {c1 c2 c3 c4 n : Nat} {w W : World} (h : BR a b A1 A2 A3 A4 c1 c2 c3 c4 n w W) :
    (W.cell? ⟨n, 0, none⟩ = some (.int .i64 a.kind) ∧ W.cell? ⟨n, 1, none⟩ = some (.int .i64 a.bins) ∧ W.cell? ⟨n, 2, none⟩ = some (.int .i64 a.classes) ∧ W.cell? ⟨n, 3, none⟩ = some (.slice A1 a.counts.length c1) ∧ W.cell? ⟨n, 4, none⟩ = some (.slice A2 a.moms.length c2)) ∧
    (W.cell? ⟨n + 1, 0, none⟩ = some (.int .i64 b.kind) ∧ W.cell? ⟨n + 1, 1, none⟩ = some (.int .i64 b.bins) ∧ W.cell? ⟨n + 1, 2, none⟩ = some (.int .i64 b.classes) ∧ W.cell? ⟨n + 1, 3, none⟩ = some (.slice A3 b.counts.length c3) ∧ W.cell? ⟨n + 1, 4, none⟩ = some (.slice A4 b.moms.length c4)) ∧
    (W.cell? ⟨n + 1 + 1, 0, none⟩ = some (.int .i64 0) ∧ W.cell? ⟨n + 1 + 1, 1, none⟩ = some (.int .i64 0) ∧ W.cell? ⟨n + 1 + 1, 2, none⟩ = some (.int .i64 0) ∧ W.cell? ⟨n + 1 + 1, 3, none⟩ = some (.slice none 0 0) ∧ W.cell? ⟨n + 1 + 1, 4, none⟩ = some (.slice none 0 0)) ∧
    (∀ i, W.frozen? ⟨n + 1 + 1, i, none⟩ = false) ∧ n < W.heap.size ∧ n + 1 < W.heap.size ∧ n + 1 + 1 < W.heap.size :=
  ⟨h.b0.cells5, h.b1.cells5, h.b2.cells5, h.b2.frozen, h.b0.lt, h.b1.lt, h.b2.lt⟩
theorem BR.new (a b : H) (A1 A2 A3 A4 : Option Addr) (c1 c2 c3 c4 : Nat) (w W : World) (e : W = ((w.alloc (.cells #[.int .i64 a.kind, .int .i64 a.bins, .int .i64 a.classes, .slice A1 a.counts.length c1, .slice A2 a.moms.length c2] 36)).alloc (.cells #[.int .i64 b.kind, .int .i64 b.bins, .int .i64 b.classes, .slice A3 b.counts.length c3, .slice A4 b.moms.length c4] 36)).alloc (.cells #[.int .i64 0, .int .i64 0, .int .i64 0, .slice none 0 0, .slice none 0 0] 36)) : BR a b A1 A2 A3 A4 c1 c2 c3 c4 w.heap.size w W := by
  obtain ⟨k3, kb, ks⟩ := boxes3 w _ _ _ _ _ _ W e
  obtain ⟨k0, k1, _, _⟩ := boxes2' w _ _ _ _ _ (rfl : (w.alloc (.cells #[.int .i64 a.kind, .int .i64 a.bins, .int .i64 a.classes, .slice A1 a.counts.length c1, .slice A2 a.moms.length c2] 36)).alloc (.cells #[.int .i64 b.kind, .int .i64 b.bins, .int .i64 b.classes, .slice A3 b.counts.length c3, .slice A4 b.moms.length c4] 36) = _)
  refine ⟨?_, ?_, k3, kb⟩
  · rw [e]; exact k0.below ((Below.refl _ _).alloc (Nat.le_refl _) _)
  · rw [e]; exact k1.below ((Below.refl _ _).alloc (Nat.le_refl _) _)
/-- What is being made, in its box. -/
structure BO (a : H) (base g : Nat) (B1 B2 : Option Addr) (d1 d2 : Nat) (cs : List Int) (ms : List Mom) (W : World) : Prop where
  blk : Blk W g #[.int .i64 a.kind, .int .i64 a.bins, .int .i64 a.classes, .slice B1 a.counts.length d1, .slice B2 a.moms.length d2] 36
  r1 : W.ownsRow base 2 1 (.slice B1 a.counts.length d1) a.counts.length (ints cs)
  r2 : W.ownsRow base 52 3 (.slice B2 a.moms.length d2) a.moms.length (momC ms)
theorem BO.below {a : H} {base g : Nat} {B1 B2 : Option Addr} {d1 d2 : Nat} {cs : List Int} {ms : List Mom} {W W1 : World} (h : BO a base g B1 B2 d1 d2 cs ms W) (hb : Below W.heap.size W W1) : BO a base g B1 B2 d1 d2 cs ms W1 := ⟨h.blk.below hb, own_below h.r1 hb, own_below h.r2 hb⟩
theorem BR.set {a b : H} {A1 A2 A3 A4 : Option Addr} {c1 c2 c3 c4 n : Nat} {w W : World} (X : BR a b A1 A2 A3 A4 c1 c2 c3 c4 n w W) {e' : TypeId} {size' n' gr c i : Nat} {xs' : List Value} {u : Value} (h2 : W.ownsRow n e' size' (.slice (some ⟨gr, 0, none⟩) n' c) n' xs') (hte : e' ≠ 36) : BR a b A1 A2 A3 A4 c1 c2 c3 c4 n w (W.setCell ⟨gr, i, none⟩ u) :=
  ⟨X.b0.other (p := ⟨gr, i, none⟩) (row_ne X.b0 h2 hte) _, X.b1.other (p := ⟨gr, i, none⟩) (row_ne X.b1 h2 hte) _, X.b2.other (p := ⟨gr, i, none⟩) (row_ne X.b2 h2 hte) _, X.be.setCell (p := ⟨gr, i, none⟩) (World.ownsRow.lt h2 gr rfl).1 _⟩
theorem BO.set1 {a : H} {base g gr : Nat} {B2 : Option Addr} {d1 d2 : Nat} {cs : List Int} {ms : List Mom} {W : World} (O : BO a base g (some ⟨gr, 0, none⟩) B2 d1 d2 cs ms W) (k : Nat) (z : Int) : BO a base g (some ⟨gr, 0, none⟩) B2 d1 d2 (cs.set k z) ms (W.setCell ⟨gr, k, none⟩ (.int .i64 z)) where
  blk := O.blk.other (p := ⟨gr, k, none⟩) (row_ne O.blk O.r1 (by decide)) _
  r1 := by rw [← ints_set]; exact (World.ownsRow.stored O.r1 k (.int .i64 z)).1
  r2 := own_other O.r2 O.r1 (by decide)
theorem BO.set2 {a : H} {base g gr : Nat} {B1 : Option Addr} {d1 d2 : Nat} {cs : List Int} {ms : List Mom} {W : World} (O : BO a base g B1 (some ⟨gr, 0, none⟩) d1 d2 cs ms W) (k : Nat) (z : Mom) (hk : k < ms.length) : BO a base g B1 (some ⟨gr, 0, none⟩) d1 d2 cs (ms.set k z) (((W.setCell ⟨gr, k * 3, none⟩ (.int .i64 z.c)).setCell ⟨gr, k * 3 + 1, none⟩ (.int .i64 z.s)).setCell ⟨gr, k * 3 + 2, none⟩ (.int .i64 z.q)) where
  blk := ((O.blk.other (p := ⟨gr, k * 3, none⟩) (row_ne O.blk O.r2 (by decide)) _).other (p := ⟨gr, k * 3 + 1, none⟩) (row_ne O.blk O.r2 (by decide)) _).other (p := ⟨gr, k * 3 + 2, none⟩) (row_ne O.blk O.r2 (by decide)) _
  r1 := by
    have s1 := World.ownsRow.stored O.r2 (k * 3) (.int .i64 z.c)
    have s2 := World.ownsRow.stored s1.1 (k * 3 + 1) (.int .i64 z.s)
    exact own_other (own_other (own_other O.r1 O.r2 (by decide)) s1.1 (by decide)) s2.1 (by decide)
  r2 := by
    have hst := store3 O.r2 (k * 3) (k * 3 + 1) (k * 3 + 2) (.int .i64 z.c) (.int .i64 z.s) (.int .i64 z.q)
    have := hst.1
    rw [momC_set _ _ _ hk] at this
    exact this
theorem BR.set3 {a b : H} {A1 A2 A3 A4 : Option Addr} {c1 c2 c3 c4 n : Nat} {w W : World} (X : BR a b A1 A2 A3 A4 c1 c2 c3 c4 n w W) {e' : TypeId} {size' n' gr c i j k : Nat} {xs' : List Value} {u v x : Value} (h2 : W.ownsRow n e' size' (.slice (some ⟨gr, 0, none⟩) n' c) n' xs') (hte : e' ≠ 36) : BR a b A1 A2 A3 A4 c1 c2 c3 c4 n w (((W.setCell ⟨gr, i, none⟩ u).setCell ⟨gr, j, none⟩ v).setCell ⟨gr, k, none⟩ x) := by
  have s1 := World.ownsRow.stored h2 i u
  have s2 := World.ownsRow.stored s1.1 j v
  exact ((X.set h2 hte).set s1.1 hte).set s2.1 hte
theorem relA' {wr w1 : World} {t : TypeId} (z0 z1 z2 a b c : Value) (hb : Below (wr.alloc (.cells #[z0, z1, z2] t)).drew.heap.size (wr.alloc (.cells #[z0, z1, z2] t)).drew w1) :
    Blk (((w1.setCell ⟨wr.heap.size, 0, none⟩ a).setCell ⟨wr.heap.size, 1, none⟩ b).setCell ⟨wr.heap.size, 2, none⟩ c) wr.heap.size #[a, b, c] t ∧ wr.heap.size ≤ wr.heap.size ∧
    Below wr.heap.size wr (((w1.setCell ⟨wr.heap.size, 0, none⟩ a).setCell ⟨wr.heap.size, 1, none⟩ b).setCell ⟨wr.heap.size, 2, none⟩ c) := by
  have h0 : Blk (wr.alloc (.cells #[z0, z1, z2] t)).drew wr.heap.size #[z0, z1, z2] t := Blk.new wr #[z0, z1, z2] t
  have h2 : Below wr.heap.size wr (wr.alloc (.cells #[z0, z1, z2] t)).drew := ((Below.refl _ wr).alloc (Nat.le_refl _) _).drew
  exact ⟨set3 (h0.below hb) a b c, Nat.le_refl _, below3 (h2.trans (hb.mono h2.size)) (Nat.le_refl _) a b c⟩
theorem relB' {wr w1 : World} {t : TypeId} (a b c : Value) (hb : Below wr.drew.heap.size wr.drew w1) :
    Blk (w1.alloc (.cells #[a, b, c] t)) w1.heap.size #[a, b, c] t ∧ wr.heap.size ≤ w1.heap.size ∧ Below wr.heap.size wr (w1.alloc (.cells #[a, b, c] t)) := by
  have h3 : Below wr.heap.size wr w1 := ((Below.refl _ wr).drew).trans hb
  exact ⟨Blk.new _ _ _, h3.size, h3.alloc h3.size _⟩
theorem drop_set {α : Type} (a l : List α) (k : Nat) (x : α) (hl : l.length = k) (hk : k < a.length) : (l ++ a.drop k).set k x = (l ++ [x]) ++ a.drop (k + 1) := by
  subst hl
  rw [List.set_append_right _ _ (Nat.le_refl _), Nat.sub_self, List.drop_eq_getElem_cons hk, List.set_cons_zero, List.append_assoc]
  rfl
set_option maxRecDepth 100000 in
set_option maxHeartbeats 8000000 in
theorem rmerge_like {a b : H} {va vb : Value} {w : World} (ra : RdH w a va) (rb : RdH w b vb) (hl : likeP a b) : Calls Try.prog 29 #[va, vb] w (ResH (bothO opP a b) w) := by
  have kl := fun W (h : Below w.heap.size w W) => rlike_any (ra.below h) (rb.below h)
  rw [decide_eq_true hl] at kl
  have gs := right_small hl.1
  obtain ⟨gs1, gs2⟩ := gs
  have kc := fun W (h : Below w.heap.size w W) => copy_all (ra.below h) gs1 (by omega)
  have KL := Lib.hid kl
  have KC := Lib.hid kc
  have HLn := Lib.hid (like_len hl)
  have HL := Lib.hid hl
  obtain ⟨A1, A2, c1, c2, rfl, r1, r2, l1, l2⟩ := ra
  obtain ⟨A3, A4, c3, c4, rfl, r3, r4, l3, l4⟩ := rb
  have R1 := Lib.hid r1
  have R2 := Lib.hid r2
  have R3 := Lib.hid r3
  have R4 := Lib.hid r4
  clear kl kc r1 r2 r3 r4 l1 l2 l3 l4 hl
  unfold hV at KL KC ⊢
  go_enter Try.func29, Try.ntmps29
  go_wp2_with fail
  obtain ⟨W3, e3⟩ : ∃ W4, W4 = ((w.alloc (.cells #[.int .i64 a.kind, .int .i64 a.bins, .int .i64 a.classes, .slice A1 a.counts.length c1, .slice A2 a.moms.length c2] 36)).alloc (.cells #[.int .i64 b.kind, .int .i64 b.bins, .int .i64 b.classes, .slice A3 b.counts.length c3, .slice A4 b.moms.length c4] 36)).alloc (.cells #[.int .i64 0, .int .i64 0, .int .i64 0, .slice none 0 0, .slice none 0 0] 36) := ⟨_, rfl⟩
  rw [← e3]
  have X := BR.new _ _ _ _ _ _ _ _ _ _ _ _ e3
  clear e3
  refine (KL.out _ X.be).mono ?_
  rintro e w1 ⟨rfl, hb⟩
  replace X := X.below hb
  clear hb
  obtain ⟨⟨p0, p1, p2, p3, p4⟩, ⟨q0, q1, q2, q3, q4⟩, ⟨s0, s1, s2, s3, s4⟩, sf, z0, z1, z2⟩ := X.cells
  go_wp2_with fail
  refine (KC.out _ X.be).mono ?_
  rintro e w2 ⟨v, rfl, ⟨v1, v2, rfl, o1, o2⟩, hb⟩
  obtain ⟨B1, d1, rfl⟩ := own_slice o1
  obtain ⟨B2, d2, rfl⟩ := own_slice o2
  have bs := X.be.size
  replace X := X.below hb
  clear hb p0 p1 p2 p3 p4 q0 q1 q2 q3 q4 s0 s1 s2 s3 s4 sf z0 z1 z2
  go_wp2
  obtain ⟨W5, e5⟩ : ∃ W5, W5 = w2.alloc (.cells #[.int .i64 a.kind, .int .i64 a.bins, .int .i64 a.classes, .slice B1 a.counts.length d1, .slice B2 a.moms.length d2] 36) := ⟨_, rfl⟩
  rw [← e5]
  have bo : Below w2.heap.size w2 W5 := by rw [e5]; exact (Below.refl _ _).alloc (Nat.le_refl _) _
  have hng0 := X.b2.lt
  replace X := X.below bo
  have O : BO a w.heap.size w2.heap.size B1 B2 d1 d2 a.counts a.moms W5 := by
    rw [e5]
    exact ⟨Blk.new _ _ _, (World.ownsRow.mono o1 bs).alloc _, (World.ownsRow.mono o2 bs).alloc _⟩
  obtain ⟨g, hg⟩ : ∃ g, w2.heap.size = g := ⟨_, rfl⟩
  rw [hg] at O hng0 ⊢
  clear e5 bo o1 o2 hg bs
  have HX0 := Lib.hid X
  have HO0 := Lib.hid O
  clear X O
  have n0 : w.heap.size ≠ g := by omega
  have n1 : w.heap.size + 1 ≠ g := by omega
  have n2 : w.heap.size + 1 + 1 ≠ g := by omega
  have m0' : g ≠ w.heap.size := by omega
  have m1' : g ≠ w.heap.size + 1 := by omega
  have m2' : g ≠ w.heap.size + 1 + 1 := by omega
  have e60 : ((6 : Int) != 0) = true := rfl
  have e00 : ((0 : Int) != 0) = false := rfl
  go_loopw [7] (fun iv wr => ∃ (k : Nat) (l : List Int), k ≤ a.counts.length ∧ iv = .int .i64 k ∧ Hid (l.length = k) ∧ Hid (∀ i, i < k → opP (a.counts.getD i 0) (b.counts.getD i 0) false = .ok (l.getD i 0)) ∧ Hid (BR a b A1 A2 A3 A4 c1 c2 c3 c4 w.heap.size w wr) ∧ Hid (BO a w.heap.size g B1 B2 d1 d2 (l ++ a.counts.drop k) a.moms wr)) (fun iv _ => a.counts.length - (intOf iv).toNat)
  case atStart => exact ⟨0, [], Nat.zero_le _, rfl, Lib.hid rfl, Lib.hid (fun i hi => by omega), HX0, HO0⟩
  case round =>
    obtain ⟨k, l, hk, rfl, HLl, HK, HX, HO⟩ := hrel
    have X := HX.out
    obtain ⟨⟨p0, p1, p2, p3, p4⟩, ⟨q0, q1, q2, q3, q4⟩, ⟨s0, s1, s2, s3, s4⟩, sf, z0, z1, z2⟩ := X.cells
    by_cases hlt : k < a.counts.length
    · have hlt2 : k < b.counts.length := by have := HLn.out.1; omega
      have hlt3 : (k : Int) < a.counts.length := by omega
      have hlt4 : (k : Int) < b.counts.length := by omega
      obtain ⟨ad1, rfl, ha⟩ := (R1.out.below X.be).at hlt
      obtain ⟨ad2, rfl, hb⟩ := (R3.out.below X.be).at hlt2
      have y1 := ha k hlt
      have y2 := hb k hlt2
      have i1 := R1.out.inR hlt
      have i2 := R3.out.inR hlt2
      obtain ⟨u, hu⟩ : ∃ u, a.counts.getD k 0 = u := ⟨_, rfl⟩
      obtain ⟨u', hu'⟩ : ∃ u', b.counts.getD k 0 = u' := ⟨_, rfl⟩
      rw [hu] at y1 i1
      rw [hu'] at y2 i2
      have HU := Lib.hid hu
      have HU' := Lib.hid hu'
      have hp := fun w => rplus_any u u' i1 i2 w
      unfold RefOp at hp
      obtain ⟨x, y, hxy⟩ := res_form (lim (u + u'))
      rw [hxy] at hp
      have HXY := Lib.hid hxy
      have HP := Lib.hid hp
      clear ha hb hp hxy hu hu' i1 i2 X
      go_upto_region 7 with (fail)
      go_cut [8, 9] (fun nv ev wc => nv = .int .i64 x ∧ ev = .int .i64 y ∧ Below wr.heap.size wr wc)
      case first =>
        go_region_held3 (fun W => W.cell? ⟨w.heap.size, 3, none⟩ = some (.slice (some ad1) a.counts.length c1) ∧ W.cell? (ad1.add k) = some (.int .i64 u) ∧ W.cell? ⟨w.heap.size + 1, 3, none⟩ = some (.slice (some ad2) b.counts.length c3) ∧ W.cell? (ad2.add k) = some (.int .i64 u')) (go_keep)
          (first | (go_at_call 49; refine (HP.out _).mono ?_; rintro e w6 ⟨rfl, hb1⟩; have t1 : w6.cell? ⟨w.heap.size, 3, none⟩ = some (.slice (some ad1) a.counts.length c1) := keepc hb1 (by simp [*]); have t2 : w6.cell? (ad1.add k) = some (.int .i64 u) := keepc hb1 (by simp [*]); have t3 : w6.cell? ⟨w.heap.size + 1, 3, none⟩ = some (.slice (some ad2) b.counts.length c3) := keepc hb1 (by simp [*]); have t4 : w6.cell? (ad2.add k) = some (.int .i64 u') := keepc hb1 (by simp [*])))
        all_goals
          go_wp2
          go_meet
          case rel => exact ⟨rfl, rfl, ((Below.refl wr.heap.size wr).drew).trans hb1⟩
      case rest =>
        obtain ⟨rfl, rfl, hb⟩ := hcut
        clear p0 p1 p2 p3 p4 q0 q1 q2 q3 q4 s0 s1 s2 s3 s4 sf z0 z1 z2
        have X := HX.out.below hb
        obtain ⟨⟨p0, p1, p2, p3, p4⟩, ⟨q0, q1, q2, q3, q4⟩, ⟨s0, s1, s2, s3, s4⟩, sf, z0, z1, z2⟩ := X.cells
        have hxy := HXY.out
        cases hlim : lim (u + u') with
        | none =>
          rw [hlim] at hxy
          simp only [res, Value.tuple.injEq, Array.mk.injEq, List.cons.injEq, Value.int.injEq, and_true, true_and] at hxy
          obtain ⟨rfl, rfl⟩ := hxy
          have HE := Lib.hid (rows_err (op := fun x y => opP x y false) 0 6 k a.counts b.counts l (Nat.le_of_eq HLn.out.1) hlt HK.out (by rw [HU.out, HU'.out]; exact (by unfold opP; rw [hlim])))
          clear hlim
          go_wp2
          refine bodyPost_ret (results_ct rfl _ _ (w.heap.size + 1 + 1) 36 _ _ rfl (set5 X.b2 _ _ _ _ _) Try.underlying36 rfl size_hist) rfl ?_
          rw [both_err1 HL.out HE.out]
          exact ⟨_, rfl, HNew.zero _ _, below5 X.be (by omega) _ _ _ _ _⟩
        | some z =>
          rw [hlim] at hxy
          simp only [res, Value.tuple.injEq, Array.mk.injEq, List.cons.injEq, Value.int.injEq, and_true, true_and] at hxy
          obtain ⟨rfl, rfl⟩ := hxy
          have HK' : Hid (∀ i, i < k + 1 → opP (a.counts.getD i 0) (b.counts.getD i 0) false = .ok ((l ++ [z]).getD i 0)) := Lib.hid (fun i hi => by
            by_cases e : i = k
            · subst e
              rw [HU.out, HU'.out, (show opP u u' false = .ok z by unfold opP; rw [hlim])]
              have := HLl.out
              conv => rhs; rw [show i = l.length from this.symm, getD_last]
            · rw [getD_snoc (by rw [HLl.out]; omega)]
              exact HK.out i (by omega))
          have HL' : Hid ((l ++ [z]).length = k + 1) := Lib.hid (by simp [HLl.out])
          have O := HO.out.below hb
          obtain ⟨gr, cap, hv, _, _, gl, _⟩ := own_open O.r1 (by omega)
          simp only [Value.slice.injEq, true_and] at hv
          obtain ⟨rfl, -⟩ := hv
          obtain ⟨t0, t1, t2, t3, t4⟩ := O.blk.cells5
          have fr := fun i => World.ownsRow.frozenAt O.r1 i
          have rc := own_cell O.r1 (j := k) (u := .int .i64 u) (by
            have hx : a.counts[k]? = some u := by
              have := HU.out
              rw [List.getD_eq_getElem?_getD, List.getElem?_eq_getElem hlt] at this
              rw [List.getElem?_eq_getElem hlt]; simpa using this
            rw [ints, List.getElem?_map, List.getElem?_append_right (by rw [HLl.out]; exact Nat.le_refl _), HLl.out, Nat.sub_self, List.getElem?_drop, Nat.add_zero, hx]
            rfl)
          have rn := row_ne O.blk O.r1 (by decide)
          have rn' := rn.symm
          clear hlim
          have HX2 : Hid (BR a b (some ad1) A2 (some ad2) A4 c1 c2 c3 c4 w.heap.size w (wc.setCell ⟨gr, k, none⟩ (.int .i64 z))) := Lib.hid (X.set O.r1 (by decide))
          have HO2 : Hid (BO a w.heap.size g (some ⟨gr, 0, none⟩) B2 d1 d2 ((l ++ [z]) ++ a.counts.drop (k + 1)) a.moms (wc.setCell ⟨gr, k, none⟩ (.int .i64 z))) := Lib.hid (by
            have := O.set1 k z
            rwa [drop_set _ _ _ _ HLl.out hlt] at this)
          clear X O
          go_wp2_with fail
          exact ⟨⟨k + 1, l ++ [z], hlt, by go_num, HL', HK', HX2, HO2⟩, by simp [intOf]; omega⟩
    · obtain hkk : k = a.counts.length := by omega
      have HF1 := Lib.hid (rows_ok (op := fun x y => opP x y false) 0 a.counts b.counts l (Nat.le_of_eq HLn.out.1) (by rw [HLl.out, hkk]) (by rw [← hkk]; exact HK.out))
      have HOl : Hid (BO a w.heap.size g B1 B2 d1 d2 l ([] ++ a.moms.drop 0) wr) := Lib.hid (by
        have := HO.out
        rwa [hkk, List.drop_length, List.append_nil] at this)
      have HL1 : Hid (l.length = a.counts.length) := Lib.hid (by rw [HLl.out, hkk])
      subst hkk
      clear X HO HK HLl
      go_wp2
      go_loopw [10] (fun iv wr2 => ∃ (k : Nat) (l2 : List Mom), k ≤ a.moms.length ∧ iv = .int .i64 k ∧ Hid (l2.length = k) ∧ Hid (∀ i, i < k → momO opP (mAt a.moms i) (mAt b.moms i) = .ok (mAt l2 i)) ∧ Hid (BR a b A1 A2 A3 A4 c1 c2 c3 c4 w.heap.size w wr2) ∧ Hid (BO a w.heap.size g B1 B2 d1 d2 l (l2 ++ a.moms.drop k) wr2)) (fun iv _ => a.moms.length - (intOf iv).toNat)
      case atStart => exact ⟨0, [], Nat.zero_le _, rfl, Lib.hid rfl, Lib.hid (fun i hi => by omega), HX, HOl⟩
      case round =>
        clear p0 p1 p2 p3 p4 q0 q1 q2 q3 q4 s0 s1 s2 s3 s4 sf z0 z1 z2
        obtain ⟨k, l2, hk, rfl, HLl, HK, HX, HO⟩ := hrel
        have X := HX.out
        obtain ⟨⟨p0, p1, p2, p3, p4⟩, ⟨q0, q1, q2, q3, q4⟩, ⟨s0, s1, s2, s3, s4⟩, sf, z0, z1, z2⟩ := X.cells
        by_cases hlt : k < a.moms.length
        · have hlt2 : k < b.moms.length := by have := HLn.out.2; omega
          have hlt3 : (k : Int) < a.moms.length := by omega
          have hlt4 : (k : Int) < b.moms.length := by omega
          obtain ⟨ad1, rfl, ha⟩ := (R2.out.below X.be).at hlt
          obtain ⟨ad2, rfl, hb⟩ := (R4.out.below X.be).at hlt2
          obtain ⟨x1, x2, x3⟩ := ha k hlt
          obtain ⟨y1, y2, y3⟩ := hb k hlt2
          have i1 := R2.out.okAt hlt
          have i2 := R4.out.okAt hlt2
          obtain ⟨u, hu⟩ : ∃ u, mAt a.moms k = u := ⟨_, rfl⟩
          obtain ⟨u', hu'⟩ : ∃ u', mAt b.moms k = u' := ⟨_, rfl⟩
          rw [hu] at x1 x2 x3 i1
          rw [hu'] at y1 y2 y3 i2
          have HU := Lib.hid hu
          have HU' := Lib.hid hu'
          have hp := fun w => rplusM_any u u' i1 i2 w
          unfold momV at hp
          obtain ⟨rr, hrr⟩ : ∃ rr, momO opP u u' = rr := ⟨_, rfl⟩
          obtain ⟨v1, v2, v3, v4, hz⟩ : ∃ z1 z2 z3 z4, momE rr = .tuple #[.agg #[.int .i64 z1, .int .i64 z2, .int .i64 z3], .int .i64 z4] := ⟨_, _, _, _, rfl⟩
          rw [hrr, hz] at hp
          have HZ := Lib.hid hz
          have HRR := Lib.hid hrr
          have HP := Lib.hid hp
          clear ha hb hp hz hrr hu hu' i1 i2 X
          go_upto_region 14 with (fail)
          go_cut [11, 12] (fun p ev wc => ∃ B, p = .pointer (some ⟨B, 0, none⟩) ∧ ev = .int .i64 v4 ∧ Blk wc B #[.int .i64 v1, .int .i64 v2, .int .i64 v3] 52 ∧ wr.heap.size ≤ B ∧ Below wr.heap.size wr wc)
          case first =>
            have adl1 : (ad1.add (k * 3)).block < wr.heap.size := World.block_lt_of_cell? wr _ x1
            have adl2 : (ad2.add (k * 3)).block < wr.heap.size := World.block_lt_of_cell? wr _ y1
            have ne1 : (ad1.add (k * 3)).block ≠ wr.heap.size := by omega
            have ne2 : wr.heap.size ≠ (ad1.add (k * 3)).block := by omega
            have ne3 : (ad2.add (k * 3)).block ≠ wr.heap.size := by omega
            have ne4 : wr.heap.size ≠ (ad2.add (k * 3)).block := by omega
            have ne5 : w.heap.size ≠ wr.heap.size := by omega
            have ne6 : wr.heap.size ≠ w.heap.size := by omega
            have ne7 : w.heap.size + 1 ≠ wr.heap.size := by omega
            have ne8 : wr.heap.size ≠ w.heap.size + 1 := by omega
            go_region_held3 (fun W => W.cell? ⟨w.heap.size, 4, none⟩ = some (.slice (some ad1) a.moms.length c2) ∧ W.cell? (ad1.add (k * 3)) = some (.int .i64 u.c) ∧ W.cell? ⟨(ad1.add (k * 3)).block, (ad1.add (k * 3)).off + 1, none⟩ = some (.int .i64 u.s) ∧ W.cell? ⟨(ad1.add (k * 3)).block, (ad1.add (k * 3)).off + 2, none⟩ = some (.int .i64 u.q) ∧ W.cell? ⟨w.heap.size + 1, 4, none⟩ = some (.slice (some ad2) b.moms.length c4) ∧ W.cell? (ad2.add (k * 3)) = some (.int .i64 u'.c) ∧ W.cell? ⟨(ad2.add (k * 3)).block, (ad2.add (k * 3)).off + 1, none⟩ = some (.int .i64 u'.s) ∧ W.cell? ⟨(ad2.add (k * 3)).block, (ad2.add (k * 3)).off + 2, none⟩ = some (.int .i64 u'.q)) (go_keep)
              (first | (go_at_call 51; refine (HP.out _).mono ?_; rintro e w6 ⟨rfl, hb1⟩; obtain ⟨hcc, hff⟩ := bcell hb1; have t0 : w6.cell? ⟨w.heap.size, 4, none⟩ = some (.slice (some ad1) a.moms.length c2) := keepc hb1 (by simp [*]); have t1 : w6.cell? (ad1.add (k * 3)) = some (.int .i64 u.c) := keepc hb1 (by simp [*]); have t2 : w6.cell? ⟨(ad1.add (k * 3)).block, (ad1.add (k * 3)).off + 1, none⟩ = some (.int .i64 u.s) := keepc hb1 (by simp [*]); have t3 : w6.cell? ⟨(ad1.add (k * 3)).block, (ad1.add (k * 3)).off + 2, none⟩ = some (.int .i64 u.q) := keepc hb1 (by simp [*]); have t4 : w6.cell? ⟨w.heap.size + 1, 4, none⟩ = some (.slice (some ad2) b.moms.length c4) := keepc hb1 (by simp [*]); have t5 : w6.cell? (ad2.add (k * 3)) = some (.int .i64 u'.c) := keepc hb1 (by simp [*]); have t6 : w6.cell? ⟨(ad2.add (k * 3)).block, (ad2.add (k * 3)).off + 1, none⟩ = some (.int .i64 u'.s) := keepc hb1 (by simp [*]); have t7 : w6.cell? ⟨(ad2.add (k * 3)).block, (ad2.add (k * 3)).off + 2, none⟩ = some (.int .i64 u'.q) := keepc hb1 (by simp [*])))
            all_goals
              go_wp2
              go_meet
              case rel => first | exact ⟨_, rfl, rfl, relA' _ _ _ _ _ _ hb1⟩ | exact ⟨_, rfl, rfl, relB' _ _ _ hb1⟩
          case rest =>
            obtain ⟨B, rfl, rfl, hBk, hBl, hb⟩ := hcut
            clear p0 p1 p2 p3 p4 q0 q1 q2 q3 q4 s0 s1 s2 s3 s4 sf z0 z1 z2 x1 x2 x3 y1 y2 y3
            have X := HX.out.below hb
            obtain ⟨⟨p0, p1, p2, p3, p4⟩, ⟨q0, q1, q2, q3, q4⟩, ⟨s0, s1, s2, s3, s4⟩, sf, z0, z1, z2⟩ := X.cells
            obtain ⟨x1, x2, x3⟩ := cells3 hBk
            have hz := HZ.out
            cases rr with
            | error e1 =>
              simp only [momE, momV, valO, errO, m0, Value.tuple.injEq, Array.mk.injEq, List.cons.injEq, Value.agg.injEq, Value.int.injEq, and_true, true_and] at hz
              obtain ⟨⟨rfl, rfl, rfl⟩, rfl⟩ := hz
              have ee : (e1 != 0) = true := momO_err plus_is HRR.out
              have HE := Lib.hid (rows_err (op := momO opP) m0 e1 k a.moms b.moms l2 (Nat.le_of_eq HLn.out.2) hlt HK.out (by
                have := HRR.out
                rw [← HU.out, ← HU'.out] at this
                exact this))
              go_wp2
              refine bodyPost_ret (results_ct rfl _ _ (w.heap.size + 1 + 1) 36 _ _ rfl (set5 X.b2 _ _ _ _ _) Try.underlying36 rfl size_hist) rfl ?_
              rw [both_err2 HL.out HF1.out HE.out]
              exact ⟨_, rfl, HNew.zero _ _, below5 X.be (by omega) _ _ _ _ _⟩
            | ok z =>
              simp only [momE, momV, valO, errO, Value.tuple.injEq, Array.mk.injEq, List.cons.injEq, Value.agg.injEq, Value.int.injEq, and_true, true_and] at hz
              obtain ⟨⟨rfl, rfl, rfl⟩, rfl⟩ := hz
              have HK' : Hid (∀ i, i < k + 1 → momO opP (mAt a.moms i) (mAt b.moms i) = .ok (mAt (l2 ++ [z]) i)) := Lib.hid (fun i hi => by
                by_cases e : i = k
                · subst e
                  rw [HU.out, HU'.out, HRR.out]
                  have := HLl.out
                  conv => rhs; rw [show i = l2.length from this.symm, mAt_last]
                · rw [mAt_snoc (by rw [HLl.out]; omega)]
                  exact HK.out i (by omega))
              have HL' : Hid ((l2 ++ [z]).length = k + 1) := Lib.hid (by simp [HLl.out])
              have O := HO.out.below hb
              obtain ⟨gr, cap, hv, _, _, gl, _⟩ := own_open O.r2 (by omega)
              simp only [Value.slice.injEq, true_and] at hv
              obtain ⟨rfl, -⟩ := hv
              obtain ⟨t0, t1, t2, t3, t4⟩ := O.blk.cells5
              have fr := fun i => World.ownsRow.frozenAt O.r2 i
              have hx : (l2 ++ a.moms.drop k)[k]? = some u := by
                have h1 : a.moms[k]? = some u := by
                  have := HU.out
                  unfold mAt at this
                  rw [List.getD_eq_getElem?_getD, List.getElem?_eq_getElem hlt] at this
                  rw [List.getElem?_eq_getElem hlt]; simpa using this
                rw [List.getElem?_append_right (by rw [HLl.out]; exact Nat.le_refl _), HLl.out, Nat.sub_self, List.getElem?_drop, Nat.add_zero, h1]
              obtain ⟨hx1, hx2, hx3⟩ := momC_at _ _ _ hx
              have rc1 := own_cell O.r2 hx1
              have rc2 := own_cell O.r2 hx2
              have rc3 := own_cell O.r2 hx3
              have rn := row_ne O.blk O.r2 (by decide)
              have rn' := rn.symm
              have rB : gr ≠ B := by
                have := (World.ownsRow.lt HO.out.r2 gr rfl).2
                omega
              have rB' := rB.symm
              have HX2 : Hid (BR a b A1 (some ad1) A3 (some ad2) c1 c2 c3 c4 w.heap.size w (((wc.setCell ⟨gr, k * 3, none⟩ (.int .i64 z.c)).setCell ⟨gr, k * 3 + 1, none⟩ (.int .i64 z.s)).setCell ⟨gr, k * 3 + 2, none⟩ (.int .i64 z.q))) := Lib.hid (X.set3 O.r2 (by decide))
              have HO2 : Hid (BO a w.heap.size g B1 (some ⟨gr, 0, none⟩) d1 d2 l ((l2 ++ [z]) ++ a.moms.drop (k + 1)) (((wc.setCell ⟨gr, k * 3, none⟩ (.int .i64 z.c)).setCell ⟨gr, k * 3 + 1, none⟩ (.int .i64 z.s)).setCell ⟨gr, k * 3 + 2, none⟩ (.int .i64 z.q))) := Lib.hid (by
                have := O.set2 k z (by rw [List.length_append, List.length_drop, HLl.out]; omega)
                rwa [drop_set _ _ _ _ HLl.out hlt] at this)
              clear X O hx hx1 hx2 hx3
              go_wp2
              exact ⟨⟨k + 1, l2 ++ [z], hlt, by go_num, HL', HK', HX2, HO2⟩, by simp [intOf]; omega⟩
        · obtain hkk : k = a.moms.length := by omega
          have HF2 := Lib.hid (rows_ok (op := momO opP) m0 a.moms b.moms l2 (Nat.le_of_eq HLn.out.2) (by rw [HLl.out, hkk]) (by rw [← hkk]; exact HK.out))
          have O := HO.out
          rw [hkk, List.drop_length, List.append_nil] at O
          have HOe := Lib.hid O
          have e1 := HL1.out
          have e2 := HLl.out
          obtain ⟨t0, t1, t2, t3, t4⟩ := O.blk.cells5
          clear O HO HK
          go_wp2
          refine bodyPost_ret (results_ct rfl _ _ (w.heap.size + 1 + 1) 36 _ _ rfl (set5 X.b2 _ _ _ _ _) Try.underlying36 rfl size_hist) rfl ?_
          rw [both_ok HL.out HF1.out HF2.out]
          have O1 := HOe.out.r1
          have O2 := HOe.out.r2
          have O1' : wr.ownsRow w.heap.size 2 1 (.slice B1 a.counts.length d1) l.length (ints l) := by rw [e1]; exact O1
          have O2' : wr.ownsRow w.heap.size 52 3 (.slice B2 a.moms.length d2) l2.length (momC l2) := by rw [e2, hkk]; exact O2
          exact ⟨_, rfl, ⟨_, _, rfl, own_set5 O1' X.b2 (by decide) _ _ _ _ _, own_set5 O2' X.b2 (by decide) _ _ _ _ _⟩, below5 X.be (by omega) _ _ _ _ _⟩
theorem rmerge_all {a b : H} {va vb : Value} {w : World} (ra : RdH w a va) (rb : RdH w b vb) : Calls Try.prog 29 #[va, vb] w (ResH (bothO opP a b) w) := by
  by_cases hl : likeP a b
  · exact rmerge_like ra rb hl
  · rw [both_err hl]
    have kl := fun W (h : Below w.heap.size w W) => rlike_any (ra.below h) (rb.below h)
    rw [decide_eq_false hl] at kl
    have KL := Lib.hid kl
    obtain ⟨A1, A2, c1, c2, rfl, _⟩ := ra
    obtain ⟨A3, A4, c3, c4, rfl, _⟩ := rb
    clear kl hl
    unfold hV at KL ⊢
    go_enter Try.func29, Try.ntmps29
    go_wp2_with fail
    obtain ⟨W3, e3⟩ : ∃ W4, W4 = ((w.alloc (.cells #[.int .i64 a.kind, .int .i64 a.bins, .int .i64 a.classes, .slice A1 a.counts.length c1, .slice A2 a.moms.length c2] 36)).alloc (.cells #[.int .i64 b.kind, .int .i64 b.bins, .int .i64 b.classes, .slice A3 b.counts.length c3, .slice A4 b.moms.length c4] 36)).alloc (.cells #[.int .i64 0, .int .i64 0, .int .i64 0, .slice none 0 0, .slice none 0 0] 36) := ⟨_, rfl⟩
    rw [← e3]
    have X := BR.new _ _ _ _ _ _ _ _ _ _ _ _ e3
    clear e3
    refine (KL.out _ X.be).mono ?_
    rintro e w1 ⟨rfl, hb⟩
    replace X := X.below hb
    clear hb
    obtain ⟨⟨p0, p1, p2, p3, p4⟩, ⟨q0, q1, q2, q3, q4⟩, ⟨s0, s1, s2, s3, s4⟩, sf, z0, z1, z2⟩ := X.cells
    go_wp2
    refine bodyPost_ret (results_ct rfl _ _ (w.heap.size + 1 + 1) 36 _ _ rfl (set5 X.b2 _ _ _ _ _) Try.underlying36 rfl size_hist) rfl ?_
    exact ⟨_, rfl, HNew.zero _ _, below5 X.be (by omega) _ _ _ _ _⟩
theorem rmerge_any {a b : H} {va vb : Value} {w : World} (ra : RdH w a va) (rb : RdH w b vb) (_ : greatB a = false) : Calls Try.prog 29 #[va, vb] w (ResH (bothO opP a b) w) := rmerge_all ra rb
end Go.Proofs.Yteckbgpkoanhfaa.Hb

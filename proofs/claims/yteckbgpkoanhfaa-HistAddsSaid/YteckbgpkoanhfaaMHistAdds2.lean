/- Texts joined: the walks and the plain laws that the claim HistAdds rests on. -/
import Derived.Test.YteckbgpkoanhfaaMHistAdds1
section
/- The document's answer, layer 12: May, Right, plus, minus. -/
namespace Go.Proofs.Yteckbgpkoanhfaa.Hb
open Go.RowKit

set_option maxHeartbeats 1000000 in
theorem rmay_any (k b c : Int) (w : World) : Calls Try.prog 44 #[.int .i64 k, .int .i64 b, .int .i64 c] w fun e w' => e = .returned (.bool (mayB k b c)) ∧ w = w' := by
  by_cases h0 : k = 0
  · have k0 : (k == 0) = true := beq_iff_eq.2 h0
    go_enter Try.func44, Try.ntmps44
    go_wp2
    all_goals
      go_ret
      refine ⟨ret_bool ?_, rfl⟩
      unfold mayB mayP
      first
      | (refine (decide_eq_false ?_).symm; omega)
      | (refine (decide_eq_true ?_).symm; omega)
      | (refine decide_eq_decide.2 ?_; omega)
      | (rw [Bool.eq_iff_iff, beq_iff_eq, decide_eq_true_iff]; omega)
  · have k0 : (k == 0) = false := beq_eq_false_iff_ne.2 h0
    by_cases h1 : k = 1
    · have k1 : (k == 1) = true := beq_iff_eq.2 h1
      go_enter Try.func44, Try.ntmps44
      go_wp2
      all_goals
        go_ret
        refine ⟨ret_bool ?_, rfl⟩
        unfold mayB mayP
        first
        | (refine (decide_eq_false ?_).symm; omega)
        | (refine (decide_eq_true ?_).symm; omega)
        | (refine decide_eq_decide.2 ?_; omega)
        | (rw [Bool.eq_iff_iff, beq_iff_eq, decide_eq_true_iff]; omega)
    · have k1 : (k == 1) = false := beq_eq_false_iff_ne.2 h1
      go_enter Try.func44, Try.ntmps44
      go_wp2
      all_goals
        go_ret
        refine ⟨ret_bool ?_, rfl⟩
        unfold mayB mayP
        first
        | (refine (decide_eq_false ?_).symm; omega)
        | (refine (decide_eq_true ?_).symm; omega)
        | (refine decide_eq_decide.2 ?_; omega)
        | (rw [Bool.eq_iff_iff, beq_iff_eq, decide_eq_true_iff]; omega)

set_option maxHeartbeats 2000000 in
theorem rright_any (h : H) (A1 A2 : Option Addr) (c1 c2 : Nat) (w : World) (hl1 : h.counts.length ≤ 9223372036854775807) (hl2 : h.moms.length ≤ 9223372036854775807) :
    Calls Try.prog 32 #[hV h A1 A2 c1 c2] w fun e w' => e = .returned (.bool (rightB h)) ∧ Below w.heap.size w w' := by
  obtain ⟨k, b, c, cs, ms⟩ := h
  obtain ⟨n, hn⟩ : ∃ n, cs.length = n := ⟨_, rfl⟩
  obtain ⟨m, hm⟩ : ∃ m, ms.length = m := ⟨_, rfl⟩
  have hr : rightB ⟨k, b, c, cs, ms⟩ = decide (mayP k b c ∧ ((k = 0 ∧ (n : Int) = b * c ∧ m = 0) ∨ (¬ k = 0 ∧ n = 0 ∧ (m : Int) = b))) := by
    unfold rightB rightP; simp only [hn, hm]
  rw [hr]
  simp only [hV, hn, hm] at hl1 hl2 ⊢
  clear hr hn hm
  by_cases h0 : mayP k b c
  · have hm0 := rmay_any k b c
    rw [show mayB k b c = true from decide_eq_true h0] at hm0
    have HM := Lib.hid hm0
    clear hm0
    by_cases hk : k = 0
    · have hk' : (k == 0) = true := beq_iff_eq.2 hk
      obtain ⟨b1, b2, b3⟩ := h0
      have bc := bins_classes b1 b2 (show 2 ≤ c by omega) (show c ≤ 256 by omega)
      have HK := Lib.hid hk
      have H3 := Lib.hid b3
      clear hk b3
      obtain ⟨bc1, bc2⟩ := bc
      go_enter Try.func32, Try.ntmps32
      go_wp2_with (go_at_call 44; refine (HM.out _).mono ?_; rintro e w1 ⟨rfl, rfl⟩)
      all_goals
        go_ret
        refine ⟨ret_bool ?_, (Below.refl _ _).alloc (Nat.le_refl _) _⟩
        have e1 := HK.out
        have e2 := H3.out
        unfold mayP
        first
        | (refine (decide_eq_false ?_).symm; omega)
        | (refine (decide_eq_true ?_).symm; omega)
        | (rw [Bool.eq_iff_iff, beq_iff_eq, decide_eq_true_iff]; omega)
    · have hk' : (k == 0) = false := beq_eq_false_iff_ne.2 hk
      have HK := Lib.hid hk
      have H0 := Lib.hid h0
      clear hk h0
      go_enter Try.func32, Try.ntmps32
      go_wp2_with (go_at_call 44; refine (HM.out _).mono ?_; rintro e w1 ⟨rfl, rfl⟩)
      all_goals
        go_ret
        refine ⟨ret_bool ?_, (Below.refl _ _).alloc (Nat.le_refl _) _⟩
        have e1 := HK.out
        have e2 := H0.out
        unfold mayP at e2 ⊢
        first
        | (refine (decide_eq_false ?_).symm; omega)
        | (refine (decide_eq_true ?_).symm; omega)
        | (rw [Bool.eq_iff_iff, beq_iff_eq, decide_eq_true_iff]; omega)
  · have hm0 := rmay_any k b c
    rw [show mayB k b c = false from decide_eq_false h0] at hm0
    have HM := Lib.hid hm0
    rw [show decide (mayP k b c ∧ ((k = 0 ∧ (n : Int) = b * c ∧ m = 0) ∨ (¬ k = 0 ∧ n = 0 ∧ (m : Int) = b))) = false from decide_eq_false (fun h1 => h0 h1.1)]
    clear hm0 h0
    go_enter Try.func32, Try.ntmps32
    go_wp2_with (go_at_call 44; refine (HM.out _).mono ?_; rintro e w1 ⟨rfl, rfl⟩)
    go_ret
    exact ⟨rfl, (Below.refl _ _).alloc (Nat.le_refl _) _⟩


theorem cells3' {w : World} {g : Nat} {a b c : Value} {t : TypeId} (h : Blk w g #[a, b, c] t) :
    w.cell? ⟨g, 0, none⟩ = some a ∧ w.cell? ⟨g, 1, none⟩ = some b ∧ w.cell? ⟨g, 2, none⟩ = some c := ⟨h.cell 0, h.cell 1, h.cell 2⟩
theorem set3' {W : World} {g : Nat} {x0 x1 x2 : Value} {t : TypeId} (h : Blk W g #[x0, x1, x2] t) (a b c : Value) :
    Blk (((W.setCell ⟨g, 0, none⟩ a).setCell ⟨g, 1, none⟩ b).setCell ⟨g, 2, none⟩ c) g #[a, b, c] t := ((h.set 0 a).set 1 b).set 2 c
theorem below3' {B : Nat} {w W : World} {g : Nat} (h : Below B w W) (hg : B ≤ g) (a b c : Value) :
    Below B w (((W.setCell ⟨g, 0, none⟩ a).setCell ⟨g, 1, none⟩ b).setCell ⟨g, 2, none⟩ c) :=
  ((h.setCell (p := ⟨g, 0, none⟩) hg a).setCell (p := ⟨g, 1, none⟩) hg b).setCell (p := ⟨g, 2, none⟩) hg c
theorem size_mom' : (Try.prog.info? 52).map (·.size) = some 3 := by kernel_rfl
/-- Boxes of two moments, and of the result. -/
structure B3 (n : Nat) (x y : Mom) (w W : World) : Prop where
  b0 : Blk W n #[.int .i64 x.c, .int .i64 x.s, .int .i64 x.q] 52
  b1 : Blk W (n + 1) #[.int .i64 y.c, .int .i64 y.s, .int .i64 y.q] 52
  b2 : Blk W (n + 1 + 1) #[.int .i64 0, .int .i64 0, .int .i64 0] 52
  be : Below n w W
theorem B3.below {n : Nat} {x y : Mom} {w W W1 : World} (h : B3 n x y w W) (hb : Below W.heap.size W W1) : B3 n x y w W1 :=
  ⟨h.b0.below hb, h.b1.below hb, h.b2.below hb, h.be.trans (hb.mono (by have := h.b0.lt; omega))⟩
theorem B3.mk0 (x y : Mom) (w W : World) (e : W = ((w.alloc (.cells #[.int .i64 x.c, .int .i64 x.s, .int .i64 x.q] 52)).alloc (.cells #[.int .i64 y.c, .int .i64 y.s, .int .i64 y.q] 52)).alloc (.cells #[.int .i64 0, .int .i64 0, .int .i64 0] 52)) : B3 w.heap.size x y w W := by
  subst e
  refine ⟨?_, ?_, ?_, ?_⟩
  · exact ((Blk.new w _ _).below ((Below.refl _ _).alloc (Nat.le_refl _) _)).below ((Below.refl _ _).alloc (Nat.le_refl _) _)
  · have := (Blk.new (w.alloc (.cells #[.int .i64 x.c, .int .i64 x.s, .int .i64 x.q] 52)) #[.int .i64 y.c, .int .i64 y.s, .int .i64 y.q] 52).below ((Below.refl _ _).alloc (Nat.le_refl _) (.cells #[.int .i64 0, .int .i64 0, .int .i64 0] 52))
    simpa using this
  · have := Blk.new ((w.alloc (.cells #[.int .i64 x.c, .int .i64 x.s, .int .i64 x.q] 52)).alloc (.cells #[.int .i64 y.c, .int .i64 y.s, .int .i64 y.q] 52)) #[.int .i64 0, .int .i64 0, .int .i64 0] 52
    simpa using this
  · exact (((Below.refl _ w).alloc (Nat.le_refl _) _).alloc (by simp) _).alloc (by simp; omega) _
theorem B3.cells {n : Nat} {x y : Mom} {w W : World} (h : B3 n x y w W) :
    (W.cell? ⟨n, 0, none⟩ = some (.int .i64 x.c) ∧ W.cell? ⟨n, 1, none⟩ = some (.int .i64 x.s) ∧ W.cell? ⟨n, 2, none⟩ = some (.int .i64 x.q)) ∧
    (W.cell? ⟨n + 1, 0, none⟩ = some (.int .i64 y.c) ∧ W.cell? ⟨n + 1, 1, none⟩ = some (.int .i64 y.s) ∧ W.cell? ⟨n + 1, 2, none⟩ = some (.int .i64 y.q)) ∧
    (W.cell? ⟨n + 1 + 1, 0, none⟩ = some (.int .i64 0) ∧ W.cell? ⟨n + 1 + 1, 1, none⟩ = some (.int .i64 0) ∧ W.cell? ⟨n + 1 + 1, 2, none⟩ = some (.int .i64 0)) ∧ (∀ i, W.frozen? ⟨n + 1 + 1, i, none⟩ = false) :=
  ⟨cells3' h.b0, cells3' h.b1, cells3' h.b2, h.b2.frozen⟩
theorem momP_1 {x y : Mom} (h : lim (x.c + y.c) = none) : momO opP x y = .error 6 := by simp [momO, opP, h]
theorem momP_2 {x y : Mom} {c : Int} (h : lim (x.c + y.c) = some c) (h2 : lim (x.s + y.s) = none) : momO opP x y = .error 6 := by simp [momO, opP, h, h2]
theorem momP_3 {x y : Mom} {c s : Int} (h : lim (x.c + y.c) = some c) (h2 : lim (x.s + y.s) = some s) (h3 : lim (x.q + y.q) = none) : momO opP x y = .error 6 := by simp [momO, opP, h, h2, h3]
theorem momP_4 {x y : Mom} {c s q : Int} (h : lim (x.c + y.c) = some c) (h2 : lim (x.s + y.s) = some s) (h3 : lim (x.q + y.q) = some q) : momO opP x y = .ok ⟨c, s, q⟩ := by simp [momO, opP, h, h2, h3]
set_option maxRecDepth 100000 in
set_option maxHeartbeats 4000000 in
theorem rplusM_any (x y : Mom) (hx : x.ok) (hy : y.ok) (w : World) : Calls Try.prog 51 #[momV x, momV y] w fun e w' => e = .returned (momE (momO opP x y)) ∧ Below w.heap.size w w' := by
  have k1 := fun w => rplus_any x.c y.c hx.1 hy.1 w
  have k2 := fun w => rplus_any x.s y.s hx.2.1 hy.2.1 w
  have k3 := fun w => rplus_any x.q y.q hx.2.2 hy.2.2 w
  unfold RefOp at k1 k2 k3
  have KB := Lib.hid (B3.mk0 x y w)
  have e6 : ((6 : Int) != 0) = true := rfl
  have e0 : ((0 : Int) != 0) = false := rfl
  clear hx hy
  cases h1 : lim (x.c + y.c) with
  | none =>
    rw [h1] at k1
    rw [momP_1 h1]
    have K1 := Lib.hid k1
    clear k1 k2 k3
    unfold momV
    go_enter Try.func51, Try.ntmps51
    go_wp2_with fail
    obtain ⟨W3, e3⟩ : ∃ W3, W3 = ((w.alloc (.cells #[.int .i64 x.c, .int .i64 x.s, .int .i64 x.q] 52)).alloc (.cells #[.int .i64 y.c, .int .i64 y.s, .int .i64 y.q] 52)).alloc (.cells #[.int .i64 0, .int .i64 0, .int .i64 0] 52) := ⟨_, rfl⟩
    rw [← e3]
    have X := KB.out W3 e3
    clear e3
    refine (K1.out _).mono ?_
    rintro e w1 ⟨rfl, hb⟩
    simp only [res]
    replace X := X.below hb
    clear hb
    obtain ⟨⟨a0, a1, a2⟩, ⟨b0, b1, b2⟩, ⟨r0, r1, r2⟩, rf⟩ := X.cells
    have L := X.b2.lt
    have L1 : w.heap.size + 1 < w1.heap.size := by omega
    have L2 : w.heap.size < w1.heap.size := by omega
    go_wp2_with fail
    refine bodyPost_ret (results_ct rfl _ _ (w.heap.size + 1 + 1) 52 _ _ rfl (set3' X.b2 _ _ _) Try.underlying52 rfl size_mom') rfl ?_
    exact ⟨rfl, below3' X.be (by omega) _ _ _⟩
  | some c =>
    rw [h1] at k1
    cases h2 : lim (x.s + y.s) with
    | none =>
      rw [h2] at k2
      rw [momP_2 h1 h2]
      have K1 := Lib.hid k1
      have K2 := Lib.hid k2
      clear k1 k2 k3
      unfold momV
      go_enter Try.func51, Try.ntmps51
      go_wp2_with fail
      obtain ⟨W3, e3⟩ : ∃ W3, W3 = ((w.alloc (.cells #[.int .i64 x.c, .int .i64 x.s, .int .i64 x.q] 52)).alloc (.cells #[.int .i64 y.c, .int .i64 y.s, .int .i64 y.q] 52)).alloc (.cells #[.int .i64 0, .int .i64 0, .int .i64 0] 52) := ⟨_, rfl⟩
      rw [← e3]
      have X := KB.out W3 e3
      clear e3
      refine (K1.out _).mono ?_
      rintro e w1 ⟨rfl, hb⟩
      simp only [res]
      replace X := X.below hb
      clear hb
      obtain ⟨⟨a0, a1, a2⟩, ⟨b0, b1, b2⟩, ⟨r0, r1, r2⟩, rf⟩ := X.cells
      have L := X.b2.lt
      have L1 : w.heap.size + 1 < w1.heap.size := by omega
      have L2 : w.heap.size < w1.heap.size := by omega
      go_wp2_with fail
      clear a0 a1 a2 b0 b1 b2 r0 r1 r2 rf L L1 L2
      refine (K2.out _).mono ?_
      rintro e w2 ⟨rfl, hb⟩
      simp only [res]
      replace X := X.below hb
      clear hb
      obtain ⟨⟨a0, a1, a2⟩, ⟨b0, b1, b2⟩, ⟨r0, r1, r2⟩, rf⟩ := X.cells
      have L := X.b2.lt
      have L1 : w.heap.size + 1 < w2.heap.size := by omega
      have L2 : w.heap.size < w2.heap.size := by omega
      go_wp2_with fail
      refine bodyPost_ret (results_ct rfl _ _ (w.heap.size + 1 + 1) 52 _ _ rfl (set3' X.b2 _ _ _) Try.underlying52 rfl size_mom') rfl ?_
      exact ⟨rfl, below3' X.be (by omega) _ _ _⟩
    | some s =>
      rw [h2] at k2
      cases h3 : lim (x.q + y.q) with
      | none =>
        rw [h3] at k3
        rw [momP_3 h1 h2 h3]
        have K1 := Lib.hid k1
        have K2 := Lib.hid k2
        have K3 := Lib.hid k3
        clear k1 k2 k3
        unfold momV
        go_enter Try.func51, Try.ntmps51
        go_wp2_with fail
        obtain ⟨W3, e3⟩ : ∃ W3, W3 = ((w.alloc (.cells #[.int .i64 x.c, .int .i64 x.s, .int .i64 x.q] 52)).alloc (.cells #[.int .i64 y.c, .int .i64 y.s, .int .i64 y.q] 52)).alloc (.cells #[.int .i64 0, .int .i64 0, .int .i64 0] 52) := ⟨_, rfl⟩
        rw [← e3]
        have X := KB.out W3 e3
        clear e3
        refine (K1.out _).mono ?_
        rintro e w1 ⟨rfl, hb⟩
        simp only [res]
        replace X := X.below hb
        clear hb
        obtain ⟨⟨a0, a1, a2⟩, ⟨b0, b1, b2⟩, ⟨r0, r1, r2⟩, rf⟩ := X.cells
        have L := X.b2.lt
        have L1 : w.heap.size + 1 < w1.heap.size := by omega
        have L2 : w.heap.size < w1.heap.size := by omega
        go_wp2_with fail
        clear a0 a1 a2 b0 b1 b2 r0 r1 r2 rf L L1 L2
        refine (K2.out _).mono ?_
        rintro e w2 ⟨rfl, hb⟩
        simp only [res]
        replace X := X.below hb
        clear hb
        obtain ⟨⟨a0, a1, a2⟩, ⟨b0, b1, b2⟩, ⟨r0, r1, r2⟩, rf⟩ := X.cells
        have L := X.b2.lt
        have L1 : w.heap.size + 1 < w2.heap.size := by omega
        have L2 : w.heap.size < w2.heap.size := by omega
        go_wp2_with fail
        clear a0 a1 a2 b0 b1 b2 r0 r1 r2 rf L L1 L2
        refine (K3.out _).mono ?_
        rintro e w3 ⟨rfl, hb⟩
        simp only [res]
        replace X := X.below hb
        clear hb
        obtain ⟨⟨a0, a1, a2⟩, ⟨b0, b1, b2⟩, ⟨r0, r1, r2⟩, rf⟩ := X.cells
        have L := X.b2.lt
        have L1 : w.heap.size + 1 < w3.heap.size := by omega
        have L2 : w.heap.size < w3.heap.size := by omega
        go_wp2_with fail
        refine bodyPost_ret (results_ct rfl _ _ (w.heap.size + 1 + 1) 52 _ _ rfl (set3' X.b2 _ _ _) Try.underlying52 rfl size_mom') rfl ?_
        exact ⟨rfl, below3' X.be (by omega) _ _ _⟩
      | some q =>
        rw [h3] at k3
        rw [momP_4 h1 h2 h3]
        have K1 := Lib.hid k1
        have K2 := Lib.hid k2
        have K3 := Lib.hid k3
        clear k1 k2 k3
        unfold momV
        go_enter Try.func51, Try.ntmps51
        go_wp2_with fail
        obtain ⟨W3, e3⟩ : ∃ W3, W3 = ((w.alloc (.cells #[.int .i64 x.c, .int .i64 x.s, .int .i64 x.q] 52)).alloc (.cells #[.int .i64 y.c, .int .i64 y.s, .int .i64 y.q] 52)).alloc (.cells #[.int .i64 0, .int .i64 0, .int .i64 0] 52) := ⟨_, rfl⟩
        rw [← e3]
        have X := KB.out W3 e3
        clear e3
        refine (K1.out _).mono ?_
        rintro e w1 ⟨rfl, hb⟩
        simp only [res]
        replace X := X.below hb
        clear hb
        obtain ⟨⟨a0, a1, a2⟩, ⟨b0, b1, b2⟩, ⟨r0, r1, r2⟩, rf⟩ := X.cells
        have L := X.b2.lt
        have L1 : w.heap.size + 1 < w1.heap.size := by omega
        have L2 : w.heap.size < w1.heap.size := by omega
        go_wp2_with fail
        clear a0 a1 a2 b0 b1 b2 r0 r1 r2 rf L L1 L2
        refine (K2.out _).mono ?_
        rintro e w2 ⟨rfl, hb⟩
        simp only [res]
        replace X := X.below hb
        clear hb
        obtain ⟨⟨a0, a1, a2⟩, ⟨b0, b1, b2⟩, ⟨r0, r1, r2⟩, rf⟩ := X.cells
        have L := X.b2.lt
        have L1 : w.heap.size + 1 < w2.heap.size := by omega
        have L2 : w.heap.size < w2.heap.size := by omega
        go_wp2_with fail
        clear a0 a1 a2 b0 b1 b2 r0 r1 r2 rf L L1 L2
        refine (K3.out _).mono ?_
        rintro e w3 ⟨rfl, hb⟩
        simp only [res]
        replace X := X.below hb
        clear hb
        obtain ⟨⟨a0, a1, a2⟩, ⟨b0, b1, b2⟩, ⟨r0, r1, r2⟩, rf⟩ := X.cells
        have L := X.b2.lt
        have L1 : w.heap.size + 1 < w3.heap.size := by omega
        have L2 : w.heap.size < w3.heap.size := by omega
        go_wp2_with fail
        refine bodyPost_ret (results_ct rfl _ _ (w.heap.size + 1 + 1) 52 _ _ rfl (set3' X.b2 _ _ _) Try.underlying52 rfl size_mom') rfl ?_
        exact ⟨rfl, below3' X.be (by omega) _ _ _⟩
theorem momM_1 {x y : Mom} (h : lim (x.c - y.c) = none) : momO opM x y = .error 6 := by simp [momO, opM, h]
theorem momM_2 {x y : Mom} {c : Int} (h : lim (x.c - y.c) = some c) (hc : c < 0) : momO opM x y = .error 5 := by simp [momO, opM, h, hc]
theorem momM_3 {x y : Mom} {c : Int} (h : lim (x.c - y.c) = some c) (hc : ¬ c < 0) (h2 : lim (x.s - y.s) = none) : momO opM x y = .error 6 := by simp [momO, opM, h, hc, h2]
theorem momM_4 {x y : Mom} {c s : Int} (h : lim (x.c - y.c) = some c) (hc : ¬ c < 0) (h2 : lim (x.s - y.s) = some s) (h3 : lim (x.q - y.q) = none) : momO opM x y = .error 6 := by simp [momO, opM, h, hc, h2, h3]
theorem momM_5 {x y : Mom} {c s q : Int} (h : lim (x.c - y.c) = some c) (hc : ¬ c < 0) (h2 : lim (x.s - y.s) = some s) (h3 : lim (x.q - y.q) = some q) (hq : q < 0) : momO opM x y = .error 5 := by simp [momO, opM, h, hc, h2, h3, hq]
theorem momM_6 {x y : Mom} {c s q : Int} (h : lim (x.c - y.c) = some c) (hc : ¬ c < 0) (h2 : lim (x.s - y.s) = some s) (h3 : lim (x.q - y.q) = some q) (hq : ¬ q < 0) : momO opM x y = .ok ⟨c, s, q⟩ := by simp [momO, opM, h, hc, h2, h3, hq]
set_option maxRecDepth 100000 in
set_option maxHeartbeats 4000000 in
theorem rminusM_any (x y : Mom) (hx : x.ok) (hy : y.ok) (w : World) : Calls Try.prog 56 #[momV x, momV y] w fun e w' => e = .returned (momE (momO opM x y)) ∧ Below w.heap.size w w' := by
  have k1 := fun w => rminus_any x.c y.c hx.1 hy.1 w
  have k2 := fun w => rminus_any x.s y.s hx.2.1 hy.2.1 w
  have k3 := fun w => rminus_any x.q y.q hx.2.2 hy.2.2 w
  unfold RefOp at k1 k2 k3
  have KB := Lib.hid (B3.mk0 x y w)
  have e6 : ((6 : Int) != 0) = true := rfl
  have e0 : ((0 : Int) != 0) = false := rfl
  clear hx hy
  cases h1 : lim (x.c - y.c) with
  | none =>
    rw [h1] at k1
    rw [momM_1 h1]
    have K1 := Lib.hid k1
    clear k1 k2 k3
    unfold momV
    go_enter Try.func56, Try.ntmps56
    go_wp2_with fail
    obtain ⟨W3, e3⟩ : ∃ W3, W3 = ((w.alloc (.cells #[.int .i64 x.c, .int .i64 x.s, .int .i64 x.q] 52)).alloc (.cells #[.int .i64 y.c, .int .i64 y.s, .int .i64 y.q] 52)).alloc (.cells #[.int .i64 0, .int .i64 0, .int .i64 0] 52) := ⟨_, rfl⟩
    rw [← e3]
    have X := KB.out W3 e3
    clear e3
    refine (K1.out _).mono ?_
    rintro e w1 ⟨rfl, hb⟩
    simp only [res]
    replace X := X.below hb
    clear hb
    obtain ⟨⟨a0, a1, a2⟩, ⟨b0, b1, b2⟩, ⟨r0, r1, r2⟩, rf⟩ := X.cells
    have L := X.b2.lt
    have L1 : w.heap.size + 1 < w1.heap.size := by omega
    have L2 : w.heap.size < w1.heap.size := by omega
    go_wp2_with fail
    refine bodyPost_ret (results_ct rfl _ _ (w.heap.size + 1 + 1) 52 _ _ rfl (set3' X.b2 _ _ _) Try.underlying52 rfl size_mom') rfl ?_
    exact ⟨rfl, below3' X.be (by omega) _ _ _⟩
  | some c =>
    rw [h1] at k1
    by_cases hc : c < 0
    · have dc : decide (c < 0) = true := decide_eq_true hc
      rw [momM_2 h1 hc]
      have K1 := Lib.hid k1
      clear k1 k2 k3
      unfold momV
      go_enter Try.func56, Try.ntmps56
      go_wp2_with fail
      obtain ⟨W3, e3⟩ : ∃ W3, W3 = ((w.alloc (.cells #[.int .i64 x.c, .int .i64 x.s, .int .i64 x.q] 52)).alloc (.cells #[.int .i64 y.c, .int .i64 y.s, .int .i64 y.q] 52)).alloc (.cells #[.int .i64 0, .int .i64 0, .int .i64 0] 52) := ⟨_, rfl⟩
      rw [← e3]
      have X := KB.out W3 e3
      clear e3
      refine (K1.out _).mono ?_
      rintro e w1 ⟨rfl, hb⟩
      simp only [res]
      replace X := X.below hb
      clear hb
      obtain ⟨⟨a0, a1, a2⟩, ⟨b0, b1, b2⟩, ⟨r0, r1, r2⟩, rf⟩ := X.cells
      have L := X.b2.lt
      have L1 : w.heap.size + 1 < w1.heap.size := by omega
      have L2 : w.heap.size < w1.heap.size := by omega
      go_wp2_with fail
      refine bodyPost_ret (results_ct rfl _ _ (w.heap.size + 1 + 1) 52 _ _ rfl (set3' X.b2 _ _ _) Try.underlying52 rfl size_mom') rfl ?_
      exact ⟨rfl, below3' X.be (by omega) _ _ _⟩
    · have dc : decide (c < 0) = false := decide_eq_false hc
      cases h2 : lim (x.s - y.s) with
      | none =>
        rw [h2] at k2
        rw [momM_3 h1 hc h2]
        have K1 := Lib.hid k1
        have K2 := Lib.hid k2
        clear k1 k2 k3
        unfold momV
        go_enter Try.func56, Try.ntmps56
        go_wp2_with fail
        obtain ⟨W3, e3⟩ : ∃ W3, W3 = ((w.alloc (.cells #[.int .i64 x.c, .int .i64 x.s, .int .i64 x.q] 52)).alloc (.cells #[.int .i64 y.c, .int .i64 y.s, .int .i64 y.q] 52)).alloc (.cells #[.int .i64 0, .int .i64 0, .int .i64 0] 52) := ⟨_, rfl⟩
        rw [← e3]
        have X := KB.out W3 e3
        clear e3
        refine (K1.out _).mono ?_
        rintro e w1 ⟨rfl, hb⟩
        simp only [res]
        replace X := X.below hb
        clear hb
        obtain ⟨⟨a0, a1, a2⟩, ⟨b0, b1, b2⟩, ⟨r0, r1, r2⟩, rf⟩ := X.cells
        have L := X.b2.lt
        have L1 : w.heap.size + 1 < w1.heap.size := by omega
        have L2 : w.heap.size < w1.heap.size := by omega
        go_wp2_with fail
        clear a0 a1 a2 b0 b1 b2 r0 r1 r2 rf L L1 L2
        refine (K2.out _).mono ?_
        rintro e w2 ⟨rfl, hb⟩
        simp only [res]
        replace X := X.below hb
        clear hb
        obtain ⟨⟨a0, a1, a2⟩, ⟨b0, b1, b2⟩, ⟨r0, r1, r2⟩, rf⟩ := X.cells
        have L := X.b2.lt
        have L1 : w.heap.size + 1 < w2.heap.size := by omega
        have L2 : w.heap.size < w2.heap.size := by omega
        go_wp2_with fail
        refine bodyPost_ret (results_ct rfl _ _ (w.heap.size + 1 + 1) 52 _ _ rfl (set3' X.b2 _ _ _) Try.underlying52 rfl size_mom') rfl ?_
        exact ⟨rfl, below3' X.be (by omega) _ _ _⟩
      | some s =>
        rw [h2] at k2
        cases h3 : lim (x.q - y.q) with
        | none =>
          rw [h3] at k3
          rw [momM_4 h1 hc h2 h3]
          have K1 := Lib.hid k1
          have K2 := Lib.hid k2
          have K3 := Lib.hid k3
          clear k1 k2 k3
          unfold momV
          go_enter Try.func56, Try.ntmps56
          go_wp2_with fail
          obtain ⟨W3, e3⟩ : ∃ W3, W3 = ((w.alloc (.cells #[.int .i64 x.c, .int .i64 x.s, .int .i64 x.q] 52)).alloc (.cells #[.int .i64 y.c, .int .i64 y.s, .int .i64 y.q] 52)).alloc (.cells #[.int .i64 0, .int .i64 0, .int .i64 0] 52) := ⟨_, rfl⟩
          rw [← e3]
          have X := KB.out W3 e3
          clear e3
          refine (K1.out _).mono ?_
          rintro e w1 ⟨rfl, hb⟩
          simp only [res]
          replace X := X.below hb
          clear hb
          obtain ⟨⟨a0, a1, a2⟩, ⟨b0, b1, b2⟩, ⟨r0, r1, r2⟩, rf⟩ := X.cells
          have L := X.b2.lt
          have L1 : w.heap.size + 1 < w1.heap.size := by omega
          have L2 : w.heap.size < w1.heap.size := by omega
          go_wp2_with fail
          clear a0 a1 a2 b0 b1 b2 r0 r1 r2 rf L L1 L2
          refine (K2.out _).mono ?_
          rintro e w2 ⟨rfl, hb⟩
          simp only [res]
          replace X := X.below hb
          clear hb
          obtain ⟨⟨a0, a1, a2⟩, ⟨b0, b1, b2⟩, ⟨r0, r1, r2⟩, rf⟩ := X.cells
          have L := X.b2.lt
          have L1 : w.heap.size + 1 < w2.heap.size := by omega
          have L2 : w.heap.size < w2.heap.size := by omega
          go_wp2_with fail
          clear a0 a1 a2 b0 b1 b2 r0 r1 r2 rf L L1 L2
          refine (K3.out _).mono ?_
          rintro e w3 ⟨rfl, hb⟩
          simp only [res]
          replace X := X.below hb
          clear hb
          obtain ⟨⟨a0, a1, a2⟩, ⟨b0, b1, b2⟩, ⟨r0, r1, r2⟩, rf⟩ := X.cells
          have L := X.b2.lt
          have L1 : w.heap.size + 1 < w3.heap.size := by omega
          have L2 : w.heap.size < w3.heap.size := by omega
          go_wp2_with fail
          refine bodyPost_ret (results_ct rfl _ _ (w.heap.size + 1 + 1) 52 _ _ rfl (set3' X.b2 _ _ _) Try.underlying52 rfl size_mom') rfl ?_
          exact ⟨rfl, below3' X.be (by omega) _ _ _⟩
        | some q =>
          rw [h3] at k3
          by_cases hq : q < 0
          · have dq : decide (q < 0) = true := decide_eq_true hq
            rw [momM_5 h1 hc h2 h3 hq]
            have K1 := Lib.hid k1
            have K2 := Lib.hid k2
            have K3 := Lib.hid k3
            clear k1 k2 k3
            unfold momV
            go_enter Try.func56, Try.ntmps56
            go_wp2_with fail
            obtain ⟨W3, e3⟩ : ∃ W3, W3 = ((w.alloc (.cells #[.int .i64 x.c, .int .i64 x.s, .int .i64 x.q] 52)).alloc (.cells #[.int .i64 y.c, .int .i64 y.s, .int .i64 y.q] 52)).alloc (.cells #[.int .i64 0, .int .i64 0, .int .i64 0] 52) := ⟨_, rfl⟩
            rw [← e3]
            have X := KB.out W3 e3
            clear e3
            refine (K1.out _).mono ?_
            rintro e w1 ⟨rfl, hb⟩
            simp only [res]
            replace X := X.below hb
            clear hb
            obtain ⟨⟨a0, a1, a2⟩, ⟨b0, b1, b2⟩, ⟨r0, r1, r2⟩, rf⟩ := X.cells
            have L := X.b2.lt
            have L1 : w.heap.size + 1 < w1.heap.size := by omega
            have L2 : w.heap.size < w1.heap.size := by omega
            go_wp2_with fail
            clear a0 a1 a2 b0 b1 b2 r0 r1 r2 rf L L1 L2
            refine (K2.out _).mono ?_
            rintro e w2 ⟨rfl, hb⟩
            simp only [res]
            replace X := X.below hb
            clear hb
            obtain ⟨⟨a0, a1, a2⟩, ⟨b0, b1, b2⟩, ⟨r0, r1, r2⟩, rf⟩ := X.cells
            have L := X.b2.lt
            have L1 : w.heap.size + 1 < w2.heap.size := by omega
            have L2 : w.heap.size < w2.heap.size := by omega
            go_wp2_with fail
            clear a0 a1 a2 b0 b1 b2 r0 r1 r2 rf L L1 L2
            refine (K3.out _).mono ?_
            rintro e w3 ⟨rfl, hb⟩
            simp only [res]
            replace X := X.below hb
            clear hb
            obtain ⟨⟨a0, a1, a2⟩, ⟨b0, b1, b2⟩, ⟨r0, r1, r2⟩, rf⟩ := X.cells
            have L := X.b2.lt
            have L1 : w.heap.size + 1 < w3.heap.size := by omega
            have L2 : w.heap.size < w3.heap.size := by omega
            go_wp2_with fail
            refine bodyPost_ret (results_ct rfl _ _ (w.heap.size + 1 + 1) 52 _ _ rfl (set3' X.b2 _ _ _) Try.underlying52 rfl size_mom') rfl ?_
            exact ⟨rfl, below3' X.be (by omega) _ _ _⟩
          · have dq : decide (q < 0) = false := decide_eq_false hq
            rw [momM_6 h1 hc h2 h3 hq]
            have K1 := Lib.hid k1
            have K2 := Lib.hid k2
            have K3 := Lib.hid k3
            clear k1 k2 k3
            unfold momV
            go_enter Try.func56, Try.ntmps56
            go_wp2_with fail
            obtain ⟨W3, e3⟩ : ∃ W3, W3 = ((w.alloc (.cells #[.int .i64 x.c, .int .i64 x.s, .int .i64 x.q] 52)).alloc (.cells #[.int .i64 y.c, .int .i64 y.s, .int .i64 y.q] 52)).alloc (.cells #[.int .i64 0, .int .i64 0, .int .i64 0] 52) := ⟨_, rfl⟩
            rw [← e3]
            have X := KB.out W3 e3
            clear e3
            refine (K1.out _).mono ?_
            rintro e w1 ⟨rfl, hb⟩
            simp only [res]
            replace X := X.below hb
            clear hb
            obtain ⟨⟨a0, a1, a2⟩, ⟨b0, b1, b2⟩, ⟨r0, r1, r2⟩, rf⟩ := X.cells
            have L := X.b2.lt
            have L1 : w.heap.size + 1 < w1.heap.size := by omega
            have L2 : w.heap.size < w1.heap.size := by omega
            go_wp2_with fail
            clear a0 a1 a2 b0 b1 b2 r0 r1 r2 rf L L1 L2
            refine (K2.out _).mono ?_
            rintro e w2 ⟨rfl, hb⟩
            simp only [res]
            replace X := X.below hb
            clear hb
            obtain ⟨⟨a0, a1, a2⟩, ⟨b0, b1, b2⟩, ⟨r0, r1, r2⟩, rf⟩ := X.cells
            have L := X.b2.lt
            have L1 : w.heap.size + 1 < w2.heap.size := by omega
            have L2 : w.heap.size < w2.heap.size := by omega
            go_wp2_with fail
            clear a0 a1 a2 b0 b1 b2 r0 r1 r2 rf L L1 L2
            refine (K3.out _).mono ?_
            rintro e w3 ⟨rfl, hb⟩
            simp only [res]
            replace X := X.below hb
            clear hb
            obtain ⟨⟨a0, a1, a2⟩, ⟨b0, b1, b2⟩, ⟨r0, r1, r2⟩, rf⟩ := X.cells
            have L := X.b2.lt
            have L1 : w.heap.size + 1 < w3.heap.size := by omega
            have L2 : w.heap.size < w3.heap.size := by omega
            go_wp2_with fail
            refine bodyPost_ret (results_ct rfl _ _ (w.heap.size + 1 + 1) 52 _ _ rfl (set3' X.b2 _ _ _) Try.underlying52 rfl size_mom') rfl ?_
            exact ⟨rfl, below3' X.be (by omega) _ _ _⟩
end Go.Proofs.Yteckbgpkoanhfaa.Hb
end

section
/- Contracts by hand, as the printed texts use them: the document's answer, layers 4 and 12. -/
namespace Go.Proofs.Yteckbgpkoanhfaa.Pr
set_option linter.unusedVariables false
open Go.RowKit Go.Proofs.YteckbgpkoanhfaaW.PrintWords Go.Proofs.YteckbgpkoanhfaaW.PrintLast Go.Proofs.YteckbgpkoanhfaaW.PrintMore

def pairO : Option Int → Int × Int
  | some x => (x, 0)
  | none => (0, 6)
theorem res_pair (v : Option Int) : Hb.res v = .tuple #[.int .i64 (pairO v).1, .int .i64 (pairO v).2] := by cases v <;> rfl
def inB (x : Int) : Bool := decide (Hb.inR x)
theorem inB_is {x : Int} (h : inB x = true) : Hb.inR x := of_decide_eq_true h
def op2 (g : Int → Int → Int) (a b : Int) : Option (Int × Int) := if (inB a && inB b) = true then some (pairO (Hb.lim (g a b))) else none
theorem op2_is {g : Int → Int → Int} {a b r1 r2 : Int} (h : op2 g a b = some (r1, r2)) : Hb.inR a ∧ Hb.inR b ∧ pairO (Hb.lim (g a b)) = (r1, r2) := by
  unfold op2 at h
  split at h
  · rename_i h1
    rw [Bool.and_eq_true] at h1
    exact ⟨inB_is h1.1, inB_is h1.2, by simpa using h⟩
  · cases h
theorem op2_some {g : Int → Int → Int} {a b : Int} (ha : Hb.inR a) (hb : Hb.inR b) : op2 g a b = some (pairO (Hb.lim (g a b))) := by
  unfold op2
  rw [if_pos]
  simp [inB, ha, hb]
theorem op2_ref {g : Int → Int → Int} {f : Nat} (hr : ∀ a b, Hb.inR a → Hb.inR b → ∀ w, Hb.RefOp f a b (Hb.lim (g a b)) w) {a b r1 r2 : Int} (w : World) (h : op2 g a b = some (r1, r2)) :
    Calls Try.prog f #[.int .i64 a, .int .i64 b] w fun e w' => e = .returned (.tuple #[.int .i64 r1, .int .i64 r2]) ∧ Below w.heap.size w w' := by
  obtain ⟨ha, hb, hp⟩ := op2_is h
  refine (hr a b ha hb w).mono ?_
  rintro e w' ⟨rfl, hbe⟩
  refine ⟨?_, hbe⟩
  rw [res_pair, hp]
def hornbeamref04_Plus.f (a0 : Int) (a1 : Int) : Option (Int × Int) := op2 (· + ·) a0 a1
theorem hornbeamref04_Plus.calls (a0 : Int) (a1 : Int) (r1 : Int) (r2 : Int) (w : World) (h : hornbeamref04_Plus.f a0 a1 = some (r1, r2)) :
    Calls Try.prog 49 #[.int .i64 a0, .int .i64 a1] w fun e w' => e = .returned (.tuple #[.int .i64 r1, .int .i64 r2]) ∧ Below w.heap.size w w' :=
  op2_ref (fun a b ha hb w => Hb.rplus_any a b ha hb w) w h
def hornbeamref04_Minus.f (a0 : Int) (a1 : Int) : Option (Int × Int) := op2 (· - ·) a0 a1
theorem hornbeamref04_Minus.calls (a0 : Int) (a1 : Int) (r1 : Int) (r2 : Int) (w : World) (h : hornbeamref04_Minus.f a0 a1 = some (r1, r2)) :
    Calls Try.prog 55 #[.int .i64 a0, .int .i64 a1] w fun e w' => e = .returned (.tuple #[.int .i64 r1, .int .i64 r2]) ∧ Below w.heap.size w w' :=
  op2_ref (fun a b ha hb w => Hb.rminus_any a b ha hb w) w h
def hornbeamref04_Times64.f (a0 : Int) (a1 : Int) : Option (Int × Int) := op2 (· * ·) a0 a1
theorem hornbeamref04_Times64.calls (a0 : Int) (a1 : Int) (r1 : Int) (r2 : Int) (w : World) (h : hornbeamref04_Times64.f a0 a1 = some (r1, r2)) :
    Calls Try.prog 50 #[.int .i64 a0, .int .i64 a1] w fun e w' => e = .returned (.tuple #[.int .i64 r1, .int .i64 r2]) ∧ Below w.heap.size w w' :=
  op2_ref (fun a b ha hb w => Hb.rtimes_any a b ha hb w) w h

def momR (r : Except Int Hb.Mom) : Int × Int × Int × Int := ((Hb.valO Hb.m0 r).c, (Hb.valO Hb.m0 r).s, (Hb.valO Hb.m0 r).q, Hb.errO r)
theorem momE_R (r : Except Int Hb.Mom) : Hb.momE r = .tuple #[.agg #[.int .i64 (momR r).1, .int .i64 (momR r).2.1, .int .i64 (momR r).2.2.1], .int .i64 (momR r).2.2.2] := rfl
def momB (m : Hb.Mom) : Bool := inB m.c && (inB m.s && inB m.q)
theorem momB_is {m : Hb.Mom} (h : momB m = true) : m.ok := by
  unfold momB at h
  simp only [Bool.and_eq_true] at h
  exact ⟨inB_is h.1, inB_is h.2.1, inB_is h.2.2⟩
theorem momB_of {m : Hb.Mom} (h : m.ok) : momB m = true := by
  unfold momB inB
  simp [h.1, h.2.1, h.2.2]
def hornbeamref12_plus.f (a0_0 : Int) (a0_1 : Int) (a0_2 : Int) (a1_0 : Int) (a1_1 : Int) (a1_2 : Int) : Option (Int × Int × Int × Int) :=
  if (momB ⟨a0_0, a0_1, a0_2⟩ && momB ⟨a1_0, a1_1, a1_2⟩) = true then some (momR (Hb.momO Hb.opP ⟨a0_0, a0_1, a0_2⟩ ⟨a1_0, a1_1, a1_2⟩)) else none
theorem hornbeamref12_plus.calls (a0_0 : Int) (a0_1 : Int) (a0_2 : Int) (a1_0 : Int) (a1_1 : Int) (a1_2 : Int) (r1 : Int) (r2 : Int) (r3 : Int) (r4 : Int) (w : World) (h : hornbeamref12_plus.f a0_0 a0_1 a0_2 a1_0 a1_1 a1_2 = some (r1, r2, r3, r4)) :
    Calls Try.prog 51 #[.agg #[.int .i64 a0_0, .int .i64 a0_1, .int .i64 a0_2], .agg #[.int .i64 a1_0, .int .i64 a1_1, .int .i64 a1_2]] w fun e w' => e = .returned (.tuple #[.agg #[.int .i64 r1, .int .i64 r2, .int .i64 r3], .int .i64 r4]) ∧ Below w.heap.size w w' := by
  unfold hornbeamref12_plus.f at h
  split at h
  · rename_i h1
    rw [Bool.and_eq_true] at h1
    refine (Hb.rplusM_any ⟨a0_0, a0_1, a0_2⟩ ⟨a1_0, a1_1, a1_2⟩ (momB_is h1.1) (momB_is h1.2) w).mono ?_
    rintro e w' ⟨rfl, hb⟩
    refine ⟨?_, hb⟩
    simp only [Option.some.injEq] at h
    rw [momE_R, h]
  · cases h
theorem plus12_some {x y : Hb.Mom} (hx : x.ok) (hy : y.ok) : hornbeamref12_plus.f x.c x.s x.q y.c y.s y.q = some (momR (Hb.momO Hb.opP x y)) := by
  unfold hornbeamref12_plus.f
  rw [if_pos]
  rw [Bool.and_eq_true]
  exact ⟨momB_of hx, momB_of hy⟩

def toM (x : S52) : Hb.Mom := ⟨x.f0, x.f1, x.f2⟩
theorem rdM_of_C {w : World} {A : Option Addr} {n : Nat} {l : List S52} (h : Kd.C k52 w A n l) (hr : ∀ x ∈ l, (toM x).ok) : Hb.RdM w A (l.map toM) := by
  refine ⟨fun x hx => ?_, ?_⟩
  · obtain ⟨y, hy, rfl⟩ := List.mem_map.1 hx
    exact hr y hy
  · by_cases h0 : l = []
    · subst h0; exact .inl rfl
    · have hl : 0 < l.length := List.length_pos_iff.2 h0
      have hn := h.1
      obtain ⟨ad, hA, _⟩ := at_T52 h 0 (by omega) (by omega)
      refine .inr ⟨ad, hA, fun i hi => ?_⟩
      rw [List.length_map] at hi
      obtain ⟨ad', hA', c1, c2, c3⟩ := at_T52 h i (by omega) (by omega)
      obtain rfl : ad = ad' := by rw [hA] at hA'; exact Option.some.inj hA'
      rw [Int.toNat_natCast] at c1 c2 c3
      have e : Hb.mAt (l.map toM) i = toM (rd_T52 l i) := by
        simp [Hb.mAt, rd_T52, List.getD_eq_getElem?_getD, hi]
      rw [e]
      exact ⟨c1, c2, c3⟩
def hOf (a0 a1 a2 : Int) (l3 : List Int) (l4 : List S52) : Hb.H := ⟨a0, a1, a2, l3, l4.map toM⟩
def hornbeamref12_Right.f (a0_0 : Int) (a0_1 : Int) (a0_2 : Int) (l0_3 : List Int) (l0_4 : List (S52)) : Option (Bool) := some (Hb.rightB (hOf a0_0 a0_1 a0_2 l0_3 l0_4))
theorem hornbeamref12_Right.calls (a0_0 : Int) (a0_1 : Int) (a0_2 : Int) (A0_3 : Option Addr) (c0_3 : Nat) (l0_3 : List Int) (A0_4 : Option Addr) (c0_4 : Nat) (l0_4 : List (S52)) (r : Bool) (w : World) (hr0_3 : Kd.C (Kd.int .i64) w A0_3 l0_3.length l0_3) (hc0_3 : l0_3.length ≤ c0_3) (hr0_4 : Kd.C k52 w A0_4 l0_4.length l0_4) (hc0_4 : l0_4.length ≤ c0_4) (h : hornbeamref12_Right.f a0_0 a0_1 a0_2 l0_3 l0_4 = some r) :
    Calls Try.prog 32 #[.agg #[.int .i64 a0_0, .int .i64 a0_1, .int .i64 a0_2, .slice A0_3 l0_3.length c0_3, .slice A0_4 l0_4.length c0_4]] w fun e w' => e = .returned (.bool r) ∧ Below w.heap.size w w' := by
  have k := Hb.rright_any (hOf a0_0 a0_1 a0_2 l0_3 l0_4) A0_3 A0_4 c0_3 c0_4 w (Hy.len_of_C hr0_3) (by show (l0_4.map toM).length ≤ _; rw [List.length_map]; exact Hy.len_of_C hr0_4)
  rw [Option.some.inj h] at k
  have e : Hb.hV (hOf a0_0 a0_1 a0_2 l0_3 l0_4) A0_3 A0_4 c0_3 c0_4 = .agg #[.int .i64 a0_0, .int .i64 a0_1, .int .i64 a0_2, .slice A0_3 l0_3.length c0_3, .slice A0_4 l0_4.length c0_4] := by
    simp [Hb.hV, hOf]
  rw [e] at k
  exact k
end Go.Proofs.Yteckbgpkoanhfaa.Pr
end

/- The document's answer, layer 12: May, Right, plus, minus. -/
import Derived.Test.YteckbgpkoanhfaaHbHistB
import Derived.Test.YteckbgpkoanhfaaHbRef4b
namespace Go.Proofs.Yteckbgpkoanhfaa.Hb
open Go.RowKit

set_option maxHeartbeats 1000000 in
theorem rmay_any (k b c : Int) (w : World) : Calls Try.prog 44 #[.int .i64 k, .int .i64 b, .int .i64 c] w fun e w' => e = .returned (.bool (mayB k b c)) ∧ w = w' := by
  by_cases h0 : k = 0
  · have k0 : (k == 0) = true := beq_iff_eq.2 h0
    go_enter Try.func44, Try.ntmps44
    go_wp2
    all_goals
      go_ret
      refine ⟨ret_bool ?_, rfl⟩
      unfold mayB mayP
      first
      | (refine (decide_eq_false ?_).symm; omega)
      | (refine (decide_eq_true ?_).symm; omega)
      | (refine decide_eq_decide.2 ?_; omega)
      | (rw [Bool.eq_iff_iff, beq_iff_eq, decide_eq_true_iff]; omega)
  · have k0 : (k == 0) = false := beq_eq_false_iff_ne.2 h0
    by_cases h1 : k = 1
    · have k1 : (k == 1) = true := beq_iff_eq.2 h1
      go_enter Try.func44, Try.ntmps44
      go_wp2
      all_goals
        go_ret
        refine ⟨ret_bool ?_, rfl⟩
        unfold mayB mayP
        first
        | (refine (decide_eq_false ?_).symm; omega)
        | (refine (decide_eq_true ?_).symm; omega)
        | (refine decide_eq_decide.2 ?_; omega)
        | (rw [Bool.eq_iff_iff, beq_iff_eq, decide_eq_true_iff]; omega)
    · have k1 : (k == 1) = false := beq_eq_false_iff_ne.2 h1
      go_enter Try.func44, Try.ntmps44
      go_wp2
      all_goals
        go_ret
        refine ⟨ret_bool ?_, rfl⟩
        unfold mayB mayP
        first
        | (refine (decide_eq_false ?_).symm; omega)
        | (refine (decide_eq_true ?_).symm; omega)
        | (refine decide_eq_decide.2 ?_; omega)
        | (rw [Bool.eq_iff_iff, beq_iff_eq, decide_eq_true_iff]; omega)

set_option maxHeartbeats 2000000 in
theorem rright_any (h : H) (A1 A2 : Option Addr) (c1 c2 : Nat) (w : World) (hl1 : h.counts.length ≤ 9223372036854775807) (hl2 : h.moms.length ≤ 9223372036854775807) :
    Calls Try.prog 32 #[hV h A1 A2 c1 c2] w fun e w' => e = .returned (.bool (rightB h)) ∧ Below w.heap.size w w' := by
  obtain ⟨k, b, c, cs, ms⟩ := h
  obtain ⟨n, hn⟩ : ∃ n, cs.length = n := ⟨_, rfl⟩
  obtain ⟨m, hm⟩ : ∃ m, ms.length = m := ⟨_, rfl⟩
  have hr : rightB ⟨k, b, c, cs, ms⟩ = decide (mayP k b c ∧ ((k = 0 ∧ (n : Int) = b * c ∧ m = 0) ∨ (¬ k = 0 ∧ n = 0 ∧ (m : Int) = b))) := by
    unfold rightB rightP; simp only [hn, hm]
  rw [hr]
  simp only [hV, hn, hm] at hl1 hl2 ⊢
  clear hr hn hm
  by_cases h0 : mayP k b c
  · have hm0 := rmay_any k b c
    rw [show mayB k b c = true from decide_eq_true h0] at hm0
    have HM := Lib.hid hm0
    clear hm0
    by_cases hk : k = 0
    · have hk' : (k == 0) = true := beq_iff_eq.2 hk
      obtain ⟨b1, b2, b3⟩ := h0
      have bc := bins_classes b1 b2 (show 2 ≤ c by omega) (show c ≤ 256 by omega)
      have HK := Lib.hid hk
      have H3 := Lib.hid b3
      clear hk b3
      obtain ⟨bc1, bc2⟩ := bc
      go_enter Try.func32, Try.ntmps32
      go_wp2_with (go_at_call 44; refine (HM.out _).mono ?_; rintro e w1 ⟨rfl, rfl⟩)
      all_goals
        go_ret
        refine ⟨ret_bool ?_, (Below.refl _ _).alloc (Nat.le_refl _) _⟩
        have e1 := HK.out
        have e2 := H3.out
        unfold mayP
        first
        | (refine (decide_eq_false ?_).symm; omega)
        | (refine (decide_eq_true ?_).symm; omega)
        | (rw [Bool.eq_iff_iff, beq_iff_eq, decide_eq_true_iff]; omega)
    · have hk' : (k == 0) = false := beq_eq_false_iff_ne.2 hk
      have HK := Lib.hid hk
      have H0 := Lib.hid h0
      clear hk h0
      go_enter Try.func32, Try.ntmps32
      go_wp2_with (go_at_call 44; refine (HM.out _).mono ?_; rintro e w1 ⟨rfl, rfl⟩)
      all_goals
        go_ret
        refine ⟨ret_bool ?_, (Below.refl _ _).alloc (Nat.le_refl _) _⟩
        have e1 := HK.out
        have e2 := H0.out
        unfold mayP at e2 ⊢
        first
        | (refine (decide_eq_false ?_).symm; omega)
        | (refine (decide_eq_true ?_).symm; omega)
        | (rw [Bool.eq_iff_iff, beq_iff_eq, decide_eq_true_iff]; omega)
  · have hm0 := rmay_any k b c
    rw [show mayB k b c = false from decide_eq_false h0] at hm0
    have HM := Lib.hid hm0
    rw [show decide (mayP k b c ∧ ((k = 0 ∧ (n : Int) = b * c ∧ m = 0) ∨ (¬ k = 0 ∧ n = 0 ∧ (m : Int) = b))) = false from decide_eq_false (fun h1 => h0 h1.1)]
    clear hm0 h0
    go_enter Try.func32, Try.ntmps32
    go_wp2_with (go_at_call 44; refine (HM.out _).mono ?_; rintro e w1 ⟨rfl, rfl⟩)
    go_ret
    exact ⟨rfl, (Below.refl _ _).alloc (Nat.le_refl _) _⟩


theorem cells3' {w : World} {g : Nat} {a b c : Value} {t : TypeId} (h : Blk w g #[a, b, c] t) :
    w.cell? ⟨g, 0, none⟩ = some a ∧ w.cell? ⟨g, 1, none⟩ = some b ∧ w.cell? ⟨g, 2, none⟩ = some c := ⟨h.cell 0, h.cell 1, h.cell 2⟩
theorem set3' {W : World} {g : Nat} {x0 x1 x2 : Value} {t : TypeId} (h : Blk W g #[x0, x1, x2] t) (a b c : Value) :
    Blk (((W.setCell ⟨g, 0, none⟩ a).setCell ⟨g, 1, none⟩ b).setCell ⟨g, 2, none⟩ c) g #[a, b, c] t := ((h.set 0 a).set 1 b).set 2 c
theorem below3' {B : Nat} {w W : World} {g : Nat} (h : Below B w W) (hg : B ≤ g) (a b c : Value) :
    Below B w (((W.setCell ⟨g, 0, none⟩ a).setCell ⟨g, 1, none⟩ b).setCell ⟨g, 2, none⟩ c) :=
  ((h.setCell (p := ⟨g, 0, none⟩) hg a).setCell (p := ⟨g, 1, none⟩) hg b).setCell (p := ⟨g, 2, none⟩) hg c
theorem size_mom' : (Try.prog.info? 52).map (·.size) = some 3 := by kernel_rfl
/-- Boxes of two moments, and of the result. -/
structure B3 (n : Nat) (x y : Mom) (w W : World) : Prop where
  b0 : Blk W n #[.int .i64 x.c, .int .i64 x.s, .int .i64 x.q] 52
  b1 : Blk W (n + 1) #[.int .i64 y.c, .int .i64 y.s, .int .i64 y.q] 52
  b2 : Blk W (n + 1 + 1) #[.int .i64 0, .int .i64 0, .int .i64 0] 52
  be : Below n w W
theorem B3.below {n : Nat} {x y : Mom} {w W W1 : World} (h : B3 n x y w W) (hb : Below W.heap.size W W1) : B3 n x y w W1 :=
  ⟨h.b0.below hb, h.b1.below hb, h.b2.below hb, h.be.trans (hb.mono (by have := h.b0.lt; omega))⟩
theorem B3.mk0 (x y : Mom) (w W : World) (e : W = ((w.alloc (.cells #[.int .i64 x.c, .int .i64 x.s, .int .i64 x.q] 52)).alloc (.cells #[.int .i64 y.c, .int .i64 y.s, .int .i64 y.q] 52)).alloc (.cells #[.int .i64 0, .int .i64 0, .int .i64 0] 52)) : B3 w.heap.size x y w W := by
  subst e
  refine ⟨?_, ?_, ?_, ?_⟩
  · exact ((Blk.new w _ _).below ((Below.refl _ _).alloc (Nat.le_refl _) _)).below ((Below.refl _ _).alloc (Nat.le_refl _) _)
  · have := (Blk.new (w.alloc (.cells #[.int .i64 x.c, .int .i64 x.s, .int .i64 x.q] 52)) #[.int .i64 y.c, .int .i64 y.s, .int .i64 y.q] 52).below ((Below.refl _ _).alloc (Nat.le_refl _) (.cells #[.int .i64 0, .int .i64 0, .int .i64 0] 52))
    simpa using this
  · have := Blk.new ((w.alloc (.cells #[.int .i64 x.c, .int .i64 x.s, .int .i64 x.q] 52)).alloc (.cells #[.int .i64 y.c, .int .i64 y.s, .int .i64 y.q] 52)) #[.int .i64 0, .int .i64 0, .int .i64 0] 52
    simpa using this
  · exact (((Below.refl _ w).alloc (Nat.le_refl _) _).alloc (by simp) _).alloc (by simp; omega) _
theorem B3.cells {n : Nat} {x y : Mom} {w W : World} (h : B3 n x y w W) :
    (W.cell? ⟨n, 0, none⟩ = some (.int .i64 x.c) ∧ W.cell? ⟨n, 1, none⟩ = some (.int .i64 x.s) ∧ W.cell? ⟨n, 2, none⟩ = some (.int .i64 x.q)) ∧
    (W.cell? ⟨n + 1, 0, none⟩ = some (.int .i64 y.c) ∧ W.cell? ⟨n + 1, 1, none⟩ = some (.int .i64 y.s) ∧ W.cell? ⟨n + 1, 2, none⟩ = some (.int .i64 y.q)) ∧
    (W.cell? ⟨n + 1 + 1, 0, none⟩ = some (.int .i64 0) ∧ W.cell? ⟨n + 1 + 1, 1, none⟩ = some (.int .i64 0) ∧ W.cell? ⟨n + 1 + 1, 2, none⟩ = some (.int .i64 0)) ∧ (∀ i, W.frozen? ⟨n + 1 + 1, i, none⟩ = false) :=
  ⟨cells3' h.b0, cells3' h.b1, cells3' h.b2, h.b2.frozen⟩
theorem momP_1 {x y : Mom} (h : lim (x.c + y.c) = none) : momO opP x y = .error 6 := by simp [momO, opP, h]
theorem momP_2 {x y : Mom} {c : Int} (h : lim (x.c + y.c) = some c) (h2 : lim (x.s + y.s) = none) : momO opP x y = .error 6 := by simp [momO, opP, h, h2]
theorem momP_3 {x y : Mom} {c s : Int} (h : lim (x.c + y.c) = some c) (h2 : lim (x.s + y.s) = some s) (h3 : lim (x.q + y.q) = none) : momO opP x y = .error 6 := by simp [momO, opP, h, h2, h3]
theorem momP_4 {x y : Mom} {c s q : Int} (h : lim (x.c + y.c) = some c) (h2 : lim (x.s + y.s) = some s) (h3 : lim (x.q + y.q) = some q) : momO opP x y = .ok ⟨c, s, q⟩ := by simp [momO, opP, h, h2, h3]
set_option maxRecDepth 100000 in
set_option maxHeartbeats 4000000 in
theorem rplusM_any (x y : Mom) (hx : x.ok) (hy : y.ok) (w : World) : Calls Try.prog 51 #[momV x, momV y] w fun e w' => e = .returned (momE (momO opP x y)) ∧ Below w.heap.size w w' := by
  have k1 := fun w => rplus_any x.c y.c hx.1 hy.1 w
  have k2 := fun w => rplus_any x.s y.s hx.2.1 hy.2.1 w
  have k3 := fun w => rplus_any x.q y.q hx.2.2 hy.2.2 w
  unfold RefOp at k1 k2 k3
  have KB := Lib.hid (B3.mk0 x y w)
  have e6 : ((6 : Int) != 0) = true := rfl
  have e0 : ((0 : Int) != 0) = false := rfl
  clear hx hy
  cases h1 : lim (x.c + y.c) with
  | none =>
    rw [h1] at k1
    rw [momP_1 h1]
    have K1 := Lib.hid k1
    clear k1 k2 k3
    unfold momV
    go_enter Try.func51, Try.ntmps51
    go_wp2_with fail
    obtain ⟨W3, e3⟩ : ∃ W3, W3 = ((w.alloc (.cells #[.int .i64 x.c, .int .i64 x.s, .int .i64 x.q] 52)).alloc (.cells #[.int .i64 y.c, .int .i64 y.s, .int .i64 y.q] 52)).alloc (.cells #[.int .i64 0, .int .i64 0, .int .i64 0] 52) := ⟨_, rfl⟩
    rw [← e3]
    have X := KB.out W3 e3
    clear e3
    refine (K1.out _).mono ?_
    rintro e w1 ⟨rfl, hb⟩
    simp only [res]
    replace X := X.below hb
    clear hb
    obtain ⟨⟨a0, a1, a2⟩, ⟨b0, b1, b2⟩, ⟨r0, r1, r2⟩, rf⟩ := X.cells
    have L := X.b2.lt
    have L1 : w.heap.size + 1 < w1.heap.size := by omega
    have L2 : w.heap.size < w1.heap.size := by omega
    go_wp2_with fail
    refine bodyPost_ret (results_ct rfl _ _ (w.heap.size + 1 + 1) 52 _ _ rfl (set3' X.b2 _ _ _) Try.underlying52 rfl size_mom') rfl ?_
    exact ⟨rfl, below3' X.be (by omega) _ _ _⟩
  | some c =>
    rw [h1] at k1
    cases h2 : lim (x.s + y.s) with
    | none =>
      rw [h2] at k2
      rw [momP_2 h1 h2]
      have K1 := Lib.hid k1
      have K2 := Lib.hid k2
      clear k1 k2 k3
      unfold momV
      go_enter Try.func51, Try.ntmps51
      go_wp2_with fail
      obtain ⟨W3, e3⟩ : ∃ W3, W3 = ((w.alloc (.cells #[.int .i64 x.c, .int .i64 x.s, .int .i64 x.q] 52)).alloc (.cells #[.int .i64 y.c, .int .i64 y.s, .int .i64 y.q] 52)).alloc (.cells #[.int .i64 0, .int .i64 0, .int .i64 0] 52) := ⟨_, rfl⟩
      rw [← e3]
      have X := KB.out W3 e3
      clear e3
      refine (K1.out _).mono ?_
      rintro e w1 ⟨rfl, hb⟩
      simp only [res]
      replace X := X.below hb
      clear hb
      obtain ⟨⟨a0, a1, a2⟩, ⟨b0, b1, b2⟩, ⟨r0, r1, r2⟩, rf⟩ := X.cells
      have L := X.b2.lt
      have L1 : w.heap.size + 1 < w1.heap.size := by omega
      have L2 : w.heap.size < w1.heap.size := by omega
      go_wp2_with fail
      clear a0 a1 a2 b0 b1 b2 r0 r1 r2 rf L L1 L2
      refine (K2.out _).mono ?_
      rintro e w2 ⟨rfl, hb⟩
      simp only [res]
      replace X := X.below hb
      clear hb
      obtain ⟨⟨a0, a1, a2⟩, ⟨b0, b1, b2⟩, ⟨r0, r1, r2⟩, rf⟩ := X.cells
      have L := X.b2.lt
      have L1 : w.heap.size + 1 < w2.heap.size := by omega
      have L2 : w.heap.size < w2.heap.size := by omega
      go_wp2_with fail
      refine bodyPost_ret (results_ct rfl _ _ (w.heap.size + 1 + 1) 52 _ _ rfl (set3' X.b2 _ _ _) Try.underlying52 rfl size_mom') rfl ?_
      exact ⟨rfl, below3' X.be (by omega) _ _ _⟩
    | some s =>
      rw [h2] at k2
      cases h3 : lim (x.q + y.q) with
      | none =>
        rw [h3] at k3
        rw [momP_3 h1 h2 h3]
        have K1 := Lib.hid k1
        have K2 := Lib.hid k2
        have K3 := Lib.hid k3
        clear k1 k2 k3
        unfold momV
        go_enter Try.func51, Try.ntmps51
        go_wp2_with fail
        obtain ⟨W3, e3⟩ : ∃ W3, W3 = ((w.alloc (.cells #[.int .i64 x.c, .int .i64 x.s, .int .i64 x.q] 52)).alloc (.cells #[.int .i64 y.c, .int .i64 y.s, .int .i64 y.q] 52)).alloc (.cells #[.int .i64 0, .int .i64 0, .int .i64 0] 52) := ⟨_, rfl⟩
        rw [← e3]
        have X := KB.out W3 e3
        clear e3
        refine (K1.out _).mono ?_
        rintro e w1 ⟨rfl, hb⟩
        simp only [res]
        replace X := X.below hb
        clear hb
        obtain ⟨⟨a0, a1, a2⟩, ⟨b0, b1, b2⟩, ⟨r0, r1, r2⟩, rf⟩ := X.cells
        have L := X.b2.lt
        have L1 : w.heap.size + 1 < w1.heap.size := by omega
        have L2 : w.heap.size < w1.heap.size := by omega
        go_wp2_with fail
        clear a0 a1 a2 b0 b1 b2 r0 r1 r2 rf L L1 L2
        refine (K2.out _).mono ?_
        rintro e w2 ⟨rfl, hb⟩
        simp only [res]
        replace X := X.below hb
        clear hb
        obtain ⟨⟨a0, a1, a2⟩, ⟨b0, b1, b2⟩, ⟨r0, r1, r2⟩, rf⟩ := X.cells
        have L := X.b2.lt
        have L1 : w.heap.size + 1 < w2.heap.size := by omega
        have L2 : w.heap.size < w2.heap.size := by omega
        go_wp2_with fail
        clear a0 a1 a2 b0 b1 b2 r0 r1 r2 rf L L1 L2
        refine (K3.out _).mono ?_
        rintro e w3 ⟨rfl, hb⟩
        simp only [res]
        replace X := X.below hb
        clear hb
        obtain ⟨⟨a0, a1, a2⟩, ⟨b0, b1, b2⟩, ⟨r0, r1, r2⟩, rf⟩ := X.cells
        have L := X.b2.lt
        have L1 : w.heap.size + 1 < w3.heap.size := by omega
        have L2 : w.heap.size < w3.heap.size := by omega
        go_wp2_with fail
        refine bodyPost_ret (results_ct rfl _ _ (w.heap.size + 1 + 1) 52 _ _ rfl (set3' X.b2 _ _ _) Try.underlying52 rfl size_mom') rfl ?_
        exact ⟨rfl, below3' X.be (by omega) _ _ _⟩
      | some q =>
        rw [h3] at k3
        rw [momP_4 h1 h2 h3]
        have K1 := Lib.hid k1
        have K2 := Lib.hid k2
        have K3 := Lib.hid k3
        clear k1 k2 k3
        unfold momV
        go_enter Try.func51, Try.ntmps51
        go_wp2_with fail
        obtain ⟨W3, e3⟩ : ∃ W3, W3 = ((w.alloc (.cells #[.int .i64 x.c, .int .i64 x.s, .int .i64 x.q] 52)).alloc (.cells #[.int .i64 y.c, .int .i64 y.s, .int .i64 y.q] 52)).alloc (.cells #[.int .i64 0, .int .i64 0, .int .i64 0] 52) := ⟨_, rfl⟩
        rw [← e3]
        have X := KB.out W3 e3
        clear e3
        refine (K1.out _).mono ?_
        rintro e w1 ⟨rfl, hb⟩
        simp only [res]
        replace X := X.below hb
        clear hb
        obtain ⟨⟨a0, a1, a2⟩, ⟨b0, b1, b2⟩, ⟨r0, r1, r2⟩, rf⟩ := X.cells
        have L := X.b2.lt
        have L1 : w.heap.size + 1 < w1.heap.size := by omega
        have L2 : w.heap.size < w1.heap.size := by omega
        go_wp2_with fail
        clear a0 a1 a2 b0 b1 b2 r0 r1 r2 rf L L1 L2
        refine (K2.out _).mono ?_
        rintro e w2 ⟨rfl, hb⟩
        simp only [res]
        replace X := X.below hb
        clear hb
        obtain ⟨⟨a0, a1, a2⟩, ⟨b0, b1, b2⟩, ⟨r0, r1, r2⟩, rf⟩ := X.cells
        have L := X.b2.lt
        have L1 : w.heap.size + 1 < w2.heap.size := by omega
        have L2 : w.heap.size < w2.heap.size := by omega
        go_wp2_with fail
        clear a0 a1 a2 b0 b1 b2 r0 r1 r2 rf L L1 L2
        refine (K3.out _).mono ?_
        rintro e w3 ⟨rfl, hb⟩
        simp only [res]
        replace X := X.below hb
        clear hb
        obtain ⟨⟨a0, a1, a2⟩, ⟨b0, b1, b2⟩, ⟨r0, r1, r2⟩, rf⟩ := X.cells
        have L := X.b2.lt
        have L1 : w.heap.size + 1 < w3.heap.size := by omega
        have L2 : w.heap.size < w3.heap.size := by omega
        go_wp2_with fail
        refine bodyPost_ret (results_ct rfl _ _ (w.heap.size + 1 + 1) 52 _ _ rfl (set3' X.b2 _ _ _) Try.underlying52 rfl size_mom') rfl ?_
        exact ⟨rfl, below3' X.be (by omega) _ _ _⟩
theorem momM_1 {x y : Mom} (h : lim (x.c - y.c) = none) : momO opM x y = .error 6 := by simp [momO, opM, h]
theorem momM_2 {x y : Mom} {c : Int} (h : lim (x.c - y.c) = some c) (hc : c < 0) : momO opM x y = .error 5 := by simp [momO, opM, h, hc]
theorem momM_3 {x y : Mom} {c : Int} (h : lim (x.c - y.c) = some c) (hc : ¬ c < 0) (h2 : lim (x.s - y.s) = none) : momO opM x y = .error 6 := by simp [momO, opM, h, hc, h2]
theorem momM_4 {x y : Mom} {c s : Int} (h : lim (x.c - y.c) = some c) (hc : ¬ c < 0) (h2 : lim (x.s - y.s) = some s) (h3 : lim (x.q - y.q) = none) : momO opM x y = .error 6 := by simp [momO, opM, h, hc, h2, h3]
theorem momM_5 {x y : Mom} {c s q : Int} (h : lim (x.c - y.c) = some c) (hc : ¬ c < 0) (h2 : lim (x.s - y.s) = some s) (h3 : lim (x.q - y.q) = some q) (hq : q < 0) : momO opM x y = .error 5 := by simp [momO, opM, h, hc, h2, h3, hq]
theorem momM_6 {x y : Mom} {c s q : Int} (h : lim (x.c - y.c) = some c) (hc : ¬ c < 0) (h2 : lim (x.s - y.s) = some s) (h3 : lim (x.q - y.q) = some q) (hq : ¬ q < 0) : momO opM x y = .ok ⟨c, s, q⟩ := by simp [momO, opM, h, hc, h2, h3, hq]
set_option maxRecDepth 100000 in
set_option maxHeartbeats 4000000 in
theorem rminusM_any (x y : Mom) (hx : x.ok) (hy : y.ok) (w : World) : Calls Try.prog 56 #[momV x, momV y] w fun e w' => e = .returned (momE (momO opM x y)) ∧ Below w.heap.size w w' := by
  have k1 := fun w => rminus_any x.c y.c hx.1 hy.1 w
  have k2 := fun w => rminus_any x.s y.s hx.2.1 hy.2.1 w
  have k3 := fun w => rminus_any x.q y.q hx.2.2 hy.2.2 w
  unfold RefOp at k1 k2 k3
  have KB := Lib.hid (B3.mk0 x y w)
  have e6 : ((6 : Int) != 0) = true := rfl
  have e0 : ((0 : Int) != 0) = false := rfl
  clear hx hy
  cases h1 : lim (x.c - y.c) with
  | none =>
    rw [h1] at k1
    rw [momM_1 h1]
    have K1 := Lib.hid k1
    clear k1 k2 k3
    unfold momV
    go_enter Try.func56, Try.ntmps56
    go_wp2_with fail
    obtain ⟨W3, e3⟩ : ∃ W3, W3 = ((w.alloc (.cells #[.int .i64 x.c, .int .i64 x.s, .int .i64 x.q] 52)).alloc (.cells #[.int .i64 y.c, .int .i64 y.s, .int .i64 y.q] 52)).alloc (.cells #[.int .i64 0, .int .i64 0, .int .i64 0] 52) := ⟨_, rfl⟩
    rw [← e3]
    have X := KB.out W3 e3
    clear e3
    refine (K1.out _).mono ?_
    rintro e w1 ⟨rfl, hb⟩
    simp only [res]
    replace X := X.below hb
    clear hb
    obtain ⟨⟨a0, a1, a2⟩, ⟨b0, b1, b2⟩, ⟨r0, r1, r2⟩, rf⟩ := X.cells
    have L := X.b2.lt
    have L1 : w.heap.size + 1 < w1.heap.size := by omega
    have L2 : w.heap.size < w1.heap.size := by omega
    go_wp2_with fail
    refine bodyPost_ret (results_ct rfl _ _ (w.heap.size + 1 + 1) 52 _ _ rfl (set3' X.b2 _ _ _) Try.underlying52 rfl size_mom') rfl ?_
    exact ⟨rfl, below3' X.be (by omega) _ _ _⟩
  | some c =>
    rw [h1] at k1
    by_cases hc : c < 0
    · have dc : decide (c < 0) = true := decide_eq_true hc
      rw [momM_2 h1 hc]
      have K1 := Lib.hid k1
      clear k1 k2 k3
      unfold momV
      go_enter Try.func56, Try.ntmps56
      go_wp2_with fail
      obtain ⟨W3, e3⟩ : ∃ W3, W3 = ((w.alloc (.cells #[.int .i64 x.c, .int .i64 x.s, .int .i64 x.q] 52)).alloc (.cells #[.int .i64 y.c, .int .i64 y.s, .int .i64 y.q] 52)).alloc (.cells #[.int .i64 0, .int .i64 0, .int .i64 0] 52) := ⟨_, rfl⟩
      rw [← e3]
      have X := KB.out W3 e3
      clear e3
      refine (K1.out _).mono ?_
      rintro e w1 ⟨rfl, hb⟩
      simp only [res]
      replace X := X.below hb
      clear hb
      obtain ⟨⟨a0, a1, a2⟩, ⟨b0, b1, b2⟩, ⟨r0, r1, r2⟩, rf⟩ := X.cells
      have L := X.b2.lt
      have L1 : w.heap.size + 1 < w1.heap.size := by omega
      have L2 : w.heap.size < w1.heap.size := by omega
      go_wp2_with fail
      refine bodyPost_ret (results_ct rfl _ _ (w.heap.size + 1 + 1) 52 _ _ rfl (set3' X.b2 _ _ _) Try.underlying52 rfl size_mom') rfl ?_
      exact ⟨rfl, below3' X.be (by omega) _ _ _⟩
    · have dc : decide (c < 0) = false := decide_eq_false hc
      cases h2 : lim (x.s - y.s) with
      | none =>
        rw [h2] at k2
        rw [momM_3 h1 hc h2]
        have K1 := Lib.hid k1
        have K2 := Lib.hid k2
        clear k1 k2 k3
        unfold momV
        go_enter Try.func56, Try.ntmps56
        go_wp2_with fail
        obtain ⟨W3, e3⟩ : ∃ W3, W3 = ((w.alloc (.cells #[.int .i64 x.c, .int .i64 x.s, .int .i64 x.q] 52)).alloc (.cells #[.int .i64 y.c, .int .i64 y.s, .int .i64 y.q] 52)).alloc (.cells #[.int .i64 0, .int .i64 0, .int .i64 0] 52) := ⟨_, rfl⟩
        rw [← e3]
        have X := KB.out W3 e3
        clear e3
        refine (K1.out _).mono ?_
        rintro e w1 ⟨rfl, hb⟩
        simp only [res]
        replace X := X.below hb
        clear hb
        obtain ⟨⟨a0, a1, a2⟩, ⟨b0, b1, b2⟩, ⟨r0, r1, r2⟩, rf⟩ := X.cells
        have L := X.b2.lt
        have L1 : w.heap.size + 1 < w1.heap.size := by omega
        have L2 : w.heap.size < w1.heap.size := by omega
        go_wp2_with fail
        clear a0 a1 a2 b0 b1 b2 r0 r1 r2 rf L L1 L2
        refine (K2.out _).mono ?_
        rintro e w2 ⟨rfl, hb⟩
        simp only [res]
        replace X := X.below hb
        clear hb
        obtain ⟨⟨a0, a1, a2⟩, ⟨b0, b1, b2⟩, ⟨r0, r1, r2⟩, rf⟩ := X.cells
        have L := X.b2.lt
        have L1 : w.heap.size + 1 < w2.heap.size := by omega
        have L2 : w.heap.size < w2.heap.size := by omega
        go_wp2_with fail
        refine bodyPost_ret (results_ct rfl _ _ (w.heap.size + 1 + 1) 52 _ _ rfl (set3' X.b2 _ _ _) Try.underlying52 rfl size_mom') rfl ?_
        exact ⟨rfl, below3' X.be (by omega) _ _ _⟩
      | some s =>
        rw [h2] at k2
        cases h3 : lim (x.q - y.q) with
        | none =>
          rw [h3] at k3
          rw [momM_4 h1 hc h2 h3]
          have K1 := Lib.hid k1
          have K2 := Lib.hid k2
          have K3 := Lib.hid k3
          clear k1 k2 k3
          unfold momV
          go_enter Try.func56, Try.ntmps56
          go_wp2_with fail
          obtain ⟨W3, e3⟩ : ∃ W3, W3 = ((w.alloc (.cells #[.int .i64 x.c, .int .i64 x.s, .int .i64 x.q] 52)).alloc (.cells #[.int .i64 y.c, .int .i64 y.s, .int .i64 y.q] 52)).alloc (.cells #[.int .i64 0, .int .i64 0, .int .i64 0] 52) := ⟨_, rfl⟩
          rw [← e3]
          have X := KB.out W3 e3
          clear e3
          refine (K1.out _).mono ?_
          rintro e w1 ⟨rfl, hb⟩
          simp only [res]
          replace X := X.below hb
          clear hb
          obtain ⟨⟨a0, a1, a2⟩, ⟨b0, b1, b2⟩, ⟨r0, r1, r2⟩, rf⟩ := X.cells
          have L := X.b2.lt
          have L1 : w.heap.size + 1 < w1.heap.size := by omega
          have L2 : w.heap.size < w1.heap.size := by omega
          go_wp2_with fail
          clear a0 a1 a2 b0 b1 b2 r0 r1 r2 rf L L1 L2
          refine (K2.out _).mono ?_
          rintro e w2 ⟨rfl, hb⟩
          simp only [res]
          replace X := X.below hb
          clear hb
          obtain ⟨⟨a0, a1, a2⟩, ⟨b0, b1, b2⟩, ⟨r0, r1, r2⟩, rf⟩ := X.cells
          have L := X.b2.lt
          have L1 : w.heap.size + 1 < w2.heap.size := by omega
          have L2 : w.heap.size < w2.heap.size := by omega
          go_wp2_with fail
          clear a0 a1 a2 b0 b1 b2 r0 r1 r2 rf L L1 L2
          refine (K3.out _).mono ?_
          rintro e w3 ⟨rfl, hb⟩
          simp only [res]
          replace X := X.below hb
          clear hb
          obtain ⟨⟨a0, a1, a2⟩, ⟨b0, b1, b2⟩, ⟨r0, r1, r2⟩, rf⟩ := X.cells
          have L := X.b2.lt
          have L1 : w.heap.size + 1 < w3.heap.size := by omega
          have L2 : w.heap.size < w3.heap.size := by omega
          go_wp2_with fail
          refine bodyPost_ret (results_ct rfl _ _ (w.heap.size + 1 + 1) 52 _ _ rfl (set3' X.b2 _ _ _) Try.underlying52 rfl size_mom') rfl ?_
          exact ⟨rfl, below3' X.be (by omega) _ _ _⟩
        | some q =>
          rw [h3] at k3
          by_cases hq : q < 0
          · have dq : decide (q < 0) = true := decide_eq_true hq
            rw [momM_5 h1 hc h2 h3 hq]
            have K1 := Lib.hid k1
            have K2 := Lib.hid k2
            have K3 := Lib.hid k3
            clear k1 k2 k3
            unfold momV
            go_enter Try.func56, Try.ntmps56
            go_wp2_with fail
            obtain ⟨W3, e3⟩ : ∃ W3, W3 = ((w.alloc (.cells #[.int .i64 x.c, .int .i64 x.s, .int .i64 x.q] 52)).alloc (.cells #[.int .i64 y.c, .int .i64 y.s, .int .i64 y.q] 52)).alloc (.cells #[.int .i64 0, .int .i64 0, .int .i64 0] 52) := ⟨_, rfl⟩
            rw [← e3]
            have X := KB.out W3 e3
            clear e3
            refine (K1.out _).mono ?_
            rintro e w1 ⟨rfl, hb⟩
            simp only [res]
            replace X := X.below hb
            clear hb
            obtain ⟨⟨a0, a1, a2⟩, ⟨b0, b1, b2⟩, ⟨r0, r1, r2⟩, rf⟩ := X.cells
            have L := X.b2.lt
            have L1 : w.heap.size + 1 < w1.heap.size := by omega
            have L2 : w.heap.size < w1.heap.size := by omega
            go_wp2_with fail
            clear a0 a1 a2 b0 b1 b2 r0 r1 r2 rf L L1 L2
            refine (K2.out _).mono ?_
            rintro e w2 ⟨rfl, hb⟩
            simp only [res]
            replace X := X.below hb
            clear hb
            obtain ⟨⟨a0, a1, a2⟩, ⟨b0, b1, b2⟩, ⟨r0, r1, r2⟩, rf⟩ := X.cells
            have L := X.b2.lt
            have L1 : w.heap.size + 1 < w2.heap.size := by omega
            have L2 : w.heap.size < w2.heap.size := by omega
            go_wp2_with fail
            clear a0 a1 a2 b0 b1 b2 r0 r1 r2 rf L L1 L2
            refine (K3.out _).mono ?_
            rintro e w3 ⟨rfl, hb⟩
            simp only [res]
            replace X := X.below hb
            clear hb
            obtain ⟨⟨a0, a1, a2⟩, ⟨b0, b1, b2⟩, ⟨r0, r1, r2⟩, rf⟩ := X.cells
            have L := X.b2.lt
            have L1 : w.heap.size + 1 < w3.heap.size := by omega
            have L2 : w.heap.size < w3.heap.size := by omega
            go_wp2_with fail
            refine bodyPost_ret (results_ct rfl _ _ (w.heap.size + 1 + 1) 52 _ _ rfl (set3' X.b2 _ _ _) Try.underlying52 rfl size_mom') rfl ?_
            exact ⟨rfl, below3' X.be (by omega) _ _ _⟩
          · have dq : decide (q < 0) = false := decide_eq_false hq
            rw [momM_6 h1 hc h2 h3 hq]
            have K1 := Lib.hid k1
            have K2 := Lib.hid k2
            have K3 := Lib.hid k3
            clear k1 k2 k3
            unfold momV
            go_enter Try.func56, Try.ntmps56
            go_wp2_with fail
            obtain ⟨W3, e3⟩ : ∃ W3, W3 = ((w.alloc (.cells #[.int .i64 x.c, .int .i64 x.s, .int .i64 x.q] 52)).alloc (.cells #[.int .i64 y.c, .int .i64 y.s, .int .i64 y.q] 52)).alloc (.cells #[.int .i64 0, .int .i64 0, .int .i64 0] 52) := ⟨_, rfl⟩
            rw [← e3]
            have X := KB.out W3 e3
            clear e3
            refine (K1.out _).mono ?_
            rintro e w1 ⟨rfl, hb⟩
            simp only [res]
            replace X := X.below hb
            clear hb
            obtain ⟨⟨a0, a1, a2⟩, ⟨b0, b1, b2⟩, ⟨r0, r1, r2⟩, rf⟩ := X.cells
            have L := X.b2.lt
            have L1 : w.heap.size + 1 < w1.heap.size := by omega
            have L2 : w.heap.size < w1.heap.size := by omega
            go_wp2_with fail
            clear a0 a1 a2 b0 b1 b2 r0 r1 r2 rf L L1 L2
            refine (K2.out _).mono ?_
            rintro e w2 ⟨rfl, hb⟩
            simp only [res]
            replace X := X.below hb
            clear hb
            obtain ⟨⟨a0, a1, a2⟩, ⟨b0, b1, b2⟩, ⟨r0, r1, r2⟩, rf⟩ := X.cells
            have L := X.b2.lt
            have L1 : w.heap.size + 1 < w2.heap.size := by omega
            have L2 : w.heap.size < w2.heap.size := by omega
            go_wp2_with fail
            clear a0 a1 a2 b0 b1 b2 r0 r1 r2 rf L L1 L2
            refine (K3.out _).mono ?_
            rintro e w3 ⟨rfl, hb⟩
            simp only [res]
            replace X := X.below hb
            clear hb
            obtain ⟨⟨a0, a1, a2⟩, ⟨b0, b1, b2⟩, ⟨r0, r1, r2⟩, rf⟩ := X.cells
            have L := X.b2.lt
            have L1 : w.heap.size + 1 < w3.heap.size := by omega
            have L2 : w.heap.size < w3.heap.size := by omega
            go_wp2_with fail
            refine bodyPost_ret (results_ct rfl _ _ (w.heap.size + 1 + 1) 52 _ _ rfl (set3' X.b2 _ _ _) Try.underlying52 rfl size_mom') rfl ?_
            exact ⟨rfl, below3' X.be (by omega) _ _ _⟩
end Go.Proofs.Yteckbgpkoanhfaa.Hb

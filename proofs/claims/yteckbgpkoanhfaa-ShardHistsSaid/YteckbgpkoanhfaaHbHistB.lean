/- The walks of layer hist: may, Right. -/
import Derived.Test.YteckbgpkoanhfaaHbHistN
namespace Go.Proofs.Yteckbgpkoanhfaa.Hb
open Go.RowKit

theorem ret_bool {a b : Bool} (h : a = b) : Ending.returned (.bool a) = .returned (.bool b) := by rw [h]
set_option maxHeartbeats 1000000 in
theorem may_any (k b c : Int) (w : World) : Calls Try.prog 43 #[.int .i64 k, .int .i64 b, .int .i64 c] w fun e w' => e = .returned (.bool (mayB k b c)) ∧ w = w' := by
  go_enter Try.func43, Try.ntmps43
  go_wp2
  all_goals
    go_ret
    refine ⟨ret_bool ?_, rfl⟩
    unfold mayB mayP
    first
    | (refine (decide_eq_false ?_).symm; omega)
    | (refine (decide_eq_true ?_).symm; omega)
    | (refine decide_eq_decide.2 ?_; omega)
    | (rw [Bool.eq_iff_iff, beq_iff_eq, decide_eq_true_iff]; omega)

/-- A histogram as a value. -/
def hV (h : H) (A1 A2 : Option Addr) (c1 c2 : Nat) : Value := .agg #[.int .i64 h.kind, .int .i64 h.bins, .int .i64 h.classes, .slice A1 h.counts.length c1, .slice A2 h.moms.length c2]
theorem bins_classes {b c : Int} (h1 : 1 ≤ b) (h2 : b ≤ 257) (h3 : 2 ≤ c) (h4 : c ≤ 256) : 0 ≤ b * c ∧ b * c ≤ 65792 :=
  ⟨Int.mul_nonneg (by omega) (by omega), by
    have := Int.mul_le_mul h2 h4 (by omega) (by omega)
    omega⟩
theorem right_may {h : H} (h0 : ¬ mayP h.kind h.bins h.classes) : rightB h = false := decide_eq_false (fun h1 => h0 h1.1)

set_option maxHeartbeats 2000000 in
theorem right_any (h : H) (A1 A2 : Option Addr) (c1 c2 : Nat) (w : World) (hl1 : h.counts.length ≤ 9223372036854775807) (hl2 : h.moms.length ≤ 9223372036854775807) :
    Calls Try.prog 20 #[hV h A1 A2 c1 c2] w fun e w' => e = .returned (.bool (rightB h)) ∧ Below w.heap.size w w' := by
  obtain ⟨k, b, c, cs, ms⟩ := h
  obtain ⟨n, hn⟩ : ∃ n, cs.length = n := ⟨_, rfl⟩
  obtain ⟨m, hm⟩ : ∃ m, ms.length = m := ⟨_, rfl⟩
  have hr : rightB ⟨k, b, c, cs, ms⟩ = decide (mayP k b c ∧ ((k = 0 ∧ (n : Int) = b * c ∧ m = 0) ∨ (¬ k = 0 ∧ n = 0 ∧ (m : Int) = b))) := by
    unfold rightB rightP; simp only [hn, hm]
  rw [hr]
  simp only [hV, hn, hm] at hl1 hl2 ⊢
  clear hr hn hm
  by_cases h0 : mayP k b c
  · have hm0 := may_any k b c
    rw [show mayB k b c = true from decide_eq_true h0] at hm0
    have HM := Lib.hid hm0
    clear hm0
    by_cases hk : k = 0
    · have hk' : (k == 0) = true := beq_iff_eq.2 hk
      obtain ⟨b1, b2, b3⟩ := h0
      have bc := bins_classes b1 b2 (show 2 ≤ c by omega) (show c ≤ 256 by omega)
      have HK := Lib.hid hk
      have H3 := Lib.hid b3
      clear hk b3
      obtain ⟨bc1, bc2⟩ := bc
      go_enter Try.func20, Try.ntmps20
      go_wp2_with (go_at_call 43; refine (HM.out _).mono ?_; rintro e w1 ⟨rfl, rfl⟩)
      all_goals
        go_ret
        refine ⟨ret_bool ?_, (Below.refl _ _).alloc (Nat.le_refl _) _⟩
        have e1 := HK.out
        have e2 := H3.out
        unfold mayP
        first
        | (refine (decide_eq_false ?_).symm; omega)
        | (refine (decide_eq_true ?_).symm; omega)
        | (rw [Bool.eq_iff_iff, beq_iff_eq, decide_eq_true_iff]; omega)
    · have hk' : (k == 0) = false := beq_eq_false_iff_ne.2 hk
      have HK := Lib.hid hk
      have H0 := Lib.hid h0
      clear hk h0
      go_enter Try.func20, Try.ntmps20
      go_wp2_with (go_at_call 43; refine (HM.out _).mono ?_; rintro e w1 ⟨rfl, rfl⟩)
      all_goals
        go_ret
        refine ⟨ret_bool ?_, (Below.refl _ _).alloc (Nat.le_refl _) _⟩
        have e1 := HK.out
        have e2 := H0.out
        unfold mayP at e2 ⊢
        first
        | (refine (decide_eq_false ?_).symm; omega)
        | (refine (decide_eq_true ?_).symm; omega)
        | (rw [Bool.eq_iff_iff, beq_iff_eq, decide_eq_true_iff]; omega)
  · have hm0 := may_any k b c
    rw [show mayB k b c = false from decide_eq_false h0] at hm0
    have HM := Lib.hid hm0
    rw [show decide (mayP k b c ∧ ((k = 0 ∧ (n : Int) = b * c ∧ m = 0) ∨ (¬ k = 0 ∧ n = 0 ∧ (m : Int) = b))) = false from decide_eq_false (fun h1 => h0 h1.1)]
    clear hm0 h0
    go_enter Try.func20, Try.ntmps20
    go_wp2_with (go_at_call 43; refine (HM.out _).mono ?_; rintro e w1 ⟨rfl, rfl⟩)
    go_ret
    exact ⟨rfl, (Below.refl _ _).alloc (Nat.le_refl _) _⟩

/-! Two histograms made one. -/
theorem both_err {op : Int → Int → Bool → Except Int Int} {a b : H} (h : ¬ likeP a b) : bothO op a b = .error 8 := if_neg h
theorem both_err1 {op : Int → Int → Bool → Except Int Int} {a b : H} {e : Int} (h : likeP a b) (h1 : rowsO (fun x y => op x y false) a.counts b.counts = .error e) : bothO op a b = .error e := by unfold bothO; rw [if_pos h, h1]
theorem both_err2 {op : Int → Int → Bool → Except Int Int} {a b : H} {c : List Int} {e : Int} (h : likeP a b) (h1 : rowsO (fun x y => op x y false) a.counts b.counts = .ok c) (h2 : rowsO (momO op) a.moms b.moms = .error e) : bothO op a b = .error e := by unfold bothO; rw [if_pos h, h1]; simp only [h2]
theorem both_ok {op : Int → Int → Bool → Except Int Int} {a b : H} {c : List Int} {m : List Mom} (h : likeP a b) (h1 : rowsO (fun x y => op x y false) a.counts b.counts = .ok c) (h2 : rowsO (momO op) a.moms b.moms = .ok m) : bothO op a b = .ok ⟨a.kind, a.bins, a.classes, c, m⟩ := by unfold bothO; rw [if_pos h, h1]; simp only [h2]
/-- A histogram in new memory. -/
def HNew (base : Nat) (h : H) (w : World) (v : Value) : Prop :=
  ∃ v1 v2, v = .agg #[.int .i64 h.kind, .int .i64 h.bins, .int .i64 h.classes, v1, v2] ∧ w.ownsRow base 2 1 v1 h.counts.length (ints h.counts) ∧ w.ownsRow base 52 3 v2 h.moms.length (momC h.moms)
def ResH (r : Except Int H) (w : World) (e : Ending) (w' : World) : Prop :=
  ∃ v, e = .returned (.tuple #[v, .int .i64 (errO r)]) ∧ HNew w.heap.size (valO h0 r) w' v ∧ Below w.heap.size w w'
theorem HNew.zero (base : Nat) (w : World) : HNew base h0 w (.agg #[.int .i64 0, .int .i64 0, .int .i64 0, .slice none 0 0, .slice none 0 0]) :=
  ⟨_, _, rfl, World.ownsRow_nil _ _ _ _, World.ownsRow_nil _ _ _ _⟩

theorem boxes4 (w : World) (X1 X2 X3 X4 : Array Value) (t1 t2 t3 t4 : TypeId) (W : World) (h : W = (((w.alloc (.cells X1 t1)).alloc (.cells X2 t2)).alloc (.cells X3 t3)).alloc (.cells X4 t4)) :
    Blk W w.heap.size X1 t1 ∧ Blk W (w.heap.size + 1) X2 t2 ∧ Blk W (w.heap.size + 1 + 1) X3 t3 ∧ Blk W (w.heap.size + 1 + 1 + 1) X4 t4 ∧ Below w.heap.size w W ∧ W.heap.size = w.heap.size + 1 + 1 + 1 + 1 := by
  subst h
  refine ⟨?_, ?_, ?_, ?_, ?_, by simp⟩
  · exact (((Blk.new w X1 t1).below ((Below.refl _ _).alloc (Nat.le_refl _) _)).below ((Below.refl _ _).alloc (Nat.le_refl _) _)).below ((Below.refl _ _).alloc (Nat.le_refl _) _)
  · have := ((Blk.new (w.alloc (.cells X1 t1)) X2 t2).below ((Below.refl _ _).alloc (Nat.le_refl _) (.cells X3 t3))).below ((Below.refl _ _).alloc (Nat.le_refl _) (.cells X4 t4))
    simpa using this
  · have := (Blk.new ((w.alloc (.cells X1 t1)).alloc (.cells X2 t2)) X3 t3).below ((Below.refl _ _).alloc (Nat.le_refl _) (.cells X4 t4))
    simpa using this
  · have := Blk.new (((w.alloc (.cells X1 t1)).alloc (.cells X2 t2)).alloc (.cells X3 t3)) X4 t4
    simpa using this
  · exact ((((Below.refl _ w).alloc (Nat.le_refl _) _).alloc (by simp) _).alloc (by simp; omega) _).alloc (by simp; omega) _

/-- The four blocks that a call of both begins with. -/
structure BB (f : Nat) (a b : H) (A1 A2 A3 A4 : Option Addr) (c1 c2 c3 c4 : Nat) (n : Nat) (w W : World) : Prop where
  b0 : Blk W n #[.int .i64 a.kind, .int .i64 a.bins, .int .i64 a.classes, .slice A1 a.counts.length c1, .slice A2 a.moms.length c2] 36
  b1 : Blk W (n + 1) #[.int .i64 b.kind, .int .i64 b.bins, .int .i64 b.classes, .slice A3 b.counts.length c3, .slice A4 b.moms.length c4] 36
  b2 : Blk W (n + 1 + 1) #[.func (.func f) #[] #[]] 109
  b3 : Blk W (n + 1 + 1 + 1) #[.int .i64 0, .int .i64 0, .int .i64 0, .slice none 0 0, .slice none 0 0] 36
  be : Below n w W
  sz : n + 1 + 1 + 1 < W.heap.size
theorem BB.below {f : Nat} {a b : H} {A1 A2 A3 A4 : Option Addr} {c1 c2 c3 c4 n : Nat} {w W W1 : World} (h : BB f a b A1 A2 A3 A4 c1 c2 c3 c4 n w W) (hb : Below W.heap.size W W1) : BB f a b A1 A2 A3 A4 c1 c2 c3 c4 n w W1 :=
  ⟨h.b0.below hb, h.b1.below hb, h.b2.below hb, h.b3.below hb, h.be.trans (hb.mono (by have := h.sz; omega)), Nat.lt_of_lt_of_le h.sz hb.size⟩
/-- The cells of these. -/
theorem BB.cells {f : Nat} {a b : H} {A1 A2 A3 A4 : Option Addr} {c1 c2 c3 c4 n : Nat} {w W : World} (h : BB f a b A1 A2 A3 A4 c1 c2 c3 c4 n w W) :
    (W.cell? ⟨n, 0, none⟩ = some (.int .i64 a.kind) ∧ W.cell? ⟨n, 1, none⟩ = some (.int .i64 a.bins) ∧ W.cell? ⟨n, 2, none⟩ = some (.int .i64 a.classes) ∧ W.cell? ⟨n, 3, none⟩ = some (.slice A1 a.counts.length c1) ∧ W.cell? ⟨n, 4, none⟩ = some (.slice A2 a.moms.length c2)) ∧
    (W.cell? ⟨n + 1, 0, none⟩ = some (.int .i64 b.kind) ∧ W.cell? ⟨n + 1, 1, none⟩ = some (.int .i64 b.bins) ∧ W.cell? ⟨n + 1, 2, none⟩ = some (.int .i64 b.classes) ∧ W.cell? ⟨n + 1, 3, none⟩ = some (.slice A3 b.counts.length c3) ∧ W.cell? ⟨n + 1, 4, none⟩ = some (.slice A4 b.moms.length c4)) ∧
    W.cell? ⟨n + 1 + 1, 0, none⟩ = some (.func (.func f) #[] #[]) ∧
    (W.cell? ⟨n + 1 + 1 + 1, 0, none⟩ = some (.int .i64 0) ∧ W.cell? ⟨n + 1 + 1 + 1, 1, none⟩ = some (.int .i64 0) ∧ W.cell? ⟨n + 1 + 1 + 1, 2, none⟩ = some (.int .i64 0) ∧ W.cell? ⟨n + 1 + 1 + 1, 3, none⟩ = some (.slice none 0 0) ∧ W.cell? ⟨n + 1 + 1 + 1, 4, none⟩ = some (.slice none 0 0)) ∧
    (∀ i, W.frozen? ⟨n + 1 + 1 + 1, i, none⟩ = false) :=
  ⟨h.b0.cells5, h.b1.cells5, h.b2.cells1, h.b3.cells5, h.b3.frozen⟩
/-- The result's block, written whole. -/
theorem set5 {W : World} {g : Nat} {x0 x1 x2 x3 x4 : Value} {t : TypeId} (h : Blk W g #[x0, x1, x2, x3, x4] t) (a b c d e : Value) :
    Blk (((((W.setCell ⟨g, 0, none⟩ a).setCell ⟨g, 1, none⟩ b).setCell ⟨g, 2, none⟩ c).setCell ⟨g, 3, none⟩ d).setCell ⟨g, 4, none⟩ e) g #[a, b, c, d, e] t := by
  have := ((((h.set 0 a).set 1 b).set 2 c).set 3 d).set 4 e
  exact this
theorem below5 {B : Nat} {w W : World} {g : Nat} (h : Below B w W) (hg : B ≤ g) (a b c d e : Value) :
    Below B w (((((W.setCell ⟨g, 0, none⟩ a).setCell ⟨g, 1, none⟩ b).setCell ⟨g, 2, none⟩ c).setCell ⟨g, 3, none⟩ d).setCell ⟨g, 4, none⟩ e) :=
  ((((h.setCell (p := ⟨g, 0, none⟩) hg a).setCell (p := ⟨g, 1, none⟩) hg b).setCell (p := ⟨g, 2, none⟩) hg c).setCell (p := ⟨g, 3, none⟩) hg d).setCell (p := ⟨g, 4, none⟩) hg e
theorem size_hist : (Try.prog.info? 36).map (·.size) = some 5 := by kernel_rfl

set_option maxRecDepth 100000 in
set_option maxHeartbeats 2000000 in
theorem both_unlike (f : Nat) (op : Int → Int → Bool → Except Int Int) (a b : H) (A1 A2 A3 A4 : Option Addr) (c1 c2 c3 c4 : Nat) (w : World) (ha1 : a.counts.length ≤ 9223372036854775807) (ha2 : a.moms.length ≤ 9223372036854775807) (hb1 : b.counts.length ≤ 9223372036854775807) (hb2 : b.moms.length ≤ 9223372036854775807)
    (hu : ¬ likeP a b) : Calls Try.prog 52 #[hV a A1 A2 c1 c2, hV b A3 A4 c3 c4, .func (.func f) #[] #[]] w (ResH (bothO op a b) w) := by
  rw [both_err hu]
  have ra := fun w => right_any a A1 A2 c1 c2 w ha1 ha2
  have rb := fun w => right_any b A3 A4 c3 c4 w hb1 hb2
  unfold hV at ra rb ⊢
  cases h1 : rightB a with
  | false =>
    rw [h1] at ra
    have RA := Lib.hid ra
    clear ra rb h1 hu ha1 ha2 hb1 hb2
    go_enter Try.func52, Try.ntmps52
    go_wp2_with fail
    obtain ⟨W4, e4⟩ : ∃ W4, W4 = (((w.alloc (.cells #[.int .i64 a.kind, .int .i64 a.bins, .int .i64 a.classes, .slice A1 a.counts.length c1, .slice A2 a.moms.length c2] 36)).alloc (.cells #[.int .i64 b.kind, .int .i64 b.bins, .int .i64 b.classes, .slice A3 b.counts.length c3, .slice A4 b.moms.length c4] 36)).alloc (.cells #[.func (.func f) #[] #[]] 109)).alloc (.cells #[.int .i64 0, .int .i64 0, .int .i64 0, .slice none 0 0, .slice none 0 0] 36) := ⟨_, rfl⟩
    rw [← e4]
    obtain ⟨k0, k1, k2, k3, kb, ks⟩ := boxes4 w _ _ _ _ _ _ _ _ W4 e4
    have BB0 : BB f a b A1 A2 A3 A4 c1 c2 c3 c4 w.heap.size w W4 := ⟨k0, k1, k2, k3, kb, by omega⟩
    clear e4 k0 k1 k2 k3 kb ks
    refine (RA.out _).mono ?_
    rintro e w1 ⟨rfl, hb1⟩
    have BB1 := BB0.below hb1
    obtain ⟨⟨p0, p1, p2, p3, p4⟩, ⟨q0, q1, q2, q3, q4⟩, s0, ⟨r0, r1, r2, r3, r4⟩, hfr⟩ := BB1.cells
    go_wp2
    refine bodyPost_ret (results_ct rfl _ _ (w.heap.size + 1 + 1 + 1) 36 _ _ rfl (set5 BB1.b3 _ _ _ _ _) Try.underlying36 rfl size_hist) rfl ?_
    exact ⟨_, rfl, HNew.zero _ _, below5 BB1.be (by omega) _ _ _ _ _⟩
  | true =>
  rw [h1] at ra
  cases h2 : rightB b with
  | false =>
    rw [h2] at rb
    have RA := Lib.hid ra
    have RB := Lib.hid rb
    clear ra rb h1 h2 hu ha1 ha2 hb1 hb2
    go_enter Try.func52, Try.ntmps52
    go_wp2_with fail
    obtain ⟨W4, e4⟩ : ∃ W4, W4 = (((w.alloc (.cells #[.int .i64 a.kind, .int .i64 a.bins, .int .i64 a.classes, .slice A1 a.counts.length c1, .slice A2 a.moms.length c2] 36)).alloc (.cells #[.int .i64 b.kind, .int .i64 b.bins, .int .i64 b.classes, .slice A3 b.counts.length c3, .slice A4 b.moms.length c4] 36)).alloc (.cells #[.func (.func f) #[] #[]] 109)).alloc (.cells #[.int .i64 0, .int .i64 0, .int .i64 0, .slice none 0 0, .slice none 0 0] 36) := ⟨_, rfl⟩
    rw [← e4]
    obtain ⟨k0, k1, k2, k3, kb, ks⟩ := boxes4 w _ _ _ _ _ _ _ _ W4 e4
    have BB0 : BB f a b A1 A2 A3 A4 c1 c2 c3 c4 w.heap.size w W4 := ⟨k0, k1, k2, k3, kb, by omega⟩
    clear e4 k0 k1 k2 k3 kb ks
    refine (RA.out _).mono ?_
    rintro e w1 ⟨rfl, hb1⟩
    have BB1 := BB0.below hb1
    obtain ⟨⟨p0, p1, p2, p3, p4⟩, ⟨q0, q1, q2, q3, q4⟩, s0, ⟨r0, r1, r2, r3, r4⟩, hfr⟩ := BB1.cells
    go_wp2_with fail
    refine (RB.out _).mono ?_
    rintro e w2 ⟨rfl, hb2⟩
    have BB2 := BB1.below hb2
    clear p0 p1 p2 p3 p4 q0 q1 q2 q3 q4 s0 r0 r1 r2 r3 r4 hfr
    obtain ⟨⟨p0, p1, p2, p3, p4⟩, ⟨q0, q1, q2, q3, q4⟩, s0, ⟨r0, r1, r2, r3, r4⟩, hfr⟩ := BB2.cells
    go_wp2
    refine bodyPost_ret (results_ct rfl _ _ (w.heap.size + 1 + 1 + 1) 36 _ _ rfl (set5 BB2.b3 _ _ _ _ _) Try.underlying36 rfl size_hist) rfl ?_
    exact ⟨_, rfl, HNew.zero _ _, below5 BB2.be (by omega) _ _ _ _ _⟩
  | true =>
    rw [h2] at rb
    have RA := Lib.hid ra
    have RB := Lib.hid rb
    have hx : ¬ (a.kind = b.kind ∧ a.bins = b.bins ∧ a.classes = b.classes) := fun h => hu ⟨of_decide_eq_true h1, of_decide_eq_true h2, h⟩
    obtain ⟨x1, hx1⟩ : ∃ x, (a.kind != b.kind) = x := ⟨_, rfl⟩
    obtain ⟨x2, hx2⟩ : ∃ x, (a.bins != b.bins) = x := ⟨_, rfl⟩
    obtain ⟨x3, hx3⟩ : ∃ x, (a.classes != b.classes) = x := ⟨_, rfl⟩
    have hxx : (x1 || (x2 || x3)) = true := by
      rw [← hx1, ← hx2, ← hx3]
      simp only [Bool.or_eq_true, bne_iff_ne]
      omega
    clear ra rb h1 h2 hu ha1 ha2 hb1 hb2 hx
    go_enter Try.func52, Try.ntmps52
    go_wp2_with fail
    obtain ⟨W4, e4⟩ : ∃ W4, W4 = (((w.alloc (.cells #[.int .i64 a.kind, .int .i64 a.bins, .int .i64 a.classes, .slice A1 a.counts.length c1, .slice A2 a.moms.length c2] 36)).alloc (.cells #[.int .i64 b.kind, .int .i64 b.bins, .int .i64 b.classes, .slice A3 b.counts.length c3, .slice A4 b.moms.length c4] 36)).alloc (.cells #[.func (.func f) #[] #[]] 109)).alloc (.cells #[.int .i64 0, .int .i64 0, .int .i64 0, .slice none 0 0, .slice none 0 0] 36) := ⟨_, rfl⟩
    rw [← e4]
    obtain ⟨k0, k1, k2, k3, kb, ks⟩ := boxes4 w _ _ _ _ _ _ _ _ W4 e4
    have BB0 : BB f a b A1 A2 A3 A4 c1 c2 c3 c4 w.heap.size w W4 := ⟨k0, k1, k2, k3, kb, by omega⟩
    clear e4 k0 k1 k2 k3 kb ks
    refine (RA.out _).mono ?_
    rintro e w1 ⟨rfl, hb1⟩
    have BB1 := BB0.below hb1
    obtain ⟨⟨p0, p1, p2, p3, p4⟩, ⟨q0, q1, q2, q3, q4⟩, s0, ⟨r0, r1, r2, r3, r4⟩, hfr⟩ := BB1.cells
    go_wp2_with fail
    refine (RB.out _).mono ?_
    rintro e w2 ⟨rfl, hb2⟩
    have BB2 := BB1.below hb2
    clear p0 p1 p2 p3 p4 q0 q1 q2 q3 q4 s0 r0 r1 r2 r3 r4 hfr
    obtain ⟨⟨p0, p1, p2, p3, p4⟩, ⟨q0, q1, q2, q3, q4⟩, s0, ⟨r0, r1, r2, r3, r4⟩, hfr⟩ := BB2.cells
    cases x1 <;> cases x2 <;> cases x3 <;> first | (exact absurd hxx (by decide)) | skip
    all_goals
      clear hxx
      go_wp2
      refine bodyPost_ret (results_ct rfl _ _ (w.heap.size + 1 + 1 + 1) 36 _ _ rfl (set5 BB2.b3 _ _ _ _ _) Try.underlying36 rfl size_hist) rfl ?_
      exact ⟨_, rfl, HNew.zero _ _, below5 BB2.be (by omega) _ _ _ _ _⟩
end Go.Proofs.Yteckbgpkoanhfaa.Hb

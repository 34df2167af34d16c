/- The document's answer, layer 12: Add. -/
import Derived.Test.YteckbgpkoanhfaaHbRNew
namespace Go.Proofs.Yteckbgpkoanhfaa.Hb
open Go.RowKit

/-- What Add hands back: a histogram of its own, or what it was handed. -/
def ResA (va : Value) (r : Except Int H) (w : World) (e : Ending) (w' : World) : Prop :=
  ∃ v, e = .returned (.tuple #[v, .int .i64 (errO r)]) ∧ ((∃ x, r = .error x ∧ v = va) ∨ ∃ h', r = .ok h' ∧ HNew w.heap.size h' w' v) ∧ Below w.heap.size w w'
structure BA (a : H) (A1 A2 : Option Addr) (c1 c2 : Nat) (n : Nat) (w W : World) : Prop where
  b0 : Blk W n #[.int .i64 a.kind, .int .i64 a.bins, .int .i64 a.classes, .slice A1 a.counts.length c1, .slice A2 a.moms.length c2] 36
  b1 : Blk W (n + 1) #[.int .i64 0, .int .i64 0, .int .i64 0, .slice none 0 0, .slice none 0 0] 36
  be : Below n w W
theorem BA.below {a : H} {A1 A2 : Option Addr} {c1 c2 n : Nat} {w W W1 : World} (h : BA a A1 A2 c1 c2 n w W) (hb : Below W.heap.size W W1) : BA a A1 A2 c1 c2 n w W1 :=
  ⟨h.b0.below hb, h.b1.below hb, h.be.trans (hb.mono (by have := h.b0.lt; omega))⟩
theorem BA.cells {a : H} {A1 A2 : Option Addr} {c1 c2 n : Nat} {w W : World} (h : BA a A1 A2 c1 c2 n w W) :
    (W.cell? ⟨n, 0, none⟩ = some (.int .i64 a.kind) ∧ W.cell? ⟨n, 1, none⟩ = some (.int .i64 a.bins) ∧ W.cell? ⟨n, 2, none⟩ = some (.int .i64 a.classes) ∧ W.cell? ⟨n, 3, none⟩ = some (.slice A1 a.counts.length c1) ∧ W.cell? ⟨n, 4, none⟩ = some (.slice A2 a.moms.length c2)) ∧
    (W.cell? ⟨n + 1, 0, none⟩ = some (.int .i64 0) ∧ W.cell? ⟨n + 1, 1, none⟩ = some (.int .i64 0) ∧ W.cell? ⟨n + 1, 2, none⟩ = some (.int .i64 0) ∧ W.cell? ⟨n + 1, 3, none⟩ = some (.slice none 0 0) ∧ W.cell? ⟨n + 1, 4, none⟩ = some (.slice none 0 0)) ∧
    (∀ i, W.frozen? ⟨n + 1, i, none⟩ = false) ∧ n < W.heap.size ∧ n + 1 < W.heap.size :=
  ⟨h.b0.cells5, h.b1.cells5, h.b1.frozen, h.b0.lt, h.b1.lt⟩
theorem BA.new (a : H) (A1 A2 : Option Addr) (c1 c2 : Nat) (w W : World) (e : W = (w.alloc (.cells #[.int .i64 a.kind, .int .i64 a.bins, .int .i64 a.classes, .slice A1 a.counts.length c1, .slice A2 a.moms.length c2] 36)).alloc (.cells #[.int .i64 0, .int .i64 0, .int .i64 0, .slice none 0 0, .slice none 0 0] 36)) : BA a A1 A2 c1 c2 w.heap.size w W := by
  obtain ⟨k0, k1, kb, ks⟩ := boxes2' w _ _ _ _ W e
  exact ⟨k0, k1, kb⟩
theorem ResA.err {va : Value} {r : Except Int H} {w w' : World} {e : Ending} {x : Int} (hr : r = .error x) (he : e = .returned (.tuple #[va, .int .i64 x])) (hb : Below w.heap.size w w') : ResA va r w e w' :=
  ⟨va, by rw [he, hr]; rfl, .inl ⟨x, hr, rfl⟩, hb⟩
set_option maxRecDepth 100000 in
set_option maxHeartbeats 4000000 in
theorem radd_8 {h : H} {va : Value} {w : World} (ra : RdH w h va) (bin t k : Int) (hr : ¬ rightP h) : Calls Try.prog 22 #[va, .int .i64 bin, .int .i64 t, .int .i64 k] w (ResA va (addO h bin t k) w) := by
  have kr := fun W (hb : Below w.heap.size w W) => rright_rd (ra.below hb)
  rw [show rightB h = false from decide_eq_false hr] at kr
  rw [add_8 hr]
  have KR := Lib.hid kr
  obtain ⟨A1, A2, c1, c2, rfl, _⟩ := ra
  clear kr hr
  unfold hV at KR ⊢
  go_enter Try.func22, Try.ntmps22
  go_wp2_with fail
  obtain ⟨W2, e2⟩ : ∃ W2, W2 = (w.alloc (.cells #[.int .i64 h.kind, .int .i64 h.bins, .int .i64 h.classes, .slice A1 h.counts.length c1, .slice A2 h.moms.length c2] 36)).alloc (.cells #[.int .i64 0, .int .i64 0, .int .i64 0, .slice none 0 0, .slice none 0 0] 36) := ⟨_, rfl⟩
  rw [← e2]
  have X := BA.new _ _ _ _ _ _ _ e2
  clear e2
  refine (KR.out _ X.be).mono ?_
  rintro e w1 ⟨rfl, hb⟩
  replace X := X.below hb
  clear hb
  obtain ⟨⟨p0, p1, p2, p3, p4⟩, ⟨q0, q1, q2, q3, q4⟩, sf, z0, z1⟩ := X.cells
  go_wp2
  refine bodyPost_ret (results_ct rfl _ _ (w.heap.size + 1) 36 _ _ rfl (set5 X.b1 _ _ _ _ _) Try.underlying36 rfl size_hist) rfl ?_
  exact ResA.err rfl rfl (below5 X.be (by omega) _ _ _ _ _)
set_option maxRecDepth 100000 in
set_option maxHeartbeats 4000000 in
theorem radd_5 {h : H} {va : Value} {w : World} (ra : RdH w h va) (bin t k : Int) (hr : rightP h) (hbad : addBad h bin t) : Calls Try.prog 22 #[va, .int .i64 bin, .int .i64 t, .int .i64 k] w (ResA va (addO h bin t k) w) := by
  have kr := fun W (hb : Below w.heap.size w W) => rright_rd (ra.below hb)
  rw [show rightB h = true from decide_eq_true hr] at kr
  rw [add_5 hr hbad]
  have KR := Lib.hid kr
  obtain ⟨A1, A2, c1, c2, rfl, _⟩ := ra
  have hmay := hr.1
  have hcs : h.kind = 0 → 2 ≤ h.classes ∧ h.classes ≤ 256 := fun e => by have := hmay.2.2; omega
  have hx : (bin < 0) ∨ (0 ≤ bin ∧ h.bins ≤ bin) ∨ (0 ≤ bin ∧ bin < h.bins ∧ h.kind = 0 ∧ t < 0) ∨ (0 ≤ bin ∧ bin < h.bins ∧ h.kind = 0 ∧ 0 ≤ t ∧ 255 < t) ∨ (0 ≤ bin ∧ bin < h.bins ∧ h.kind = 0 ∧ 0 ≤ t ∧ t ≤ 255 ∧ h.classes ≤ t) := by
    unfold addBad at hbad; omega
  clear kr hr hbad hmay hcs
  unfold hV at KR ⊢
  go_enter Try.func22, Try.ntmps22
  go_wp2_with fail
  obtain ⟨W2, e2⟩ : ∃ W2, W2 = (w.alloc (.cells #[.int .i64 h.kind, .int .i64 h.bins, .int .i64 h.classes, .slice A1 h.counts.length c1, .slice A2 h.moms.length c2] 36)).alloc (.cells #[.int .i64 0, .int .i64 0, .int .i64 0, .slice none 0 0, .slice none 0 0] 36) := ⟨_, rfl⟩
  rw [← e2]
  have X := BA.new _ _ _ _ _ _ _ e2
  clear e2
  refine (KR.out _ X.be).mono ?_
  rintro e w1 ⟨rfl, hb⟩
  replace X := X.below hb
  clear hb
  obtain ⟨⟨p0, p1, p2, p3, p4⟩, ⟨q0, q1, q2, q3, q4⟩, sf, z0, z1⟩ := X.cells
  rcases hx with x1 | ⟨x1, x2⟩ | ⟨x1, x2, x3, x4⟩ | ⟨x1, x2, x3, x4, x5⟩ | ⟨x1, x2, x3, x4, x5, x6⟩
  · have d1 : decide (bin < 0) = true := decide_eq_true x1
    clear x1
    go_wp2
    refine bodyPost_ret (results_ct rfl _ _ (w.heap.size + 1) 36 _ _ rfl (set5 X.b1 _ _ _ _ _) Try.underlying36 rfl size_hist) rfl ?_
    exact ResA.err rfl rfl (below5 X.be (by omega) _ _ _ _ _)
  · have d1 : decide (bin < 0) = false := decide_eq_false (by omega)
    have d2 : decide (h.bins ≤ bin) = true := decide_eq_true x2
    clear x1 x2
    go_wp2
    refine bodyPost_ret (results_ct rfl _ _ (w.heap.size + 1) 36 _ _ rfl (set5 X.b1 _ _ _ _ _) Try.underlying36 rfl size_hist) rfl ?_
    exact ResA.err rfl rfl (below5 X.be (by omega) _ _ _ _ _)
  · have d1 : decide (bin < 0) = false := decide_eq_false (by omega)
    have d2 : decide (h.bins ≤ bin) = false := decide_eq_false (by omega)
    have k0 : (h.kind == 0) = true := beq_iff_eq.2 x3
    have d3 : decide (t < 0) = true := decide_eq_true x4
    clear x1 x2 x3 x4
    go_wp2
    refine bodyPost_ret (results_ct rfl _ _ (w.heap.size + 1) 36 _ _ rfl (set5 X.b1 _ _ _ _ _) Try.underlying36 rfl size_hist) rfl ?_
    exact ResA.err rfl rfl (below5 X.be (by omega) _ _ _ _ _)
  · have d1 : decide (bin < 0) = false := decide_eq_false (by omega)
    have d2 : decide (h.bins ≤ bin) = false := decide_eq_false (by omega)
    have k0 : (h.kind == 0) = true := beq_iff_eq.2 x3
    have d3 : decide (t < 0) = false := decide_eq_false (by omega)
    have d4 : decide (255 < t) = true := decide_eq_true x5
    clear x1 x2 x3 x4 x5
    go_wp2
    refine bodyPost_ret (results_ct rfl _ _ (w.heap.size + 1) 36 _ _ rfl (set5 X.b1 _ _ _ _ _) Try.underlying36 rfl size_hist) rfl ?_
    exact ResA.err rfl rfl (below5 X.be (by omega) _ _ _ _ _)
  · have d1 : decide (bin < 0) = false := decide_eq_false (by omega)
    have d2 : decide (h.bins ≤ bin) = false := decide_eq_false (by omega)
    have k0 : (h.kind == 0) = true := beq_iff_eq.2 x3
    have d3 : decide (t < 0) = false := decide_eq_false (by omega)
    have d4 : decide (255 < t) = false := decide_eq_false (by omega)
    have d5 : decide (h.classes ≤ t) = true := decide_eq_true x6
    have tw : IntKind.i64.wrap t = t := by rw [IntKind.wrap_i64]; omega
    clear x1 x2 x3 x4 x5 x6
    go_wp2
    refine bodyPost_ret (results_ct rfl _ _ (w.heap.size + 1) 36 _ _ rfl (set5 X.b1 _ _ _ _ _) Try.underlying36 rfl size_hist) rfl ?_
    exact ResA.err rfl rfl (below5 X.be (by omega) _ _ _ _ _)
set_option maxRecDepth 100000 in
set_option maxHeartbeats 4000000 in
theorem radd_1 {h : H} {va : Value} {w : World} (ra : RdH w h va) (bin t k : Int) (hr : rightP h) (hbad : ¬ addBad h bin t) (hk : k < 0) : Calls Try.prog 22 #[va, .int .i64 bin, .int .i64 t, .int .i64 k] w (ResA va (addO h bin t k) w) := by
  have kr := fun W (hb : Below w.heap.size w W) => rright_rd (ra.below hb)
  rw [show rightB h = true from decide_eq_true hr] at kr
  rw [add_1 hr hbad hk]
  have KR := Lib.hid kr
  obtain ⟨A1, A2, c1, c2, rfl, _⟩ := ra
  have hmay := hr.1
  have x1 : ¬ bin < 0 := fun e => hbad (.inl e)
  have x2 : ¬ bin ≥ h.bins := fun e => hbad (.inr (.inl e))
  have hx : (h.kind = 0 ∧ 0 ≤ t ∧ t ≤ 255 ∧ t < h.classes) ∨ ¬ h.kind = 0 := by
    by_cases h0 : h.kind = 0
    · left
      have x3 : ¬ t < 0 := fun e => hbad (.inr (.inr ⟨h0, .inl e⟩))
      have x4 : ¬ t ≥ h.classes := fun e => hbad (.inr (.inr ⟨h0, .inr e⟩))
      have := hmay.2.2
      omega
    · exact .inr h0
  have d1 : decide (bin < 0) = false := decide_eq_false (by omega)
  have d2 : decide (h.bins ≤ bin) = false := decide_eq_false (by omega)
  have dk : decide (k < 0) = true := decide_eq_true hk
  clear kr hr hbad hmay x1 x2 hk
  unfold hV at KR ⊢
  go_enter Try.func22, Try.ntmps22
  go_wp2_with fail
  obtain ⟨W2, e2⟩ : ∃ W2, W2 = (w.alloc (.cells #[.int .i64 h.kind, .int .i64 h.bins, .int .i64 h.classes, .slice A1 h.counts.length c1, .slice A2 h.moms.length c2] 36)).alloc (.cells #[.int .i64 0, .int .i64 0, .int .i64 0, .slice none 0 0, .slice none 0 0] 36) := ⟨_, rfl⟩
  rw [← e2]
  have X := BA.new _ _ _ _ _ _ _ e2
  clear e2
  refine (KR.out _ X.be).mono ?_
  rintro e w1 ⟨rfl, hb⟩
  replace X := X.below hb
  clear hb
  obtain ⟨⟨p0, p1, p2, p3, p4⟩, ⟨q0, q1, q2, q3, q4⟩, sf, z0, z1⟩ := X.cells
  rcases hx with ⟨x3, x4, x5, x6⟩ | x3
  · have k0 : (h.kind == 0) = true := beq_iff_eq.2 x3
    have d3 : decide (t < 0) = false := decide_eq_false (by omega)
    have d4 : decide (255 < t) = false := decide_eq_false (by omega)
    have d5 : decide (h.classes ≤ t) = false := decide_eq_false (by omega)
    have tw : IntKind.i64.wrap t = t := by rw [IntKind.wrap_i64]; omega
    clear x3 x4 x5 x6
    go_wp2
    refine bodyPost_ret (results_ct rfl _ _ (w.heap.size + 1) 36 _ _ rfl (set5 X.b1 _ _ _ _ _) Try.underlying36 rfl size_hist) rfl ?_
    exact ResA.err rfl rfl (below5 X.be (by omega) _ _ _ _ _)
  · have k0 : (h.kind == 0) = false := beq_eq_false_iff_ne.2 x3
    clear x3
    go_wp2
    refine bodyPost_ret (results_ct rfl _ _ (w.heap.size + 1) 36 _ _ rfl (set5 X.b1 _ _ _ _ _) Try.underlying36 rfl size_hist) rfl ?_
    exact ResA.err rfl rfl (below5 X.be (by omega) _ _ _ _ _)
set_option maxRecDepth 100000 in
set_option maxHeartbeats 4000000 in
theorem radd_c {h : H} {va : Value} {w : World} (ra : RdH w h va) (bin t k : Int) (hkR : inR k) (hr : rightP h) (hbad : ¬ addBad h bin t) (hk : ¬ k < 0) (h0 : h.kind = 0) : Calls Try.prog 22 #[va, .int .i64 bin, .int .i64 t, .int .i64 k] w (ResA va (addO h bin t k) w) := by
  have kr := fun W (hb : Below w.heap.size w W) => rright_rd (ra.below hb)
  rw [show rightB h = true from decide_eq_true hr] at kr
  have gs := right_small hr
  obtain ⟨gs1, gs2⟩ := gs
  have kc := fun W (hb : Below w.heap.size w W) => copy_all (ra.below hb) gs1 (by omega)
  have hadd := add_c hr hbad hk h0
  have KR := Lib.hid kr
  have KC := Lib.hid kc
  obtain ⟨A1, A2, c1, c2, rfl, r1, r2, l1, l2⟩ := ra
  have hmay := hr.1
  have x1 : ¬ bin < 0 := fun e => hbad (.inl e)
  have x2 : ¬ bin ≥ h.bins := fun e => hbad (.inr (.inl e))
  have x3 : ¬ t < 0 := fun e => hbad (.inr (.inr ⟨h0, .inl e⟩))
  have x4 : ¬ t ≥ h.classes := fun e => hbad (.inr (.inr ⟨h0, .inr e⟩))
  have hc := hmay.2.2
  have hb257 := hmay.2.1
  have hlen : (h.counts.length : Int) = h.bins * h.classes := by rcases hr.2 with ⟨_, e, _⟩ | ⟨e, _⟩ <;> first | exact e | exact absurd h0 e
  have m1 : (bin + 1) * h.classes ≤ h.bins * h.classes := Int.mul_le_mul_of_nonneg_right (by omega) (by omega)
  have m2 : h.bins * h.classes ≤ 257 * h.classes := Int.mul_le_mul_of_nonneg_right hb257 (by omega)
  have m3 : 0 ≤ bin * h.classes := Int.mul_nonneg (by omega) (by omega)
  rw [Int.add_mul, Int.one_mul] at m1
  obtain ⟨at', hat⟩ : ∃ n : Nat, bin * h.classes + t = n := ⟨(bin * h.classes + t).toNat, by omega⟩
  have hlt : at' < h.counts.length := by omega
  have hlt3 : (at' : Int) < h.counts.length := by omega
  have m4 : bin * h.classes ≤ 65792 := by omega
  have m5 : (at' : Int) ≤ 65792 := by omega
  rw [hat, Int.toNat_natCast] at hadd
  have d1 : decide (bin < 0) = false := decide_eq_false (by omega)
  have d2 : decide (h.bins ≤ bin) = false := decide_eq_false (by omega)
  have dk : decide (k < 0) = false := decide_eq_false (by omega)
  have k0 : (h.kind == 0) = true := beq_iff_eq.2 h0
  have d3 : decide (t < 0) = false := decide_eq_false (by omega)
  have d4 : decide (255 < t) = false := decide_eq_false (by omega)
  have d5 : decide (h.classes ≤ t) = false := decide_eq_false (by omega)
  have tw : IntKind.i64.wrap t = t := by rw [IntKind.wrap_i64]; omega
  have i1 := r1.inR hlt
  obtain ⟨u, hu⟩ : ∃ u, h.counts.getD at' 0 = u := ⟨_, rfl⟩
  rw [hu] at hadd i1
  have hxc : h.counts[at']? = some u := by
    rw [List.getD_eq_getElem?_getD, List.getElem?_eq_getElem hlt] at hu
    rw [List.getElem?_eq_getElem hlt]; simpa using hu
  have hp := fun w => rplus_any u k i1 hkR w
  unfold RefOp at hp
  obtain ⟨x, y, hxy⟩ := res_form (lim (u + k))
  rw [hxy] at hp
  have HXY := Lib.hid hxy
  have HP := Lib.hid hp
  have HADD := Lib.hid hadd
  have HU := Lib.hid hu
  have HXC := Lib.hid hxc
  have R1 := Lib.hid r1
  clear kr kc hr hbad hmay x1 x2 x3 x4 hc hb257 hlen m1 m2 hk h0 r1 r2 l1 l2 i1 hu hxc hp hxy hadd gs1 gs2 hkR
  unfold hV at KR KC ⊢
  go_enter Try.func22, Try.ntmps22
  go_wp2_with fail
  obtain ⟨W2, e2⟩ : ∃ W2, W2 = (w.alloc (.cells #[.int .i64 h.kind, .int .i64 h.bins, .int .i64 h.classes, .slice A1 h.counts.length c1, .slice A2 h.moms.length c2] 36)).alloc (.cells #[.int .i64 0, .int .i64 0, .int .i64 0, .slice none 0 0, .slice none 0 0] 36) := ⟨_, rfl⟩
  rw [← e2]
  have X := BA.new _ _ _ _ _ _ _ e2
  clear e2
  refine (KR.out _ X.be).mono ?_
  rintro e w1 ⟨rfl, hb⟩
  replace X := X.below hb
  clear hb
  obtain ⟨⟨p0, p1, p2, p3, p4⟩, ⟨q0, q1, q2, q3, q4⟩, sf, z0, z1⟩ := X.cells
  go_wp2_with fail
  refine (KC.out _ X.be).mono ?_
  rintro e w2 ⟨v, rfl, ⟨v1, v2, rfl, o1, o2⟩, hb⟩
  obtain ⟨B1, f1, rfl⟩ := own_slice o1
  obtain ⟨B2, f2, rfl⟩ := own_slice o2
  have bs := X.be.size
  replace X := X.below hb
  clear hb p0 p1 p2 p3 p4 q0 q1 q2 q3 q4 sf z0 z1
  obtain ⟨⟨p0, p1, p2, p3, p4⟩, ⟨q0, q1, q2, q3, q4⟩, sf, z0, z1⟩ := X.cells
  have nn0 : w.heap.size ≠ w2.heap.size := by omega
  have nn1 : w.heap.size + 1 ≠ w2.heap.size := by omega
  have nn2 : w2.heap.size ≠ w.heap.size := by omega
  have nn3 : w2.heap.size ≠ w.heap.size + 1 := by omega
  go_upto_region 13 with (fail)
  obtain ⟨W5, e5⟩ : ∃ W5, W5 = w2.alloc (.cells #[.int .i64 h.kind, .int .i64 h.bins, .int .i64 h.classes, .slice B1 h.counts.length f1, .slice B2 h.moms.length f2] 36) := ⟨_, rfl⟩
  rw [← e5]
  have bo : Below w2.heap.size w2 W5 := by rw [e5]; exact (Below.refl _ _).alloc (Nat.le_refl _) _
  replace X := X.below bo
  have O : BO h w.heap.size w2.heap.size B1 B2 f1 f2 h.counts h.moms W5 := by
    rw [e5]
    exact ⟨Blk.new _ _ _, (World.ownsRow.mono o1 bs).alloc _, (World.ownsRow.mono o2 bs).alloc _⟩
  obtain ⟨g, hg⟩ : ∃ g, w2.heap.size = g := ⟨_, rfl⟩
  rw [hg] at O nn0 nn1 nn2 nn3 ⊢
  clear e5 bo o1 o2 hg bs p0 p1 p2 p3 p4 q0 q1 q2 q3 q4 sf z0 z1
  obtain ⟨⟨p0, p1, p2, p3, p4⟩, ⟨q0, q1, q2, q3, q4⟩, sf, z0, z1⟩ := X.cells
  obtain ⟨ad1, rfl, ha⟩ := (R1.out.below X.be).at hlt
  have y1 := ha at' hlt
  rw [HU.out] at y1
  have HX := Lib.hid X
  have HO := Lib.hid O
  clear ha X O
  go_cut [13, 14] (fun nv ev wc => nv = .int .i64 x ∧ ev = .int .i64 y ∧ Below W5.heap.size W5 wc)
  case first =>
    go_wp2_with (go_at_call 49; refine (HP.out _).mono ?_; rintro e w6 ⟨rfl, hb1⟩)
    go_meet
    case rel => exact ⟨rfl, rfl, hb1⟩
  case rest =>
    obtain ⟨rfl, rfl, hb⟩ := hcut
    clear p0 p1 p2 p3 p4 q0 q1 q2 q3 q4 sf z0 z1 y1
    have X := HX.out.below hb
    have O := HO.out.below hb
    obtain ⟨⟨p0, p1, p2, p3, p4⟩, ⟨q0, q1, q2, q3, q4⟩, sf, z0, z1⟩ := X.cells
    have hxy := HXY.out
    have hadd := HADD.out
    cases hlim : lim (u + k) with
    | none =>
      rw [hlim] at hxy hadd
      simp only [res, Value.tuple.injEq, Array.mk.injEq, List.cons.injEq, Value.int.injEq, and_true, true_and] at hxy
      obtain ⟨rfl, rfl⟩ := hxy
      have HA := Lib.hid hadd
      clear hadd hlim
      go_wp2
      refine bodyPost_ret (results_ct rfl _ _ (w.heap.size + 1) 36 _ _ rfl (set5 X.b1 _ _ _ _ _) Try.underlying36 rfl size_hist) rfl ?_
      exact ResA.err HA.out rfl (below5 X.be (by omega) _ _ _ _ _)
    | some z =>
      rw [hlim] at hxy hadd
      simp only [res, Value.tuple.injEq, Array.mk.injEq, List.cons.injEq, Value.int.injEq, and_true, true_and] at hxy
      obtain ⟨rfl, rfl⟩ := hxy
      have HA := Lib.hid hadd
      clear hadd hlim
      obtain ⟨gr, cap, hv, _, _, gl, _⟩ := own_open O.r1 (by omega)
      simp only [Value.slice.injEq, true_and] at hv
      obtain ⟨rfl, -⟩ := hv
      obtain ⟨t0, t1, t2, t3, t4⟩ := O.blk.cells5
      have fr := fun i => World.ownsRow.frozenAt O.r1 i
      have rc := own_cell O.r1 (j := at') (u := .int .i64 u) (by rw [ints, List.getElem?_map, HXC.out]; rfl)
      have rn := row_ne O.blk O.r1 (by decide)
      have rn' := rn.symm
      have rn1 := row_ne X.b1 O.r1 (by decide)
      have rn1' := rn1.symm
      have kO := O.set1 at' z
      have k1 := X.b1.other (p := ⟨gr, at', none⟩) rn1 (.int .i64 z)
      have kb := X.be.setCell (p := ⟨gr, at', none⟩) (World.ownsRow.lt O.r1 gr rfl).1 (.int .i64 z)
      go_wp2
      refine bodyPost_ret (results_ct rfl _ _ (w.heap.size + 1) 36 _ _ rfl (set5 k1 _ _ _ _ _) Try.underlying36 rfl size_hist) rfl ?_
      refine ⟨_, by rw [HA.out]; rfl, .inr ⟨_, HA.out, _, _, rfl, own_set5 ?_ k1 (by decide) _ _ _ _ _, own_set5 kO.r2 k1 (by decide) _ _ _ _ _⟩, below5 kb (by omega) _ _ _ _ _⟩
      have := kO.r1
      show World.ownsRow _ _ _ _ _ (h.counts.set at' z).length _
      rw [List.length_set]
      exact this
set_option maxRecDepth 100000 in
set_option maxHeartbeats 4000000 in
theorem radd_m {h : H} {va : Value} {w : World} (ra : RdH w h va) (bin t k : Int) (htR : inR t) (hkR : inR k) (hr : rightP h) (hbad : ¬ addBad h bin t) (hk : ¬ k < 0) (h0 : ¬ h.kind = 0) : Calls Try.prog 22 #[va, .int .i64 bin, .int .i64 t, .int .i64 k] w (ResA va (addO h bin t k) w) := by
  have kr := fun W (hb : Below w.heap.size w W) => rright_rd (ra.below hb)
  rw [show rightB h = true from decide_eq_true hr] at kr
  have gs := right_small hr
  obtain ⟨gs1, gs2⟩ := gs
  have kc := fun W (hb : Below w.heap.size w W) => copy_all (ra.below hb) gs1 (by omega)
  have hadd := add_m hr hbad hk h0
  have KR := Lib.hid kr
  have KC := Lib.hid kc
  obtain ⟨A1, A2, c1, c2, rfl, r1, r2, l1, l2⟩ := ra
  have hmay := hr.1
  have x1 : ¬ bin < 0 := fun e => hbad (.inl e)
  have x2 : ¬ bin ≥ h.bins := fun e => hbad (.inr (.inl e))
  have hb257 := hmay.2.1
  have hlen : (h.moms.length : Int) = h.bins := by rcases hr.2 with ⟨e, _⟩ | ⟨_, _, e⟩ <;> first | exact e | exact absurd e h0
  obtain ⟨at', rfl⟩ : ∃ n : Nat, bin = n := ⟨bin.toNat, by omega⟩
  have hlt : at' < h.moms.length := by omega
  have hlt3 : (at' : Int) < h.moms.length := by omega
  have m5 : (at' : Int) ≤ 65792 := by omega
  rw [Int.toNat_natCast] at hadd
  have d1 : decide ((at' : Int) < 0) = false := decide_eq_false (by omega)
  have d2 : decide (h.bins ≤ at') = false := decide_eq_false (by omega)
  have dk : decide (k < 0) = false := decide_eq_false (by omega)
  have k0 : (h.kind == 0) = false := beq_eq_false_iff_ne.2 h0
  have i1 := r2.okAt hlt
  obtain ⟨u, hu⟩ : ∃ u, mAt h.moms at' = u := ⟨_, rfl⟩
  rw [hu] at i1
  rw [show h.moms.getD at' m0 = u from hu] at hadd
  have hxc : h.moms[at']? = some u := by
    unfold mAt at hu
    rw [List.getD_eq_getElem?_getD, List.getElem?_eq_getElem hlt] at hu
    rw [List.getElem?_eq_getElem hlt]; simpa using hu
  have e60 : ((6 : Int) != 0) = true := rfl
  have e00 : ((0 : Int) != 0) = false := rfl
  have I1 := Lib.hid i1
  have HADD := Lib.hid hadd
  have HU := Lib.hid hu
  have HXC := Lib.hid hxc
  have R2 := Lib.hid r2
  clear kr kc hr hbad hmay x1 x2 hb257 hlen hk h0 r1 r2 l1 l2 i1 hu hxc hadd gs1 gs2
  unfold hV at KR KC ⊢
  go_enter Try.func22, Try.ntmps22
  go_wp2_with fail
  obtain ⟨W2, e2⟩ : ∃ W2, W2 = (w.alloc (.cells #[.int .i64 h.kind, .int .i64 h.bins, .int .i64 h.classes, .slice A1 h.counts.length c1, .slice A2 h.moms.length c2] 36)).alloc (.cells #[.int .i64 0, .int .i64 0, .int .i64 0, .slice none 0 0, .slice none 0 0] 36) := ⟨_, rfl⟩
  rw [← e2]
  have X := BA.new _ _ _ _ _ _ _ e2
  clear e2
  refine (KR.out _ X.be).mono ?_
  rintro e w1 ⟨rfl, hb⟩
  replace X := X.below hb
  clear hb
  obtain ⟨⟨p0, p1, p2, p3, p4⟩, ⟨q0, q1, q2, q3, q4⟩, sf, z0, z1⟩ := X.cells
  go_wp2_with fail
  refine (KC.out _ X.be).mono ?_
  rintro e w2 ⟨v, rfl, ⟨v1, v2, rfl, o1, o2⟩, hb⟩
  obtain ⟨B1, f1, rfl⟩ := own_slice o1
  obtain ⟨B2, f2, rfl⟩ := own_slice o2
  have bs := X.be.size
  replace X := X.below hb
  clear hb p0 p1 p2 p3 p4 q0 q1 q2 q3 q4 sf z0 z1
  obtain ⟨⟨p0, p1, p2, p3, p4⟩, ⟨q0, q1, q2, q3, q4⟩, sf, z0, z1⟩ := X.cells
  have nn0 : w.heap.size ≠ w2.heap.size := by omega
  have nn1 : w.heap.size + 1 ≠ w2.heap.size := by omega
  have nn2 : w2.heap.size ≠ w.heap.size := by omega
  have nn3 : w2.heap.size ≠ w.heap.size + 1 := by omega
  have hp1 := fun w => rtimes_any t k htR hkR w
  unfold RefOp at hp1
  cases h1 : lim (t * k) with
  | none =>
    have ee : momentO t k = .error 6 := momentO_1 h1
    have hadd := HADD.out
    rw [ee] at hadd
    rw [h1] at hp1
    have HA := Lib.hid hadd
    have HP := Lib.hid hp1
    clear hadd h1 hp1 ee
    go_wp2_with fail
    obtain ⟨W5, e5⟩ : ∃ W5, W5 = w2.alloc (.cells #[.int .i64 h.kind, .int .i64 h.bins, .int .i64 h.classes, .slice B1 h.counts.length f1, .slice B2 h.moms.length f2] 36) := ⟨_, rfl⟩
    rw [← e5]
    replace X := X.below (show Below w2.heap.size w2 W5 by rw [e5]; exact (Below.refl _ _).alloc (Nat.le_refl _) _)
    clear e5 p0 p1 p2 p3 p4 q0 q1 q2 q3 q4 sf z0 z1
    refine (HP.out _).mono ?_
    rintro e w6 ⟨rfl, hb⟩
    replace X := X.below hb
    clear hb
    obtain ⟨⟨p0, p1, p2, p3, p4⟩, ⟨q0, q1, q2, q3, q4⟩, sf, z0, z1⟩ := X.cells
    simp only [res]
    go_wp2
    refine bodyPost_ret (results_ct rfl _ _ (w.heap.size + 1) 36 _ _ rfl (set5 X.b1 _ _ _ _ _) Try.underlying36 rfl size_hist) rfl ?_
    exact ResA.err HA.out rfl (below5 X.be (by omega) _ _ _ _ _)
  | some s =>
    have hs := lim_some h1
    have hp2 := fun w => rtimes_any t s htR (by rw [hs.1]; exact hs.2) w
    unfold RefOp at hp2
    rw [h1] at hp1
    have HP := Lib.hid hp1
    clear hp1
    cases h2 : lim (t * s) with
    | none =>
      have ee : momentO t k = .error 6 := momentO_2 h1 h2
      have hadd := HADD.out
      rw [ee] at hadd
      rw [h2] at hp2
      have HA := Lib.hid hadd
      have HP2 := Lib.hid hp2
      clear hadd h1 hp2 ee hs h2
      go_wp2_with fail
      obtain ⟨W5, e5⟩ : ∃ W5, W5 = w2.alloc (.cells #[.int .i64 h.kind, .int .i64 h.bins, .int .i64 h.classes, .slice B1 h.counts.length f1, .slice B2 h.moms.length f2] 36) := ⟨_, rfl⟩
      rw [← e5]
      replace X := X.below (show Below w2.heap.size w2 W5 by rw [e5]; exact (Below.refl _ _).alloc (Nat.le_refl _) _)
      clear e5 p0 p1 p2 p3 p4 q0 q1 q2 q3 q4 sf z0 z1
      refine (HP.out _).mono ?_
      rintro e w6 ⟨rfl, hb⟩
      replace X := X.below hb
      clear hb
      simp only [res]
      go_wp2_with fail
      refine (HP2.out _).mono ?_
      rintro e w7 ⟨rfl, hb⟩
      replace X := X.below hb
      clear hb
      obtain ⟨⟨p0, p1, p2, p3, p4⟩, ⟨q0, q1, q2, q3, q4⟩, sf, z0, z1⟩ := X.cells
      simp only [res]
      go_wp2
      refine bodyPost_ret (results_ct rfl _ _ (w.heap.size + 1) 36 _ _ rfl (set5 X.b1 _ _ _ _ _) Try.underlying36 rfl size_hist) rfl ?_
      exact ResA.err HA.out rfl (below5 X.be (by omega) _ _ _ _ _)
    | some q =>
      have hq := lim_some h2
      have ee : momentO t k = .ok ⟨k, s, q⟩ := momentO_3 h1 h2
      have hadd := HADD.out
      rw [ee] at hadd
      rw [h2] at hp2
      have hp3 := fun w => rplusM_any u ⟨k, s, q⟩ I1.out ⟨hkR, by rw [hs.1]; exact hs.2, by rw [hq.1]; exact hq.2⟩ w
      unfold momV at hp3
      obtain ⟨rr, hrr⟩ : ∃ rr, momO opP u ⟨k, s, q⟩ = rr := ⟨_, rfl⟩
      obtain ⟨v1, v2, v3, v4, hz⟩ : ∃ z1 z2 z3 z4, momE rr = .tuple #[.agg #[.int .i64 z1, .int .i64 z2, .int .i64 z3], .int .i64 z4] := ⟨_, _, _, _, rfl⟩
      rw [hrr, hz] at hp3
      simp only [hrr] at hadd
      have HZ := Lib.hid hz
      have HRR := Lib.hid hrr
      have HP2 := Lib.hid hp2
      have HP3 := Lib.hid hp3
      have HA := Lib.hid hadd
      clear hadd h1 hp2 ee hs h2 hq hp3 hz hrr HADD htR hkR
      go_wp2_with fail
      obtain ⟨W5, e5⟩ : ∃ W5, W5 = w2.alloc (.cells #[.int .i64 h.kind, .int .i64 h.bins, .int .i64 h.classes, .slice B1 h.counts.length f1, .slice B2 h.moms.length f2] 36) := ⟨_, rfl⟩
      rw [← e5]
      have bo : Below w2.heap.size w2 W5 := by rw [e5]; exact (Below.refl _ _).alloc (Nat.le_refl _) _
      replace X := X.below bo
      have O : BO h w.heap.size w2.heap.size B1 B2 f1 f2 h.counts h.moms W5 := by
        rw [e5]
        exact ⟨Blk.new _ _ _, (World.ownsRow.mono o1 bs).alloc _, (World.ownsRow.mono o2 bs).alloc _⟩
      obtain ⟨g, hg⟩ : ∃ g, w2.heap.size = g := ⟨_, rfl⟩
      rw [hg] at O nn0 nn1 nn2 nn3 ⊢
      clear e5 bo o1 o2 hg bs p0 p1 p2 p3 p4 q0 q1 q2 q3 q4 sf z0 z1
      refine (HP.out _).mono ?_
      rintro e w6 ⟨rfl, hb⟩
      replace X := X.below hb
      replace O := O.below hb
      clear hb
      simp only [res]
      go_wp2_with fail
      refine (HP2.out _).mono ?_
      rintro e w7 ⟨rfl, hb⟩
      replace X := X.below hb
      replace O := O.below hb
      clear hb
      obtain ⟨⟨p0, p1, p2, p3, p4⟩, ⟨q0, q1, q2, q3, q4⟩, sf, z0, z1⟩ := X.cells
      obtain ⟨ad1, rfl, ha⟩ := (R2.out.below X.be).at hlt
      obtain ⟨y1, y2, y3⟩ := ha at' hlt
      rw [HU.out] at y1 y2 y3
      have bl7 : w.heap.size ≤ w7.heap.size := X.be.size
      have HX := Lib.hid X
      have HO := Lib.hid O
      clear ha X O
      simp only [res]
      go_upto_region 24 with (fail)
      go_cut [16, 18] (fun ev p wc => ∃ B, p = .pointer (some ⟨B, 0, none⟩) ∧ ev = .int .i64 v4 ∧ Blk wc B #[.int .i64 v1, .int .i64 v2, .int .i64 v3] 52 ∧ w7.heap.size ≤ B ∧ Below w7.heap.size w7 wc)
      case first =>
        go_wp2_with (go_at_call 51; refine (HP3.out _).mono ?_; rintro e w8 ⟨rfl, hb1⟩)
        go_meet
        case rel => exact ⟨_, rfl, rfl, Blk.new _ _ _, hb1.size, hb1.alloc hb1.size _⟩
      case rest =>
        obtain ⟨B, rfl, rfl, hBk, hBl, hb⟩ := hcut
        clear p0 p1 p2 p3 p4 q0 q1 q2 q3 q4 sf z0 z1 y1 y2 y3
        have X := HX.out.below hb
        have O := HO.out.below hb
        obtain ⟨⟨p0, p1, p2, p3, p4⟩, ⟨q0, q1, q2, q3, q4⟩, sf, z0, z1⟩ := X.cells
        obtain ⟨y1, y2, y3⟩ := cells3 hBk
        have hz := HZ.out
        cases rr with
        | error e1 =>
          simp only [momE, momV, valO, errO, m0, Value.tuple.injEq, Array.mk.injEq, List.cons.injEq, Value.agg.injEq, Value.int.injEq, and_true, true_and] at hz
          obtain ⟨⟨rfl, rfl, rfl⟩, rfl⟩ := hz
          have ee : (e1 != 0) = true := momO_err plus_is HRR.out
          go_wp2
          refine bodyPost_ret (results_ct rfl _ _ (w.heap.size + 1) 36 _ _ rfl (set5 X.b1 _ _ _ _ _) Try.underlying36 rfl size_hist) rfl ?_
          exact ResA.err HA.out rfl (below5 X.be (by omega) _ _ _ _ _)
        | ok z =>
          simp only [momE, momV, valO, errO, Value.tuple.injEq, Array.mk.injEq, List.cons.injEq, Value.agg.injEq, Value.int.injEq, and_true, true_and] at hz
          obtain ⟨⟨rfl, rfl, rfl⟩, rfl⟩ := hz
          obtain ⟨gr, cap, hv, _, _, gl, _⟩ := own_open O.r2 (by omega)
          simp only [Value.slice.injEq, true_and] at hv
          obtain ⟨rfl, -⟩ := hv
          obtain ⟨t0, t1, t2, t3, t4⟩ := O.blk.cells5
          have fr := fun i => World.ownsRow.frozenAt O.r2 i
          obtain ⟨hx1, hx2, hx3⟩ := momC_at _ _ _ HXC.out
          have rc1 := own_cell O.r2 hx1
          have rc2 := own_cell O.r2 hx2
          have rc3 := own_cell O.r2 hx3
          have rn := row_ne O.blk O.r2 (by decide)
          have rn' := rn.symm
          have rn1 := row_ne X.b1 O.r2 (by decide)
          have rn1' := rn1.symm
          have rB : gr ≠ B := by
            have := (World.ownsRow.lt HO.out.r2 gr rfl).2
            omega
          have rB' := rB.symm
          have kO := O.set2 at' z hlt
          have k1 := ((X.b1.other (p := ⟨gr, at' * 3, none⟩) rn1 (.int .i64 z.c)).other (p := ⟨gr, at' * 3 + 1, none⟩) rn1 (.int .i64 z.s)).other (p := ⟨gr, at' * 3 + 2, none⟩) rn1 (.int .i64 z.q)
          have lw := (World.ownsRow.lt O.r2 gr rfl).1
          have kb := ((X.be.setCell (p := ⟨gr, at' * 3, none⟩) lw (.int .i64 z.c)).setCell (p := ⟨gr, at' * 3 + 1, none⟩) lw (.int .i64 z.s)).setCell (p := ⟨gr, at' * 3 + 2, none⟩) lw (.int .i64 z.q)
          clear hx1 hx2 hx3
          go_wp2
          refine bodyPost_ret (results_ct rfl _ _ (w.heap.size + 1) 36 _ _ rfl (set5 k1 _ _ _ _ _) Try.underlying36 rfl size_hist) rfl ?_
          refine ⟨_, by rw [HA.out]; rfl, .inr ⟨_, HA.out, _, _, rfl, own_set5 kO.r1 k1 (by decide) _ _ _ _ _, own_set5 ?_ k1 (by decide) _ _ _ _ _⟩, below5 kb (by omega) _ _ _ _ _⟩
          have := kO.r2
          show World.ownsRow _ _ _ _ _ (h.moms.set at' z).length _
          rw [List.length_set]
          exact this
theorem radd_any {h : H} {va : Value} {w : World} (ra : RdH w h va) (bin t k : Int) (htR : inR t) (hkR : inR k) : Calls Try.prog 22 #[va, .int .i64 bin, .int .i64 t, .int .i64 k] w (ResA va (addO h bin t k) w) := by
  by_cases hr : rightP h
  · by_cases hb : addBad h bin t
    · exact radd_5 ra bin t k hr hb
    · by_cases hk : k < 0
      · exact radd_1 ra bin t k hr hb hk
      · by_cases h0 : h.kind = 0
        · exact radd_c ra bin t k hkR hr hb hk h0
        · exact radd_m ra bin t k htR hkR hr hb hk h0
  · exact radd_8 ra bin t k hr
end Go.Proofs.Yteckbgpkoanhfaa.Hb

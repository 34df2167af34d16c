/- The document's answer, layers 11 and 13: Cell, Hist. -/
import Derived.Test.YteckbgpkoanhfaaHbRAdd
import Derived.Test.YteckbgpkoanhfaaHbShHist
namespace Go.Proofs.Yteckbgpkoanhfaa.Hb
set_option linter.unusedVariables false
open Go.RowKit

set_option maxRecDepth 100000 in
set_option maxHeartbeats 1000000 in
theorem rcell_ok (r c : Int) (n : Nat) (A : Option Addr) (cap : Nat) (hn : n ≤ 9223372036854775807) (hm : matB r c n = true) (row col : Int) (h1 : 0 ≤ row) (h2 : row < r) (h3 : 0 ≤ col) (h4 : col < c) (a : Addr) (hA : A = some a) (cv : Int) (hcv : 0 ≤ cv ∧ cv ≤ 65535) (w : World) (hy : w.cell? (a.add (col * r + row).toNat) = some (.int .u16 cv)) :
    Calls Try.prog 59 #[.agg #[.int .i64 r, .int .i64 c, .slice A n cap], .int .i64 row, .int .i64 col] w fun e w' => e = .returned (.int .i64 cv) ∧ Below w.heap.size w w' := by
  subst hA
  have KM := Lib.hid (fun w => rmright_any r c n (some a) cap hn w)
  rw [hm] at KM
  obtain ⟨⟨q1, q2⟩, ⟨q3, q4⟩, q5⟩ := matB_is hm
  have m1 : (col + 1) * r ≤ c * r := Int.mul_le_mul_of_nonneg_right (by omega) q1
  have m3 : 0 ≤ col * r := Int.mul_nonneg h3 q1
  rw [Int.add_mul, Int.one_mul] at m1
  rw [Int.mul_comm r c] at q5
  obtain ⟨at', hat⟩ : ∃ m : Nat, col * r + row = m := ⟨(col * r + row).toNat, by omega⟩
  have hlt : (at' : Int) < n := by omega
  rw [hat, Int.toNat_natCast] at hy
  have d1 : decide (row < 0) = false := decide_eq_false (by omega)
  have d2 : decide (r ≤ row) = false := decide_eq_false (by omega)
  have d3 : decide (col < 0) = false := decide_eq_false (by omega)
  have d4 : decide (c ≤ col) = false := decide_eq_false (by omega)
  have m4 : col * r ≤ 9223372036854775807 := by omega
  have m5 : (at' : Int) ≤ 9223372036854775807 := by omega
  have wc : IntKind.i64.wrap cv = cv := by rw [IntKind.wrap_i64]; omega
  have hY := Lib.hid hy
  clear hm q2 q4 q5 m1 hcv
  go_enter Try.func59, Try.ntmps59
  go_wp2_with fail
  refine (KM.out _).mono ?_
  rintro e w1 ⟨rfl, hb⟩
  have be : Below w.heap.size w w1 := ((Below.refl _ w).alloc (Nat.le_refl _) _).trans (hb.mono (by simp))
  have kA := (Blk.new w #[.int .i64 r, .int .i64 c, .slice (some a) n cap] 69).below hb
  obtain ⟨p0, p1, p2⟩ := cells3 kA
  have y := (be.cell (World.block_lt_of_cell? w _ hY.out)).trans hY.out
  clear hb hy
  go_wp2
  go_ret
  exact ⟨rfl, be⟩

/-- Add, of a histogram that is owned: what comes is owned, whether it fails or not. -/
theorem radd_own {h : H} {N : Nat} {va : Value} {w : World} (hn : HNew N h w va) (ho : okH h) (hl : h.counts.length ≤ 65792 ∧ h.moms.length ≤ 65792) (bin t k : Int) (htR : inR t) (hkR : inR k) (hN : N ≤ w.heap.size) :
    Calls Try.prog 22 #[va, .int .i64 bin, .int .i64 t, .int .i64 k] w fun e w' => ∃ C1 d1 C2 d2, e = .returned (.tuple #[.agg #[.int .i64 (valO h (addO h bin t k)).kind, .int .i64 (valO h (addO h bin t k)).bins, .int .i64 (valO h (addO h bin t k)).classes, .slice C1 (valO h (addO h bin t k)).counts.length d1, .slice C2 (valO h (addO h bin t k)).moms.length d2], .int .i64 (errO (addO h bin t k))]) ∧
      w'.ownsRow N 2 1 (.slice C1 (valO h (addO h bin t k)).counts.length d1) (valO h (addO h bin t k)).counts.length (ints (valO h (addO h bin t k)).counts) ∧ w'.ownsRow N 52 3 (.slice C2 (valO h (addO h bin t k)).moms.length d2) (valO h (addO h bin t k)).moms.length (momC (valO h (addO h bin t k)).moms) ∧ Below w.heap.size w w' := by
  refine (radd_any (hn.rd ho (by omega) (by omega)) bin t k htR hkR).mono ?_
  rintro e w' ⟨v, rfl, hv, hb⟩
  rcases hv with ⟨x, hx, rfl⟩ | ⟨h', hx, v1, v2, rfl, o1, o2⟩
  · obtain ⟨v1, v2, rfl, o1, o2⟩ := hn
    obtain ⟨C1, d1, rfl⟩ := own_slice o1
    obtain ⟨C2, d2, rfl⟩ := own_slice o2
    rw [hx]
    exact ⟨C1, d1, C2, d2, rfl, own_below o1 hb, own_below o2 hb, hb⟩
  · obtain ⟨C1, d1, rfl⟩ := own_slice o1
    obtain ⟨C2, d2, rfl⟩ := own_slice o2
    rw [hx]
    exact ⟨C1, d1, C2, d2, rfl, World.ownsRow.mono o1 hN, World.ownsRow.mono o2 hN, hb⟩
/-- The blocks that a call begins with. -/
structure RH (s : Smp) (A1 A2 A3 : Option Addr) (c1 c2 c3 : Nat) (n : Nat) (w W : World) : Prop where
  b0 : Blk W n #[.int .i64 s.k, .int .i64 s.cl, .int .i64 s.b, .int .i64 s.t, .int .i64 s.d, .int .i64 s.l, .int .i64 s.p, .int .i64 s.rows, .int .i64 s.cols, .slice A1 s.cells.length c1, .slice A2 s.tgt.length c2, .slice A3 s.wgt.length c3] 72
  b1 : Blk W (n + 1) #[.int .i64 0, .int .i64 0, .int .i64 0, .slice none 0 0, .slice none 0 0] 36
  be : Below n w W
theorem RH.below {s : Smp} {A1 A2 A3 : Option Addr} {c1 c2 c3 n : Nat} {w W W1 : World} (h : RH s A1 A2 A3 c1 c2 c3 n w W) (hb : Below W.heap.size W W1) : RH s A1 A2 A3 c1 c2 c3 n w W1 :=
  ⟨h.b0.below hb, h.b1.below hb, h.be.trans (hb.mono (by have := h.b0.lt; omega))⟩
theorem RH.new (s : Smp) (A1 A2 A3 : Option Addr) (c1 c2 c3 : Nat) (w W : World) (e : W = (w.alloc (.cells #[.int .i64 s.k, .int .i64 s.cl, .int .i64 s.b, .int .i64 s.t, .int .i64 s.d, .int .i64 s.l, .int .i64 s.p, .int .i64 s.rows, .int .i64 s.cols, .slice A1 s.cells.length c1, .slice A2 s.tgt.length c2, .slice A3 s.wgt.length c3] 72)).alloc (.cells #[.int .i64 0, .int .i64 0, .int .i64 0, .slice none 0 0, .slice none 0 0] 36)) : RH s A1 A2 A3 c1 c2 c3 w.heap.size w W := by
  obtain ⟨k0, k1, kb, ks⟩ := boxes2' w _ _ _ _ W e
  exact ⟨k0, k1, kb⟩
theorem RH.set5 {s : Smp} {A1 A2 A3 : Option Addr} {c1 c2 c3 n g : Nat} {w W : World} (h : RH s A1 A2 A3 c1 c2 c3 n w W) (hg : n + 1 < g) (x0 x1 x2 x3 x4 : Value) : RH s A1 A2 A3 c1 c2 c3 n w (((((W.setCell ⟨g, 0, none⟩ x0).setCell ⟨g, 1, none⟩ x1).setCell ⟨g, 2, none⟩ x2).setCell ⟨g, 3, none⟩ x3).setCell ⟨g, 4, none⟩ x4) where
  b0 := ((((h.b0.other (p := ⟨g, 0, none⟩) (by show n ≠ g; omega) _).other (p := ⟨g, 1, none⟩) (by show n ≠ g; omega) _).other (p := ⟨g, 2, none⟩) (by show n ≠ g; omega) _).other (p := ⟨g, 3, none⟩) (by show n ≠ g; omega) _).other (p := ⟨g, 4, none⟩) (by show n ≠ g; omega) _
  b1 := ((((h.b1.other (p := ⟨g, 0, none⟩) (by show n + 1 ≠ g; omega) _).other (p := ⟨g, 1, none⟩) (by show n + 1 ≠ g; omega) _).other (p := ⟨g, 2, none⟩) (by show n + 1 ≠ g; omega) _).other (p := ⟨g, 3, none⟩) (by show n + 1 ≠ g; omega) _).other (p := ⟨g, 4, none⟩) (by show n + 1 ≠ g; omega) _
  be := below5 h.be (by omega) _ _ _ _ _
/-- A histogram in its box. -/
structure HB (N g : Nat) (h : H) (C1 C2 : Option Addr) (d1 d2 : Nat) (W : World) : Prop where
  blk : Blk W g #[.int .i64 h.kind, .int .i64 h.bins, .int .i64 h.classes, .slice C1 h.counts.length d1, .slice C2 h.moms.length d2] 36
  r1 : W.ownsRow N 2 1 (.slice C1 h.counts.length d1) h.counts.length (ints h.counts)
  r2 : W.ownsRow N 52 3 (.slice C2 h.moms.length d2) h.moms.length (momC h.moms)
theorem HB.below {N g : Nat} {h : H} {C1 C2 : Option Addr} {d1 d2 : Nat} {W W1 : World} (m : HB N g h C1 C2 d1 d2 W) (hb : Below W.heap.size W W1) : HB N g h C1 C2 d1 d2 W1 := ⟨m.blk.below hb, own_below m.r1 hb, own_below m.r2 hb⟩
theorem HB.new {N g : Nat} {h : H} {C1 C2 : Option Addr} {d1 d2 : Nat} {W : World} (m : HB N g h C1 C2 d1 d2 W) : HNew N h W (.agg #[.int .i64 h.kind, .int .i64 h.bins, .int .i64 h.classes, .slice C1 h.counts.length d1, .slice C2 h.moms.length d2]) := ⟨_, _, rfl, m.r1, m.r2⟩
theorem HB.cells {N g : Nat} {h : H} {C1 C2 : Option Addr} {d1 d2 : Nat} {W : World} (m : HB N g h C1 C2 d1 d2 W) :
    (W.cell? ⟨g, 0, none⟩ = some (.int .i64 h.kind) ∧ W.cell? ⟨g, 1, none⟩ = some (.int .i64 h.bins) ∧ W.cell? ⟨g, 2, none⟩ = some (.int .i64 h.classes) ∧ W.cell? ⟨g, 3, none⟩ = some (.slice C1 h.counts.length d1) ∧ W.cell? ⟨g, 4, none⟩ = some (.slice C2 h.moms.length d2)) ∧ (∀ i, W.frozen? ⟨g, i, none⟩ = false) ∧ g < W.heap.size :=
  ⟨m.blk.cells5, m.blk.frozen, m.blk.lt⟩
theorem HB.put {N g : Nat} {W : World} {x0 x1 x2 x3 x4 : Value} (h2 : H) (C1 C2 : Option Addr) (d1 d2 : Nat) (k : Blk W g #[x0, x1, x2, x3, x4] 36) (o1 : W.ownsRow N 2 1 (.slice C1 h2.counts.length d1) h2.counts.length (ints h2.counts)) (o2 : W.ownsRow N 52 3 (.slice C2 h2.moms.length d2) h2.moms.length (momC h2.moms)) :
    HB N g h2 C1 C2 d1 d2 (((((W.setCell ⟨g, 0, none⟩ (.int .i64 h2.kind)).setCell ⟨g, 1, none⟩ (.int .i64 h2.bins)).setCell ⟨g, 2, none⟩ (.int .i64 h2.classes)).setCell ⟨g, 3, none⟩ (.slice C1 h2.counts.length d1)).setCell ⟨g, 4, none⟩ (.slice C2 h2.moms.length d2)) :=
  ⟨Hb.set5 k _ _ _ _ _, own_set5 o1 k (by decide) _ _ _ _ _, own_set5 o2 k (by decide) _ _ _ _ _⟩
section
variable (s : Smp) (A1 A2 A3 : Option Addr) (c1 c2 c3 : Nat)
set_option warningAsError false in
set_option maxRecDepth 100000 in
set_option maxHeartbeats 4000000 in
theorem rhist_yes (col : Int) (is : List Int) (Ar : Option Addr) (cr : Nat) (w : World) (RS : RdS w s A1 A2 A3) (RI : RdI w Ar is) (hli : is.length ≤ 9223372036854775807) (hy : rightS s = true ∧ 0 ≤ col ∧ col < s.cols) :
    Calls Try.prog 35 #[.agg (smpC s A1 A2 A3 c1 c2 c3), .int .i64 col, .slice Ar is.length cr] w (ResH (histO s col is) w) := by
  have hr := fun w => rsright_any s A1 A2 A3 c1 c2 c3 w RS.l1 RS.l2 RS.l3
  obtain ⟨h1, h2, h3⟩ := hy
  obtain ⟨hck, ⟨⟨q1, q2⟩, ⟨q3, q4⟩, q5⟩, q6, q7⟩ := rightS_is h1
  obtain ⟨hmay, hb2⟩ := chk_may hck
  obtain ⟨hh, hnew⟩ := new_yes hmay
  have hbl := fun w => rnew_any s.k (s.b + 1) s.cl w
  have hls := new_lens s.k (s.b + 1) s.cl
  rw [hnew] at hbl hls
  have hokn := okH_new hnew
  rw [hist_go ⟨h1, h2, h3⟩ hnew]
  rw [h1] at hr
  unfold ResH at hbl ⊢
  simp only [valO, errO] at hbl hls
  have d1 : decide (col < 0) = false := decide_eq_false (by omega)
  have d2 : decide (s.cols ≤ col) = false := decide_eq_false (by omega)
  have hb0 := hmay.1
  obtain ⟨R, hR⟩ : ∃ R : Nat, s.rows = R := ⟨s.rows.toNat, by omega⟩
  have hmt : matB s.rows s.cols s.cells.length = true := decide_eq_true ⟨⟨q1, q2⟩, ⟨q3, q4⟩, q5⟩
  obtain ⟨F, hF⟩ : ∃ F, fillO s col is hh = F := ⟨_, rfl⟩
  have HF := Lib.hid hF
  rw [hF]
  have KR := Lib.hid hr
  have KB := Lib.hid hbl
  have HOK := Lib.hid hokn
  have HLS := Lib.hid hls
  have HMT := Lib.hid hmt
  have HR := Lib.hid hR
  have HRS := Lib.hid RS
  have HRI := Lib.hid RI
  have HW := Lib.hid (And.intro q6 q7)
  have HC := Lib.hid (And.intro h2 h3)
  have q5 := Lib.hid q5
  unfold smpC at KR ⊢
  obtain ⟨n, hn⟩ : ∃ n, is.length = n := ⟨_, rfl⟩
  have HN := Lib.hid hn
  rw [hn] at hli ⊢
  clear hr hbl hls hokn hmay h1 h2 h3 hnew RS RI hF hn hck q1 q2 q3 q4 q6 q7 hmt hR
  go_enter Try.func35, Try.ntmps35
  go_wp2_with fail
  obtain ⟨W2, e2⟩ : ∃ W, W = (w.alloc (.cells #[.int .i64 s.k, .int .i64 s.cl, .int .i64 s.b, .int .i64 s.t, .int .i64 s.d, .int .i64 s.l, .int .i64 s.p, .int .i64 s.rows, .int .i64 s.cols, .slice A1 s.cells.length c1, .slice A2 s.tgt.length c2, .slice A3 s.wgt.length c3] 72)).alloc (.cells #[.int .i64 0, .int .i64 0, .int .i64 0, .slice none 0 0, .slice none 0 0] 36) := ⟨_, rfl⟩
  rw [← e2]
  have X := RH.new _ _ _ _ _ _ _ _ _ e2
  clear e2
  refine (KR.out _).mono ?_
  rintro e w3 ⟨rfl, hb3⟩
  replace X := X.below hb3
  clear hb3
  obtain ⟨a0, a1, a2, a3, a4, a5, a6, a7, a8, a9, a10, a11⟩ := X.b0.cells12
  go_wp2_with fail
  refine (KB.out _).mono ?_
  rintro e w4 ⟨v, rfl, ⟨v1, v2, rfl, o1, o2⟩, hb4⟩
  obtain ⟨B1, d1', rfl⟩ := own_slice o1
  obtain ⟨B2, d2', rfl⟩ := own_slice o2
  have bs := X.be.size
  replace X := X.below hb4
  have lS := X.b1.lt
  clear a0 a1 a2 a3 a4 a5 a6 a7 a8 a9 a10 a11 hb4
  go_wp2
  obtain ⟨W5, e5⟩ : ∃ W, W = w4.alloc (.cells #[.int .i64 hh.kind, .int .i64 hh.bins, .int .i64 hh.classes, .slice B1 hh.counts.length d1', .slice B2 hh.moms.length d2'] 36) := ⟨_, rfl⟩
  rw [← e5]
  have bx : Below w4.heap.size w4 W5 := by rw [e5]; exact (Below.refl _ _).alloc (Nat.le_refl _) _
  have O : HB w.heap.size w4.heap.size hh B1 B2 d1' d2' W5 := by
    rw [e5]
    exact ⟨Blk.new _ _ _, (World.ownsRow.mono o1 bs).alloc _, (World.ownsRow.mono o2 bs).alloc _⟩
  replace X := X.below bx
  obtain ⟨g, hg⟩ : ∃ g, w4.heap.size = g := ⟨_, rfl⟩
  rw [hg] at O lS ⊢
  clear e5 o1 o2 bx bs hg
  have HX := Lib.hid X
  have HO := Lib.hid O
  clear X O
  have n0 : w.heap.size ≠ g := by omega
  have n1 : w.heap.size + 1 ≠ g := by omega
  have n0' : g ≠ w.heap.size := by omega
  have n1' : g ≠ w.heap.size + 1 := by omega
  go_loopw [9, 10] (fun ev iv wr => ∃ (j : Nat) (x : Int) (hc : H) (C1 C2 : Option Addr) (f1 f2 : Nat), j ≤ n ∧ iv = .int .i64 j ∧ ev = .int .i64 x ∧ Hid (okH hc) ∧ Hid (hc.counts.length ≤ 65792 ∧ hc.moms.length ≤ 65792) ∧ Hid (RH s A1 A2 A3 c1 c2 c3 w.heap.size w wr) ∧ Hid (HB w.heap.size g hc C1 C2 f1 f2 wr) ∧ Hid ((x = 0 ∧ fillO s col is hh = fillO s col (is.drop j) hc) ∨ ((x != 0) = true ∧ fillO s col is hh = .error x))) (fun ev iv _ => n - (intOf iv).toNat)
  case atStart => exact ⟨0, 0, hh, B1, B2, d1', d2', by omega, rfl, rfl, HOK, HLS, HX, HO, Lib.hid (.inl ⟨rfl, rfl⟩)⟩
  case round =>
    obtain ⟨j, x, hc, C1, C2, f1, f2, hj, rfl, rfl, HOc, HLc, HXc, HHc, HEc⟩ := hrel
    clear HX HO HOK HLS
    have X := HXc.out
    obtain ⟨a0, a1, a2, a3, a4, a5, a6, a7, a8, a9, a10, a11⟩ := X.b0.cells12
    obtain ⟨p0, p1, p2, p3, p4⟩ := X.b1.cells5
    have pf := X.b1.frozen
    have pl := X.b1.lt
    rcases HEc.out with ⟨rfl, hE⟩ | ⟨hx1, hE⟩
    · by_cases hlt : j < n
      · have hlt' : (j : Int) < n := by omega
        have HE := Lib.hid hE
        obtain ⟨ad, rfl, ha⟩ := (HRI.out.below X.be).at (k := j) (by rw [HN.out]; exact hlt)
        have z1 := ha j (by rw [HN.out]; exact hlt)
        have hd := drop_at (is := is) (j := j) (by rw [HN.out]; exact hlt)
        obtain ⟨x, hx⟩ : ∃ x, is.getD j 0 = x := ⟨_, rfl⟩
        rw [hx] at z1 hd
        have HD := Lib.hid hd
        clear ha hx hd hE HEc X
        by_cases hx0 : x < 0 ∨ (R : Int) ≤ x
        · have HX0 := Lib.hid (show x < 0 ∨ x ≥ s.rows by rw [HR.out]; exact hx0)
          have HFe := Lib.hid (show F = .error 5 by rw [← HF.out, HE.out, HD.out, fill_out HX0.out])
          by_cases hx1 : x < 0
          · have b1 : decide (x < 0) = true := decide_eq_true hx1
            clear hx0 hx1
            go_wp2
            rw [HFe.out]
            refine bodyPost_ret (results_ct rfl _ _ (w.heap.size + 1) 36 _ _ rfl (Hb.set5 HXc.out.b1 _ _ _ _ _) Try.underlying36 rfl size_hist) rfl ?_
            exact ⟨_, rfl, HNew.zero _ _, below5 HXc.out.be (by omega) _ _ _ _ _⟩
          · have b1 : decide (x < 0) = false := decide_eq_false hx1
            have b2 : decide (s.rows ≤ x) = true := decide_eq_true (by rw [HR.out]; omega)
            clear hx0 hx1
            go_wp2
            rw [HFe.out]
            refine bodyPost_ret (results_ct rfl _ _ (w.heap.size + 1) 36 _ _ rfl (Hb.set5 HXc.out.b1 _ _ _ _ _) Try.underlying36 rfl size_hist) rfl ?_
            exact ⟨_, rfl, HNew.zero _ _, below5 HXc.out.be (by omega) _ _ _ _ _⟩
        · obtain ⟨i, rfl⟩ : ∃ i : Nat, x = i := ⟨x.toNat, by omega⟩
          have hi : i < R := by omega
          have b1 : decide ((i : Int) < 0) = false := decide_eq_false (by omega)
          have b2 : decide (s.rows ≤ i) = false := decide_eq_false (by rw [HR.out]; omega)
          have HX0 := Lib.hid (show ¬ ((i : Int) < 0 ∨ (i : Int) ≥ s.rows) by rw [HR.out]; exact hx0)
          have lt2 : (s.tgt.length : Int) = (R : Int) := HW.out.1.trans HR.out
          have lt3 : (s.wgt.length : Int) = (R : Int) := HW.out.2.trans HR.out
          have s0 := HRS.out
          have hcl : (col * s.rows + i).toNat < s.cells.length := by
            have e1 : (col + 1) * s.rows ≤ s.cols * s.rows := Int.mul_le_mul_of_nonneg_right (by have := HC.out; omega) (by rw [HR.out]; omega)
            have e2 := q5.out
            rw [Int.mul_comm] at e2
            rw [Int.add_mul, Int.one_mul] at e1
            have e3 : 0 ≤ col * s.rows := Int.mul_nonneg HC.out.1 (by rw [HR.out]; omega)
            have := HR.out
            omega
          obtain ⟨ac, rfl, y1⟩ := s0.r1.at hcl
          obtain ⟨at', rfl, y2⟩ := s0.r2.at (k := i) (by omega)
          obtain ⟨aw, rfl, y3⟩ := s0.r3.at (k := i) (by omega)
          replace y1 := y1 _ hcl
          replace y2 := y2 i (by omega)
          replace y3 := y3 i (by omega)
          have it := s0.r2.inR (k := i) (by omega)
          have ik := s0.r3.inR (k := i) (by omega)
          have ic : 0 ≤ celAt s col i ∧ celAt s col i ≤ 65535 := by
            unfold celAt
            rw [List.getD_eq_getElem?_getD, List.getElem?_eq_getElem hcl]
            exact s0.o1 _ (List.getElem_mem hcl)
          rw [show s.cells.getD (col * s.rows + i).toNat 0 = celAt s col i from rfl] at y1
          obtain ⟨cv, hcv⟩ : ∃ cv, celAt s col i = cv := ⟨_, rfl⟩
          obtain ⟨tv, htv⟩ : ∃ tv, s.tgt.getD i 0 = tv := ⟨_, rfl⟩
          obtain ⟨kv, hkv⟩ : ∃ kv, s.wgt.getD i 0 = kv := ⟨_, rfl⟩
          rw [hcv] at y1 ic
          rw [htv] at y2 it
          rw [hkv] at y3 ik
          have bb := HXc.out.be
          have Y1 := Lib.hid y1
          have bl2 : (at'.add i).block < w.heap.size := World.block_lt_of_cell? w _ y2
          have bl3 : (aw.add i).block < w.heap.size := World.block_lt_of_cell? w _ y3
          have ng2 : (at'.add i).block ≠ g := by omega
          have ng2' : g ≠ (at'.add i).block := by omega
          have ng3 : (aw.add i).block ≠ g := by omega
          have ng3' : g ≠ (aw.add i).block := by omega
          replace y2 := (bb.cell (World.block_lt_of_cell? w _ y2)).trans y2
          replace y3 := (bb.cell (World.block_lt_of_cell? w _ y3)).trans y3
          have KCell := Lib.hid (show ∀ W, Below wr.heap.size wr W → Calls Try.prog 59 #[.agg #[.int .i64 s.rows, .int .i64 s.cols, .slice (some ac) s.cells.length c1], .int .i64 i, .int .i64 col] W fun e w' => e = .returned (.int .i64 cv) ∧ Below W.heap.size W w' from fun W hb => by
            have b2 : Below w.heap.size w W := HXc.out.be.trans (hb.mono HXc.out.be.size)
            exact rcell_ok s.rows s.cols s.cells.length (some ac) c1 s0.l1 HMT.out i col (by omega) (by rw [HR.out]; omega) HC.out.1 HC.out.2 ac rfl cv ic W ((b2.cell (World.block_lt_of_cell? w _ Y1.out)).trans Y1.out))
          obtain ⟨xe, hxe⟩ : ∃ X, errO (addO hc cv tv kv) = X := ⟨_, rfl⟩
          obtain ⟨h2, hh2⟩ : ∃ h2, valO hc (addO hc cv tv kv) = h2 := ⟨_, rfl⟩
          have KAdd := Lib.hid (show ∀ W, Below wr.heap.size wr W → Calls Try.prog 22 #[.agg #[.int .i64 hc.kind, .int .i64 hc.bins, .int .i64 hc.classes, .slice C1 hc.counts.length f1, .slice C2 hc.moms.length f2], .int .i64 cv, .int .i64 tv, .int .i64 kv] W fun e w' => ∃ C1 d1 C2 d2, e = .returned (.tuple #[.agg #[.int .i64 h2.kind, .int .i64 h2.bins, .int .i64 h2.classes, .slice C1 h2.counts.length d1, .slice C2 h2.moms.length d2], .int .i64 xe]) ∧
              w'.ownsRow w.heap.size 2 1 (.slice C1 h2.counts.length d1) h2.counts.length (ints h2.counts) ∧ w'.ownsRow w.heap.size 52 3 (.slice C2 h2.moms.length d2) h2.moms.length (momC h2.moms) ∧ Below W.heap.size W w' from fun W hb => by
            have := radd_own (HHc.out.below hb).new HOc.out HLc.out cv tv kv it ik (Nat.le_trans HXc.out.be.size hb.size)
            rw [hh2, hxe] at this
            exact this)
          have hO2 := add_ok cv tv kv HOc.out
          have hL2 := add_lens hc cv tv kv
          rw [hh2] at hO2 hL2
          have hFF : (xe = 0 ∧ fillO s col is hh = fillO s col (is.drop (j + 1)) h2) ∨ ((xe != 0) = true ∧ fillO s col is hh = .error xe) := by
            rw [HE.out, HD.out]
            cases ha : addO hc cv tv kv with
            | error e =>
              rw [ha] at hxe
              right
              subst hxe
              exact ⟨add_err ha, fill_err HX0.out (by rw [hcv, Int.toNat_natCast, htv, hkv]; exact ha)⟩
            | ok h3 =>
              rw [ha] at hxe hh2
              left
              obtain rfl : h3 = h2 := hh2
              exact ⟨hxe.symm, fill_go HX0.out (by rw [hcv, Int.toNat_natCast, htv, hkv]; exact ha)⟩
          have HFF := Lib.hid hFF
          have HO2 := Lib.hid hO2
          have HL2 := Lib.hid (show h2.counts.length ≤ 65792 ∧ h2.moms.length ≤ 65792 by have := HLc.out; omega)
          have i2 : (i : Int) < s.tgt.length := by omega
          have i3 : (i : Int) < s.wgt.length := by omega
          obtain ⟨⟨t0, t1, t2, t3, t4⟩, tf, tl⟩ := HHc.out.cells
          have HBI := Lib.hid bb
          clear hx0 s0 it ik ic hcv htv hkv hxe hh2 hO2 hL2 hFF lt2 lt3 hcl y1 bb a0 a1 a2 a3 a4 a5 a6
          go_upto_region 10 with (fail)
          go_region_held3 (fun W => W.cell? ⟨w.heap.size, 7, none⟩ = some (.int .i64 s.rows) ∧ W.cell? ⟨w.heap.size, 8, none⟩ = some (.int .i64 s.cols) ∧ W.cell? ⟨w.heap.size, 9, none⟩ = some (.slice (some ac) s.cells.length c1) ∧ W.cell? ⟨w.heap.size, 10, none⟩ = some (.slice (some at') s.tgt.length c2) ∧ W.cell? ⟨w.heap.size, 11, none⟩ = some (.slice (some aw) s.wgt.length c3) ∧ W.cell? (at'.add i) = some (.int .i64 tv) ∧ W.cell? (aw.add i) = some (.int .i64 kv)) (go_keep)
            (first
              | (go_at_call 59; refine (KCell.out _ (by exact (Below.refl _ wr).drew)).mono ?_; rintro e w8 ⟨rfl, hb8⟩; have u7 : w8.cell? ⟨w.heap.size, 7, none⟩ = some (.int .i64 s.rows) := keepc hb8 (by simp [*]); have u8 : w8.cell? ⟨w.heap.size, 8, none⟩ = some (.int .i64 s.cols) := keepc hb8 (by simp [*]); have u9 : w8.cell? ⟨w.heap.size, 9, none⟩ = some (.slice (some ac) s.cells.length c1) := keepc hb8 (by simp [*]); have u10 : w8.cell? ⟨w.heap.size, 10, none⟩ = some (.slice (some at') s.tgt.length c2) := keepc hb8 (by simp [*]); have u11 : w8.cell? ⟨w.heap.size, 11, none⟩ = some (.slice (some aw) s.wgt.length c3) := keepc hb8 (by simp [*]); have v2 : w8.cell? (at'.add i) = some (.int .i64 tv) := keepc hb8 (by simp [*]); have v3 : w8.cell? (aw.add i) = some (.int .i64 kv) := keepc hb8 (by simp [*]); have bb8 := ((Below.refl wr.heap.size wr).drew).trans hb8; have K8 := HHc.out.below bb8; obtain ⟨⟨t0', t1', t2', t3', t4'⟩, tf', tl'⟩ := K8.cells)
              | (go_at_call 22; refine (KAdd.out _ bb8).mono ?_; rintro e w9 ⟨D1, e1, D2, e2, rfl, o1, o2, hb9⟩; have K9 := K8.below hb9; have X9 := (HXc.out.below bb8).below hb9; have x7 : w9.cell? ⟨w.heap.size, 7, none⟩ = some (.int .i64 s.rows) := keepc hb9 (by simp [*]); have x8 : w9.cell? ⟨w.heap.size, 8, none⟩ = some (.int .i64 s.cols) := keepc hb9 (by simp [*]); have x9 : w9.cell? ⟨w.heap.size, 9, none⟩ = some (.slice (some ac) s.cells.length c1) := keepc hb9 (by simp [*]); have x10 : w9.cell? ⟨w.heap.size, 10, none⟩ = some (.slice (some at') s.tgt.length c2) := keepc hb9 (by simp [*]); have x11 : w9.cell? ⟨w.heap.size, 11, none⟩ = some (.slice (some aw) s.wgt.length c3) := keepc hb9 (by simp [*]); have xv2 : w9.cell? (at'.add i) = some (.int .i64 tv) := keepc hb9 (by simp [*]); have xv3 : w9.cell? (aw.add i) = some (.int .i64 kv) := keepc hb9 (by simp [*]); obtain ⟨⟨s0', s1', s2', s3', s4'⟩, sf', sl'⟩ := K9.cells))
          all_goals
            go_wp2
            go_roundw
            case rel => exact ⟨j + 1, xe, h2, D1, D2, e1, e2, hlt, by go_num, rfl, HO2, HL2, Lib.hid (X9.set5 lS _ _ _ _ _), Lib.hid (HB.put h2 _ _ _ _ K9.blk o1 o2), HFF⟩
            case measure => simp [intOf]; omega
      · obtain rfl : j = n := by omega
        have HFe := Lib.hid (show F = .ok hc by rw [← HF.out, hE, ← HN.out, List.drop_length]; rfl)
        obtain ⟨⟨t0, t1, t2, t3, t4⟩, tf, tl⟩ := HHc.out.cells
        clear hE X
        go_wp2
        rw [HFe.out]
        refine bodyPost_ret (results_ct rfl _ _ (w.heap.size + 1) 36 _ _ rfl (Hb.set5 HXc.out.b1 _ _ _ _ _) Try.underlying36 rfl size_hist) rfl ?_
        exact ⟨_, rfl, ⟨_, _, rfl, own_set5 HHc.out.r1 HXc.out.b1 (by decide) _ _ _ _ _, own_set5 HHc.out.r2 HXc.out.b1 (by decide) _ _ _ _ _⟩, below5 HXc.out.be (by omega) _ _ _ _ _⟩
    · have HFe := Lib.hid (show F = .error x by rw [← HF.out, hE])
      have hx2 : (x == 0) = false := by
        have : ¬ x = 0 := by simpa using hx1
        exact beq_eq_false_iff_ne.2 this
      clear hE X
      by_cases hlt : j < n
      · have hlt' : (j : Int) < n := by omega
        go_wp2
        rw [HFe.out]
        refine bodyPost_ret (results_ct rfl _ _ (w.heap.size + 1) 36 _ _ rfl (Hb.set5 HXc.out.b1 _ _ _ _ _) Try.underlying36 rfl size_hist) rfl ?_
        exact ⟨_, rfl, HNew.zero _ _, below5 HXc.out.be (by omega) _ _ _ _ _⟩
      · have hlt' : ¬ (j : Int) < n := by omega
        go_wp2
        rw [HFe.out]
        refine bodyPost_ret (results_ct rfl _ _ (w.heap.size + 1) 36 _ _ rfl (Hb.set5 HXc.out.b1 _ _ _ _ _) Try.underlying36 rfl size_hist) rfl ?_
        exact ⟨_, rfl, HNew.zero _ _, below5 HXc.out.be (by omega) _ _ _ _ _⟩
set_option maxRecDepth 100000 in
set_option maxHeartbeats 1000000 in
theorem rhist_any (col : Int) (is : List Int) (Ar : Option Addr) (cr : Nat) (w : World) (RS : RdS w s A1 A2 A3) (RI : RdI w Ar is) (hli : is.length ≤ 9223372036854775807) :
    Calls Try.prog 35 #[.agg (smpC s A1 A2 A3 c1 c2 c3), .int .i64 col, .slice Ar is.length cr] w (ResH (histO s col is) w) := by
  by_cases hy : rightS s = true ∧ 0 ≤ col ∧ col < s.cols
  · exact rhist_yes s A1 A2 A3 c1 c2 c3 col is Ar cr w RS RI hli hy
  · have hr := fun w => rsright_any s A1 A2 A3 c1 c2 c3 w RS.l1 RS.l2 RS.l3
    rw [hist_8 hy]
    unfold smpC at hr ⊢
    obtain ⟨z, hz⟩ : ∃ z, rightS s = z := ⟨_, rfl⟩
    rw [hz] at hr hy
    obtain ⟨n, hn⟩ : ∃ n, is.length = n := ⟨_, rfl⟩
    rw [hn] at hli ⊢
    have KR := Lib.hid hr
    have HY := Lib.hid hy
    clear hr hy hz hn RS RI
    go_enter Try.func35, Try.ntmps35
    go_wp2_with fail
    obtain ⟨W2, e2⟩ : ∃ W, W = (w.alloc (.cells #[.int .i64 s.k, .int .i64 s.cl, .int .i64 s.b, .int .i64 s.t, .int .i64 s.d, .int .i64 s.l, .int .i64 s.p, .int .i64 s.rows, .int .i64 s.cols, .slice A1 s.cells.length c1, .slice A2 s.tgt.length c2, .slice A3 s.wgt.length c3] 72)).alloc (.cells #[.int .i64 0, .int .i64 0, .int .i64 0, .slice none 0 0, .slice none 0 0] 36) := ⟨_, rfl⟩
    rw [← e2]
    have X := RH.new _ _ _ _ _ _ _ _ _ e2
    clear e2
    refine (KR.out _).mono ?_
    rintro e w3 ⟨rfl, hb3⟩
    replace X := X.below hb3
    clear hb3 KR
    obtain ⟨_, _, _, _, _, _, _, _, a8, _, _, _⟩ := X.b0.cells12
    obtain ⟨p0, p1, p2, p3, p4⟩ := X.b1.cells5
    have pf := X.b1.frozen
    have pl := X.b1.lt
    cases z with
    | false =>
      go_wp2
      refine bodyPost_ret (results_ct rfl _ _ (w.heap.size + 1) 36 _ _ rfl (Hb.set5 X.b1 _ _ _ _ _) Try.underlying36 rfl size_hist) rfl ?_
      exact ⟨_, rfl, HNew.zero _ _, below5 X.be (by omega) _ _ _ _ _⟩
    | true =>
      by_cases hc : col < 0
      · have d1 : decide (col < 0) = true := decide_eq_true hc
        clear hc
        go_wp2
        refine bodyPost_ret (results_ct rfl _ _ (w.heap.size + 1) 36 _ _ rfl (Hb.set5 X.b1 _ _ _ _ _) Try.underlying36 rfl size_hist) rfl ?_
        exact ⟨_, rfl, HNew.zero _ _, below5 X.be (by omega) _ _ _ _ _⟩
      · have d1 : decide (col < 0) = false := decide_eq_false hc
        have d2 : decide (s.cols ≤ col) = true := decide_eq_true (by have h := HY.out; rw [not_and] at h; have := h rfl; omega)
        clear hc
        go_wp2
        refine bodyPost_ret (results_ct rfl _ _ (w.heap.size + 1) 36 _ _ rfl (Hb.set5 X.b1 _ _ _ _ _) Try.underlying36 rfl size_hist) rfl ?_
        exact ⟨_, rfl, HNew.zero _ _, below5 X.be (by omega) _ _ _ _ _⟩
end
end Go.Proofs.Yteckbgpkoanhfaa.Hb

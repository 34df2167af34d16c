/- Texts joined: the walks and the plain laws that the claim ModelOne rests on. -/
import Derived.Test.YtpekofpiodaadaaMModelOne2
import Derived.Test.YtpekofpiodaadaaMModelOne3
import Derived.Test.YtpekofpiodaadaaRows
import Derived.Conc.Holds
import Derived.Leaving
section
/- The walk of the law ModelOne. -/
namespace Go.Proofs.Ytpekofpiodaadaa.Hb
set_option linter.unusedVariables false
set_option linter.unusedSimpArgs false
open Go.RowKit

structure OkPl (f : Fst) : Prop where
  le : f.edges.length ≤ 9223372036854775807
  lt : f.trees.length ≤ 9223372036854775807
  ls : f.shake.length ≤ 9223372036854775807
  seed : f.seed < 18446744073709551616
theorem great_okF {f : Fst} (h : greatP f = false) : OkF f := by
  obtain ⟨h1, h2, h3, h4, h5⟩ := great28_not h
  exact ⟨by omega, by omega, by omega, fun t ht => by have := h4 t ht; omega, fun t ht => by have := h5 t ht; omega⟩
theorem one_same {p q : Fst} (hp : mayF p = true) (hq : mayF q = true) (op : OkB p) (oq : OkB q) : decide (putF p = putF q) = decide (p = q) := by
  rw [Bool.eq_iff_iff]
  simp only [decide_eq_true_eq]
  exact ⟨putF_inj hp hq op oq, fun h => by rw [h]⟩
set_option maxRecDepth 100000 in
set_option maxHeartbeats 16000000 in
theorem one28_any (p q : Fst) (Ae At As Be Bt Bs : Option Addr) (ce ct cs de dt ds : Nat) (w : World) (hp : RPl w p Ae At As) (hq : RPl w q Be Bt Bs) (op : OkPl p) (oq : OkPl q) :
    Calls Try.prog 7 #[.agg (forA p Ae At As ce ct cs), .agg (forA q Be Bt Bs de dt ds)] w (True0 w) := by
  have KGp := Lib.hid (fun w hr => great28_any p Ae At As ce ct cs w hr op.le op.lt)
  have KGq := Lib.hid (fun w hr => great28_any q Be Bt Bs de dt ds w hr oq.le oq.lt)
  have KX := Lib.hid fixed28_any
  have HP := Lib.hid hp
  have HQ := Lib.hid hq
  have HOB := Lib.hid (And.intro op oq)
  obtain ⟨PV, hPV⟩ : ∃ V, forA p Ae At As ce ct cs = V := ⟨_, rfl⟩
  obtain ⟨QV, hQV⟩ : ∃ V, forA q Be Bt Bs de dt ds = V := ⟨_, rfl⟩
  have hszP : (Try.prog.info? 52).map (·.size) = some PV.size := by rw [← hPV]; kernel_rfl
  have hszQ : (Try.prog.info? 52).map (·.size) = some QV.size := by rw [← hQV]; kernel_rfl
  rw [hPV] at KGp
  rw [hQV] at KGq
  rw [hPV, hQV]
  have HPV := Lib.hid hPV
  have HQV := Lib.hid hQV
  clear hPV hQV hp hq op oq
  cases hgp : greatP p with
  | true =>
    rw [hgp] at KGp
    clear hgp
    go_enter Try.func7, Try.ntmps7
    go_upto_region 1 with (fail)
    have kP0 := Blk.new w PV 52
    have kQ := Blk.new (w.alloc (.cells PV 52)) QV 52
    rw [World.size_alloc] at kQ
    have bb : Below (w.alloc (.cells PV 52)).heap.size (w.alloc (.cells PV 52)) ((w.alloc (.cells PV 52)).alloc (.cells QV 52)) := (Below.refl _ _).alloc (Nat.le_refl _) _
    have HBE := Lib.hid (((Below.refl w.heap.size w).alloc (Nat.le_refl _) (.cells PV 52)).alloc (by simp) (.cells QV 52))
    have kP := kP0.below bb
    obtain ⟨W, hW⟩ : ∃ W, (w.alloc (.cells PV 52)).alloc (.cells QV 52) = W := ⟨_, rfl⟩
    rw [hW] at kP kQ HBE ⊢
    obtain ⟨g1, hg1⟩ : ∃ z, w.heap.size + 1 = z := ⟨_, rfl⟩
    rw [hg1] at kQ ⊢
    have HKP := Lib.hid (fun W' (hb : Below W.heap.size W W') => kP.below hb)
    have HKQ := Lib.hid (fun W' (hb : Below W.heap.size W W') => kQ.below hb)
    have HRP := Lib.hid (fun W' (hb : Below W.heap.size W W') => HP.out.below (HBE.out.trans (hb.mono HBE.out.size)))
    have HRQ := Lib.hid (fun W' (hb : Below W.heap.size W W') => HQ.out.below (HBE.out.trans (hb.mono HBE.out.size)))
    have HX0 := Lib.hid (Below.refl W.heap.size W)
    clear kP0 bb hW hg1 kQ HP HQ
    go_wp2_with (refine wpList_load_row rfl 52 (.tmp 2) rfl w.heap.size rfl 52 PV (0, 0) _ kP Try.underlying52 rfl hszP ?_)
    refine (KGp.out _ (HRP.out _ HX0.out)).mono ?_
    rintro e w1 ⟨rfl, hb⟩
    have HX1 := Lib.hid (HX0.out.trans (hb.mono HX0.out.size))
    clear hb
    clear kP
    go_wp2_with fail
    refine (KX.out _).mono ?_
    rintro e wz ⟨rfl, hb⟩
    have HXZ := Lib.hid (HX1.out.trans (hb.mono HX1.out.size))
    clear hb
    go_wp2_with fail
    go_ret
    exact ⟨rfl, HBE.out.trans (HXZ.out.mono HBE.out.size)⟩
  | false =>
    rw [hgp] at KGp
    cases hgq : greatP q with
    | true =>
      rw [hgq] at KGq
      clear hgq hgp
      go_enter Try.func7, Try.ntmps7
      go_upto_region 1 with (fail)
      have kP0 := Blk.new w PV 52
      have kQ := Blk.new (w.alloc (.cells PV 52)) QV 52
      rw [World.size_alloc] at kQ
      have bb : Below (w.alloc (.cells PV 52)).heap.size (w.alloc (.cells PV 52)) ((w.alloc (.cells PV 52)).alloc (.cells QV 52)) := (Below.refl _ _).alloc (Nat.le_refl _) _
      have HBE := Lib.hid (((Below.refl w.heap.size w).alloc (Nat.le_refl _) (.cells PV 52)).alloc (by simp) (.cells QV 52))
      have kP := kP0.below bb
      obtain ⟨W, hW⟩ : ∃ W, (w.alloc (.cells PV 52)).alloc (.cells QV 52) = W := ⟨_, rfl⟩
      rw [hW] at kP kQ HBE ⊢
      obtain ⟨g1, hg1⟩ : ∃ z, w.heap.size + 1 = z := ⟨_, rfl⟩
      rw [hg1] at kQ ⊢
      have HKP := Lib.hid (fun W' (hb : Below W.heap.size W W') => kP.below hb)
      have HKQ := Lib.hid (fun W' (hb : Below W.heap.size W W') => kQ.below hb)
      have HRP := Lib.hid (fun W' (hb : Below W.heap.size W W') => HP.out.below (HBE.out.trans (hb.mono HBE.out.size)))
      have HRQ := Lib.hid (fun W' (hb : Below W.heap.size W W') => HQ.out.below (HBE.out.trans (hb.mono HBE.out.size)))
      have HX0 := Lib.hid (Below.refl W.heap.size W)
      clear kP0 bb hW hg1 kQ HP HQ
      go_wp2_with (refine wpList_load_row rfl 52 (.tmp 2) rfl w.heap.size rfl 52 PV (0, 0) _ kP Try.underlying52 rfl hszP ?_)
      refine (KGp.out _ (HRP.out _ HX0.out)).mono ?_
      rintro e w1 ⟨rfl, hb⟩
      have HX1 := Lib.hid (HX0.out.trans (hb.mono HX0.out.size))
      clear hb
      clear kP
      have kQ1 := HKQ.out _ HX1.out
      go_wp2_with (refine wpList_load_row_g rfl 52 (.tmp 3) rfl g1 rfl 52 QV (0, 0) _ kQ1 Try.underlying52 rfl hszQ ?_)
      refine (KGq.out _ (HRQ.out _ HX1.out)).mono ?_
      rintro e w2 ⟨rfl, hb⟩
      have HX2 := Lib.hid (HX1.out.trans (hb.mono HX1.out.size))
      clear hb
      clear kQ1
      go_wp2_with fail
      refine (KX.out _).mono ?_
      rintro e wz ⟨rfl, hb⟩
      have HXZ := Lib.hid (HX2.out.trans (hb.mono HX2.out.size))
      clear hb
      go_wp2_with fail
      go_ret
      exact ⟨rfl, HBE.out.trans (HXZ.out.mono HBE.out.size)⟩
    | false =>
      rw [hgq] at KGq
      obtain ⟨n1, n2, n3, n4, n5⟩ := great28_not hgp
      obtain ⟨m1, m2, m3, m4, m5⟩ := great28_not hgq
      have KFp := Lib.hid (fun w hr => full_any p Ae At As ce ct cs w hr n1 n4)
      have KFq := Lib.hid (fun w hr => full_any q Be Bt Bs de dt ds w hr m1 m4)
      have KPp := Lib.hid (fun A c w hr => putans_any p A At As c ct cs w (great_okF hgp) hr (fun t ht => by have := n5 t ht; omega))
      have KPq := Lib.hid (fun A c w hr => putans_any q A Bt Bs c dt ds w (great_okF hgq) hr (fun t ht => by have := m5 t ht; omega))
      have KS := Lib.hid (fun A c B d w hf hg => rsame27_any p q A At As B Bt Bs c ct cs d dt ds w hf hg (great_okF hgp) (great_okF hgq))
      have HSE := Lib.hid (fun h1 h2 => one_same (p := p) (q := q) h1 h2 ⟨HOB.out.1.seed, HP.out.re.all, fun t ht => by have := n5 t ht; omega⟩ ⟨HOB.out.2.seed, HQ.out.re.all, fun t ht => by have := m5 t ht; omega⟩)
      have KFp7 : Hid (∀ w, RPl w p Ae At As → Calls Try.prog 31 #[.agg #[.int .i64 p.k, .int .i64 p.cl, .int .i64 p.b, .int .i64 p.t, .int .i64 p.d, .int .i64 p.l, .int .i64 p.p, .int .i64 p.cols, .int .u64 (p.seed : Int), .slice Ae p.edges.length ce, .slice At p.trees.length ct, .int .i64 p.num, .int .i64 p.den, .slice As p.shake.length cs]] w fun e w' => ∃ Be c, e = .returned (.agg (forA p Be At As c ct cs)) ∧ RFo w' p Be At As ∧ Below w.heap.size w w') := KFp
      have KFq7 : Hid (∀ w, RPl w q Be Bt Bs → Calls Try.prog 31 #[.agg #[.int .i64 q.k, .int .i64 q.cl, .int .i64 q.b, .int .i64 q.t, .int .i64 q.d, .int .i64 q.l, .int .i64 q.p, .int .i64 q.cols, .int .u64 (q.seed : Int), .slice Be q.edges.length de, .slice Bt q.trees.length dt, .int .i64 q.num, .int .i64 q.den, .slice Bs q.shake.length ds]] w fun e w' => ∃ Ce c, e = .returned (.agg (forA q Ce Bt Bs c dt ds)) ∧ RFo w' q Ce Bt Bs ∧ Below w.heap.size w w') := KFq
      rw [HPV.out] at KFp
      rw [HQV.out] at KFq
      clear n1 n2 n3 n4 n5 m1 m2 m3 m4 m5 hgp hgq HOB
      go_enter Try.func7, Try.ntmps7
      go_upto_region 1 with (fail)
      have kP0 := Blk.new w PV 52
      have kQ := Blk.new (w.alloc (.cells PV 52)) QV 52
      rw [World.size_alloc] at kQ
      have bb : Below (w.alloc (.cells PV 52)).heap.size (w.alloc (.cells PV 52)) ((w.alloc (.cells PV 52)).alloc (.cells QV 52)) := (Below.refl _ _).alloc (Nat.le_refl _) _
      have HBE := Lib.hid (((Below.refl w.heap.size w).alloc (Nat.le_refl _) (.cells PV 52)).alloc (by simp) (.cells QV 52))
      have kP := kP0.below bb
      obtain ⟨W, hW⟩ : ∃ W, (w.alloc (.cells PV 52)).alloc (.cells QV 52) = W := ⟨_, rfl⟩
      rw [hW] at kP kQ HBE ⊢
      obtain ⟨g1, hg1⟩ : ∃ z, w.heap.size + 1 = z := ⟨_, rfl⟩
      rw [hg1] at kQ ⊢
      have HKP := Lib.hid (fun W' (hb : Below W.heap.size W W') => kP.below hb)
      have HKQ := Lib.hid (fun W' (hb : Below W.heap.size W W') => kQ.below hb)
      have HRP := Lib.hid (fun W' (hb : Below W.heap.size W W') => HP.out.below (HBE.out.trans (hb.mono HBE.out.size)))
      have HRQ := Lib.hid (fun W' (hb : Below W.heap.size W W') => HQ.out.below (HBE.out.trans (hb.mono HBE.out.size)))
      have HX0 := Lib.hid (Below.refl W.heap.size W)
      clear kP0 bb hW hg1 kQ HP HQ
      go_wp2_with (refine wpList_load_row rfl 52 (.tmp 2) rfl w.heap.size rfl 52 PV (0, 0) _ kP Try.underlying52 rfl hszP ?_)
      refine (KGp.out _ (HRP.out _ HX0.out)).mono ?_
      rintro e w1 ⟨rfl, hb⟩
      have HX1 := Lib.hid (HX0.out.trans (hb.mono HX0.out.size))
      clear hb
      clear kP
      have kQ1 := HKQ.out _ HX1.out
      go_wp2_with (refine wpList_load_row_g rfl 52 (.tmp 3) rfl g1 rfl 52 QV (0, 0) _ kQ1 Try.underlying52 rfl hszQ ?_)
      refine (KGq.out _ (HRQ.out _ HX1.out)).mono ?_
      rintro e w2 ⟨rfl, hb⟩
      have HX2 := Lib.hid (HX1.out.trans (hb.mono HX1.out.size))
      clear hb
      clear kQ1
      have kP2 := HKP.out _ HX2.out
      go_wp2_with (refine wpList_load_row rfl 52 (.tmp 2) rfl w.heap.size rfl 52 PV (0, 0) _ kP2 Try.underlying52 rfl hszP ?_)
      refine (KFp.out _ (HRP.out _ HX2.out)).mono ?_
      rintro e w3 ⟨B3, c3, rfl, hr3, hb⟩
      have HX3 := Lib.hid (HX2.out.trans (hb.mono HX2.out.size))
      clear hb
      clear kP2
      go_wp2_with fail
      refine (KPp.out B3 c3 _ hr3).mono ?_
      rintro e w4 ⟨a4, n4, c4, err4, rfl, h4, hb⟩
      have HX4 := Lib.hid (HX3.out.trans (hb.mono HX3.out.size))
      clear hb
      clear hr3
      have kQ4 := HKQ.out _ HX4.out
      go_wp2_with (refine wpList_load_row rfl 52 (.tmp 3) rfl g1 rfl 52 QV (0, 0) _ kQ4 Try.underlying52 rfl hszQ ?_)
      refine (KFq.out _ (HRQ.out _ HX4.out)).mono ?_
      rintro e w5 ⟨B5, c5, rfl, hr5, hb⟩
      have HY5 := Lib.hid hb
      have HX5 := Lib.hid (HX4.out.trans (hb.mono HX4.out.size))
      clear hb
      clear kQ4
      go_wp2_with fail
      refine (KPq.out B5 c5 _ hr5).mono ?_
      rintro e w6 ⟨a6, n6, c6, err6, rfl, h6, hb⟩
      have HY6 := Lib.hid (HY5.out.trans (hb.mono HY5.out.size))
      have HX6 := Lib.hid (HX5.out.trans (hb.mono HX5.out.size))
      clear hb
      clear hr5
      rcases h4 with ⟨rfl, hm4, hn4, hrb4, _⟩ | ⟨rfl, hm4⟩
      rotate_left
      · clear hm4 h6
        go_wp2_with fail
        refine (KX.out _).mono ?_
        rintro e wz ⟨rfl, hb⟩
        have HXZ := Lib.hid (HX6.out.trans (hb.mono HX6.out.size))
        clear hb
        go_wp2_with fail
        go_ret
        exact ⟨rfl, HBE.out.trans (HXZ.out.mono HBE.out.size)⟩
      rcases h6 with ⟨rfl, hm6, hn6, hrb6, _⟩ | ⟨rfl, hm6⟩
      rotate_left
      · clear hm4 hm6 hn4 hrb4
        go_wp2_with fail
        refine (KX.out _).mono ?_
        rintro e wz ⟨rfl, hb⟩
        have HXZ := Lib.hid (HX6.out.trans (hb.mono HX6.out.size))
        clear hb
        go_wp2_with fail
        go_ret
        exact ⟨rfl, HBE.out.trans (HXZ.out.mono HBE.out.size)⟩
      have hse := HSE.out hm4 hm6
      rw [← str_eq (putF p) (putF q) (putF_in p) (putF_in q)] at hse
      have HC4 := Lib.hid (fun W' (hb : Below w6.heap.size w6 W') => conv_str (putF p) a4 c4 W' (hrb4.below (HY6.out.trans (hb.mono HY6.out.size))) (putF_pos p))
      have HC6 := Lib.hid (fun W' (hb : Below w6.heap.size w6 W') => conv_str (putF q) a6 c6 W' (hrb6.below hb) (putF_pos q))
      rw [← hn4] at HC4
      rw [← hn6] at HC6
      obtain ⟨X4, hX4⟩ : ∃ X, ByteArray.mk ((putF p).map UInt8.ofNat).toArray = X := ⟨_, rfl⟩
      obtain ⟨X6, hX6⟩ : ∃ X, ByteArray.mk ((putF q).map UInt8.ofNat).toArray = X := ⟨_, rfl⟩
      rw [hX4] at HC4 hse
      rw [hX6] at HC6 hse
      obtain ⟨r, hr⟩ : ∃ r, decide (p = q) = r := ⟨_, rfl⟩
      rw [hr] at hse KS
      have hrr : (r == r) = true := by cases r <;> rfl
      have HSS : Hid (∀ W', Below w6.heap.size w6 W' → (fun W => W.cell? ⟨w.heap.size, 0, none⟩ = some (.int .i64 p.k) ∧ W.cell? ⟨w.heap.size, 1, none⟩ = some (.int .i64 p.cl) ∧ W.cell? ⟨w.heap.size, 2, none⟩ = some (.int .i64 p.b) ∧ W.cell? ⟨w.heap.size, 3, none⟩ = some (.int .i64 p.t) ∧ W.cell? ⟨w.heap.size, 4, none⟩ = some (.int .i64 p.d) ∧ W.cell? ⟨w.heap.size, 5, none⟩ = some (.int .i64 p.l) ∧ W.cell? ⟨w.heap.size, 6, none⟩ = some (.int .i64 p.p) ∧ W.cell? ⟨w.heap.size, 7, none⟩ = some (.int .i64 p.cols) ∧ W.cell? ⟨w.heap.size, 8, none⟩ = some (.int .u64 (p.seed : Int)) ∧ W.cell? ⟨w.heap.size, 9, none⟩ = some (.slice Ae p.edges.length ce) ∧ W.cell? ⟨w.heap.size, 10, none⟩ = some (.slice At p.trees.length ct) ∧ W.cell? ⟨w.heap.size, 11, none⟩ = some (.int .i64 p.num) ∧ W.cell? ⟨w.heap.size, 12, none⟩ = some (.int .i64 p.den) ∧ W.cell? ⟨w.heap.size, 13, none⟩ = some (.slice As p.shake.length cs) ∧ W.cell? ⟨g1, 0, none⟩ = some (.int .i64 q.k) ∧ W.cell? ⟨g1, 1, none⟩ = some (.int .i64 q.cl) ∧ W.cell? ⟨g1, 2, none⟩ = some (.int .i64 q.b) ∧ W.cell? ⟨g1, 3, none⟩ = some (.int .i64 q.t) ∧ W.cell? ⟨g1, 4, none⟩ = some (.int .i64 q.d) ∧ W.cell? ⟨g1, 5, none⟩ = some (.int .i64 q.l) ∧ W.cell? ⟨g1, 6, none⟩ = some (.int .i64 q.p) ∧ W.cell? ⟨g1, 7, none⟩ = some (.int .i64 q.cols) ∧ W.cell? ⟨g1, 8, none⟩ = some (.int .u64 (q.seed : Int)) ∧ W.cell? ⟨g1, 9, none⟩ = some (.slice Be q.edges.length de) ∧ W.cell? ⟨g1, 10, none⟩ = some (.slice Bt q.trees.length dt) ∧ W.cell? ⟨g1, 11, none⟩ = some (.int .i64 q.num) ∧ W.cell? ⟨g1, 12, none⟩ = some (.int .i64 q.den) ∧ W.cell? ⟨g1, 13, none⟩ = some (.slice Bs q.shake.length ds) ∧ (convert 54 9 (.slice a4 n4 c4)).run Try.prog W = .ok (.string X4) W ∧ (convert 54 9 (.slice a6 n6 c6)).run Try.prog W = .ok (.string X6) W) W') := Lib.hid (fun W' hb => by
        have h1 := HKP.out W' (HX6.out.trans (hb.mono HX6.out.size))
        have h2 := HKQ.out W' (HX6.out.trans (hb.mono HX6.out.size))
        rw [← HPV.out] at h1
        rw [← HQV.out] at h2
        obtain ⟨x0, x1, x2, x3, x4, x5, x6, x7, x8, x9, x10, x11, x12, x13⟩ := Blk.cells14 h1
        obtain ⟨y0, y1, y2, y3, y4, y5, y6, y7, y8, y9, y10, y11, y12, y13⟩ := Blk.cells14 h2
        exact ⟨x0, x1, x2, x3, x4, x5, x6, x7, x8, x9, x10, x11, x12, x13, y0, y1, y2, y3, y4, y5, y6, y7, y8, y9, y10, y11, y12, y13, HC4.out W' hb, HC6.out W' hb⟩)
      have HZ0 := Lib.hid ((Below.refl w6.heap.size w6).drew)
      have HRP6 := Lib.hid (fun W' (hb : Below w6.heap.size w6 W') => HRP.out W' (HX6.out.trans (hb.mono HX6.out.size)))
      have HRQ6 := Lib.hid (fun W' (hb : Below w6.heap.size w6 W') => HRQ.out W' (HX6.out.trans (hb.mono HX6.out.size)))
      clear hn4 hn6 hrb4 hrb6 hm4 hm6 hX4 hX6 hr
      go_upto_region 7 with (fail)
      refine wp_region_held_drew (S := (fun W => W.cell? ⟨w.heap.size, 0, none⟩ = some (.int .i64 p.k) ∧ W.cell? ⟨w.heap.size, 1, none⟩ = some (.int .i64 p.cl) ∧ W.cell? ⟨w.heap.size, 2, none⟩ = some (.int .i64 p.b) ∧ W.cell? ⟨w.heap.size, 3, none⟩ = some (.int .i64 p.t) ∧ W.cell? ⟨w.heap.size, 4, none⟩ = some (.int .i64 p.d) ∧ W.cell? ⟨w.heap.size, 5, none⟩ = some (.int .i64 p.l) ∧ W.cell? ⟨w.heap.size, 6, none⟩ = some (.int .i64 p.p) ∧ W.cell? ⟨w.heap.size, 7, none⟩ = some (.int .i64 p.cols) ∧ W.cell? ⟨w.heap.size, 8, none⟩ = some (.int .u64 (p.seed : Int)) ∧ W.cell? ⟨w.heap.size, 9, none⟩ = some (.slice Ae p.edges.length ce) ∧ W.cell? ⟨w.heap.size, 10, none⟩ = some (.slice At p.trees.length ct) ∧ W.cell? ⟨w.heap.size, 11, none⟩ = some (.int .i64 p.num) ∧ W.cell? ⟨w.heap.size, 12, none⟩ = some (.int .i64 p.den) ∧ W.cell? ⟨w.heap.size, 13, none⟩ = some (.slice As p.shake.length cs) ∧ W.cell? ⟨g1, 0, none⟩ = some (.int .i64 q.k) ∧ W.cell? ⟨g1, 1, none⟩ = some (.int .i64 q.cl) ∧ W.cell? ⟨g1, 2, none⟩ = some (.int .i64 q.b) ∧ W.cell? ⟨g1, 3, none⟩ = some (.int .i64 q.t) ∧ W.cell? ⟨g1, 4, none⟩ = some (.int .i64 q.d) ∧ W.cell? ⟨g1, 5, none⟩ = some (.int .i64 q.l) ∧ W.cell? ⟨g1, 6, none⟩ = some (.int .i64 q.p) ∧ W.cell? ⟨g1, 7, none⟩ = some (.int .i64 q.cols) ∧ W.cell? ⟨g1, 8, none⟩ = some (.int .u64 (q.seed : Int)) ∧ W.cell? ⟨g1, 9, none⟩ = some (.slice Be q.edges.length de) ∧ W.cell? ⟨g1, 10, none⟩ = some (.slice Bt q.trees.length dt) ∧ W.cell? ⟨g1, 11, none⟩ = some (.int .i64 q.num) ∧ W.cell? ⟨g1, 12, none⟩ = some (.int .i64 q.den) ∧ W.cell? ⟨g1, 13, none⟩ = some (.slice Bs q.shake.length ds) ∧ (convert 54 9 (.slice a4 n4 c4)).run Try.prog W = .ok (.string X4) W ∧ (convert 54 9 (.slice a6 n6 c6)).run Try.prog W = .ok (.string X6) W)) (by kernel_rfl) ?_ (fun hS0 => ?_)
      · exact HSS.out _ HZ0.out
      refine wpAnyH_ready (rs := [0]) (by kernel_rfl) (by simp) ?_
      refine AllReadyH.cons rfl (fun K hK => ?_) AllReadyH.nil
      go_simp
      refine (KX.out _).mono ?_
      rintro e w7 ⟨rfl, hb⟩
      have HZ1 := Lib.hid (HZ0.out.trans (hb.mono HZ0.out.size))
      clear hb
      refine hK.out _ _ (HSS.out _ HZ1.out) (fun hS1 => ?_)
      clear hK K
      refine' wpAnyH_take (i := 1) (v := _) rfl (by kernel_rfl) (by kernel_rfl) (by kernel_rfl) (fun _ _ _ h => h) (Or.inl ⟨by rfl, ?hym1⟩) hS1 ?restm1
      case hym1 => (intro w hSw; (try dsimp only at hSw); go_simp; try with_reducible rfl)
      simp only [Act.put, List.setIfInBounds_toArray, List.set_cons_zero, List.set_cons_succ, List.getElem_toArray, List.getElem_cons_zero, List.getElem_cons_succ]
      refine' wpAnyH_take (i := 2) (v := _) rfl (by kernel_rfl) (by kernel_rfl) (by kernel_rfl) (fun _ _ _ h => h) (Or.inl ⟨by rfl, ?hym2⟩) hS1 ?restm2
      case hym2 => (intro w hSw; (try dsimp only at hSw); go_simp; try with_reducible rfl)
      simp only [Act.put, List.setIfInBounds_toArray, List.set_cons_zero, List.set_cons_succ, List.getElem_toArray, List.getElem_cons_zero, List.getElem_cons_succ]
      refine' wpAnyH_take (i := 3) (v := _) rfl (by kernel_rfl) (by kernel_rfl) (by kernel_rfl) (fun _ _ _ h => h) (Or.inl ⟨by rfl, ?hym3⟩) hS1 ?restm3
      case hym3 => (intro w hSw; (try dsimp only at hSw); go_simp; try with_reducible rfl)
      simp only [Act.put, List.setIfInBounds_toArray, List.set_cons_zero, List.set_cons_succ, List.getElem_toArray, List.getElem_cons_zero, List.getElem_cons_succ]
      refine' wpAnyH_take (i := 4) (v := _) rfl (by kernel_rfl) (by kernel_rfl) (by kernel_rfl) (fun _ _ _ h => h) (Or.inl ⟨by rfl, ?hym4⟩) hS1 ?restm4
      case hym4 => (intro w hSw; (try dsimp only at hSw); go_simp; try with_reducible rfl)
      simp only [Act.put, List.setIfInBounds_toArray, List.set_cons_zero, List.set_cons_succ, List.getElem_toArray, List.getElem_cons_zero, List.getElem_cons_succ]
      refine' wpAnyH_take (i := 5) (v := _) rfl (by kernel_rfl) (by kernel_rfl) (by kernel_rfl) (fun _ _ _ h => h) (Or.inl ⟨by rfl, ?hym5⟩) hS1 ?restm5
      case hym5 => (intro w hSw; (try dsimp only at hSw); go_simp; try with_reducible rfl)
      simp only [Act.put, List.setIfInBounds_toArray, List.set_cons_zero, List.set_cons_succ, List.getElem_toArray, List.getElem_cons_zero, List.getElem_cons_succ]
      refine' wpAnyH_take (i := 6) (v := _) rfl (by kernel_rfl) (by kernel_rfl) (by kernel_rfl) (fun _ _ _ h => h) (Or.inl ⟨by rfl, ?hym6⟩) hS1 ?restm6
      case hym6 => (intro w hSw; (try dsimp only at hSw); go_simp; try with_reducible rfl)
      simp only [Act.put, List.setIfInBounds_toArray, List.set_cons_zero, List.set_cons_succ, List.getElem_toArray, List.getElem_cons_zero, List.getElem_cons_succ]
      refine' wpAnyH_take (i := 7) (v := _) rfl (by kernel_rfl) (by kernel_rfl) (by kernel_rfl) (fun _ _ _ h => h) (Or.inl ⟨by rfl, ?hym7⟩) hS1 ?restm7
      case hym7 => (intro w hSw; (try dsimp only at hSw); go_simp; try with_reducible rfl)
      simp only [Act.put, List.setIfInBounds_toArray, List.set_cons_zero, List.set_cons_succ, List.getElem_toArray, List.getElem_cons_zero, List.getElem_cons_succ]
      refine' wpAnyH_take (i := 9) (v := _) rfl (by kernel_rfl) (by kernel_rfl) (by kernel_rfl) (fun _ _ _ h => h) (Or.inl ⟨by rfl, ?hym8⟩) hS1 ?restm8
      case hym8 => (intro w hSw; (try dsimp only at hSw); go_simp; try with_reducible rfl)
      simp only [Act.put, List.setIfInBounds_toArray, List.set_cons_zero, List.set_cons_succ, List.getElem_toArray, List.getElem_cons_zero, List.getElem_cons_succ]
      refine wpAnyH_ready (rs := [8]) (by kernel_rfl) (by simp) ?_
      refine AllReadyH.cons rfl (fun K hK => ?_) AllReadyH.nil
      go_simp
      refine (KFp7.out _ (HRP6.out _ HZ1.out)).mono ?_
      rintro e w8 ⟨B8, c8, rfl, hr8, hb⟩
      have HR8 := Lib.hid (fun W' (hb : Below w8.heap.size w8 W') => hr8.below hb)
      have HZ2 := Lib.hid (HZ1.out.trans (hb.mono HZ1.out.size))
      clear hb
      clear hr8
      refine hK.out _ _ (HSS.out _ HZ2.out) (fun hS2 => ?_)
      clear hK K
      refine wpAnyH_ready (rs := [10]) (by kernel_rfl) (by simp) ?_
      refine AllReadyH.cons rfl (fun K hK => ?_) AllReadyH.nil
      go_simp
      refine (KFq7.out _ (HRQ6.out _ HZ2.out)).mono ?_
      rintro e w9 ⟨B9, c9, rfl, hr9, hb⟩
      have HR9 := Lib.hid (fun W' (hb : Below w9.heap.size w9 W') => hr9.below hb)
      have HB9 := Lib.hid hb
      have HZ3 := Lib.hid (HZ2.out.trans (hb.mono HZ2.out.size))
      clear hb
      clear hr9
      refine hK.out _ _ (HSS.out _ HZ3.out) (fun hS3 => ?_)
      clear hK K
      refine wpAnyH_ready (rs := [11]) (by kernel_rfl) (by simp) ?_
      refine AllReadyH.cons rfl (fun K hK => ?_) AllReadyH.nil
      go_simp
      refine (KS.out B8 c8 B9 c9 _ (HR8.out _ HB9.out) (HR9.out _ (Below.refl _ _))).mono ?_
      rintro e w10 ⟨rfl, hb⟩
      have HZ4 := Lib.hid (HZ3.out.trans (hb.mono HZ3.out.size))
      clear hb
      refine hK.out _ _ (HSS.out _ HZ4.out) (fun hS4 => ?_)
      clear hK K
      refine' wpAnyH_take (i := 12) (v := _) rfl (by kernel_rfl) (by kernel_rfl) (by kernel_rfl) (fun _ _ _ h => h) (Or.inl ⟨by rfl, ?hym9⟩) hS4 ?restm9
      case hym9 => (intro w hSw; (try dsimp only at hSw); go_simp; try with_reducible rfl)
      simp only [Act.put, List.setIfInBounds_toArray, List.set_cons_zero, List.set_cons_succ, List.getElem_toArray, List.getElem_cons_zero, List.getElem_cons_succ]
      refine' wpAnyH_take (i := 13) (v := _) rfl (by kernel_rfl) (by kernel_rfl) (by kernel_rfl) (fun _ _ _ h => h) (Or.inl ⟨by rfl, ?hym10⟩) hS4 ?restm10
      case hym10 => (intro w hSw; (try dsimp only at hSw); go_simp; try with_reducible rfl)
      simp only [Act.put, List.setIfInBounds_toArray, List.set_cons_zero, List.set_cons_succ, List.getElem_toArray, List.getElem_cons_zero, List.getElem_cons_succ]
      refine' wpAnyH_take (i := 14) (v := _) rfl (by kernel_rfl) (by kernel_rfl) (by kernel_rfl) (fun _ _ _ h => h) (Or.inl ⟨by rfl, ?hym11⟩) hS4 ?restm11
      case hym11 => (intro w hSw; (try dsimp only at hSw); go_simp; try with_reducible rfl)
      simp only [Act.put, List.setIfInBounds_toArray, List.set_cons_zero, List.set_cons_succ, List.getElem_toArray, List.getElem_cons_zero, List.getElem_cons_succ]
      refine wpAnyH_done (by kernel_rfl) ?_ _
      go_wp2_with fail
      go_ret
      exact ⟨ret_bool (by first | rfl | simp), HBE.out.trans ((HX6.out.trans (HZ4.out.mono HX6.out.size)).mono HBE.out.size)⟩
end Go.Proofs.Ytpekofpiodaadaa.Hb
end

section
/- The law ModelOne, of whatever reads as its arguments. -/
namespace Go.Proofs.Ytpekofpiodaadaa.Hb
set_option linter.unusedVariables false
open Go.RowKit
theorem one28_row (w : World) (v : Value) (h : IsPl w v) (u : Value) (k : IsPl w u) : Calls Try.prog 7 #[v, u] w (True0 w) := by
  obtain ⟨p, Ae, At, As, ce, ct, cs, rfl, hp, l1, l2, l3, l4⟩ := h
  obtain ⟨q, Be, Bt, Bs, de, dt, ds, rfl, hq, m1, m2, m3, m4⟩ := k
  exact one28_any p q Ae At As Be Bt Bs ce ct cs de dt ds w hp hq ⟨l1, l2, l3, l4⟩ ⟨m1, m2, m3, m4⟩
end Go.Proofs.Ytpekofpiodaadaa.Hb
end

section
/- A run of one goroutine alone, in the form of a row that says 'leaving'. -/
namespace Go.Proofs.Ytpekofpiodaadaa.Hb
theorem leaving_of_handed {a : Assume} {C : Checked} {os : Os} {f : FuncId} {r : Reach} {Pre : World → Array Value → Prop} {Post : World → Array Value → Value → World → Prop} (h : ReturnsInHanded a C os f r Pre Post) : ReturnsInLeavingWide a C os f r Pre Post := fun enter =>
  let ⟨h0, h1, h2, h3, h4⟩ := h enter
  ⟨h0, h1, h2, h3, fun w tape i hf =>
    let ⟨n, v, w', e, c, ro, po, ⟨j, last, hj, hs, ha⟩, al⟩ := h4 w tape i hf
    ⟨n, v, w', e, c, ro, po, ⟨j, last, hj, hs, ha.2.1, onlyLeaving_of_quiet ha.1, ha.2.2⟩, al⟩⟩
end Go.Proofs.Ytpekofpiodaadaa.Hb
end

/- The walks of layer hist: two like histograms made one. -/
import Derived.Test.YteckbgpkoanhfaaHbHistB
namespace Go.Proofs.Yteckbgpkoanhfaa.Hb
open Go.RowKit

theorem moments_any (f : Nat) (w : World) : Calls Try.prog 47 #[.func (.func f) #[] #[]] w fun e w' => e = .returned (.func (.func 67) #[] #[.pointer (some ⟨w.heap.size, 0, none⟩)]) ∧ w' = w.alloc (.cells #[.func (.func f) #[] #[]] 109) := by
  go_enter Try.func47, Try.ntmps47
  go_wp2
  go_ret
  exact ⟨rfl, rfl⟩

theorem rows_errP {α : Type} {op : α → α → Except Int α} {P : Int → Prop} (hop : ∀ x y e, op x y = .error e → P e) : ∀ (a b : List α) (e : Int), a.length ≤ b.length → rowsO op a b = .error e → P e
  | [], _, _, _, h => by cases h
  | _ :: _, [], _, h1, _ => by simp at h1
  | x :: xs, y :: ys, e, h1, h => by
    rw [rowsO] at h
    cases h2 : op x y with
    | error e1 => rw [h2] at h; cases h; exact hop _ _ _ h2
    | ok z =>
      rw [h2] at h
      simp only at h
      cases h3 : rowsO op xs ys with
      | error e1 => rw [h3] at h; cases h; exact rows_errP hop xs ys _ (by simpa using h1) h3
      | ok zs => rw [h3] at h; cases h
/-- A row of one type is not touched by a store into a block of another one. -/
theorem own_set {w : World} {base : Nat} {e t : TypeId} {size n g i : Nat} {v u : Value} {xs : List Value} {cs : Array Value} (h : w.ownsRow base e size v n xs) (hb : Blk w g cs t) (hte : t ≠ e) : (w.setCell ⟨g, i, none⟩ u).ownsRow base e size v n xs := by
  refine h.kept (row := some g) ⟨rfl, rfl, rfl, by simp [World.setCell], fun k _ hk => Below.heap_setCell _ _ _ k (fun e => hk (by rw [e]))⟩ ?_
  rcases h.2 with ⟨rfl, _⟩ | ⟨g', cap, cur, rfl, _, hgb, _⟩
  · exact .inl rfl
  · refine .inr fun e' => ?_
    obtain rfl : g' = g := by simpa [Value.ownBlock] using e'
    have := (show w.heap[g']? = _ from hb).symm.trans hgb
    simp at this
    exact hte this.2

theorem own_set5 {w : World} {base : Nat} {e t : TypeId} {size n g : Nat} {v : Value} {xs : List Value} {cs : Array Value} (h : w.ownsRow base e size v n xs) (hb : Blk w g cs t) (hte : t ≠ e) (x0 x1 x2 x3 x4 : Value) :
    (((((w.setCell ⟨g, 0, none⟩ x0).setCell ⟨g, 1, none⟩ x1).setCell ⟨g, 2, none⟩ x2).setCell ⟨g, 3, none⟩ x3).setCell ⟨g, 4, none⟩ x4).ownsRow base e size v n xs :=
  own_set (own_set (own_set (own_set (own_set h hb hte) (hb.set 0 _) hte) ((hb.set 0 _).set 1 _) hte) (((hb.set 0 _).set 1 _).set 2 _) hte) ((((hb.set 0 _).set 1 _).set 2 _).set 3 _) hte
/-- A right histogram is small. -/
theorem right_small {h : H} (hr : rightP h) : h.counts.length ≤ 65792 ∧ h.moms.length ≤ 257 := by
  obtain ⟨⟨b1, b2, b3⟩, hc⟩ := hr
  rcases hc with ⟨k0, l1, l2⟩ | ⟨k0, l1, l2⟩
  · have := bins_classes b1 b2 (show 2 ≤ h.classes by omega) (show h.classes ≤ 256 by omega)
    rw [← l1] at this
    omega
  · omega

set_option maxRecDepth 100000 in
set_option maxHeartbeats 4000000 in
theorem both_like (f : Nat) (op : Int → Int → Bool → Except Int Int) (hop : IsOp f op) (a b : H) (A1 A2 A3 A4 : Option Addr) (c1 c2 c3 c4 : Nat) (w : World) (ha1 : a.counts.length ≤ 17592186044416) (ha2 : a.moms.length ≤ 1099511627776) (hb1 : b.counts.length ≤ 9223372036854775807) (hb2 : b.moms.length ≤ 9223372036854775807)
    (h1 : RdI w A1 a.counts) (h2 : RdM w A2 a.moms) (h3 : RdI w A3 b.counts) (h4 : RdM w A4 b.moms) (hab1 : a.counts.length ≤ b.counts.length) (hab2 : a.moms.length ≤ b.moms.length)
    (hu : likeP a b) : Calls Try.prog 52 #[hV a A1 A2 c1 c2, hV b A3 A4 c3 c4, .func (.func f) #[] #[]] w (ResH (bothO op a b) w) := by
  have ra := fun w => right_any a A1 A2 c1 c2 w (by omega) (by omega)
  have rb := fun w => right_any b A3 A4 c3 c4 w hb1 hb2
  rw [show rightB a = true from decide_eq_true hu.1] at ra
  rw [show rightB b = true from decide_eq_true hu.2.1] at rb
  unfold hV at ra rb ⊢
  have RA := Lib.hid ra
  have RB := Lib.hid rb
  have x1 : (a.kind != b.kind) = false := bne_eq_false_iff_eq.2 hu.2.2.1
  have x2 : (a.bins != b.bins) = false := bne_eq_false_iff_eq.2 hu.2.2.2.1
  have x3 : (a.classes != b.classes) = false := bne_eq_false_iff_eq.2 hu.2.2.2.2
  have HU := Lib.hid hu
  have R1 := Lib.hid h1
  have R2 := Lib.hid h2
  have R3 := Lib.hid h3
  have R4 := Lib.hid h4
  have e0 : ((0 : Int) != 0) = false := rfl
  clear ra rb hu h1 h2 h3 h4 hb1 hb2
  go_enter Try.func52, Try.ntmps52
  go_wp2_with fail
  obtain ⟨W4, e4⟩ : ∃ W4, W4 = (((w.alloc (.cells #[.int .i64 a.kind, .int .i64 a.bins, .int .i64 a.classes, .slice A1 a.counts.length c1, .slice A2 a.moms.length c2] 36)).alloc (.cells #[.int .i64 b.kind, .int .i64 b.bins, .int .i64 b.classes, .slice A3 b.counts.length c3, .slice A4 b.moms.length c4] 36)).alloc (.cells #[.func (.func f) #[] #[]] 109)).alloc (.cells #[.int .i64 0, .int .i64 0, .int .i64 0, .slice none 0 0, .slice none 0 0] 36) := ⟨_, rfl⟩
  rw [← e4]
  obtain ⟨k0, k1, k2, k3, kb, ks⟩ := boxes4 w _ _ _ _ _ _ _ _ W4 e4
  have BB0 : BB f a b A1 A2 A3 A4 c1 c2 c3 c4 w.heap.size w W4 := ⟨k0, k1, k2, k3, kb, by omega⟩
  clear e4 k0 k1 k2 k3 kb ks
  refine (RA.out _).mono ?_
  rintro e w1 ⟨rfl, hb1⟩
  have BB1 := BB0.below hb1
  obtain ⟨⟨p0, p1, p2, p3, p4⟩, ⟨q0, q1, q2, q3, q4⟩, s0, ⟨r0, r1, r2, r3, r4⟩, hfr⟩ := BB1.cells
  go_wp2_with fail
  refine (RB.out _).mono ?_
  rintro e w2 ⟨rfl, hb2⟩
  have BB2 := BB1.below hb2
  clear p0 p1 p2 p3 p4 q0 q1 q2 q3 q4 s0 r0 r1 r2 r3 r4 hfr
  obtain ⟨⟨p0, p1, p2, p3, p4⟩, ⟨q0, q1, q2, q3, q4⟩, s0, ⟨r0, r1, r2, r3, r4⟩, hfr⟩ := BB2.cells
  clear hb1 hb2 BB0 BB1
  have sz2 := BB2.sz
  have sza : w.heap.size + 1 + 1 < w2.heap.size := by omega
  have szb : w.heap.size + 1 < w2.heap.size := by omega
  have szc : w.heap.size < w2.heap.size := by omega
  go_wp2_with fail
  obtain ⟨W5, e5⟩ : ∃ W5, W5 = w2.alloc (.cells #[.int .i64 a.kind, .int .i64 a.bins, .int .i64 a.classes, .slice none 0 0, .slice none 0 0] 36) := ⟨_, rfl⟩
  rw [← e5]
  have kB : Blk W5 w2.heap.size #[.int .i64 a.kind, .int .i64 a.bins, .int .i64 a.classes, .slice none 0 0, .slice none 0 0] 36 := by rw [e5]; exact Blk.new _ _ _
  have bl5 : Below w2.heap.size w2 W5 := by rw [e5]; exact (Below.refl _ _).alloc (Nat.le_refl _) _
  have BB5 := BB2.below bl5
  obtain ⟨B, hB⟩ : ∃ B, w2.heap.size = B := ⟨_, rfl⟩
  rw [hB] at sz2 sza szb szc kB ⊢
  clear e5 bl5 BB2 hB
  clear p0 p1 p2 p3 p4 q0 q1 q2 q3 q4 s0 r0 r1 r2 r3 r4 hfr
  obtain ⟨⟨p0, p1, p2, p3, p4⟩, ⟨q0, q1, q2, q3, q4⟩, s0, ⟨r0, r1, r2, r3, r4⟩, hfr⟩ := BB5.cells
  refine (rowsI_any f op hop a.counts b.counts A1 A3 c1 c3 _ hab1 ha1 W5 (R1.out.below BB5.be) (R3.out.below BB5.be) s0).mono ?_
  rintro e w6 ⟨v1, rfl, ho1, hb6⟩
  obtain ⟨a1', cap1, rfl⟩ := own_slice ho1
  have BB6 := BB5.below hb6
  have kB6 := kB.below hb6
  replace ho1 := World.ownsRow.mono ho1 (base' := w.heap.size) (by have := BB5.sz; omega)
  clear hb6 BB5 kB
  clear p0 p1 p2 p3 p4 q0 q1 q2 q3 q4 s0 r0 r1 r2 r3 r4 hfr
  obtain ⟨⟨p0, p1, p2, p3, p4⟩, ⟨q0, q1, q2, q3, q4⟩, s0, ⟨r0, r1, r2, r3, r4⟩, hfr⟩ := BB6.cells
  obtain ⟨u0, u1, u2, u3, u4⟩ := kB6.cells5
  have uf := kB6.frozen
  have n0 : w.heap.size ≠ B := by omega
  have n1 : w.heap.size + 1 ≠ B := by omega
  have n2 : w.heap.size + 1 + 1 ≠ B := by omega
  have n3 : w.heap.size + 1 + 1 + 1 ≠ B := by omega
  have m0 : B ≠ w.heap.size := by omega
  have m1 : B ≠ w.heap.size + 1 := by omega
  have m2 : B ≠ w.heap.size + 1 + 1 := by omega
  have m3 : B ≠ w.heap.size + 1 + 1 + 1 := by omega
  have HO1 := Lib.hid ho1
  clear ho1
  cases hr1 : rowsO (fun x y => op x y false) a.counts b.counts with
  | error e1 =>
    have ee : (e1 != 0) = true := rows_errP (P := fun e => (e != 0) = true) (fun x y e h => by rcases hop.err h with rfl | rfl <;> rfl) _ _ _ hab1 hr1
    have HR1 := Lib.hid hr1
    simp only [errO, valO, List.length_nil]
    clear hr1
    go_wp2
    refine bodyPost_ret (results_ct rfl _ _ (w.heap.size + 1 + 1 + 1) 36 _ _ rfl (set5 (BB6.b3.other (p := ⟨B, 3, none⟩) n3 _) _ _ _ _ _) Try.underlying36 rfl size_hist) rfl ?_
    rw [both_err1 HU.out HR1.out]
    exact ⟨_, rfl, HNew.zero _ _, below5 (BB6.be.setCell (p := ⟨B, 3, none⟩) (by show w.heap.size ≤ B; omega) _) (by omega) _ _ _ _ _⟩
  | ok l1 =>
    have HR1 := Lib.hid hr1
    rw [hr1] at HO1
    simp only [errO, valO] at HO1 ⊢
    clear hr1
    have kB7 := kB6.set 3 (.slice a1' l1.length cap1)
    go_upto_region 8 with (fail)
    obtain ⟨rr, hr2⟩ : ∃ rr, rowsO (momO op) a.moms b.moms = rr := ⟨_, rfl⟩
    have HR2 := Lib.hid hr2
    have KM := Lib.hid (fun (W : World) (g : Nat) (h1 : RdM W A2 a.moms) (h2 : RdM W A4 b.moms) (hc : W.cell? ⟨g, 0, none⟩ = some (.func (.func f) #[] #[])) => rowsM_any f op hop a.moms b.moms A2 A4 c2 c4 g hab2 ha2 W h1 h2 hc)
    rw [hr2] at KM
    have BB7 : BB f a b A1 A2 A3 A4 c1 c2 c3 c4 w.heap.size w (w6.setCell ⟨B, 3, none⟩ (.slice a1' l1.length cap1)) := ⟨BB6.b0.other (p := ⟨B, 3, none⟩) n0 _, BB6.b1.other (p := ⟨B, 3, none⟩) n1 _, BB6.b2.other (p := ⟨B, 3, none⟩) n2 _, BB6.b3.other (p := ⟨B, 3, none⟩) n3 _, BB6.be.setCell (p := ⟨B, 3, none⟩) (by show w.heap.size ≤ B; omega) _, by simpa using BB6.sz⟩
    have HO7 := Lib.hid (own_set (i := 3) (u := .slice a1' l1.length cap1) HO1.out kB6 (by decide))
    obtain ⟨W7, e7⟩ : ∃ W7, W7 = w6.setCell ⟨B, 3, none⟩ (.slice a1' l1.length cap1) := ⟨_, rfl⟩
    rw [← e7] at BB7 kB7 HO7 ⊢
    clear e7 hr2 p0 p1 p2 p3 p4 q0 q1 q2 q3 q4 s0 r0 r1 r2 r3 r4 hfr u0 u1 u2 u3 u4 uf kB6 BB6 HO1
    obtain ⟨⟨p0, p1, p2, p3, p4⟩, ⟨q0, q1, q2, q3, q4⟩, s0, ⟨r0, r1, r2, r3, r4⟩, hfr⟩ := BB7.cells
    obtain ⟨u0, u1, u2, u3, u4⟩ := kB7.cells5
    have uf := kB7.frozen
    go_cut [9] (fun ev wc => ∃ a2' cap2, ev = .int .i64 (errO rr) ∧ BB f a b A1 A2 A3 A4 c1 c2 c3 c4 w.heap.size w wc ∧ wc.ownsRow w.heap.size 2 1 (.slice a1' l1.length cap1) l1.length (ints l1) ∧ wc.ownsRow w.heap.size 52 3 (.slice a2' (valO [] rr).length cap2) (valO [] rr).length (momC (valO [] rr)) ∧ Blk wc B #[.int .i64 a.kind, .int .i64 a.bins, .int .i64 a.classes, .slice a1' l1.length cap1, .slice a2' (valO [] rr).length cap2] 36)
    case first =>
      have b8 : Below W7.heap.size W7 (W7.alloc (.cells #[.func (.func f) #[] #[]] 109)).drew := ((Below.refl _ W7).alloc (Nat.le_refl _) _).drew
      have BB8 := BB7.below b8
      have kB8 := kB7.below b8
      have c8 := BB8.cells.2.2.1
      have HO8 := Lib.hid (own_below HO7.out b8)
      have g8 := (KM.out _ W7.heap.size (R2.out.below BB8.be) (R4.out.below BB8.be) (by
        have := (Blk.new W7 #[.func (.func f) #[] #[]] 109).below ((Below.refl _ _).drew)
        exact this.cells1))
      have G8 := Lib.hid g8
      clear g8 c8
      go_region_held3 (fun W => W.cell? ⟨w.heap.size, 4, none⟩ = some (.slice A2 a.moms.length c2) ∧ W.cell? ⟨w.heap.size + 1, 4, none⟩ = some (.slice A4 b.moms.length c4) ∧ W.cell? ⟨w.heap.size + 1 + 1, 0, none⟩ = some (.func (.func f) #[] #[])) (go_keep)
        (first
        | (go_at_call 47; refine (moments_any f _).mono ?_; rintro e w1 ⟨rfl, rfl⟩)
        | (go_at_call 75; refine G8.out.mono ?_; rintro e w1 ⟨v2, rfl, ho2, hb2⟩; obtain ⟨a2', cap2, rfl⟩ := own_slice ho2; obtain ⟨hcc, hff⟩ := bcell hb2; have BB9 := BB8.below hb2; have kB9 := kB8.below hb2; obtain ⟨⟨p0, p1, p2, p3, p4⟩, ⟨q0, q1, q2, q3, q4⟩, s0, ⟨r0, r1, r2, r3, r4⟩, hfr⟩ := BB9.cells; obtain ⟨u0, u1, u2, u3, u4⟩ := kB9.cells5; have uf := kB9.frozen))
      have BBx : BB f a b A1 A2 A3 A4 c1 c2 c3 c4 w.heap.size w (w1.setCell ⟨B, 4, none⟩ (.slice a2' (valO [] rr).length cap2)) := ⟨BB9.b0.other (p := ⟨B, 4, none⟩) n0 _, BB9.b1.other (p := ⟨B, 4, none⟩) n1 _, BB9.b2.other (p := ⟨B, 4, none⟩) n2 _, BB9.b3.other (p := ⟨B, 4, none⟩) n3 _, BB9.be.setCell (p := ⟨B, 4, none⟩) (by show w.heap.size ≤ B; omega) _, by simpa using BB9.sz⟩
      have HOx := own_set (i := 4) (u := .slice a2' (valO [] rr).length cap2) (own_below HO8.out hb2) kB9 (by decide)
      have HOy := own_set (i := 4) (u := .slice a2' (valO [] rr).length cap2) (World.ownsRow.mono ho2 (base' := w.heap.size) BB8.be.size) kB9 (by decide)
      have kBx := kB9.set 4 (.slice a2' (valO [] rr).length cap2)
      go_wp2
      go_meet
      case rel => exact ⟨_, _, rfl, BBx, HOx, HOy, kBx⟩
    case rest =>
      obtain ⟨a2', cap2, rfl, BB9, HO9, HO9', kB9⟩ := hcut
      clear p0 p1 p2 p3 p4 q0 q1 q2 q3 q4 s0 r0 r1 r2 r3 r4 hfr u0 u1 u2 u3 u4 uf
      obtain ⟨⟨p0, p1, p2, p3, p4⟩, ⟨q0, q1, q2, q3, q4⟩, s0, ⟨r0, r1, r2, r3, r4⟩, hfr⟩ := BB9.cells
      obtain ⟨u0, u1, u2, u3, u4⟩ := kB9.cells5
      have uf := kB9.frozen
      have HRo := Lib.hid HO9
      have HRm := Lib.hid HO9'
      clear HO9 HO9' HO7
      cases rr with
      | error e1 =>
        have ee : (e1 != 0) = true := rows_errP (P := fun e => (e != 0) = true) (fun x y e h => momO_err hop h) _ _ _ hab2 HR2.out
        simp only [errO]
        go_wp2
        refine bodyPost_ret (results_ct rfl _ _ (w.heap.size + 1 + 1 + 1) 36 _ _ rfl (set5 BB9.b3 _ _ _ _ _) Try.underlying36 rfl size_hist) rfl ?_
        rw [both_err2 HU.out HR1.out HR2.out]
        exact ⟨_, rfl, HNew.zero _ _, below5 BB9.be (by omega) _ _ _ _ _⟩
      | ok l2 =>
        simp only [errO, valO] at HRm u4 ⊢
        go_wp2
        refine bodyPost_ret (results_ct rfl _ _ (w.heap.size + 1 + 1 + 1) 36 _ _ rfl (set5 BB9.b3 _ _ _ _ _) Try.underlying36 rfl size_hist) rfl ?_
        rw [both_ok HU.out HR1.out HR2.out]
        exact ⟨_, rfl, ⟨_, _, rfl, own_set5 HRo.out BB9.b3 (by decide) _ _ _ _ _, own_set5 HRm.out BB9.b3 (by decide) _ _ _ _ _⟩, below5 BB9.be (by omega) _ _ _ _ _⟩
/-- Two histograms made one, like or not. -/
theorem both_any (f : Nat) (op : Int → Int → Bool → Except Int Int) (hop : IsOp f op) (a b : H) (A1 A2 A3 A4 : Option Addr) (c1 c2 c3 c4 : Nat) (w : World) (ha1 : a.counts.length ≤ 9223372036854775807) (ha2 : a.moms.length ≤ 9223372036854775807) (hb1 : b.counts.length ≤ 9223372036854775807) (hb2 : b.moms.length ≤ 9223372036854775807)
    (h1 : RdI w A1 a.counts) (h2 : RdM w A2 a.moms) (h3 : RdI w A3 b.counts) (h4 : RdM w A4 b.moms) : Calls Try.prog 52 #[hV a A1 A2 c1 c2, hV b A3 A4 c3 c4, .func (.func f) #[] #[]] w (ResH (bothO op a b) w) := by
  by_cases hu : likeP a b
  · have ⟨ra, rb, e1, e2, e3⟩ := hu
    have sa := right_small ra
    have sb := right_small rb
    refine both_like f op hop a b A1 A2 A3 A4 c1 c2 c3 c4 w (by omega) (by omega) hb1 hb2 h1 h2 h3 h4 ?_ ?_ hu
    · rcases ra.2 with ⟨k1, l1, m1⟩ | ⟨k1, l1, m1⟩
      · rcases rb.2 with ⟨k2, l2, m2⟩ | ⟨k2, l2, m2⟩
        · rw [e2, e3] at l1; omega
        · omega
      · omega
    · rcases ra.2 with ⟨k1, l1, m1⟩ | ⟨k1, l1, m1⟩
      · omega
      · rcases rb.2 with ⟨k2, l2, m2⟩ | ⟨k2, l2, m2⟩
        · omega
        · omega
  · exact both_unlike f op a b A1 A2 A3 A4 c1 c2 c3 c4 w ha1 ha2 hb1 hb2 hu
end Go.Proofs.Yteckbgpkoanhfaa.Hb

/- Whether a sample is right. -/
import Derived.Test.YteckbgpkoanhfaaHbRight2
namespace Go.Proofs.Yteckbgpkoanhfaa.Hb
set_option linter.unusedVariables false
open Go.RowKit

structure Smp where
  k : Int
  cl : Int
  b : Int
  t : Int
  d : Int
  l : Int
  p : Int
  rows : Int
  cols : Int
  cells : List Int
  tgt : List Int
  wgt : List Int
/-- A sample as a value. -/
def smpC (s : Smp) (A1 A2 A3 : Option Addr) (c1 c2 c3 : Nat) : Array Value :=
  #[.int .i64 s.k, .int .i64 s.cl, .int .i64 s.b, .int .i64 s.t, .int .i64 s.d, .int .i64 s.l, .int .i64 s.p, .int .i64 s.rows, .int .i64 s.cols, .slice A1 s.cells.length c1, .slice A2 s.tgt.length c2, .slice A3 s.wgt.length c3]
def chkS (s : Smp) : Int := checkO s.k s.cl s.b s.t s.d s.l s.p
def rightS (s : Smp) : Bool := (chkS s == 0) && (matB s.rows s.cols s.cells.length && (((s.tgt.length : Int) == s.rows) && ((s.wgt.length : Int) == s.rows)))
theorem rightS_is {s : Smp} (h : rightS s = true) : chkS s = 0 ∧ ((0 ≤ s.rows ∧ s.rows ≤ 16777216) ∧ (0 ≤ s.cols ∧ s.cols ≤ 16777216) ∧ (s.cells.length : Int) = s.rows * s.cols) ∧ (s.tgt.length : Int) = s.rows ∧ (s.wgt.length : Int) = s.rows := by
  unfold rightS at h
  simp only [Bool.and_eq_true, beq_iff_eq] at h
  exact ⟨h.1, matB_is h.2.1, h.2.2.1, h.2.2.2⟩
theorem Blk.cells12 {w : World} {g : Nat} {a b c d e f h i j k l m : Value} {t : TypeId} (x : Blk w g #[a, b, c, d, e, f, h, i, j, k, l, m] t) :
    w.cell? ⟨g, 0, none⟩ = some a ∧ w.cell? ⟨g, 1, none⟩ = some b ∧ w.cell? ⟨g, 2, none⟩ = some c ∧ w.cell? ⟨g, 3, none⟩ = some d ∧ w.cell? ⟨g, 4, none⟩ = some e ∧ w.cell? ⟨g, 5, none⟩ = some f ∧
    w.cell? ⟨g, 6, none⟩ = some h ∧ w.cell? ⟨g, 7, none⟩ = some i ∧ w.cell? ⟨g, 8, none⟩ = some j ∧ w.cell? ⟨g, 9, none⟩ = some k ∧ w.cell? ⟨g, 10, none⟩ = some l ∧ w.cell? ⟨g, 11, none⟩ = some m :=
  ⟨x.cell 0, x.cell 1, x.cell 2, x.cell 3, x.cell 4, x.cell 5, x.cell 6, x.cell 7, x.cell 8, x.cell 9, x.cell 10, x.cell 11⟩
set_option maxRecDepth 100000 in
set_option maxHeartbeats 800000 in
theorem sright_any (s : Smp) (A1 A2 A3 : Option Addr) (c1 c2 c3 : Nat) (w : World) (h1 : s.cells.length ≤ 9223372036854775807) (h2 : s.tgt.length ≤ 9223372036854775807) (h3 : s.wgt.length ≤ 9223372036854775807) :
    Calls Try.prog 38 #[.agg (smpC s A1 A2 A3 c1 c2 c3)] w fun e w' => e = .returned (.bool (rightS s)) ∧ Below w.heap.size w w' := by
  obtain ⟨k, cl, b, t, d, l, p, rows, cols, cells, tgt, wgt⟩ := s
  unfold smpC rightS chkS
  simp only at h1 h2 h3 ⊢
  have KC := Lib.hid (fun w => check_any k cl b t d l p w)
  obtain ⟨x, hx⟩ : ∃ x, checkO k cl b t d l p = x := ⟨_, rfl⟩
  rw [hx] at KC ⊢
  obtain ⟨n1, e1⟩ : ∃ n, cells.length = n := ⟨_, rfl⟩
  obtain ⟨n2, e2⟩ : ∃ n, tgt.length = n := ⟨_, rfl⟩
  obtain ⟨n3, e3⟩ : ∃ n, wgt.length = n := ⟨_, rfl⟩
  rw [e1] at h1 ⊢
  rw [e2] at h2 ⊢
  rw [e3] at h3 ⊢
  have KM := Lib.hid (fun w => mright_any rows cols n1 A1 c1 h1 w)
  obtain ⟨y, hy⟩ : ∃ y, matB rows cols n1 = y := ⟨_, rfl⟩
  rw [hy] at KM ⊢
  clear hx hy e1 e2 e3
  obtain ⟨z, hz⟩ : ∃ z, (x == 0) = z := ⟨_, rfl⟩
  rw [hz]
  cases z with
  | false =>
    go_enter Try.func38, Try.ntmps38
    go_wp2_with fail
    refine (KC.out _).mono ?_
    rintro e w1 ⟨rfl, hb⟩
    have be : Below w.heap.size w w1 := ((Below.refl _ w).alloc (Nat.le_refl _) _).trans (hb.mono (by simp))
    clear hb
    go_wp2_with fail
    go_ret
    exact ⟨rfl, be⟩
  | true =>
    cases y with
    | false =>
      go_enter Try.func38, Try.ntmps38
      go_wp2_with fail
      refine (KC.out _).mono ?_
      rintro e w1 ⟨rfl, hb⟩
      have be : Below w.heap.size w w1 := ((Below.refl _ w).alloc (Nat.le_refl _) _).trans (hb.mono (by simp))
      have kA := (Blk.new w #[.int .i64 k, .int .i64 cl, .int .i64 b, .int .i64 t, .int .i64 d, .int .i64 l, .int .i64 p, .int .i64 rows, .int .i64 cols, .slice A1 n1 c1, .slice A2 n2 c2, .slice A3 n3 c3] 72).below hb
      obtain ⟨_, _, _, _, _, _, _, a7, a8, a9, a10, a11⟩ := kA.cells12
      clear hb
      go_wp2_with fail
      refine (KM.out _).mono ?_
      rintro e w2 ⟨rfl, hb⟩
      replace be := be.trans (hb.mono be.size)
      go_wp2_with fail
      go_ret
      exact ⟨rfl, be⟩
    | true =>
      rw [Bool.true_and, Bool.true_and]
      obtain ⟨z1, hz1⟩ : ∃ z, ((n2 : Int) == rows) = z := ⟨_, rfl⟩
      rw [hz1]
      cases z1 with
      | false =>
        go_enter Try.func38, Try.ntmps38
        go_wp2_with fail
        refine (KC.out _).mono ?_
        rintro e w1 ⟨rfl, hb⟩
        have be : Below w.heap.size w w1 := ((Below.refl _ w).alloc (Nat.le_refl _) _).trans (hb.mono (by simp))
        have kA := (Blk.new w #[.int .i64 k, .int .i64 cl, .int .i64 b, .int .i64 t, .int .i64 d, .int .i64 l, .int .i64 p, .int .i64 rows, .int .i64 cols, .slice A1 n1 c1, .slice A2 n2 c2, .slice A3 n3 c3] 72).below hb
        obtain ⟨_, _, _, _, _, _, _, a7, a8, a9, a10, a11⟩ := kA.cells12
        clear hb
        go_wp2_with fail
        refine (KM.out _).mono ?_
        rintro e w2 ⟨rfl, hb⟩
        replace be := be.trans (hb.mono be.size)
        replace kA := kA.below hb
        clear a7 a8 a9 a10 a11
        obtain ⟨_, _, _, _, _, _, _, a7, a8, a9, a10, a11⟩ := kA.cells12
        clear hb
        go_wp2_with fail
        go_ret
        exact ⟨rfl, be⟩
      | true =>
        rw [Bool.true_and]
        go_enter Try.func38, Try.ntmps38
        go_wp2_with fail
        refine (KC.out _).mono ?_
        rintro e w1 ⟨rfl, hb⟩
        have be : Below w.heap.size w w1 := ((Below.refl _ w).alloc (Nat.le_refl _) _).trans (hb.mono (by simp))
        have kA := (Blk.new w #[.int .i64 k, .int .i64 cl, .int .i64 b, .int .i64 t, .int .i64 d, .int .i64 l, .int .i64 p, .int .i64 rows, .int .i64 cols, .slice A1 n1 c1, .slice A2 n2 c2, .slice A3 n3 c3] 72).below hb
        obtain ⟨_, _, _, _, _, _, _, a7, a8, a9, a10, a11⟩ := kA.cells12
        clear hb
        go_wp2_with fail
        refine (KM.out _).mono ?_
        rintro e w2 ⟨rfl, hb⟩
        replace be := be.trans (hb.mono be.size)
        replace kA := kA.below hb
        clear a7 a8 a9 a10 a11
        obtain ⟨_, _, _, _, _, _, _, a7, a8, a9, a10, a11⟩ := kA.cells12
        clear hb
        go_wp2_with fail
        go_ret
        exact ⟨rfl, be⟩
set_option maxRecDepth 100000 in
set_option maxHeartbeats 800000 in
theorem rsright_any (s : Smp) (A1 A2 A3 : Option Addr) (c1 c2 c3 : Nat) (w : World) (h1 : s.cells.length ≤ 9223372036854775807) (h2 : s.tgt.length ≤ 9223372036854775807) (h3 : s.wgt.length ≤ 9223372036854775807) :
    Calls Try.prog 39 #[.agg (smpC s A1 A2 A3 c1 c2 c3)] w fun e w' => e = .returned (.bool (rightS s)) ∧ Below w.heap.size w w' := by
  obtain ⟨k, cl, b, t, d, l, p, rows, cols, cells, tgt, wgt⟩ := s
  unfold smpC rightS chkS
  simp only at h1 h2 h3 ⊢
  have KC := Lib.hid (fun w => rcheck_any k cl b t d l p w)
  obtain ⟨x, hx⟩ : ∃ x, checkO k cl b t d l p = x := ⟨_, rfl⟩
  rw [hx] at KC ⊢
  obtain ⟨n1, e1⟩ : ∃ n, cells.length = n := ⟨_, rfl⟩
  obtain ⟨n2, e2⟩ : ∃ n, tgt.length = n := ⟨_, rfl⟩
  obtain ⟨n3, e3⟩ : ∃ n, wgt.length = n := ⟨_, rfl⟩
  rw [e1] at h1 ⊢
  rw [e2] at h2 ⊢
  rw [e3] at h3 ⊢
  have KM := Lib.hid (fun w => rmright_any rows cols n1 A1 c1 h1 w)
  obtain ⟨y, hy⟩ : ∃ y, matB rows cols n1 = y := ⟨_, rfl⟩
  rw [hy] at KM ⊢
  clear hx hy e1 e2 e3
  obtain ⟨z, hz⟩ : ∃ z, (x == 0) = z := ⟨_, rfl⟩
  rw [hz]
  cases z with
  | false =>
    go_enter Try.func39, Try.ntmps39
    go_wp2_with fail
    refine (KC.out _).mono ?_
    rintro e w1 ⟨rfl, hb⟩
    have be : Below w.heap.size w w1 := ((Below.refl _ w).alloc (Nat.le_refl _) _).trans (hb.mono (by simp))
    clear hb
    go_wp2_with fail
    go_ret
    exact ⟨rfl, be⟩
  | true =>
    cases y with
    | false =>
      go_enter Try.func39, Try.ntmps39
      go_wp2_with fail
      refine (KC.out _).mono ?_
      rintro e w1 ⟨rfl, hb⟩
      have be : Below w.heap.size w w1 := ((Below.refl _ w).alloc (Nat.le_refl _) _).trans (hb.mono (by simp))
      have kA := (Blk.new w #[.int .i64 k, .int .i64 cl, .int .i64 b, .int .i64 t, .int .i64 d, .int .i64 l, .int .i64 p, .int .i64 rows, .int .i64 cols, .slice A1 n1 c1, .slice A2 n2 c2, .slice A3 n3 c3] 72).below hb
      obtain ⟨_, _, _, _, _, _, _, a7, a8, a9, a10, a11⟩ := kA.cells12
      clear hb
      go_wp2_with fail
      refine (KM.out _).mono ?_
      rintro e w2 ⟨rfl, hb⟩
      replace be := be.trans (hb.mono be.size)
      go_wp2_with fail
      go_ret
      exact ⟨rfl, be⟩
    | true =>
      rw [Bool.true_and, Bool.true_and]
      obtain ⟨z1, hz1⟩ : ∃ z, ((n2 : Int) == rows) = z := ⟨_, rfl⟩
      rw [hz1]
      cases z1 with
      | false =>
        go_enter Try.func39, Try.ntmps39
        go_wp2_with fail
        refine (KC.out _).mono ?_
        rintro e w1 ⟨rfl, hb⟩
        have be : Below w.heap.size w w1 := ((Below.refl _ w).alloc (Nat.le_refl _) _).trans (hb.mono (by simp))
        have kA := (Blk.new w #[.int .i64 k, .int .i64 cl, .int .i64 b, .int .i64 t, .int .i64 d, .int .i64 l, .int .i64 p, .int .i64 rows, .int .i64 cols, .slice A1 n1 c1, .slice A2 n2 c2, .slice A3 n3 c3] 72).below hb
        obtain ⟨_, _, _, _, _, _, _, a7, a8, a9, a10, a11⟩ := kA.cells12
        clear hb
        go_wp2_with fail
        refine (KM.out _).mono ?_
        rintro e w2 ⟨rfl, hb⟩
        replace be := be.trans (hb.mono be.size)
        replace kA := kA.below hb
        clear a7 a8 a9 a10 a11
        obtain ⟨_, _, _, _, _, _, _, a7, a8, a9, a10, a11⟩ := kA.cells12
        clear hb
        go_wp2_with fail
        go_ret
        exact ⟨rfl, be⟩
      | true =>
        rw [Bool.true_and]
        go_enter Try.func39, Try.ntmps39
        go_wp2_with fail
        refine (KC.out _).mono ?_
        rintro e w1 ⟨rfl, hb⟩
        have be : Below w.heap.size w w1 := ((Below.refl _ w).alloc (Nat.le_refl _) _).trans (hb.mono (by simp))
        have kA := (Blk.new w #[.int .i64 k, .int .i64 cl, .int .i64 b, .int .i64 t, .int .i64 d, .int .i64 l, .int .i64 p, .int .i64 rows, .int .i64 cols, .slice A1 n1 c1, .slice A2 n2 c2, .slice A3 n3 c3] 72).below hb
        obtain ⟨_, _, _, _, _, _, _, a7, a8, a9, a10, a11⟩ := kA.cells12
        clear hb
        go_wp2_with fail
        refine (KM.out _).mono ?_
        rintro e w2 ⟨rfl, hb⟩
        replace be := be.trans (hb.mono be.size)
        replace kA := kA.below hb
        clear a7 a8 a9 a10 a11
        obtain ⟨_, _, _, _, _, _, _, a7, a8, a9, a10, a11⟩ := kA.cells12
        clear hb
        go_wp2_with fail
        go_ret
        exact ⟨rfl, be⟩
end Go.Proofs.Yteckbgpkoanhfaa.Hb

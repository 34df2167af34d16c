/- The walks of layer hist: two moments made one; rows made one. -/
import Derived.Test.YteckbgpkoanhfaaHbHistW
namespace Go.Proofs.Yteckbgpkoanhfaa.Hb
open Go.RowKit

def Mom.ok (m : Mom) : Prop := inR m.c ∧ inR m.s ∧ inR m.q
theorem momO_c {op : Int → Int → Bool → Except Int Int} {x y : Mom} {e : Int} (h : op x.c y.c false = .error e) : momO op x y = .error e := by unfold momO; rw [h]
theorem momO_s {op : Int → Int → Bool → Except Int Int} {x y : Mom} {c e : Int} (h : op x.c y.c false = .ok c) (h2 : op x.s y.s true = .error e) : momO op x y = .error e := by unfold momO; rw [h]; simp only [h2]
theorem momO_q {op : Int → Int → Bool → Except Int Int} {x y : Mom} {c s e : Int} (h : op x.c y.c false = .ok c) (h2 : op x.s y.s true = .ok s) (h3 : op x.q y.q false = .error e) : momO op x y = .error e := by unfold momO; rw [h]; simp only [h2, h3]
theorem momO_ok {op : Int → Int → Bool → Except Int Int} {x y : Mom} {c s q : Int} (h : op x.c y.c false = .ok c) (h2 : op x.s y.s true = .ok s) (h3 : op x.q y.q false = .ok q) : momO op x y = .ok ⟨c, s, q⟩ := by unfold momO; rw [h]; simp only [h2, h3]

set_option maxHeartbeats 1000000 in
theorem moments1_any (f : Nat) (op : Int → Int → Bool → Except Int Int) (hop : IsOp f op) (x y : Mom) (hx : x.ok) (hy : y.ok) (g : Nat) (w : World) (hc : w.cell? ⟨g, 0, none⟩ = some (.func (.func f) #[] #[])) :
    Calls Try.prog 67 #[.agg #[.int .i64 x.c, .int .i64 x.s, .int .i64 x.q], .agg #[.int .i64 y.c, .int .i64 y.s, .int .i64 y.q], .pointer (some ⟨g, 0, none⟩)] w fun e w' => e = .returned (momE (momO op x y)) ∧ Below w.heap.size w w' := by
  obtain ⟨x1, x2, x3⟩ := hx
  obtain ⟨y1, y2, y3⟩ := hy
  obtain ⟨c, s, q⟩ := x
  obtain ⟨c', s', q'⟩ := y
  have hg : g < w.heap.size := World.block_lt_of_cell? w _ hc
  have hg1 : g < w.heap.size + 1 := by omega
  have hg2 : g < w.heap.size + 1 + 1 := by omega
  have hg3 : g < w.heap.size + 1 + 1 + 1 := by omega
  have hf := hop.f
  have X1 := Lib.hid x1
  have Y1 := Lib.hid y1
  have X2 := Lib.hid x2
  have Y2 := Lib.hid y2
  have X3 := Lib.hid x3
  have Y3 := Lib.hid y3
  have e0 : ((0 : Int) != 0) = false := rfl
  simp only at X1 Y1 X2 Y2 X3 Y3 ⊢
  clear x1 x2 x3 y1 y2 y3
  cases h1 : op c c' false with
  | error e1 =>
    have k1 := hop.calls c c' false
    rw [h1] at k1
    have K1 := Lib.hid k1
    rw [momO_c (by exact h1)]
    have ee : (e1 != 0) = true := by rcases hop.err h1 with rfl | rfl <;> rfl
    clear k1 h1
    go_enter Try.func67, Try.ntmps67
    go_wp2_with fail
    refine (K1.out _ X1.out Y1.out).mono ?_
    rintro e w1 ⟨rfl, rfl⟩
    simp only [intE, valO, errO]
    go_wp2
    exact bodyPost_ret (v := .tuple #[.agg #[.int .i64 0, .int .i64 0, .int .i64 0], .int .i64 e1]) (by simp [results, Try.results67, go_sem]) rfl ⟨rfl, (by repeat (first | exact Below.refl _ _ | refine Below.alloc ?_ (by first | exact Nat.le_refl _ | (simp; done) | (simp; omega)) _))⟩
  | ok c1 =>
  have k1 := hop.calls c c' false
  rw [h1] at k1
  have K1 := Lib.hid k1
  cases h2 : op s s' true with
  | error e1 =>
    have k2 := hop.calls s s' true
    rw [h2] at k2
    have K2 := Lib.hid k2
    rw [momO_s (by exact h1) (by exact h2)]
    have ee : (e1 != 0) = true := by rcases hop.err h2 with rfl | rfl <;> rfl
    clear k1 h1 k2 h2
    go_enter Try.func67, Try.ntmps67
    go_wp2_with fail
    refine (K1.out _ X1.out Y1.out).mono ?_
    rintro e w1 ⟨rfl, rfl⟩
    simp only [intE, valO, errO]
    go_wp2_with fail
    refine (K2.out _ X2.out Y2.out).mono ?_
    rintro e w1 ⟨rfl, rfl⟩
    simp only [intE, valO, errO]
    go_wp2
    exact bodyPost_ret (v := .tuple #[.agg #[.int .i64 0, .int .i64 0, .int .i64 0], .int .i64 e1]) (by simp [results, Try.results67, go_sem]) rfl ⟨rfl, (by repeat (first | exact Below.refl _ _ | refine Below.alloc ?_ (by first | exact Nat.le_refl _ | (simp; done) | (simp; omega)) _))⟩
  | ok s1 =>
  have k2 := hop.calls s s' true
  rw [h2] at k2
  have K2 := Lib.hid k2
  cases h3 : op q q' false with
  | error e1 =>
    have k3 := hop.calls q q' false
    rw [h3] at k3
    have K3 := Lib.hid k3
    rw [momO_q (by exact h1) (by exact h2) (by exact h3)]
    have ee : (e1 != 0) = true := by rcases hop.err h3 with rfl | rfl <;> rfl
    clear k1 h1 k2 h2 k3 h3
    go_enter Try.func67, Try.ntmps67
    go_wp2_with fail
    refine (K1.out _ X1.out Y1.out).mono ?_
    rintro e w1 ⟨rfl, rfl⟩
    simp only [intE, valO, errO]
    go_wp2_with fail
    refine (K2.out _ X2.out Y2.out).mono ?_
    rintro e w1 ⟨rfl, rfl⟩
    simp only [intE, valO, errO]
    go_wp2_with fail
    refine (K3.out _ X3.out Y3.out).mono ?_
    rintro e w1 ⟨rfl, rfl⟩
    simp only [intE, valO, errO]
    go_wp2
    exact bodyPost_ret (v := .tuple #[.agg #[.int .i64 0, .int .i64 0, .int .i64 0], .int .i64 e1]) (by simp [results, Try.results67, go_sem]) rfl ⟨rfl, (by repeat (first | exact Below.refl _ _ | refine Below.alloc ?_ (by first | exact Nat.le_refl _ | (simp; done) | (simp; omega)) _))⟩
  | ok q1 =>
    have k3 := hop.calls q q' false
    rw [h3] at k3
    have K3 := Lib.hid k3
    rw [momO_ok (by exact h1) (by exact h2) (by exact h3)]
    clear k1 h1 k2 h2 k3 h3
    go_enter Try.func67, Try.ntmps67
    go_wp2_with fail
    refine (K1.out _ X1.out Y1.out).mono ?_
    rintro e w1 ⟨rfl, rfl⟩
    simp only [intE, valO, errO]
    go_wp2_with fail
    refine (K2.out _ X2.out Y2.out).mono ?_
    rintro e w1 ⟨rfl, rfl⟩
    simp only [intE, valO, errO]
    go_wp2_with fail
    refine (K3.out _ X3.out Y3.out).mono ?_
    rintro e w1 ⟨rfl, rfl⟩
    simp only [intE, valO, errO]
    go_wp2
    exact bodyPost_ret (v := .tuple #[.agg #[.int .i64 c1, .int .i64 s1, .int .i64 q1], .int .i64 0]) (by simp [results, Try.results67, go_sem]) rfl ⟨rfl, (by repeat (first | exact Below.refl _ _ | refine Below.alloc ?_ (by first | exact Nat.le_refl _ | (simp; done) | (simp; omega)) _))⟩
end Go.Proofs.Yteckbgpkoanhfaa.Hb

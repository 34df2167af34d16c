/- Nodes, trees, rows of rows: how they are read. -/
import Derived.Test.YtbhikceekldenaaHbOpen
import Derived.Test.YtbhikceekldenaaHbBase
namespace Go.Proofs.Ytbhikceekldenaa.Hb
set_option linter.unusedVariables false
open Go.RowKit

structure Nd where
  f : Int
  b : Int
  l : Int
  c : Int
  s : Int
  k : Int
deriving DecidableEq
def ndC (x : Nd) : List Value := [.int .i64 x.f, .int .i64 x.b, .int .i64 x.l, .int .i64 x.c, .int .i64 x.s, .int .i64 x.k]
def ndV (x : Nd) : Value := .agg #[.int .i64 x.f, .int .i64 x.b, .int .i64 x.l, .int .i64 x.c, .int .i64 x.s, .int .i64 x.k]
def in64 (x : Int) : Prop := -9223372036854775808 ≤ x ∧ x ≤ 9223372036854775807
def Nd.ok (x : Nd) : Prop := in64 x.f ∧ in64 x.b ∧ in64 x.l ∧ in64 x.c ∧ in64 x.s ∧ in64 x.k
def ndR (x : Nd) (c : List Value) : Prop := c = ndC x ∧ x.ok
def intR1 (x : Int) (c : List Value) : Prop := c = [.int .i64 x] ∧ in64 x
theorem RowAt.belowR {w w1 : World} {sz : Nat} {α : Type} {R R' : α → List Value → Prop} {A : Option Addr} {l : List α} (h : RowAt w sz R A l) (hb : Below w.heap.size w w1) (hR : ∀ x c, R x c → R' x c) : RowAt w1 sz R' A l := by
  intro hl
  obtain ⟨ad, rfl, ha⟩ := h hl
  refine ⟨ad, rfl, fun i y hy => ?_⟩
  obtain ⟨c, h1, h2, h3⟩ := ha i y hy
  exact ⟨c, h1, hR _ _ h2, fun j u hu => (hb.cell (World.block_lt_of_cell? w _ (h3 j u hu))).trans (h3 j u hu)⟩
theorem rowK.below {w w1 : World} {sz : Nat} {α : Type} {R : α → List Value → Prop} {l : List α} {cs : List Value} (h : rowK w sz R l cs) (hb : Below w.heap.size w w1) : rowK w1 sz R l cs := by
  obtain ⟨A, cap, h1, h2, h3, h4⟩ := h
  exact ⟨A, cap, h1, h2, h3, h4.below hb⟩
/-- Nodes in a row. -/
def RN (w : World) (A : Option Addr) (l : List Nd) : Prop := RowAt w 6 ndR A l
def RI1 (w : World) (A : Option Addr) (l : List Int) : Prop := RowAt w 1 intR1 A l
def RT (w : World) (A : Option Addr) (l : List (List Nd)) : Prop := RowAt w 1 (rowK w 6 ndR) A l
def RW (w : World) (A : Option Addr) (l : List (List Int)) : Prop := RowAt w 1 (rowK w 1 intR1) A l
theorem RN.below {w w1 : World} {A : Option Addr} {l : List Nd} (h : RN w A l) (hb : Below w.heap.size w w1) : RN w1 A l := RowAt.below h hb
theorem RI1.below {w w1 : World} {A : Option Addr} {l : List Int} (h : RI1 w A l) (hb : Below w.heap.size w w1) : RI1 w1 A l := RowAt.below h hb
theorem RT.below {w w1 : World} {A : Option Addr} {l : List (List Nd)} (h : RT w A l) (hb : Below w.heap.size w w1) : RT w1 A l := RowAt.belowR h hb (fun _ _ h => h.below hb)
theorem RW.below {w w1 : World} {A : Option Addr} {l : List (List Int)} (h : RW w A l) (hb : Below w.heap.size w w1) : RW w1 A l := RowAt.belowR h hb (fun _ _ h => h.below hb)
theorem add_k (ad : Addr) (i k n : Nat) (hk : 0 < k) (hn : 0 < n) : ad.add (i * n + k) = ⟨(ad.add (i * n)).block, (ad.add (i * n)).off + k, none⟩ := by
  unfold Addr.add
  by_cases hi : i = 0
  · subst hi
    have : ¬ k = 0 := by omega
    simp [this]
  · have h1 : ¬ i * n = 0 := by simp [Nat.mul_eq_zero]; omega
    have h2 : ¬ i * n + k = 0 := by omega
    rw [if_neg h1, if_neg h2, Nat.add_assoc]
/-- The cells of one node. -/
structure NdAt (w : World) (a : Addr) (x : Nd) : Prop where
  p0 : w.cell? a = some (.int .i64 x.f)
  p1 : w.cell? ⟨a.block, a.off + 1, none⟩ = some (.int .i64 x.b)
  p2 : w.cell? ⟨a.block, a.off + 2, none⟩ = some (.int .i64 x.l)
  p3 : w.cell? ⟨a.block, a.off + 3, none⟩ = some (.int .i64 x.c)
  p4 : w.cell? ⟨a.block, a.off + 4, none⟩ = some (.int .i64 x.s)
  p5 : w.cell? ⟨a.block, a.off + 5, none⟩ = some (.int .i64 x.k)
theorem NdAt.below {w w1 : World} {a : Addr} {x : Nd} (h : NdAt w a x) (hb : Below w.heap.size w w1) : NdAt w1 a x :=
  ⟨(hb.cell (World.block_lt_of_cell? w _ h.p0)).trans h.p0, (hb.cell (World.block_lt_of_cell? w _ h.p1)).trans h.p1, (hb.cell (World.block_lt_of_cell? w _ h.p2)).trans h.p2, (hb.cell (World.block_lt_of_cell? w _ h.p3)).trans h.p3, (hb.cell (World.block_lt_of_cell? w _ h.p4)).trans h.p4, (hb.cell (World.block_lt_of_cell? w _ h.p5)).trans h.p5⟩
theorem RN.at {w : World} {A : Option Addr} {l : List Nd} (h : RN w A l) {i : Nat} (hi : i < l.length) : ∃ ad, A = some ad ∧ ∃ x, l[i]? = some x ∧ x.ok ∧ NdAt w (ad.add (i * 6)) x := by
  obtain ⟨ad, rfl, ha⟩ := h (by omega)
  obtain ⟨c, h1, ⟨rfl, hok⟩, h3⟩ := ha i _ (List.getElem?_eq_getElem hi)
  refine ⟨ad, rfl, _, List.getElem?_eq_getElem hi, hok, ?_⟩
  have e1 := h3 1 _ rfl
  have e2 := h3 2 _ rfl
  have e3 := h3 3 _ rfl
  have e4 := h3 4 _ rfl
  have e5 := h3 5 _ rfl
  rw [add_k _ _ _ _ (by omega) (by omega)] at e1 e2 e3 e4 e5
  exact ⟨h3 0 _ rfl, e1, e2, e3, e4, e5⟩
theorem RI1.at {w : World} {A : Option Addr} {l : List Int} (h : RI1 w A l) {i : Nat} (hi : i < l.length) : ∃ ad, A = some ad ∧ in64 (l.getD i 0) ∧ w.cell? (ad.add i) = some (.int .i64 (l.getD i 0)) := by
  obtain ⟨ad, rfl, ha⟩ := h (by omega)
  obtain ⟨c, h1, ⟨rfl, hok⟩, h3⟩ := ha i _ (List.getElem?_eq_getElem hi)
  have e := h3 0 _ rfl
  rw [Nat.mul_one, Nat.add_zero] at e
  rw [List.getD_eq_getElem?_getD, List.getElem?_eq_getElem hi]
  exact ⟨ad, rfl, hok, e⟩
/-- A tree of a row of trees. -/
theorem RT.at {w : World} {A : Option Addr} {l : List (List Nd)} (h : RT w A l) {i : Nat} (hi : i < l.length) : ∃ ad, A = some ad ∧ ∃ t B cap, l[i]? = some t ∧ w.cell? (ad.add i) = some (.slice B t.length cap) ∧ t.length ≤ cap ∧ cap ≤ 9223372036854775807 ∧ RN w B t := by
  obtain ⟨ad, rfl, ha⟩ := h (by omega)
  obtain ⟨c, h1, ⟨B, cap, rfl, k1, k2, k3⟩, h3⟩ := ha i _ (List.getElem?_eq_getElem hi)
  have e := h3 0 _ rfl
  rw [Nat.mul_one, Nat.add_zero] at e
  exact ⟨ad, rfl, _, B, cap, List.getElem?_eq_getElem hi, e, k1, k2, k3⟩
theorem RW.at {w : World} {A : Option Addr} {l : List (List Int)} (h : RW w A l) {i : Nat} (hi : i < l.length) : ∃ ad, A = some ad ∧ ∃ t B cap, l[i]? = some t ∧ w.cell? (ad.add i) = some (.slice B t.length cap) ∧ t.length ≤ cap ∧ cap ≤ 9223372036854775807 ∧ RI1 w B t := by
  obtain ⟨ad, rfl, ha⟩ := h (by omega)
  obtain ⟨c, h1, ⟨B, cap, rfl, k1, k2, k3⟩, h3⟩ := ha i _ (List.getElem?_eq_getElem hi)
  have e := h3 0 _ rfl
  rw [Nat.mul_one, Nat.add_zero] at e
  exact ⟨ad, rfl, _, B, cap, List.getElem?_eq_getElem hi, e, k1, k2, k3⟩
end Go.Proofs.Ytbhikceekldenaa.Hb

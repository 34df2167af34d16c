/- How arguments are read as plain data, whatever their type: numbers, rows, structs, rows of rows. -/
import Derived.Deep.Slices
import Derived.ChangeShapes
import Derived.DataElems
import Derived.OpenShut
import Derived.WideShapes
import Derived.Below
import Derived.WalkKit
import Derived.Lib.SmallJoins
namespace Go.Proofs.Ytbhikceekldenaa.Hb
open Go.RowKit Go.ChangeShapes Go.WideShapes Go.Deep

section
variable {T : Type} (enc : TypeId × Value → T) (P : Program) (W : World) (base : Nat) (sp : Nat → Bool) (held : Bool)
/-- What reads as data of a type has such cells. -/
def Rds (t : TypeId) (K : List Value → Prop) : Prop := ∀ fuel cs x, DataW.trod enc P W base sp held fuel t cs = some x → K cs
variable {enc P W base sp held}
theorem Rds.mono {t : TypeId} {K L : List Value → Prop} (h : Rds enc P W base sp held t K) (hk : ∀ cs, K cs → L cs) : Rds enc P W base sp held t L := fun f cs x e => hk _ (h f cs x e)
def intK (k : IntKind) (lo hi : Int) (cs : List Value) : Prop := ∃ n : Int, cs = [.int k n] ∧ lo ≤ n ∧ n ≤ hi
theorem rds_int {t : TypeId} {k : IntKind} (lo hi : Int) (hu : P.underlying t = some (.int k)) (hlo : k.min = lo) (hhi : k.max = hi) : Rds enc P W base sp held t (intK k lo hi) := by
  intro fuel cs x h
  obtain ⟨z, hz, _, hw⟩ := DataW.trod_int hu h
  refine ⟨z, hz, ?_⟩
  rw [← hlo, ← hhi]
  simpa [Lit.wf, Bool.and_eq_true, decide_eq_true_eq] using hw
def boolK (cs : List Value) : Prop := ∃ b : Bool, cs = [.bool b]
theorem rds_bool {t : TypeId} (hu : P.underlying t = some .bool) : Rds enc P W base sp held t boolK := by
  intro fuel cs x h
  obtain ⟨z, hz, _⟩ := DataW.trod_bool hu h
  exact ⟨z, hz⟩
/-- The cells of a struct, field by field. -/
def Parts : List (List Value → Prop) → List Value → Prop
  | [], cs => cs = []
  | K :: Ks, cs => ∃ a b, cs = a ++ b ∧ K a ∧ Parts Ks b
variable (enc P W base sp held) in
def RdsF : List Field → Nat → List (List Value → Prop) → Prop
  | [], _, [] => True
  | f :: fs, o, K :: Ks => f.offset = o ∧ Rds enc P W base sp held f.type K ∧ RdsF fs (o + P.cellsOf f.type) Ks
  | _, _, _ => False
def sizesF (P : Program) (fs : List Field) : Nat := (fs.map fun f => P.cellsOf f.type).sum
theorem rds_parts : ∀ (fs : List Field) (o : Nat) (Ks : List (List Value → Prop)) (n : Nat) (cs : List Value), RdsF enc P W base sp held fs o Ks → cs.length = o + sizesF P fs →
    (∀ f ∈ fs, ∃ y, DataW.trod enc P W base sp held n f.type ((cs.drop f.offset).take (P.cellsOf f.type)) = some y) → Parts Ks (cs.drop o)
  | [], o, [], n, cs, _, hl, _ => by
    simp [sizesF] at hl
    show cs.drop o = []
    simp [hl]
  | f :: fs, o, K :: Ks, n, cs, hr, hl, hx => by
    obtain ⟨ho, hk, hrest⟩ := hr
    obtain ⟨y, hy⟩ := hx f (List.mem_cons_self ..)
    rw [ho] at hy
    have e : sizesF P (f :: fs) = P.cellsOf f.type + sizesF P fs := by simp [sizesF]
    refine ⟨(cs.drop o).take (P.cellsOf f.type), cs.drop (o + P.cellsOf f.type), ?_, hk _ _ _ hy, rds_parts fs _ Ks n cs hrest (by omega) (fun g hg => hx g (List.mem_cons_of_mem _ hg))⟩
    rw [← List.drop_drop, List.take_append_drop]
  | [], _, _ :: _, _, _, hr, _, _ => hr.elim
  | _ :: _, _, [], _, _, hr, _, _ => hr.elim
theorem rds_struct {t : TypeId} {fs : Array Field} {Ks : List (List Value → Prop)} (hu : P.underlying t = some (.struct fs)) (hs : P.cellsOf t = sizesF P fs.toList) (hr : RdsF enc P W base sp held fs.toList 0 Ks) : Rds enc P W base sp held t (Parts Ks) := by
  intro fuel cs x h
  obtain ⟨xs, n, _, _, hl, hlen, hf⟩ := DataW.trod_struct hu h
  have := rds_parts fs.toList 0 Ks n cs hr (by omega) (fun f hm => by
    obtain ⟨i, hi, rfl⟩ := List.getElem_of_mem hm
    have hi' : i < fs.size := by simpa using hi
    have h2 := hf i _ (Array.getElem?_eq_getElem hi')
    rw [List.getElem?_eq_getElem (by omega)] at h2
    rw [Array.getElem_toList]
    exact ⟨_, h2⟩)
  rwa [List.drop_zero] at this
end
/-- A row: its elements, each of so many cells, each as R says. -/
def RowAt (w : World) (sz : Nat) {α : Type} (R : α → List Value → Prop) (A : Option Addr) (l : List α) : Prop :=
  0 < l.length → ∃ ad, A = some ad ∧ ∀ i y, l[i]? = some y → ∃ c, c.length = sz ∧ R y c ∧ ∀ j u, c[j]? = some u → w.cell? (ad.add (i * sz + j)) = some u
def rowK (w : World) (sz : Nat) {α : Type} (R : α → List Value → Prop) (l : List α) (cs : List Value) : Prop :=
  ∃ A cap, cs = [.slice A l.length cap] ∧ l.length ≤ cap ∧ cap ≤ 9223372036854775807 ∧ RowAt w sz R A l
theorem listOf {α : Type} {p : Nat → α → Prop} : ∀ (n : Nat), (∀ i, i < n → ∃ y, p i y) → ∃ l : List α, l.length = n ∧ ∀ i y, l[i]? = some y → p i y
  | 0, _ => ⟨[], rfl, by simp⟩
  | n + 1, h => by
    obtain ⟨l, hl, hp⟩ := listOf n (fun i hi => h i (by omega))
    obtain ⟨y, hy⟩ := h n (by omega)
    refine ⟨l ++ [y], by simp [hl], fun i z hz => ?_⟩
    rcases Nat.lt_or_ge i n with hi | hi
    · rw [List.getElem?_append_left (by omega)] at hz
      exact hp i z hz
    · rw [List.getElem?_append_right (by omega)] at hz
      have e : i = n := by
        have := (List.getElem?_eq_some_iff.1 hz).1
        simp at this
        omega
      subst e
      rw [hl, Nat.sub_self] at hz
      simp at hz
      subst hz
      exact hy
section
variable {T : Type} {enc : TypeId × Value → T} {P : Program} {W : World} {base : Nat} {sp : Nat → Bool} {held : Bool}
theorem rds_slice {α : Type} {R : α → List Value → Prop} {t e : TypeId} (sz : Nat) (hu : P.underlying t = some (.slice e)) (hs : P.cellsOf e = sz) (r : Rds enc P W base sp held e (fun cs => ∃ y, R y cs)) :
    Rds enc P W base sp held t (fun cs => ∃ l : List α, rowK W sz R l cs) := by
  intro fuel cs x h
  rcases open_slice hu h with ⟨hc, _⟩ | ⟨a, len, cap, m, n, D, Pl, hc, hb, hl, hm, hmm, _, hx⟩
  · exact ⟨[], none, 0, hc, Nat.le_refl _, by omega, fun h => by simp at h⟩
  · have hml : len ≤ m := by rw [hmm]; split <;> omega
    obtain ⟨l, hll, hp⟩ := listOf (p := fun i y => ∃ c, c.length = sz ∧ R y c ∧ ∀ j u, c[j]? = some u → W.cell? (a.add (i * sz + j)) = some u) len (fun i hi => by
      obtain ⟨cs', h1, h2⟩ := hx i (by omega)
      obtain ⟨y, hk⟩ := r _ _ _ h2
      rw [hs] at h1
      obtain ⟨_, hlen, hcell⟩ := World.cells?_some h1
      refine ⟨y, cs', hlen, hk, fun j u hj => ?_⟩
      have hj' : j < sz := by rw [← hlen]; exact (List.getElem?_eq_some_iff.1 hj).1
      have := hcell j hj'
      rw [hj] at this
      rw [Go.Addr.add_add] at this
      exact this)
    subst hll
    exact ⟨l, some a, cap, hc, hl, by unfold maxLen at hm; omega, fun _ => ⟨a, rfl, hp⟩⟩
theorem open_agg {r : Reach} {b0 : Nat} {t : TypeId} {v : Value} {d : DataW T} {p : List MemPlace} {K : List Value → Prop} {fs : Array Field} (hu : P.underlying t = some (.struct fs)) (hv : Value.okWide P W r b0 t v) (h : DataW.Trod enc P W base sp held t v d p)
    (rd : Rds enc P W base sp held t K) : ∃ cs : List Value, v = .agg cs.toArray ∧ K cs := by
  obtain ⟨cs, rfl, hsz⟩ := okWide_struct hu hv
  obtain ⟨fuel, hfu⟩ := h
  exact ⟨cs.toList, by simp, rd _ _ _ hfu⟩
theorem open_row {r : Reach} {b0 : Nat} {t e : TypeId} {v : Value} {d : DataW T} {p : List MemPlace} {K : List Value → Prop} (hu : P.underlying t = some (.slice e)) (hv : Value.okWide P W r b0 t v) (h : DataW.Trod enc P W base sp held t v d p)
    (rd : Rds enc P W base sp held t K) : K [v] := by
  obtain ⟨a, n, cap, rfl, _⟩ := okWide_slice hu hv
  obtain ⟨fuel, hfu⟩ := h
  exact rd _ _ _ hfu
end
theorem RowAt.mono {w w1 : World} {sz : Nat} {α : Type} {R S : α → List Value → Prop} {A : Option Addr} {l : List α} (h : RowAt w sz R A l) (hb : Below w.heap.size w w1) (hrs : ∀ y c, y ∈ l → R y c → S y c) : RowAt w1 sz S A l := fun hl => by
  obtain ⟨ad, e, hc⟩ := h hl
  refine ⟨ad, e, fun i y hi => ?_⟩
  obtain ⟨c, h1, h2, h3⟩ := hc i y hi
  exact ⟨c, h1, hrs _ _ (List.mem_of_getElem? hi) h2, fun j u hj => (hb.cell (World.block_lt_of_cell? w _ (h3 j u hj))).trans (h3 j u hj)⟩
theorem RowAt.below {w w1 : World} {sz : Nat} {α : Type} {R : α → List Value → Prop} {A : Option Addr} {l : List α} (h : RowAt w sz R A l) (hb : Below w.heap.size w w1) : RowAt w1 sz R A l := h.mono hb fun _ _ _ => id
/-- A row of numbers. -/
theorem RowAt.ints {w : World} {k : IntKind} {lo hi : Int} {A : Option Addr} {l : List Int} (h : RowAt w 1 (fun y c => c = [.int k y] ∧ lo ≤ y ∧ y ≤ hi) A l) :
    (∀ x ∈ l, lo ≤ x ∧ x ≤ hi) ∧ (l = [] ∨ ∃ ad, A = some ad ∧ ∀ i, i < l.length → w.cell? (ad.add i) = some (.int k (l.getD i 0))) := by
  rcases l with _ | ⟨x, l⟩
  · exact ⟨by simp, .inl rfl⟩
  · obtain ⟨ad, e, hc⟩ := h (by simp)
    refine ⟨fun y hy => ?_, .inr ⟨ad, e, fun i hi => ?_⟩⟩
    · obtain ⟨i, hi, rfl⟩ := List.getElem_of_mem hy
      obtain ⟨c, _, h2, _⟩ := hc i _ (List.getElem?_eq_getElem hi)
      exact h2.2
    · obtain ⟨c, _, h2, h3⟩ := hc i _ (List.getElem?_eq_getElem hi)
      have := h3 0 _ (by rw [h2.1]; rfl)
      rw [Nat.mul_one, Nat.add_zero] at this
      rw [this, List.getD_eq_getElem?_getD, List.getElem?_eq_getElem hi]
      rfl
end Go.Proofs.Ytbhikceekldenaa.Hb

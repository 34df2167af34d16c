/- How a histogram among the arguments is read. -/
import Derived.Test.YteckbgpkoanhfaaHbHistF
import Derived.Lib.SmallJoins
import Derived.Deep.Slices
import Derived.ChangeShapes
namespace Go.Proofs.Yteckbgpkoanhfaa.Hb
open Go.RowKit Go.ChangeShapes Go.WideShapes Go.Deep

theorem momC_cons' (m : Mom) (l : List Mom) : momC (m :: l) = .int .i64 m.c :: .int .i64 m.s :: .int .i64 m.q :: momC l := by simp [momC]
theorem momC_at' : ∀ (l : List Mom) (i : Nat) (x : Mom), l[i]? = some x → (momC l)[i * 3]? = some (.int .i64 x.c) ∧ (momC l)[i * 3 + 1]? = some (.int .i64 x.s) ∧ (momC l)[i * 3 + 2]? = some (.int .i64 x.q)
  | [], i, x, h => by simp at h
  | m :: l, 0, x, h => by
    simp at h; subst h
    rw [momC_cons']; exact ⟨rfl, rfl, rfl⟩
  | m :: l, i + 1, x, h => by
    have ih := momC_at' l i x (by simpa using h)
    rw [momC_cons', show (i + 1) * 3 = i * 3 + 3 by omega]
    exact ih
/-- A histogram, read. -/
def RdH (w : World) (h : H) (v : Value) : Prop := ∃ A1 A2 c1 c2, v = hV h A1 A2 c1 c2 ∧ RdI w A1 h.counts ∧ RdM w A2 h.moms ∧ h.counts.length ≤ 9223372036854775807 ∧ h.moms.length ≤ 9223372036854775807
theorem RdH.below {w w1 : World} {h : H} {v : Value} (r : RdH w h v) (hb : Below w.heap.size w w1) : RdH w1 h v := by
  obtain ⟨A1, A2, c1, c2, e, r1, r2, l⟩ := r
  exact ⟨A1, A2, c1, c2, e, r1.below hb, r2.below hb, l⟩
theorem RdH.ok {w : World} {h : H} {v : Value} (r : RdH w h v) : okH h := by
  obtain ⟨A1, A2, c1, c2, e, r1, r2, l⟩ := r
  exact ⟨r1.1, r2.1⟩
theorem momC_len (l : List Mom) : (momC l).length = l.length * 3 := by
  induction l with
  | nil => rfl
  | cons x l ih => rw [momC_cons', List.length_cons, List.length_cons, List.length_cons, ih, List.length_cons]; omega
/-- What is owned is read. -/
theorem RdI.own {w : World} {base n c : Nat} {A : Option Addr} {l : List Int} (h : w.ownsRow base 2 1 (.slice A n c) l.length (ints l)) (ho : ∀ x ∈ l, Hb.inR x) : RdI w A l := by
  refine ⟨ho, ?_⟩
  by_cases h0 : l = []
  · exact .inl h0
  · obtain ⟨g, cap, hv, _, _, _, hc⟩ := own_open h (List.length_pos_iff.2 h0)
    simp only [Value.slice.injEq] at hv
    obtain ⟨rfl, _, _⟩ := hv
    refine .inr ⟨_, rfl, fun i hi => ?_⟩
    rw [show (⟨g, 0, none⟩ : Addr).add i = ⟨g, i, none⟩ from by unfold Addr.add; split <;> simp_all]
    refine hc i _ ?_
    simp [ints, List.getD_eq_getElem?_getD, List.getElem?_eq_getElem hi]
theorem RdM.own {w : World} {base n c : Nat} {A : Option Addr} {l : List Mom} (h : w.ownsRow base 52 3 (.slice A n c) l.length (momC l)) (ho : ∀ x ∈ l, x.ok) : RdM w A l := by
  refine ⟨ho, ?_⟩
  by_cases h0 : l = []
  · exact .inl h0
  · obtain ⟨g, cap, hv, _, _, _, hc⟩ := own_open h (List.length_pos_iff.2 h0)
    simp only [Value.slice.injEq] at hv
    obtain ⟨rfl, _, _⟩ := hv
    refine .inr ⟨_, rfl, fun i hi => ?_⟩
    rw [show (⟨g, 0, none⟩ : Addr).add (i * 3) = ⟨g, i * 3, none⟩ from by unfold Addr.add; split <;> simp_all]
    have hx : l[i]? = some (mAt l i) := by simp [mAt, List.getD_eq_getElem?_getD, List.getElem?_eq_getElem hi]
    obtain ⟨x1, x2, x3⟩ := momC_at' l i _ hx
    exact ⟨hc _ _ x1, hc _ _ x2, hc _ _ x3⟩
theorem HNew.rd {base : Nat} {h : H} {w : World} {v : Value} (n : HNew base h w v) (ho : okH h) (h1 : h.counts.length ≤ 9223372036854775807) (h2 : h.moms.length ≤ 9223372036854775807) : RdH w h v := by
  obtain ⟨v1, v2, rfl, r1, r2⟩ := n
  obtain ⟨A1, c1, rfl⟩ := own_slice r1
  obtain ⟨A2, c2, rfl⟩ := own_slice r2
  exact ⟨A1, A2, c1, c2, rfl, RdI.own r1 ho.o1, RdM.own r2 ho.o2, h1, h2⟩

section
variable {T : Type} {enc : TypeId × Value → T} {W : World} {base : Nat} {sp : Nat → Bool} {held : Bool}
theorem lit_inR {n : Int} (h : (Lit.int .i64 n).wf = true) : inR n := by
  simp [Lit.wf, IntKind.min, IntKind.max, IntKind.signed, IntKind.bits] at h
  unfold inR; omega
theorem read_ints {fuel : Nat} {c : Value} {x : DataW T × List MemPlace} (h : DataW.trod enc Try.prog W base sp held fuel 33 [c] = some x) : ∃ A l cap, c = .slice A l.length cap ∧ RdI W A l ∧ l.length ≤ 9223372036854775807 := by
  rcases open_slice1 Try.underlying33 (by kernel_rfl) h with ⟨hc, _⟩ | ⟨a, len, cap, m, n, V, D, Pl, hc, hb, hl, hm, hmm, _, hx⟩
  · cases hc
    exact ⟨none, [], 0, rfl, ⟨by simp, .inl rfl⟩, by simp⟩
  · cases hc
    have hml : len ≤ m := by rw [hmm]; split <;> omega
    have hv : ∀ i, i < len → ∃ n, V i = .int .i64 n ∧ inR n := fun i hi => by
      obtain ⟨_, h2⟩ := hx i (by omega)
      obtain ⟨z, hz, _, hw⟩ := DataW.trod_int Try.underlying2 h2
      simp only [List.cons.injEq, and_true] at hz
      exact ⟨z, hz, lit_inR hw⟩
    refine ⟨some a, (List.range len).map fun i => match V i with | .int _ z => z | _ => 0, cap, by simp, ⟨?_, .inr ⟨a, rfl, fun i hi => ?_⟩⟩, by simp; unfold maxLen at hm; omega⟩
    · intro x hx'
      obtain ⟨i, hi, rfl⟩ := List.mem_map.1 hx'
      obtain ⟨z, hz, hw⟩ := hv i (by simpa using hi)
      rw [hz]; exact hw
    · have hi' : i < len := by simpa using hi
      obtain ⟨z, hz, hw⟩ := hv i hi'
      rw [(hx i (by omega)).1, hz]
      simp [List.getD_eq_getElem?_getD, hi', hz]
instance : Inhabited Mom := ⟨m0⟩
theorem list3 {α : Type} {l : List α} (h : l.length = 3) : ∃ a b c, l = [a, b, c] := by
  match l, h with
  | [a, b, c], _ => exact ⟨a, b, c, rfl⟩
theorem cells_hist : Try.prog.cellsOf 36 = 5 := by kernel_rfl
theorem read_mom {fuel : Nat} {cs : List Value} {x : DataW T × List MemPlace} (h : DataW.trod enc Try.prog W base sp held fuel 52 cs = some x) : ∃ m : Mom, m.ok ∧ cs = [.int .i64 m.c, .int .i64 m.s, .int .i64 m.q] := by
  obtain ⟨xs, n, _, _, hl, hlen, hf⟩ := DataW.trod_struct Try.underlying52 h
  rw [show Try.prog.cellsOf 52 = 3 from by kernel_rfl] at hl
  obtain ⟨a, b, c, rfl⟩ := list3 hl
  have k1 : Try.prog.cellsOf 2 = 1 := by kernel_rfl
  have hx : xs.length = 3 := hlen
  have g0 : DataW.trod enc Try.prog W base sp held n 2 ((List.drop 0 [a, b, c]).take (Try.prog.cellsOf 2)) = xs[0]? := hf 0 _ rfl
  have g1 : DataW.trod enc Try.prog W base sp held n 2 ((List.drop 1 [a, b, c]).take (Try.prog.cellsOf 2)) = xs[1]? := hf 1 _ rfl
  have g2 : DataW.trod enc Try.prog W base sp held n 2 ((List.drop 2 [a, b, c]).take (Try.prog.cellsOf 2)) = xs[2]? := hf 2 _ rfl
  rw [List.getElem?_eq_getElem (by omega), k1] at g0 g1 g2
  obtain ⟨z0, hz0, _, w0⟩ := DataW.trod_int Try.underlying2 g0
  obtain ⟨z1, hz1, _, w1⟩ := DataW.trod_int Try.underlying2 g1
  obtain ⟨z2, hz2, _, w2⟩ := DataW.trod_int Try.underlying2 g2
  have hz0 : [a] = [.int .i64 z0] := hz0
  have hz1 : [b] = [.int .i64 z1] := hz1
  have hz2 : [c] = [.int .i64 z2] := hz2
  simp only [List.cons.injEq, and_true] at hz0 hz1 hz2
  exact ⟨⟨z0, z1, z2⟩, ⟨lit_inR w0, lit_inR w1, lit_inR w2⟩, by rw [hz0, hz1, hz2]⟩
theorem read_moms {fuel : Nat} {c : Value} {x : DataW T × List MemPlace} (h : DataW.trod enc Try.prog W base sp held fuel 34 [c] = some x) : ∃ A l cap, c = .slice A l.length cap ∧ RdM W A l ∧ l.length ≤ 9223372036854775807 := by
  rcases open_slice Try.underlying34 h with ⟨hc, _⟩ | ⟨a, len, cap, m, n, D, Pl, hc, hb, hl, hm, hmm, _, hx⟩
  · cases hc
    exact ⟨none, [], 0, rfl, ⟨by simp, .inl rfl⟩, by simp⟩
  · cases hc
    have hml : len ≤ m := by rw [hmm]; split <;> omega
    have hv : ∀ i, i < len → ∃ m : Mom, m.ok ∧ W.cell? (a.add (i * 3)) = some (.int .i64 m.c) ∧ W.cell? ⟨(a.add (i * 3)).block, (a.add (i * 3)).off + 1, none⟩ = some (.int .i64 m.s) ∧ W.cell? ⟨(a.add (i * 3)).block, (a.add (i * 3)).off + 2, none⟩ = some (.int .i64 m.q) := fun i hi => by
      obtain ⟨cs', h1, h2⟩ := hx i (by omega)
      obtain ⟨mm, hok, rfl⟩ := read_mom h2
      rw [show Try.prog.cellsOf 52 = 3 from by kernel_rfl] at h1
      obtain ⟨_, _, hcell⟩ := World.cells?_some h1
      have c0 := hcell 0 (by omega)
      have c1 := hcell 1 (by omega)
      have c2 := hcell 2 (by omega)
      refine ⟨mm, hok, ?_, ?_, ?_⟩
      · simpa [Addr.add] using c0
      · have hs := World.cell?_spot c1
        simpa [Addr.add] using c1
      · simpa [Addr.add] using c2
    obtain ⟨M, hM⟩ := choose_lt (α := Mom) (p := fun i m => m.ok ∧ W.cell? (a.add (i * 3)) = some (.int .i64 m.c) ∧ W.cell? ⟨(a.add (i * 3)).block, (a.add (i * 3)).off + 1, none⟩ = some (.int .i64 m.s) ∧ W.cell? ⟨(a.add (i * 3)).block, (a.add (i * 3)).off + 2, none⟩ = some (.int .i64 m.q)) hv
    refine ⟨some a, (List.range len).map M, cap, by simp, ⟨?_, .inr ⟨a, rfl, fun i hi => ?_⟩⟩, by simp; unfold maxLen at hm; omega⟩
    · intro x hx'
      obtain ⟨i, hi, rfl⟩ := List.mem_map.1 hx'
      exact (hM i (by simpa using hi)).1
    · have hi' : i < len := by simpa using hi
      have : mAt ((List.range len).map M) i = M i := by simp [mAt, List.getD_eq_getElem?_getD, hi']
      rw [this]
      exact (hM i hi').2
theorem array5 {α : Type} {cs : Array α} (h : cs.size = 5) : ∃ c0 c1 c2 c3 c4, cs = #[c0, c1, c2, c3, c4] := by
  obtain ⟨l⟩ := cs
  match l, h with
  | [c0, c1, c2, c3, c4], _ => exact ⟨c0, c1, c2, c3, c4, rfl⟩
set_option maxRecDepth 100000 in
theorem read_hist {r : Reach} {b0 : Nat} {v : Value} {d : DataW T} {p : List MemPlace} (hv : Value.okWide Try.prog W r b0 36 v) (h : DataW.Trod enc Try.prog W base sp held 36 v d p) : ∃ hh : H, RdH W hh v := by
  obtain ⟨cs, rfl, hsz⟩ := okWide_struct Try.underlying36 hv
  obtain ⟨c0, c1, c2, c3, c4, rfl⟩ := array5 (hsz.trans cells_hist)
  obtain ⟨fuel, hfu⟩ := h
  obtain ⟨xs, n, _, _, hl, hlen, hf⟩ := DataW.trod_struct Try.underlying36 hfu
  have k1 : Try.prog.cellsOf 3 = 1 := by kernel_rfl
  have k3 : Try.prog.cellsOf 33 = 1 := by kernel_rfl
  have k4 : Try.prog.cellsOf 34 = 1 := by kernel_rfl
  have hx : xs.length = 5 := hlen
  have g0 : DataW.trod enc Try.prog W base sp held n 3 ((List.drop 0 [c0, c1, c2, c3, c4]).take (Try.prog.cellsOf 3)) = xs[0]? := hf 0 _ rfl
  have g1 : DataW.trod enc Try.prog W base sp held n 3 ((List.drop 1 [c0, c1, c2, c3, c4]).take (Try.prog.cellsOf 3)) = xs[1]? := hf 1 _ rfl
  have g2 : DataW.trod enc Try.prog W base sp held n 3 ((List.drop 2 [c0, c1, c2, c3, c4]).take (Try.prog.cellsOf 3)) = xs[2]? := hf 2 _ rfl
  have g3 : DataW.trod enc Try.prog W base sp held n 33 ((List.drop 3 [c0, c1, c2, c3, c4]).take (Try.prog.cellsOf 33)) = xs[3]? := hf 3 _ rfl
  have g4 : DataW.trod enc Try.prog W base sp held n 34 ((List.drop 4 [c0, c1, c2, c3, c4]).take (Try.prog.cellsOf 34)) = xs[4]? := hf 4 _ rfl
  rw [List.getElem?_eq_getElem (by omega), k1] at g0 g1 g2
  rw [List.getElem?_eq_getElem (by omega), k3] at g3
  rw [List.getElem?_eq_getElem (by omega), k4] at g4
  obtain ⟨z0, hz0, _, _⟩ := DataW.trod_int Try.underlying3 g0
  obtain ⟨z1, hz1, _, _⟩ := DataW.trod_int Try.underlying3 g1
  obtain ⟨z2, hz2, _, _⟩ := DataW.trod_int Try.underlying3 g2
  have e0 : [c0] = [.int .i64 z0] := hz0
  have e1 : [c1] = [.int .i64 z1] := hz1
  have e2 : [c2] = [.int .i64 z2] := hz2
  simp only [List.cons.injEq, and_true] at e0 e1 e2
  obtain ⟨A1, l1, cap1, rfl, r1, b1⟩ := read_ints (c := c3) g3
  obtain ⟨A2, l2, cap2, rfl, r2, b2⟩ := read_moms (c := c4) g4
  subst e0 e1 e2
  exact ⟨⟨z0, z1, z2, l1, l2⟩, A1, A2, cap1, cap2, rfl, r1, r2, b1, b2⟩
end
end Go.Proofs.Yteckbgpkoanhfaa.Hb

/- How a shape and facts among the arguments are read. -/
import Derived.Test.YteckbgpkoanhfaaHbRead
namespace Go.Proofs.Yteckbgpkoanhfaa.Hb
set_option linter.unusedVariables false
open Go.RowKit Go.ChangeShapes Go.WideShapes Go.Deep
section
variable {T : Type} {enc : TypeId × Value → T} {W : World} {base : Nat} {sp : Nat → Bool} {held : Bool}
theorem array3 {α : Type} {cs : Array α} (h : cs.size = 3) : ∃ c0 c1 c2, cs = #[c0, c1, c2] := by
  obtain ⟨l⟩ := cs
  match l, h with
  | [c0, c1, c2], _ => exact ⟨c0, c1, c2, rfl⟩
theorem read_fact {fuel : Nat} {cs : List Value} {x : DataW T × List MemPlace} (h : DataW.trod enc Try.prog W base sp held fuel 45 cs = some x) : ∃ m : Mom, m.ok ∧ cs = [.int .i64 m.c, .int .i64 m.s, .int .i64 m.q] := by
  obtain ⟨xs, n, _, _, hl, hlen, hf⟩ := DataW.trod_struct Try.underlying45 h
  rw [show Try.prog.cellsOf 45 = 3 from by kernel_rfl] at hl
  obtain ⟨a, b, c, rfl⟩ := list3 hl
  have k1 : Try.prog.cellsOf 2 = 1 := by kernel_rfl
  have k2 : Try.prog.cellsOf 3 = 1 := by kernel_rfl
  have hx : xs.length = 3 := hlen
  have g0 : DataW.trod enc Try.prog W base sp held n 3 ((List.drop 0 [a, b, c]).take (Try.prog.cellsOf 3)) = xs[0]? := hf 0 _ rfl
  have g1 : DataW.trod enc Try.prog W base sp held n 2 ((List.drop 1 [a, b, c]).take (Try.prog.cellsOf 2)) = xs[1]? := hf 1 _ rfl
  have g2 : DataW.trod enc Try.prog W base sp held n 3 ((List.drop 2 [a, b, c]).take (Try.prog.cellsOf 3)) = xs[2]? := hf 2 _ rfl
  rw [List.getElem?_eq_getElem (by omega), k2] at g0 g2
  rw [List.getElem?_eq_getElem (by omega), k1] at g1
  obtain ⟨z0, hz0, _, w0⟩ := DataW.trod_int Try.underlying3 g0
  obtain ⟨z1, hz1, _, w1⟩ := DataW.trod_int Try.underlying2 g1
  obtain ⟨z2, hz2, _, w2⟩ := DataW.trod_int Try.underlying3 g2
  have hz0 : [a] = [.int .i64 z0] := hz0
  have hz1 : [b] = [.int .i64 z1] := hz1
  have hz2 : [c] = [.int .i64 z2] := hz2
  simp only [List.cons.injEq, and_true] at hz0 hz1 hz2
  exact ⟨⟨z0, z1, z2⟩, ⟨lit_inR w0, lit_inR w1, lit_inR w2⟩, by rw [hz0, hz1, hz2]⟩
set_option maxRecDepth 100000 in
theorem read_facts {r : Reach} {b0 : Nat} {v : Value} {d : DataW T} {p : List MemPlace} (hv : Value.okWide Try.prog W r b0 32 v) (h : DataW.Trod enc Try.prog W base sp held 32 v d p) : ∃ A l cap, v = .slice A l.length cap ∧ RdM W A l ∧ l.length ≤ 9223372036854775807 := by
  obtain ⟨sa, sl, sc, rfl⟩ := okWide_slice Try.underlying32 hv
  obtain ⟨fuel, h⟩ := h
  have h : DataW.trod enc Try.prog W base sp held fuel 32 [.slice sa sl sc] = some (d, p) := h
  rcases open_slice Try.underlying32 h with ⟨hc, _⟩ | ⟨a, len, cap, m, n, D, Pl, hc, hb, hl, hm, hmm, _, hx⟩
  · cases hc
    exact ⟨none, [], 0, rfl, ⟨by simp, .inl rfl⟩, by simp⟩
  · cases hc
    have hml : sl ≤ m := by rw [hmm]; split <;> omega
    have hv : ∀ i, i < sl → ∃ m : Mom, m.ok ∧ W.cell? (a.add (i * 3)) = some (.int .i64 m.c) ∧ W.cell? ⟨(a.add (i * 3)).block, (a.add (i * 3)).off + 1, none⟩ = some (.int .i64 m.s) ∧ W.cell? ⟨(a.add (i * 3)).block, (a.add (i * 3)).off + 2, none⟩ = some (.int .i64 m.q) := fun i hi => by
      obtain ⟨cs', h1, h2⟩ := hx i (by omega)
      obtain ⟨mm, hok, rfl⟩ := read_fact h2
      rw [show Try.prog.cellsOf 45 = 3 from by kernel_rfl] at h1
      obtain ⟨_, _, hcell⟩ := World.cells?_some h1
      have c0 := hcell 0 (by omega)
      have c1 := hcell 1 (by omega)
      have c2 := hcell 2 (by omega)
      refine ⟨mm, hok, ?_, ?_, ?_⟩
      · simpa [Addr.add] using c0
      · simpa [Addr.add] using c1
      · simpa [Addr.add] using c2
    obtain ⟨M, hM⟩ := choose_lt (α := Mom) (p := fun i m => m.ok ∧ W.cell? (a.add (i * 3)) = some (.int .i64 m.c) ∧ W.cell? ⟨(a.add (i * 3)).block, (a.add (i * 3)).off + 1, none⟩ = some (.int .i64 m.s) ∧ W.cell? ⟨(a.add (i * 3)).block, (a.add (i * 3)).off + 2, none⟩ = some (.int .i64 m.q)) hv
    refine ⟨some a, (List.range sl).map M, sc, by simp, ⟨?_, .inr ⟨a, rfl, fun i hi => ?_⟩⟩, by simp; unfold maxLen at hm; omega⟩
    · intro x hx'
      obtain ⟨i, hi, rfl⟩ := List.mem_map.1 hx'
      exact (hM i (by simpa using hi)).1
    · have hi' : i < sl := by simpa using hi
      have : mAt ((List.range sl).map M) i = M i := by simp [mAt, List.getD_eq_getElem?_getD, hi']
      rw [this]
      exact (hM i hi').2
set_option maxRecDepth 100000 in
theorem read_shape {r : Reach} {b0 : Nat} {v : Value} {d : DataW T} {p : List MemPlace} (hv : Value.okWide Try.prog W r b0 31 v) (h : DataW.Trod enc Try.prog W base sp held 31 v d p) : ∃ k b c : Int, v = .agg #[.int .i64 k, .int .i64 b, .int .i64 c] := by
  obtain ⟨cs, rfl, hsz⟩ := okWide_struct Try.underlying31 hv
  obtain ⟨c0, c1, c2, rfl⟩ := array3 (hsz.trans (by kernel_rfl : Try.prog.cellsOf 31 = 3))
  obtain ⟨fuel, hfu⟩ := h
  obtain ⟨xs, n, _, _, hl, hlen, hf⟩ := DataW.trod_struct Try.underlying31 hfu
  have k1 : Try.prog.cellsOf 3 = 1 := by kernel_rfl
  have hx : xs.length = 3 := hlen
  have g0 : DataW.trod enc Try.prog W base sp held n 3 ((List.drop 0 [c0, c1, c2]).take (Try.prog.cellsOf 3)) = xs[0]? := hf 0 _ rfl
  have g1 : DataW.trod enc Try.prog W base sp held n 3 ((List.drop 1 [c0, c1, c2]).take (Try.prog.cellsOf 3)) = xs[1]? := hf 1 _ rfl
  have g2 : DataW.trod enc Try.prog W base sp held n 3 ((List.drop 2 [c0, c1, c2]).take (Try.prog.cellsOf 3)) = xs[2]? := hf 2 _ rfl
  rw [List.getElem?_eq_getElem (by omega), k1] at g0 g1 g2
  obtain ⟨z0, hz0, _, _⟩ := DataW.trod_int Try.underlying3 g0
  obtain ⟨z1, hz1, _, _⟩ := DataW.trod_int Try.underlying3 g1
  obtain ⟨z2, hz2, _, _⟩ := DataW.trod_int Try.underlying3 g2
  have e0 : [c0] = [.int .i64 z0] := hz0
  have e1 : [c1] = [.int .i64 z1] := hz1
  have e2 : [c2] = [.int .i64 z2] := hz2
  simp only [List.cons.injEq, and_true] at e0 e1 e2
  subst e0 e1 e2
  exact ⟨z0, z1, z2, rfl⟩
end
end Go.Proofs.Yteckbgpkoanhfaa.Hb

/- How a grove among the arguments is read. -/
import Derived.Test.YtbhikceekldenaaHbOpen
import Derived.Test.YtbhikceekldenaaHbGrv
namespace Go.Proofs.Ytbhikceekldenaa.Hb
set_option linter.unusedVariables false
open Go.RowKit Go.ChangeShapes Go.WideShapes Go.Deep

def intR : List Value → Prop := intK .i64 (-9223372036854775808) 9223372036854775807
section
variable {T : Type} {enc : TypeId × Value → T} {W : World} {base : Nat} {sp : Nat → Bool} {held : Bool}
theorem rds_i64 {t : TypeId} (hu : Try.prog.underlying t = some (.int .i64)) : Rds enc Try.prog W base sp held t intR := rds_int _ _ hu rfl rfl
def irow (k : IntKind) (lo hi : Int) (W : World) (cs : List Value) : Prop := ∃ l : List Int, rowK W 1 (fun y c => c = [.int k y] ∧ lo ≤ y ∧ y ≤ hi) l cs
theorem rds_irow {t e : TypeId} {k : IntKind} (lo hi : Int) (hu : Try.prog.underlying t = some (.slice e)) (he : Try.prog.underlying e = some (.int k)) (hc : Try.prog.cellsOf e = 1) (hlo : k.min = lo) (hhi : k.max = hi) : Rds enc Try.prog W base sp held t (irow k lo hi W) :=
  rds_slice 1 hu hc (rds_int lo hi he hlo hhi)
def cfgK : List Value → Prop := Parts [intR, intR, intR, intR, intR, intR, intR]
theorem rds_cfg : Rds enc Try.prog W base sp held 23 cfgK :=
  rds_struct Try.underlying23 (by kernel_rfl) ⟨rfl, rds_i64 Try.underlying3, by kernel_rfl, rds_i64 Try.underlying3, by kernel_rfl, rds_i64 Try.underlying3, by kernel_rfl, rds_i64 Try.underlying3, by kernel_rfl, rds_i64 Try.underlying3, by kernel_rfl, rds_i64 Try.underlying3, by kernel_rfl, rds_i64 Try.underlying3, trivial⟩
def matK (W : World) : List Value → Prop := Parts [intR, intR, irow .u16 0 65535 W]
theorem rds_mat : Rds enc Try.prog W base sp held 26 (matK W) :=
  rds_struct Try.underlying26 (by kernel_rfl) ⟨rfl, rds_i64 Try.underlying3, by kernel_rfl, rds_i64 Try.underlying3, by kernel_rfl, rds_irow 0 65535 Try.underlying24 Try.underlying74 (by kernel_rfl) rfl rfl, trivial⟩
def nodeK : List Value → Prop := fun cs => ∃ x, ndR x cs
theorem rds_node : Rds enc Try.prog W base sp held 88 nodeK :=
  (rds_struct Try.underlying88 (by kernel_rfl) (Ks := [intR, intR, intR, intR, intR, intR]) ⟨rfl, rds_i64 Try.underlying3, by kernel_rfl, rds_i64 Try.underlying3, by kernel_rfl, rds_i64 Try.underlying3, by kernel_rfl, rds_i64 Try.underlying3, by kernel_rfl, rds_i64 Try.underlying2, by kernel_rfl, rds_i64 Try.underlying2, trivial⟩).mono fun cs h => by
    obtain ⟨_, _, rfl, ⟨f, rfl, hf⟩, _, _, rfl, ⟨b, rfl, hb⟩, _, _, rfl, ⟨l, rfl, hl⟩, _, _, rfl, ⟨c, rfl, hc⟩, _, _, rfl, ⟨s, rfl, hs⟩, _, _, rfl, ⟨k, rfl, hk⟩, rfl⟩ := h
    exact ⟨⟨f, b, l, c, s, k⟩, rfl, hf, hb, hl, hc, hs, hk⟩
def treeK (W : World) (cs : List Value) : Prop := ∃ t : List Nd, rowK W 6 ndR t cs
theorem rds_tree : Rds enc Try.prog W base sp held 53 (treeK W) := rds_slice 6 Try.underlying53 (by kernel_rfl) rds_node
def treesK (W : World) (cs : List Value) : Prop := ∃ l : List (List Nd), rowK W 1 (rowK W 6 ndR) l cs
theorem rds_trees : Rds enc Try.prog W base sp held 27 (treesK W) := rds_slice 1 Try.underlying27 (by kernel_rfl) rds_tree
def iK (W : World) (cs : List Value) : Prop := ∃ t : List Int, rowK W 1 intR1 t cs
theorem rds_ints {t e : TypeId} (hu : Try.prog.underlying t = some (.slice e)) (he : Try.prog.underlying e = some (.int .i64)) (hc : Try.prog.cellsOf e = 1) : Rds enc Try.prog W base sp held t (iK W) := rds_slice 1 hu hc ((rds_i64 he).mono fun cs h => by obtain ⟨n, e, h1, h2⟩ := h; exact ⟨n, e, h1, h2⟩)
def wgtK (W : World) (cs : List Value) : Prop := ∃ l : List (List Int), rowK W 1 (rowK W 1 intR1) l cs
theorem rds_wgts : Rds enc Try.prog W base sp held 28 (wgtK W) := rds_slice 1 Try.underlying28 (by kernel_rfl) (rds_ints Try.underlying54 Try.underlying3 (by kernel_rfl))
theorem rds_grv : Rds enc Try.prog W base sp held 31 (Parts [cfgK, matK W, treesK W, wgtK W, iK W]) :=
  rds_struct Try.underlying31 (by kernel_rfl) ⟨rfl, rds_cfg, by kernel_rfl, rds_mat, by kernel_rfl, rds_trees, by kernel_rfl, rds_wgts, by kernel_rfl, rds_ints Try.underlying29 Try.underlying2 (by kernel_rfl), trivial⟩
/-- A grove, read. -/
def IsGrv (W : World) (v : Value) : Prop := ∃ (g : Grv) (Ac At Aw Ag : Option Addr) (cc ct cw cg : Nat), v = .agg (grvA g Ac At Aw Ag cc ct cw cg) ∧ RG W g Ac At Aw Ag ∧ g.cells.length ≤ 9223372036854775807 ∧ g.trees.length ≤ 9223372036854775807 ∧ g.weights.length ≤ 9223372036854775807 ∧ g.tgt.length ≤ 9223372036854775807
set_option maxRecDepth 100000 in
theorem read_grv {r : Reach} {b0 : Nat} {v : Value} {d : DataW T} {p : List MemPlace} (hv : Value.okWide Try.prog W r b0 31 v) (h : DataW.Trod enc Try.prog W base sp held 31 v d p) : IsGrv W v := by
  obtain ⟨cs, rfl, q1, q2, rfl, hc, q3, q4, rfl, hm, q5, q6, rfl, ht, q7, q8, rfl, hw, q9, q10, rfl, hg, rfl⟩ := open_agg Try.underlying31 hv h rds_grv
  obtain ⟨_, _, rfl, ⟨k, rfl, _⟩, _, _, rfl, ⟨cl, rfl, _⟩, _, _, rfl, ⟨b, rfl, _⟩, _, _, rfl, ⟨t, rfl, _⟩, _, _, rfl, ⟨dd, rfl, _⟩, _, _, rfl, ⟨l, rfl, _⟩, _, _, rfl, ⟨pp, rfl, _⟩, rfl⟩ := hc
  obtain ⟨_, _, rfl, ⟨rows, rfl, _⟩, _, _, rfl, ⟨cols, rfl, _⟩, _, _, rfl, ⟨cells, Ac, cc, rfl, lc, mc, rc⟩, rfl⟩ := hm
  obtain ⟨trees, At, ct, rfl, lt, mt, rt⟩ := ht
  obtain ⟨wgts, Aw, cw, rfl, lw, mw, rw⟩ := hw
  obtain ⟨tgt, Ag, cg, rfl, lg, mg, rg⟩ := hg
  exact ⟨⟨k, cl, b, t, dd, l, pp, rows, cols, cells, trees, wgts, tgt⟩, Ac, At, Aw, Ag, cc, ct, cw, cg, rfl, ⟨rc.ints, rt, rw, rg⟩, Nat.le_trans lc mc, Nat.le_trans lt mt, Nat.le_trans lw mw, Nat.le_trans lg mg⟩
end
end Go.Proofs.Ytbhikceekldenaa.Hb

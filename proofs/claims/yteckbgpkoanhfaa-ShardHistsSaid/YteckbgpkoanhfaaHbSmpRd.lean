/- How a sample, and what is asked of it, are read. -/
import Derived.Test.YteckbgpkoanhfaaHbOpen
import Derived.Test.YteckbgpkoanhfaaHbFill
namespace Go.Proofs.Yteckbgpkoanhfaa.Hb
open Go.RowKit Go.ChangeShapes Go.WideShapes Go.Deep

def intR : List Value → Prop := intK .i64 (-9223372036854775808) 9223372036854775807
section
variable {T : Type} {enc : TypeId × Value → T} {W : World} {base : Nat} {sp : Nat → Bool} {held : Bool}
theorem rds_i64 {t : TypeId} (hu : Try.prog.underlying t = some (.int .i64)) : Rds enc Try.prog W base sp held t intR := rds_int _ _ hu rfl rfl
def irow (k : IntKind) (lo hi : Int) (W : World) (cs : List Value) : Prop := ∃ l : List Int, rowK W 1 (fun y c => c = [.int k y] ∧ lo ≤ y ∧ y ≤ hi) l cs
theorem rds_irow {t e : TypeId} {k : IntKind} (lo hi : Int) (hu : Try.prog.underlying t = some (.slice e)) (he : Try.prog.underlying e = some (.int k)) (hc : Try.prog.cellsOf e = 1) (hlo : k.min = lo) (hhi : k.max = hi) : Rds enc Try.prog W base sp held t (irow k lo hi W) :=
  rds_slice 1 hu hc (rds_int lo hi he hlo hhi)
def cfgK : List Value → Prop := Parts [intR, intR, intR, intR, intR, intR, intR]
theorem rds_cfg : Rds enc Try.prog W base sp held 66 cfgK :=
  rds_struct Try.underlying66 (by kernel_rfl) ⟨rfl, rds_i64 Try.underlying3, by kernel_rfl, rds_i64 Try.underlying3, by kernel_rfl, rds_i64 Try.underlying3, by kernel_rfl, rds_i64 Try.underlying3, by kernel_rfl, rds_i64 Try.underlying3, by kernel_rfl, rds_i64 Try.underlying3, by kernel_rfl, rds_i64 Try.underlying3, trivial⟩
def matK (W : World) : List Value → Prop := Parts [intR, intR, irow .u16 0 65535 W]
theorem rds_mat : Rds enc Try.prog W base sp held 69 (matK W) :=
  rds_struct Try.underlying69 (by kernel_rfl) ⟨rfl, rds_i64 Try.underlying3, by kernel_rfl, rds_i64 Try.underlying3, by kernel_rfl, rds_irow 0 65535 Try.underlying67 Try.underlying120 (by kernel_rfl) rfl rfl, trivial⟩
def irow64 (W : World) : List Value → Prop := irow .i64 (-9223372036854775808) 9223372036854775807 W
theorem rds_row64 : Rds enc Try.prog W base sp held 33 (irow64 W) := rds_irow _ _ Try.underlying33 Try.underlying2 (by kernel_rfl) rfl rfl
theorem rds_rowint : Rds enc Try.prog W base sp held 70 (irow64 W) := rds_irow _ _ Try.underlying70 Try.underlying3 (by kernel_rfl) rfl rfl
theorem rds_smp : Rds enc Try.prog W base sp held 72 (Parts [cfgK, matK W, irow64 W, irow64 W]) :=
  rds_struct Try.underlying72 (by kernel_rfl) ⟨rfl, rds_cfg, by kernel_rfl, rds_mat, by kernel_rfl, rds_row64, by kernel_rfl, rds_rowint, trivial⟩
theorem irow_is {k : IntKind} {lo hi : Int} {cs : List Value} (h : irow k lo hi W cs) : ∃ (l : List Int) (A : Option Addr) (cap : Nat), cs = [.slice A l.length cap] ∧ l.length ≤ cap ∧ cap ≤ 9223372036854775807 ∧ (∀ x ∈ l, lo ≤ x ∧ x ≤ hi) ∧ (l = [] ∨ ∃ ad, A = some ad ∧ ∀ i, i < l.length → W.cell? (ad.add i) = some (.int k (l.getD i 0))) := by
  obtain ⟨l, A, cap, e, h1, h2, h3⟩ := h
  exact ⟨l, A, cap, e, h1, h2, h3.ints⟩
set_option maxRecDepth 100000 in
theorem read_sample {r : Reach} {b0 : Nat} {v : Value} {d : DataW T} {p : List MemPlace} (hv : Value.okWide Try.prog W r b0 72 v) (h : DataW.Trod enc Try.prog W base sp held 72 v d p) :
    ∃ (s : Smp) (A1 A2 A3 : Option Addr) (c1 c2 c3 : Nat), v = .agg (smpC s A1 A2 A3 c1 c2 c3) ∧ RdS W s A1 A2 A3 ∧ s.cells.length ≤ c1 := by
  obtain ⟨cs, rfl, q1, q2, rfl, hc, q3, q4, rfl, hm, q5, q6, rfl, ht, q7, q8, rfl, hw, rfl⟩ := open_agg Try.underlying72 hv h rds_smp
  obtain ⟨_, _, rfl, ⟨k, rfl, _⟩, _, _, rfl, ⟨cl, rfl, _⟩, _, _, rfl, ⟨b, rfl, _⟩, _, _, rfl, ⟨t, rfl, _⟩, _, _, rfl, ⟨dd, rfl, _⟩, _, _, rfl, ⟨l, rfl, _⟩, _, _, rfl, ⟨pp, rfl, _⟩, rfl⟩ := hc
  obtain ⟨_, _, rfl, ⟨rows, rfl, _⟩, _, _, rfl, ⟨cols, rfl, _⟩, _, _, rfl, hcells, rfl⟩ := hm
  obtain ⟨cells, A1, c1, rfl, l1, m1, o1, r1⟩ := irow_is hcells
  obtain ⟨tgt, A2, c2, rfl, l2, m2, o2, r2⟩ := irow_is ht
  obtain ⟨wgt, A3, c3, rfl, l3, m3, o3, r3⟩ := irow_is hw
  exact ⟨⟨k, cl, b, t, dd, l, pp, rows, cols, cells, tgt, wgt⟩, A1, A2, A3, c1, c2, c3, rfl, ⟨r1, ⟨o2, r2⟩, ⟨o3, r3⟩, o1, Nat.le_trans l1 m1, Nat.le_trans l2 m2, Nat.le_trans l3 m3⟩, l1⟩
set_option maxRecDepth 100000 in
theorem read_asked {r : Reach} {b0 : Nat} {v : Value} {d : DataW T} {p : List MemPlace} (hv : Value.okWide Try.prog W r b0 74 v) (h : DataW.Trod enc Try.prog W base sp held 74 v d p) :
    ∃ (col : Int) (is : List Int) (Ar : Option Addr) (cr : Nat) (pp : Int), v = .agg #[.int .i64 col, .slice Ar is.length cr, .int .i64 pp] ∧ inR col ∧ inR pp ∧ RdI W Ar is ∧ is.length ≤ cr ∧ is.length ≤ 9223372036854775807 := by
  have rd : Rds enc Try.prog W base sp held 74 (Parts [intR, irow64 W, intR]) :=
    rds_struct Try.underlying74 (by kernel_rfl) ⟨rfl, rds_i64 Try.underlying3, by kernel_rfl, rds_rowint, by kernel_rfl, rds_i64 Try.underlying3, trivial⟩
  obtain ⟨cs, rfl, q1, q2, rfl, ⟨col, rfl, hc⟩, q3, q4, rfl, hr, q5, q6, rfl, ⟨pp, rfl, hp⟩, rfl⟩ := open_agg Try.underlying74 hv h rd
  obtain ⟨is, Ar, cr, rfl, l1, m1, o1, r1⟩ := irow_is hr
  exact ⟨col, is, Ar, cr, pp, rfl, hc, hp, ⟨o1, r1⟩, l1, Nat.le_trans l1 m1⟩
end
end Go.Proofs.Yteckbgpkoanhfaa.Hb

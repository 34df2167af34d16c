/- The law DealApart, of whatever reads as its arguments. -/
import Derived.Test.YtbhikceekldenaaHbLawApart
import Derived.Test.YtbhikceekldenaaHbOpenA
namespace Go.Proofs.Ytbhikceekldenaa.Hb
open Go.RowKit Go.ChangeShapes Go.WideShapes Go.Deep
def Is6 (v : Value) : Prop := ∃ l : List Int, l.length = 6 ∧ v = .agg (u8s l) ∧ ∀ x ∈ l, 0 ≤ x ∧ x ≤ 255
set_option maxRecDepth 100000 in
theorem read_6 {T : Type} {enc : TypeId × Value → T} {W : World} {base : Nat} {sp : Nat → Bool} {held : Bool} {r : Reach} {b0 : Nat} {v : Value} {d : DataW T} {p : List MemPlace} (hv : Value.okWide Try.prog W r b0 71 v) (h : DataW.Trod enc Try.prog W base sp held 71 v d p) : Is6 v := by
  obtain ⟨cs, rfl, l, h1, rfl, h2⟩ := open_aggA Try.underlying71 hv h (rds_array 0 255 Try.underlying71 Try.underlying5 (by kernel_rfl) (by kernel_rfl) rfl rfl)
  exact ⟨l, h1, rfl, h2⟩
theorem apart_row (W : World) (v0 : Value) (h0 : Is6 v0) (v1 : Value) (h1 : Is6 v1) : Calls Try.prog 11 #[v0, v1] W (True0 W) := by
  obtain ⟨a, la, rfl, ra⟩ := h0
  obtain ⟨b, lb, rfl, rb⟩ := h1
  exact apart_any a b la lb ra rb W
end Go.Proofs.Ytbhikceekldenaa.Hb

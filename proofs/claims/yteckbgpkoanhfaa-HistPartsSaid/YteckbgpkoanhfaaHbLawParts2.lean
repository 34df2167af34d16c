/- The law HistParts, of any arguments. -/
import Derived.Test.YteckbgpkoanhfaaHbLawParts
import Derived.Test.YteckbgpkoanhfaaHyFacts
namespace Go.Proofs.Yteckbgpkoanhfaa.Hb
set_option linter.unusedVariables false
open Go.RowKit
set_option maxRecDepth 100000 in
theorem parts_big (k b c : Int) (A : Option Addr) (n cap : Nat) (at' : Int) (w : World) (hn : 100 < n) :
    Calls Try.prog 10 #[.agg #[.int .i64 k, .int .i64 b, .int .i64 c], .slice A n cap, .int .u8 at'] w fun e w' => e = .returned (.bool true) ∧ Below w.heap.size w w' := by
  have d1 : decide (100 < (n : Int)) = true := decide_eq_true (by omega)
  clear hn
  go_enter Try.func10, Try.ntmps10
  go_wp2_with (go_at_call 16; refine (fixed12_any _).mono ?_; rintro e w4 ⟨rfl, hb4⟩)
  go_ret
  exact ⟨rfl, ((Below.refl _ w).alloc (Nat.le_refl _) _).trans (hb4.mono (by simp))⟩
theorem parts_any (W : World) (v : Value) (hv : ∃ k b c : Int, v = .agg #[.int .i64 k, .int .i64 b, .int .i64 c]) (u : Value) (hu : ∃ A l cap, u = .slice A l.length cap ∧ RdM W A l ∧ l.length ≤ 9223372036854775807) (at' : Int) (wa : (Lit.int .u8 at').wf = true) :
    Calls Try.prog 10 #[v, u, .int .u8 at'] W fun e w' => e = .returned (.bool true) ∧ Below W.heap.size W w' := by
  obtain ⟨A, l, cap, rfl, r, hl⟩ := hu
  obtain ⟨k, b, c, rfl⟩ := hv
  have hat : 0 ≤ at' ∧ at' ≤ 255 := by
    simp [Lit.wf, IntKind.min, IntKind.max, IntKind.signed, IntKind.bits] at wa
    omega
  by_cases h : l.length ≤ 100
  · by_cases hm : mayP k b c
    · exact parts_ok k b c A l cap at' W r h hat hm
    · exact parts_err k b c A l cap at' W r h hat hm
  · exact parts_big k b c A l.length cap at' W (by omega)
end Go.Proofs.Yteckbgpkoanhfaa.Hb

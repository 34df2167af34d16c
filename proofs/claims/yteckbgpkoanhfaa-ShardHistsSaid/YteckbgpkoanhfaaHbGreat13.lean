/- The walk of law 13's Great. -/
import Derived.Test.YteckbgpkoanhfaaHbSmp
namespace Go.Proofs.Yteckbgpkoanhfaa.Hb
set_option linter.unusedVariables false
open Go.RowKit

def greatS (s : Smp) : Bool := decide (600 < s.cells.length ∨ 200 < s.tgt.length ∨ 200 < s.wgt.length)
set_option maxRecDepth 100000 in
set_option maxHeartbeats 1000000 in
theorem great13_any (s : Smp) (A1 A2 A3 : Option Addr) (c1 c2 c3 : Nat) (w : World) : Calls Try.prog 33 #[.agg (smpC s A1 A2 A3 c1 c2 c3)] w fun e w' => e = .returned (.bool (greatS s)) ∧ Below w.heap.size w w' := by
  obtain ⟨k, cl, b, t, d, l, p, rows, cols, cells, tgt, wgt⟩ := s
  unfold smpC greatS
  simp only
  obtain ⟨n1, e1⟩ : ∃ n, cells.length = n := ⟨_, rfl⟩
  obtain ⟨n2, e2⟩ : ∃ n, tgt.length = n := ⟨_, rfl⟩
  obtain ⟨n3, e3⟩ : ∃ n, wgt.length = n := ⟨_, rfl⟩
  rw [e1, e2, e3]
  clear e1 e2 e3
  by_cases h1 : 600 < n1
  · have d1 : decide (600 < (n1 : Int)) = true := decide_eq_true (by omega)
    rw [show decide (600 < n1 ∨ 200 < n2 ∨ 200 < n3) = true from decide_eq_true (by omega)]
    clear h1
    go_enter Try.func33, Try.ntmps33
    go_wp2
    go_ret
    exact ⟨rfl, (Below.refl _ _).alloc (Nat.le_refl _) _⟩
  · have d1 : decide (600 < (n1 : Int)) = false := decide_eq_false (by omega)
    by_cases h2 : 200 < n2
    · have d2 : decide (200 < (n2 : Int)) = true := decide_eq_true (by omega)
      rw [show decide (600 < n1 ∨ 200 < n2 ∨ 200 < n3) = true from decide_eq_true (by omega)]
      clear h1 h2
      go_enter Try.func33, Try.ntmps33
      go_wp2
      go_ret
      exact ⟨rfl, (Below.refl _ _).alloc (Nat.le_refl _) _⟩
    · have d2 : decide (200 < (n2 : Int)) = false := decide_eq_false (by omega)
      obtain ⟨z, hz⟩ : ∃ z, decide (200 < (n3 : Int)) = z := ⟨_, rfl⟩
      have hzz : decide (600 < n1 ∨ 200 < n2 ∨ 200 < n3) = z := by
        rw [← hz]
        exact decide_eq_decide.2 (by omega)
      rw [hzz]
      clear h1 h2 hzz
      go_enter Try.func33, Try.ntmps33
      go_wp2
      go_ret
      exact ⟨rfl, (Below.refl _ _).alloc (Nat.le_refl _) _⟩
end Go.Proofs.Yteckbgpkoanhfaa.Hb

/- Sources of numbers: what a draw comes to, whatever the source. -/
import Derived.Test.YtbhikceekldenaaHbBase
import Derived.Test.YtbhikceekldenaaHbDealP
import Derived.Laws.BitsAllLaws
import Derived.Lib.Zigzag
import Derived.Deep.QuietTactic
import Derived.BigQuiet
namespace Go.Proofs.Ytbhikceekldenaa.Hb
set_option linter.unusedVariables false
open Go.RowKit

theorem grown_refl (w : World) (r : Option Nat) : w.grownBy w r := ⟨rfl, rfl, rfl, Nat.le_refl _, fun _ _ _ => rfl⟩
theorem grown_trans {a b c : World} {r : Option Nat} (h : a.grownBy b r) (k : b.grownBy c r) : a.grownBy c r :=
  ⟨k.os.trans h.os, k.tape.trans h.tape, k.output.trans h.output, Nat.le_trans h.size k.size, fun i hi hr => (k.block i (Nat.lt_of_lt_of_le hi h.size) hr).trans (h.block i hi hr)⟩
theorem grown_drew {a b : World} {r : Option Nat} (h : a.grownBy b r) : a.grownBy b.drew r := ⟨h.os, h.tape, h.output, h.size, h.block⟩
theorem grown_drewN {a b : World} {r : Option Nat} (h : a.grownBy b r) (n : Nat) : a.grownBy (b.drewN n) r := ⟨h.os, h.tape, h.output, h.size, h.block⟩
theorem grown_set {a b : World} {g : Nat} (h : a.grownBy b (some g)) (i : Nat) (u : Value) : a.grownBy (b.setCell ⟨g, i, none⟩ u) (some g) :=
  ⟨h.os, h.tape, h.output, by simpa [World.setCell] using h.size, fun k hk hr => (Below.heap_setCell _ _ _ _ (fun e => hr (by rw [e]))).trans (h.block k hk hr)⟩
theorem grown_below {a b : World} {r : Option Nat} (h : Below a.heap.size a b) : a.grownBy b r := ⟨h.os, h.tape, h.output, h.size, fun i hi _ => h.block i hi⟩

/-- What a draw answers. -/
def belV (r : Option Int × Nat) : Value := match r.1 with
  | some x => .tuple #[.int .u64 x, .int .i64 0]
  | none => .tuple #[.int .u64 0, .int .i64 7]
/-- A source: a value, its block, the numbers that it hands out, when it has handed out so many. -/
structure Src (v : Value) (b N0 : Nat) (num : Nat → Int) (J : Nat → World → Prop) : Prop where
  hb : b < N0
  keep : ∀ k W W', J k W → Below N0 W W' → J k W'
  below : ∀ n k W, N0 ≤ W.heap.size → 0 < n → n ≤ 1048576 → k ≤ 4611686018427387904 → J k W →
    Calls Try.prog 79 #[v, .int .u64 n] W fun e W' => e = .returned (belV (drawO num n 64 k)) ∧ J (drawO num n 64 k).2 W' ∧ W.grownBy W' (some b)

theorem spare_is (n : Int) (h1 : 0 < n) (h2 : n ≤ 1048576) : bits .xor .u64 (if IntKind.u64.signed = true then -1 else IntKind.u64.max) ((IntKind.u64.wrap (-n)).tmod n) = limD n - 1 := by
  have e1 : IntKind.u64.wrap (-n) = 18446744073709551616 - n := by rw [IntKind.wrap_u64]; omega
  have e2 : (18446744073709551616 - n).tmod n = 18446744073709551616 % n := by
    rw [Int.tmod_eq_emod_of_nonneg (by omega), Int.sub_emod, Int.emod_self, Int.sub_zero, Int.emod_emod]
  have e3 : (if IntKind.u64.signed = true then (-1 : Int) else IntKind.u64.max) = 18446744073709551615 := by decide +kernel
  rw [e1, e2, e3]
  have b1 := Int.emod_nonneg 18446744073709551616 (show n ≠ 0 by omega)
  have b2 := Int.emod_lt_of_pos 18446744073709551616 h1
  unfold limD
  obtain ⟨r, hr⟩ := Int.eq_ofNat_of_zero_le b1
  rw [hr] at b2 ⊢
  rw [u64_xor _ _ (by omega) (by omega) (by omega) (by omega)]
  have := Lib.xor_ones64 r (by omega)
  simp only [Int.toNat_natCast]
  rw [show (18446744073709551615 : Int).toNat = 2 ^ 64 - 1 from rfl, this]
  omega
end Go.Proofs.Ytbhikceekldenaa.Hb

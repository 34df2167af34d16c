/- A key's stream as a source. -/
import Derived.Test.YtbhikceekldenaaHbBelowS
namespace Go.Proofs.Ytbhikceekldenaa.Hb
set_option linter.unusedVariables false
open Go.RowKit

def xsF (z s : Int) : Int := bits .xor .u64 z (z / s)
def mixF (x : Int) : Int := xsF (IntKind.u64.wrap (xsF (IntKind.u64.wrap (xsF (IntKind.u64.wrap (x + 11400714819323198485)) 1073741824 * 13787848793156543929)) 134217728 * 10723151780598845931)) 2147483648
theorem bits_u64 (o : BinOp) (a b : Int) (ho : o = .xor) : 0 ≤ bits o .u64 a b ∧ bits o .u64 a b ≤ 18446744073709551615 := by
  subst ho
  have : ∃ z : Int, bits .xor .u64 a b = IntKind.u64.wrap z := ⟨_, rfl⟩
  obtain ⟨z, hz⟩ := this
  rw [hz, IntKind.wrap_u64]
  omega
theorem mixF_in (x : Int) : 0 ≤ mixF x ∧ mixF x ≤ 18446744073709551615 := bits_u64 _ _ _ rfl
set_option maxRecDepth 100000 in
set_option maxHeartbeats 400000 in
theorem mix_any (x : Int) (w : World) : Calls Try.prog 137 #[.int .u64 x] w fun e w' => e = .returned (.int .u64 (mixF x)) ∧ w' = w := by
  go_enter Try.func137, Try.ntmps137
  go_wp2_with fail
  go_ret
  exact ⟨rfl, rfl⟩
/-- A key's k-th number. -/
def numS (key : Int) (k : Nat) : Int := mixF (bits .xor .u64 key (mixF (k : Int)))
theorem numS_in (key : Int) (k : Nat) : 0 ≤ numS key k ∧ numS key k ≤ 18446744073709551615 := mixF_in _
set_option maxRecDepth 100000 in
set_option maxHeartbeats 400000 in
theorem at_any (key : Int) (k : Nat) (w : World) : Calls Try.prog 136 #[.int .u64 key, .int .u64 k] w fun e w' => e = .returned (.int .u64 (numS key k)) ∧ w' = w := by
  have h1 := mix_any (k : Int) w
  have h2 := mix_any (bits .xor .u64 key (mixF (k : Int))) w
  obtain ⟨x, hx⟩ : ∃ x, mixF (k : Int) = x := ⟨_, rfl⟩
  unfold numS
  rw [hx] at h1 h2 ⊢
  obtain ⟨y, hy⟩ : ∃ y, bits .xor .u64 key x = y := ⟨_, rfl⟩
  rw [hy] at h2 ⊢
  have H1 := Lib.hid h1
  have H2 := Lib.hid h2
  clear h1 h2 hx
  go_enter Try.func136, Try.ntmps136
  go_wp2_with fail
  refine H1.out.mono ?_
  rintro e w1 ⟨rfl, rfl⟩
  go_wp2_with fail
  refine H2.out.mono ?_
  rintro e w2 ⟨rfl, rfl⟩
  go_wp2_with fail
  go_ret
  exact ⟨rfl, rfl⟩
/-- A stream that has handed out k numbers. -/
def StrAt (b : Nat) (key : Int) (k : Nat) (w : World) : Prop := Blk w b #[.int .u64 key, .int .u64 k] 111
set_option maxRecDepth 100000 in
set_option maxHeartbeats 1000000 in
theorem nextS_any (b : Nat) (key : Int) (k : Nat) (w : World) (hk : k ≤ 4611686018427387968) (h : StrAt b key k w) :
    Calls Try.prog 135 #[.pointer (some ⟨b, 0, none⟩)] w fun e W' => e = .returned (.int .u64 (numS key k)) ∧ StrAt b key (k + 1) W' ∧ w.grownBy W' (some b) := by
  have hm := fun W => at_any key k W
  obtain ⟨z, hz⟩ : ∃ z, numS key k = z := ⟨_, rfl⟩
  rw [hz] at hm ⊢
  have HM := Lib.hid hm
  have HB := Lib.hid h
  have p0 := HB.out.cell 0
  have p1 := HB.out.cell 1
  simp only [List.getElem?_toArray, List.getElem?_cons_zero, List.getElem?_cons_succ] at p0 p1
  have hw : IntKind.u64.wrap ((k : Int) + 1) = (k : Int) + 1 := by rw [IntKind.wrap_u64]; omega
  clear hm h hz
  go_enter Try.func135, Try.ntmps135
  go_wp2_with fail
  go_quiet ((go_at_call 136; exact Calls.quiet_of_same (HM.out _)))
  obtain ⟨W1, e1⟩ : ∃ W1, W1 = w.drewN nq := ⟨_, rfl⟩
  rw [← e1]
  have HB1 := Lib.hid (show Blk W1 b #[.int .u64 key, .int .u64 k] 111 from by rw [e1]; exact HB.out.drewN _)
  have HG1 := Lib.hid (show w.grownBy W1 (some b) from by rw [e1]; exact grown_drewN (grown_refl _ _) _)
  clear p0 p1 e1
  have p0 := HB1.out.cell 0
  have p1 := HB1.out.cell 1
  simp only [List.getElem?_toArray, List.getElem?_cons_zero, List.getElem?_cons_succ] at p0 p1
  have pf := HB1.out.frozen
  go_wp2_with fail
  go_ret
  exact ⟨rfl, HB1.out.set 1 _, grown_set HG1.out _ _⟩
end Go.Proofs.Ytbhikceekldenaa.Hb

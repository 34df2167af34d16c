/- A list as a source. -/
import Derived.Test.YtbhikceekldenaaHbBelowL
namespace Go.Proofs.Ytbhikceekldenaa.Hb
set_option linter.unusedVariables false
open Go.RowKit

/-- A list's numbers, then 0. -/
def numL (l : List Int) (k : Nat) : Int := l.getD k 0
/-- A list that has handed out k numbers. -/
def LstAt (b : Nat) (A : Option Addr) (cap : Nat) (l : List Int) (k : Nat) (w : World) : Prop :=
  Blk w b #[.slice A l.length cap, .int .i64 k] 62 ∧ (l = [] ∨ ∃ ad, A = some ad ∧ ad.block ≠ b ∧ ∀ i, i < l.length → w.cell? (ad.add i) = some (.int .u64 (l.getD i 0)))
theorem add_block (ad : Addr) (i : Nat) : (ad.add i).block = ad.block := by unfold Addr.add; split <;> rfl
theorem LstAt.keep {b N0 : Nat} {A : Option Addr} {cap : Nat} {l : List Int} {k : Nat} {W W' : World} (h : LstAt b A cap l k W) (hb : b < N0) (hA : ∀ ad, A = some ad → l ≠ [] → ad.block < N0) (hB : Below N0 W W') : LstAt b A cap l k W' := by
  refine ⟨(hB.block b hb).trans h.1, ?_⟩
  by_cases hl : l = []
  · exact .inl hl
  · rcases h.2 with h0 | ⟨ad, e, hne, hc⟩
    · exact absurd h0 hl
    · exact .inr ⟨ad, e, hne, fun i hi => (hB.cell (p := ad.add i) (by rw [add_block]; exact hA ad e hl)).trans (hc i hi)⟩
set_option maxRecDepth 100000 in
set_option maxHeartbeats 1000000 in
theorem nextL_any (b : Nat) (A : Option Addr) (cap : Nat) (l : List Int) (hl : l.length ≤ 9223372036854775807) (k : Nat) (w : World) (hk : k ≤ 4611686018427387968) (h : LstAt b A cap l k w) :
    Calls Try.prog 134 #[.pointer (some ⟨b, 0, none⟩)] w fun e W' => e = .returned (.int .u64 (numL l k)) ∧ LstAt b A cap l (k + 1) W' ∧ w.grownBy W' (some b) := by
  obtain ⟨n, hn⟩ : ∃ n, l.length = n := ⟨_, rfl⟩
  obtain ⟨hB, hc⟩ := h
  rw [hn] at hB hl
  obtain ⟨z, hz⟩ : ∃ z, numL l k = z := ⟨_, rfl⟩
  rw [hz]
  have p0 := hB.cell 0
  have p1 := hB.cell 1
  simp only [List.getElem?_toArray, List.getElem?_cons_zero, List.getElem?_cons_succ] at p0 p1
  have pf := hB.frozen
  have hnew : LstAt b A cap l (k + 1) (w.setCell ⟨b, 1, none⟩ (.int .i64 ((k : Int) + 1))) := by
    refine ⟨?_, hc.imp id fun ⟨ad, e, hne, hcc⟩ => ⟨ad, e, hne, fun i hi => ?_⟩⟩
    · rw [hn]; exact hB.set 1 _
    · rw [← hcc i hi]
      exact World.cell?_of_block (Below.heap_setCell _ _ _ _ (by rw [add_block]; exact hne))
  have HNEW := Lib.hid hnew
  have HN := Lib.hid hn
  have hw1 : IntKind.i64.wrap ((k : Int) + 1 - 1) = k := by rw [IntKind.wrap_i64]; omega
  have hg : w.grownBy (w.setCell ⟨b, 1, none⟩ (.int .i64 ((k : Int) + 1))) (some b) := grown_set (grown_refl _ _) _ _
  have HG := Lib.hid hg
  clear hg
  by_cases hlt : k < n
  · have hlt' : decide (((k : Nat) : Int) < ((n : Nat) : Int)) = true := decide_eq_true (by omega)
    have hlt2 : (k : Int) < n := by omega
    obtain ⟨ad, rfl, hne, hcc⟩ : ∃ ad, A = some ad ∧ ad.block ≠ b ∧ ∀ i, i < l.length → w.cell? (ad.add i) = some (.int .u64 (l.getD i 0)) := by
      rcases hc with h0 | h0
      · rw [h0] at hn; simp at hn; omega
      · exact h0
    have y := hcc k (by rw [hn]; exact hlt)
    have e : l.getD k 0 = z := hz
    rw [e] at y
    clear hnew hn hc hcc hz e hB
    go_enter Try.func134, Try.ntmps134
    go_wp2_with fail
    obtain ⟨W1, e1⟩ : ∃ W1, W1 = w.setCell ⟨b, 1, none⟩ (.int .i64 ((k : Int) + 1)) := ⟨_, rfl⟩
    rw [← e1] at HNEW HG ⊢
    have q0 : W1.cell? ⟨b, 0, none⟩ = some (.slice (some ad) n cap) := by have := HNEW.out.1.cell 0; rw [HN.out] at this; exact this
    have q1 : W1.cell? ⟨b, 1, none⟩ = some (.int .i64 ((k : Int) + 1)) := by have := HNEW.out.1.cell 1; exact this
    have qy : W1.cell? (ad.add k) = some (.int .u64 z) := by rw [e1, ← y]; exact World.cell?_of_block (Below.heap_setCell _ _ _ _ (by rw [add_block]; exact hne))
    clear p0 p1 pf y e1 hne
    go_quiet (fail)
    go_wp2_with fail
    go_quiet (fail)
    go_wp2_with fail
    go_ret
    exact ⟨rfl, HNEW.out, grown_drewN (grown_drewN HG.out _) _⟩
  · have hlt' : decide (((k : Nat) : Int) < ((n : Nat) : Int)) = false := decide_eq_false (by omega)
    have hz0 : z = 0 := by rw [← hz, numL, List.getD_eq_getElem?_getD, List.getElem?_eq_none (by omega)]; rfl
    subst hz0
    clear hnew hn hc hz hB
    go_enter Try.func134, Try.ntmps134
    go_wp2_with fail
    obtain ⟨W1, e1⟩ : ∃ W1, W1 = w.setCell ⟨b, 1, none⟩ (.int .i64 ((k : Int) + 1)) := ⟨_, rfl⟩
    rw [← e1] at HNEW HG ⊢
    have q0 : W1.cell? ⟨b, 0, none⟩ = some (.slice A n cap) := by have := HNEW.out.1.cell 0; rw [HN.out] at this; exact this
    have q1 : W1.cell? ⟨b, 1, none⟩ = some (.int .i64 ((k : Int) + 1)) := by have := HNEW.out.1.cell 1; exact this
    clear p0 p1 pf e1
    go_quiet (fail)
    go_wp2_with fail
    go_ret
    exact ⟨rfl, HNEW.out, grown_drewN HG.out _⟩
end Go.Proofs.Ytbhikceekldenaa.Hb

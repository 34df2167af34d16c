/- Small laws of histograms behind a pointer. -/
import Derived.Test.YteckbgpkoanhfaaHbTurns
namespace Go.Proofs.Yteckbgpkoanhfaa.Hb
set_option linter.unusedVariables false
open Go.RowKit Go.ChangeShapes Go.WideShapes Go.Deep

set_option maxRecDepth 100000 in
theorem add_nil (w : World) : Calls Try.prog 21 #[.pointer none, .int .i64 0, .int .i64 0, .int .i64 0] w fun e w' => e = .returned (.int .i64 8) ∧ Below w.heap.size w w' := by
  go_enter Try.func21, Try.ntmps21
  go_wp2
  go_ret
  exact ⟨rfl, Below.refl _ _⟩
theorem HM.new {base g : Nat} {h : H} {v1 v2 : Value} {W : World} (m : HM base g h v1 v2 W) : HNew base h W (.agg #[.int .i64 h.kind, .int .i64 h.bins, .int .i64 h.classes, v1, v2]) := ⟨_, _, rfl, m.r1, m.r2⟩
theorem HM.rd {base g : Nat} {h : H} {v1 v2 : Value} {W : World} (m : HM base g h v1 v2 W) (ho : okH h) (hl : h.counts.length ≤ 65792 ∧ h.moms.length ≤ 65792) : RdH W h (.agg #[.int .i64 h.kind, .int .i64 h.bins, .int .i64 h.classes, v1, v2]) := m.new.rd ho (by omega) (by omega)
theorem add_lens (h : H) (b t k : Int) : (valO h (addO h b t k)).counts.length = h.counts.length ∧ (valO h (addO h b t k)).moms.length = h.moms.length := by
  by_cases hr : rightP h
  · by_cases hb : addBad h b t
    · rw [add_5 hr hb]; exact ⟨rfl, rfl⟩
    · by_cases hn : k < 0
      · rw [add_1 hr hb hn]; exact ⟨rfl, rfl⟩
      · by_cases h0 : h.kind = 0
        · rw [add_c hr hb hn h0]
          cases lim (h.counts.getD (b * h.classes + t).toNat 0 + k) with
          | none => exact ⟨rfl, rfl⟩
          | some x => exact ⟨by simp [valO], rfl⟩
        · rw [add_m hr hb hn h0]
          cases momentO t k with
          | error e => exact ⟨rfl, rfl⟩
          | ok m =>
            simp only
            cases momO opP (h.moms.getD b.toNat m0) m with
            | error e => exact ⟨rfl, rfl⟩
            | ok m' => exact ⟨rfl, by simp [valO]⟩
  · rw [add_8 hr]; exact ⟨rfl, rfl⟩
theorem add_ok {h : H} (b t k : Int) (ho : okH h) : okH (valO h (addO h b t k)) := by
  cases e : addO h b t k with
  | error x => exact ho
  | ok h' => exact okH_add ho e
theorem new_okH (k b c : Int) : okH (valO h0 (newO k b c)) := by
  cases e : newO k b c with
  | error x => exact ⟨by simp [valO, h0], by simp [valO, h0]⟩
  | ok h' => exact okH_new e
theorem new_right (k b c : Int) : (errO (newO k b c) = 0 ∧ rightP (valO h0 (newO k b c))) ∨ (errO (newO k b c) = 1) := by
  by_cases h : mayP k b c
  · left
    obtain ⟨b1, b2, b3⟩ := id h
    by_cases hk : k = 0
    · rw [new_0 h hk]
      have hbc := bins_classes b1 b2 (show 2 ≤ c by omega) (show c ≤ 256 by omega)
      refine ⟨rfl, h, .inl ⟨hk, ?_, rfl⟩⟩
      simp only [valO, List.length_replicate]
      omega
    · rw [new_1 h hk]
      refine ⟨rfl, h, .inr ⟨hk, rfl, ?_⟩⟩
      simp only [valO, List.length_replicate]
      omega
  · right
    rw [new_not h]; rfl
theorem new_lens (k b c : Int) : (valO h0 (newO k b c)).counts.length ≤ 65792 ∧ (valO h0 (newO k b c)).moms.length ≤ 65792 := by
  cases e : newO k b c with
  | error x => simp [valO, h0]
  | ok h' =>
    rcases new_right k b c with ⟨_, hr⟩ | h1
    · rw [e] at hr
      have := right_small hr
      exact ⟨this.1, by have := this.2; show h'.moms.length ≤ _; simp only [valO] at this; omega⟩
    · rw [e] at h1; cases h1
/-! What is written stays below a bound: all from there on is as it was. -/
theorem grown_own {w w' : World} {N : Nat} {row : Option Nat} (hg : w.grownBy w' row) (hr : ∀ k, row = some k → k < N) {e : TypeId} {size n : Nat} {v : Value} {xs : List Value} (h : w.ownsRow N e size v n xs) : w'.ownsRow N e size v n xs := by
  refine h.kept hg ?_
  rcases h.2 with ⟨rfl, _⟩ | ⟨g, cap, cur, rfl, hb, _⟩
  · exact .inl rfl
  · right
    intro e
    have := hr g (by rw [← e]; rfl)
    omega
theorem grown_blk {w w' : World} {N g : Nat} {row : Option Nat} (hg : w.grownBy w' row) (hr : ∀ k, row = some k → k < N) {cs : Array Value} {t : TypeId} (h : Blk w g cs t) (hN : N ≤ g) : Blk w' g cs t :=
  (hg.block g h.lt (fun e => by have := hr g e.symm; omega)).trans h
theorem HM.grown {N g : Nat} {h : H} {v1 v2 : Value} {w w' : World} {row : Option Nat} (m : HM N g h v1 v2 w) (hg : w.grownBy w' row) (hr : ∀ k, row = some k → k < N) (hN : N ≤ g) : HM N g h v1 v2 w' :=
  ⟨grown_blk hg hr m.blk hN, grown_own hg hr m.r1, grown_own hg hr m.r2⟩
end Go.Proofs.Yteckbgpkoanhfaa.Hb

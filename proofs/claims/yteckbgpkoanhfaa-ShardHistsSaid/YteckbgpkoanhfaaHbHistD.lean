/- The walks of layer hist: moment, Add. -/
import Derived.Test.YteckbgpkoanhfaaHbHistA
namespace Go.Proofs.Yteckbgpkoanhfaa.Hb
open Go.RowKit

/-- What a target of a weight comes to. -/
def momentO (t k : Int) : Except Int Mom := match lim (t * k) with
  | none => .error 6
  | some s => match lim (t * s) with
    | none => .error 6
    | some q => .ok ⟨k, s, q⟩
theorem momentO_1 {t k : Int} (h : lim (t * k) = none) : momentO t k = .error 6 := by unfold momentO; rw [h]
theorem momentO_2 {t k s : Int} (h : lim (t * k) = some s) (h2 : lim (t * s) = none) : momentO t k = .error 6 := by unfold momentO; rw [h]; simp only [h2]
theorem momentO_3 {t k s q : Int} (h : lim (t * k) = some s) (h2 : lim (t * s) = some q) : momentO t k = .ok ⟨k, s, q⟩ := by unfold momentO; rw [h]; simp only [h2]
theorem cells3 {w : World} {g : Nat} {a b c : Value} {t : TypeId} (h : Blk w g #[a, b, c] t) :
    w.cell? ⟨g, 0, none⟩ = some a ∧ w.cell? ⟨g, 1, none⟩ = some b ∧ w.cell? ⟨g, 2, none⟩ = some c := ⟨h.cell 0, h.cell 1, h.cell 2⟩
theorem set3 {W : World} {g : Nat} {x0 x1 x2 : Value} {t : TypeId} (h : Blk W g #[x0, x1, x2] t) (a b c : Value) :
    Blk (((W.setCell ⟨g, 0, none⟩ a).setCell ⟨g, 1, none⟩ b).setCell ⟨g, 2, none⟩ c) g #[a, b, c] t := ((h.set 0 a).set 1 b).set 2 c
theorem below3 {B : Nat} {w W : World} {g : Nat} (h : Below B w W) (hg : B ≤ g) (a b c : Value) :
    Below B w (((W.setCell ⟨g, 0, none⟩ a).setCell ⟨g, 1, none⟩ b).setCell ⟨g, 2, none⟩ c) :=
  ((h.setCell (p := ⟨g, 0, none⟩) hg a).setCell (p := ⟨g, 1, none⟩) hg b).setCell (p := ⟨g, 2, none⟩) hg c
theorem size_mom : (Try.prog.info? 52).map (·.size) = some 3 := by kernel_rfl
theorem new3 (w : World) : Blk (w.alloc (.cells #[.int .i64 0, .int .i64 0, .int .i64 0] 52)) w.heap.size #[.int .i64 0, .int .i64 0, .int .i64 0] 52 ∧ Below w.heap.size w (w.alloc (.cells #[.int .i64 0, .int .i64 0, .int .i64 0] 52)) ∧ w.heap.size < (w.alloc (.cells #[.int .i64 0, .int .i64 0, .int .i64 0] 52)).heap.size :=
  ⟨Blk.new _ _ _, (Below.refl _ _).alloc (Nat.le_refl _) _, by simp⟩
set_option maxHeartbeats 1000000 in
theorem moment_any (t k : Int) (ht : inR t) (hk : inR k) (w : World) : Calls Try.prog 46 #[.int .i64 t, .int .i64 k] w fun e w' => e = .returned (momE (momentO t k)) ∧ Below w.heap.size w w' := by
  have hn3 := new3 w
  cases h1 : lim (t * k) with
  | none =>
    rw [momentO_1 h1]
    have hp := fun w => pproduct_any t k ht hk w
    unfold PProd at hp
    rw [h1] at hp
    have HP := Lib.hid hp
    have e6 : ((6 : Int) != 0) = true := rfl
    clear hp ht hk h1
    go_enter Try.func46, Try.ntmps46
    go_wp2_with fail
    obtain ⟨kA, bA, sA⟩ := hn3
    refine (HP.out _).mono ?_
    rintro e w1 ⟨rfl, hb1⟩
    have kA1 := kA.below hb1
    obtain ⟨p0, p1, p2⟩ := cells3 kA1
    have pf := kA1.frozen
    simp only [res]
    go_wp2_with fail
    refine bodyPost_ret (results_ct rfl _ _ w.heap.size 52 _ _ rfl (set3 kA1 _ _ _) Try.underlying52 rfl size_mom) rfl ?_
    exact ⟨rfl, below3 (bA.trans (hb1.mono (by omega))) (Nat.le_refl _) _ _ _⟩
  | some s =>
    have hs := lim_some h1
    have hp := fun w => pproduct_any t k ht hk w
    have hp2 := fun w => pproduct_any t s ht (by rw [hs.1]; exact hs.2) w
    unfold PProd at hp hp2
    rw [h1] at hp
    have e6 : ((6 : Int) != 0) = true := rfl
    have e0 : ((0 : Int) != 0) = false := rfl
    cases h2 : lim (t * s) with
    | none =>
      rw [momentO_2 h1 h2]
      rw [h2] at hp2
      have HP := Lib.hid hp
      have HP2 := Lib.hid hp2
      clear hp hp2 ht hk h1 h2 hs
      go_enter Try.func46, Try.ntmps46
      go_wp2_with fail
      obtain ⟨kA, bA, sA⟩ := hn3
      refine (HP.out _).mono ?_
      rintro e w1 ⟨rfl, hb1⟩
      have kA1 := kA.below hb1
      have sA1 := Nat.lt_of_lt_of_le sA hb1.size
      simp only [res]
      go_wp2_with fail
      refine (HP2.out _).mono ?_
      rintro e w2 ⟨rfl, hb2⟩
      have kA2 := kA1.below hb2
      obtain ⟨p0, p1, p2⟩ := cells3 kA2
      have pf := kA2.frozen
      simp only [res]
      go_wp2_with fail
      refine bodyPost_ret (results_ct rfl _ _ w.heap.size 52 _ _ rfl (set3 kA2 _ _ _) Try.underlying52 rfl size_mom) rfl ?_
      exact ⟨rfl, below3 (bA.trans ((hb1.mono (by omega)).trans (hb2.mono (by omega)))) (Nat.le_refl _) _ _ _⟩
    | some q =>
      rw [momentO_3 h1 h2]
      rw [h2] at hp2
      have HP := Lib.hid hp
      have HP2 := Lib.hid hp2
      clear hp hp2 ht hk h1 h2 hs
      go_enter Try.func46, Try.ntmps46
      go_wp2_with fail
      obtain ⟨kA, bA, sA⟩ := hn3
      refine (HP.out _).mono ?_
      rintro e w1 ⟨rfl, hb1⟩
      have kA1 := kA.below hb1
      have sA1 := Nat.lt_of_lt_of_le sA hb1.size
      simp only [res]
      go_wp2_with fail
      refine (HP2.out _).mono ?_
      rintro e w2 ⟨rfl, hb2⟩
      have kA2 := kA1.below hb2
      obtain ⟨p0, p1, p2⟩ := cells3 kA2
      have pf := kA2.frozen
      simp only [res]
      go_wp2_with fail
      refine bodyPost_ret (results_ct rfl _ _ w.heap.size 52 _ _ rfl (set3 kA2 _ _ _) Try.underlying52 rfl size_mom) rfl ?_
      exact ⟨rfl, below3 (bA.trans ((hb1.mono (by omega)).trans (hb2.mono (by omega)))) (Nat.le_refl _) _ _ _⟩
end Go.Proofs.Yteckbgpkoanhfaa.Hb

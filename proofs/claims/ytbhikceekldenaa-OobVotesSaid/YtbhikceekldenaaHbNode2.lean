/- Whether a node is right, by itself: the walk. -/
import Derived.Test.YtbhikceekldenaaHbGrvP
namespace Go.Proofs.Ytbhikceekldenaa.Hb
set_option linter.unusedVariables false
set_option linter.unusedSimpArgs false
open Go.RowKit

theorem Blk.cells6 {w : World} {g : Nat} {a b c d e f : Value} {t : TypeId} (x : Blk w g #[a, b, c, d, e, f] t) :
    w.cell? ⟨g, 0, none⟩ = some a ∧ w.cell? ⟨g, 1, none⟩ = some b ∧ w.cell? ⟨g, 2, none⟩ = some c ∧ w.cell? ⟨g, 3, none⟩ = some d ∧ w.cell? ⟨g, 4, none⟩ = some e ∧ w.cell? ⟨g, 5, none⟩ = some f :=
  ⟨x.cell 0, x.cell 1, x.cell 2, x.cell 3, x.cell 4, x.cell 5⟩
theorem target_any (k cl b t d l p x : Int) (w : World) : Calls Try.prog 44 #[.agg #[.int .i64 k, .int .i64 cl, .int .i64 b, .int .i64 t, .int .i64 d, .int .i64 l, .int .i64 p], .int .i64 x] w fun e w' => e = .returned (.bool (tgtB k cl x)) ∧ Below w.heap.size w w' := by
  by_cases hk : k = 0
  · have k1 : (k == 0) = true := beq_iff_eq.2 hk
    have HK := Lib.hid hk
    clear hk
    go_enter Try.func44, Try.ntmps44
    go_wp2
    all_goals
      go_ret
      refine ⟨ret_bool ?_, (Below.refl _ _).alloc (Nat.le_refl _) _⟩
      unfold tgtB
      rw [if_pos HK.out]
      first
      | (refine (decide_eq_false ?_).symm; omega)
      | (refine (decide_eq_true ?_).symm; omega)
      | (refine decide_eq_decide.2 ?_; omega)
  · have k1 : (k == 0) = false := beq_eq_false_iff_ne.2 hk
    have HK := Lib.hid hk
    clear hk
    go_enter Try.func44, Try.ntmps44
    go_wp2
    all_goals
      go_ret
      refine ⟨ret_bool ?_, (Below.refl _ _).alloc (Nat.le_refl _) _⟩
      unfold tgtB
      rw [if_neg HK.out]
      first
      | (refine (decide_eq_false ?_).symm; omega)
      | (refine (decide_eq_true ?_).symm; omega)
      | (refine decide_eq_decide.2 ?_; omega)
set_option maxRecDepth 100000 in
set_option maxHeartbeats 4000000 in
theorem nright_any (cols bins kind classes : Int) (x : Nd) (hx : x.ok) (w : World) : Calls Try.prog 75 #[.agg #[.int .i64 cols, .int .i64 bins, .int .i64 kind, .int .i64 classes], ndV x] w fun e w' => e = .returned (.bool (decide (oneP cols bins kind classes x))) ∧ Below w.heap.size w w' := by
  have KL := Lib.hid (fun w => nleaf_any x w)
  obtain ⟨R, hR⟩ : ∃ R, decide (oneP cols bins kind classes x) = R := ⟨_, rfl⟩
  rw [hR]
  have HR := Lib.hid hR
  clear hR
  obtain ⟨f, b, l, c, s, k⟩ := x
  simp only [ndV] at KL ⊢
  obtain ⟨lf, hlf⟩ : ∃ lf, (f == -1) = lf := ⟨_, rfl⟩
  rw [hlf] at KL
  go_enter Try.func75, Try.ntmps75
  go_wp2_with fail
  refine (KL.out _).mono ?_
  rintro e w1 ⟨rfl, hb⟩
  obtain ⟨k0, k1, k2, be⟩ := boxes_f w #[.int .i64 cols, .int .i64 bins, .int .i64 kind, .int .i64 classes] #[.int .i64 f, .int .i64 b, .int .i64 l, .int .i64 c, .int .i64 s, .int .i64 k] #[.int .i64 f, .int .i64 b, .int .i64 l, .int .i64 c, .int .i64 s, .int .i64 k] 94 88 88 _ rfl
  replace k0 := k0.below hb
  replace k1 := k1.below hb
  replace k2 := k2.below hb
  replace be := be.trans (hb.mono (by simp; omega))
  clear hb
  have p0 := k0.cell 0
  have p1 := k0.cell 1
  have p2 := k0.cell 2
  have p3 := k0.cell 3
  simp only [List.getElem?_toArray, List.getElem?_cons_zero, List.getElem?_cons_succ] at p0 p1 p2 p3
  obtain ⟨q0, q1, q2, q3, q4, q5⟩ := k1.cells6
  obtain ⟨r0, r1, r2, r3, r4, r5⟩ := k2.cells6
  have r6 := fun i => k2.frozen i
  have hl2 := k2.lt
  have HLF := Lib.hid hlf
  have HX := Lib.hid hx
  cases lf with
  | true =>
    obtain ⟨kc, hkc⟩ : ∃ kc, (kind == 0) = kc := ⟨_, rfl⟩
    have HKC := Lib.hid hkc
    cases kc with
    | true =>
      clear hx hlf
      go_wp2_with fail
      all_goals
        go_ret
        refine ⟨ret_bool ?_, ((be.setCell (p := ⟨w.heap.size + 1 + 1, 0, none⟩) (by simp; omega) _).setCell (p := ⟨w.heap.size + 1 + 1, 3, none⟩) (by simp; omega) _)⟩
        rw [← HR.out]
        have e1 : f = -1 := beq_iff_eq.1 HLF.out
        have e2 : kind = 0 := beq_iff_eq.1 HKC.out
        first
        | (refine (decide_eq_false ?_).symm; unfold oneP; dsimp only; rw [if_pos e1, if_pos e2]; omega)
        | (refine (decide_eq_true ?_).symm; unfold oneP; dsimp only; rw [if_pos e1, if_pos e2]; omega)
        | (refine decide_eq_decide.2 ?_; unfold oneP; dsimp only; rw [if_pos e1, if_pos e2]; omega)
    | false =>
      clear hlf
      go_wp2_with fail
      refine (KL.out _).mono ?_
      rintro e w2 ⟨rfl, hb⟩
      clear p0 p1 p2 p3 q0 q1 q2 q3 q4 q5 r0 r1 r2 r3 r4 r5 r6
      replace k0 := k0.below hb
      replace k1 := k1.below hb
      replace k2 := k2.below hb
      replace be := be.trans (hb.mono be.size)
      clear hb
      have p0 := k0.cell 0
      have p1 := k0.cell 1
      have p2 := k0.cell 2
      have p3 := k0.cell 3
      simp only [List.getElem?_toArray, List.getElem?_cons_zero, List.getElem?_cons_succ] at p0 p1 p2 p3
      obtain ⟨q0, q1, q2, q3, q4, q5⟩ := k1.cells6
      obtain ⟨r0, r1, r2, r3, r4, r5⟩ := k2.cells6
      have r6 := fun i => k2.frozen i
      have hl2 := k2.lt
      by_cases hkb : k < 1 ∨ 1048576 < k
      · clear hx
        go_wp2_with fail
        all_goals
          go_ret
          refine ⟨ret_bool ?_, (((be.setCell (p := ⟨w.heap.size + 1 + 1, 0, none⟩) (by simp; omega) _).setCell (p := ⟨w.heap.size + 1 + 1, 4, none⟩) (by simp; omega) _).setCell (p := ⟨w.heap.size + 1 + 1, 5, none⟩) (by simp; omega) _)⟩
          rw [← HR.out]
          have e1 : f = -1 := beq_iff_eq.1 HLF.out
          have e2 : ¬ kind = 0 := beq_eq_false_iff_ne.1 HKC.out
          first
          | (refine (decide_eq_false ?_).symm; unfold oneP; dsimp only; rw [if_pos e1, if_neg e2]; omega)
          | (refine (decide_eq_true ?_).symm; unfold oneP; dsimp only; rw [if_pos e1, if_neg e2]; omega)
          | (refine decide_eq_decide.2 ?_; unfold oneP; dsimp only; rw [if_pos e1, if_neg e2]; omega)
      · clear hx
        have hkb1 : 1 ≤ k := by omega
        have hkb2 : k ≤ 1048576 := by omega
        clear hkb
        go_wp2_with fail
        all_goals
          go_ret
          refine ⟨ret_bool ?_, (((be.setCell (p := ⟨w.heap.size + 1 + 1, 0, none⟩) (by simp; omega) _).setCell (p := ⟨w.heap.size + 1 + 1, 4, none⟩) (by simp; omega) _).setCell (p := ⟨w.heap.size + 1 + 1, 5, none⟩) (by simp; omega) _)⟩
          rw [← HR.out]
          have e1 : f = -1 := beq_iff_eq.1 HLF.out
          have e2 : ¬ kind = 0 := beq_eq_false_iff_ne.1 HKC.out
          first
          | (refine (decide_eq_false ?_).symm; unfold oneP; dsimp only; rw [if_pos e1, if_neg e2]; omega)
          | (refine (decide_eq_true ?_).symm; unfold oneP; dsimp only; rw [if_pos e1, if_neg e2]; omega)
          | (refine decide_eq_decide.2 ?_; unfold oneP; dsimp only; rw [if_pos e1, if_neg e2]; omega)
  | false =>
    clear hx hlf
    go_wp2_with fail
    refine (KL.out _).mono ?_
    rintro e w2 ⟨rfl, hb⟩
    clear p0 p1 p2 p3 q0 q1 q2 q3 q4 q5 r0 r1 r2 r3 r4 r5 r6
    replace k0 := k0.below hb
    replace k1 := k1.below hb
    replace k2 := k2.below hb
    replace be := be.trans (hb.mono be.size)
    clear hb
    have p0 := k0.cell 0
    have p1 := k0.cell 1
    have p2 := k0.cell 2
    have p3 := k0.cell 3
    simp only [List.getElem?_toArray, List.getElem?_cons_zero, List.getElem?_cons_succ] at p0 p1 p2 p3
    obtain ⟨q0, q1, q2, q3, q4, q5⟩ := k1.cells6
    obtain ⟨r0, r1, r2, r3, r4, r5⟩ := k2.cells6
    have r6 := fun i => k2.frozen i
    have hl2 := k2.lt
    go_wp2_with fail
    all_goals
      go_ret
      refine ⟨ret_bool ?_, (((be.setCell (p := ⟨w.heap.size + 1 + 1, 0, none⟩) (by simp; omega) _).setCell (p := ⟨w.heap.size + 1 + 1, 1, none⟩) (by simp; omega) _).setCell (p := ⟨w.heap.size + 1 + 1, 2, none⟩) (by simp; omega) _)⟩
      rw [← HR.out]
      have e1 : ¬ f = -1 := beq_eq_false_iff_ne.1 HLF.out
      first
      | (refine (decide_eq_false ?_).symm; unfold oneP; dsimp only; rw [if_neg e1]; omega)
      | (refine (decide_eq_true ?_).symm; unfold oneP; dsimp only; rw [if_neg e1]; omega)
      | (refine decide_eq_decide.2 ?_; unfold oneP; dsimp only; rw [if_neg e1]; omega)
end Go.Proofs.Ytbhikceekldenaa.Hb

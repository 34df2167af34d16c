/- Texts joined: the walks and the plain laws that the claim HistSums rests on. -/
import Derived.Test.YteckbgpkoanhfaaMHistSums1
import Derived.Deep.RegionWith
section
-- Printed by a program of the session's over the kit's print.
namespace Go.Proofs.Yteckbgpkoanhfaa.Pr
open Go.RowKit Go.Proofs.YteckbgpkoanhfaaW.PrintWords Go.Proofs.YteckbgpkoanhfaaW.PrintLast Go.Proofs.YteckbgpkoanhfaaW.PrintMore
attribute [local go_sem] max2_int min2_int max_two min_two max_three min_three max_four min_four   -- for this text's walks alone
set_option linter.unusedVariables false
set_option linter.unusedSimpArgs false

/-! ### hornbeamref12_Sum: function 26 -/
mutual
def hornbeamref12_Sum.j0 : Nat → Int → Int → Bool → Int → Int → Int → List Int → List (S52) → Option (List Int × Int × Int × Int × Int)
  | 0, _, _, _, _, _, _, _, _ => none
  | k + 1, x1, x2, x33, x150000, x150001, x150002, x150003, x150004 => if x33 = true then (some (([] : List Int), 0, 0, 0, 1)) else (if 0 ≤ x150002 then (if (x150002 : Int).toNat ≤ 35184372088832 then (hornbeamref12_Sum.l0 k x2 (List.replicate (x150002 : Int).toNat 0) x1 x150000 x150001 x150002 x150003 x150004 0 0 0) else (none)) else (none))
def hornbeamref12_Sum.l0 : Nat → Int → List Int → Int → Int → Int → Int → List Int → List (S52) → Int → Int → Int → Option (List Int × Int × Int × Int × Int)
  | 0, _, _, _, _, _, _, _, _, _, _, _ => none
  | k + 1, x2, x9, x11, x150000, x150001, x150002, x150003, x150004, x156000, x156001, x156002 => if x11 < x2 then (hornbeamref12_Sum.l1 k x2 x9 x11 0 x150000 x150001 x150002 x150003 x150004 x156000 x156001 x156002) else (some (x9, x156000, x156001, x156002, 0))
def hornbeamref12_Sum.l1 : Nat → Int → List Int → Int → Int → Int → Int → Int → List Int → List (S52) → Int → Int → Int → Option (List Int × Int × Int × Int × Int)
  | 0, _, _, _, _, _, _, _, _, _, _, _, _ => none
  | k + 1, x2, x9, x11, x12, x150000, x150001, x150002, x150003, x150004, x156000, x156001, x156002 => if x12 < x150002 then (if 0 ≤ x12 then (if x12 < (x9.length : Int) then (if 0 ≤ (wrap64 ((wrap64 (x11 * x150002)) + x12)) then (if (wrap64 ((wrap64 (x11 * x150002)) + x12)) < (x150003.length : Int) then ((hornbeamref04_Plus.f (rd x9 x12) (rd x150003 (wrap64 ((wrap64 (x11 * x150002)) + x12)))).bind fun bt158 => (if bt158.2 = 0 then (hornbeamref12_Sum.l1 k x2 (x9.set (x12 : Int).toNat bt158.1) x11 (wrap64 (x12 + 1)) x150000 x150001 x150002 x150003 x150004 x156000 x156001 x156002) else (some (([] : List Int), 0, 0, 0, bt158.2)))) else (none)) else (none)) else (none)) else (none)) else (if x150000 = 1 then (if 0 ≤ x11 then (if x11 < (x150004.length : Int) then ((hornbeamref12_plus.f x156000 x156001 x156002 ((rd_T52 x150004 x11).f0) ((rd_T52 x150004 x11).f1) ((rd_T52 x150004 x11).f2)).bind fun bt162 => (if bt162.2.2.2 = 0 then (hornbeamref12_Sum.l0 k x2 x9 (wrap64 (x11 + 1)) x150000 x150001 x150002 x150003 x150004 bt162.1 bt162.2.1 bt162.2.2.1) else (some (([] : List Int), 0, 0, 0, bt162.2.2.2)))) else (none)) else (none)) else (hornbeamref12_Sum.l0 k x2 x9 (wrap64 (x11 + 1)) x150000 x150001 x150002 x150003 x150004 x156000 x156001 x156002))
end
def hornbeamref12_Sum.f (k : Nat) (a0_0 : Int) (a0_1 : Int) (a0_2 : Int) (l0_3 : List Int) (l0_4 : List (S52)) (a1 : Int) (a2 : Int) : Option (List Int × Int × Int × Int × Int) := (hornbeamref12_Right.f a0_0 a0_1 a0_2 l0_3 l0_4).bind fun t151 => (if t151 = true then (if a1 < 0 then (hornbeamref12_Sum.j0 k a1 a2 true a0_0 a0_1 a0_2 l0_3 l0_4) else (if a1 > a2 then (hornbeamref12_Sum.j0 k a1 a2 true a0_0 a0_1 a0_2 l0_3 l0_4) else (hornbeamref12_Sum.j0 k a1 a2 (decide (a2 > a0_1)) a0_0 a0_1 a0_2 l0_3 l0_4))) else (some (([] : List Int), 0, 0, 0, 8)))
theorem hornbeamref12_Sum.mono_l : ∀ k, (∀ y0 y1 y2 y3 y4 y5 y6 y7, LeO (hornbeamref12_Sum.j0 k y0 y1 y2 y3 y4 y5 y6 y7) (hornbeamref12_Sum.j0 (k + 1) y0 y1 y2 y3 y4 y5 y6 y7)) ∧ (∀ y0 y1 y2 y3 y4 y5 y6 y7 y8 y9 y10, LeO (hornbeamref12_Sum.l0 k y0 y1 y2 y3 y4 y5 y6 y7 y8 y9 y10) (hornbeamref12_Sum.l0 (k + 1) y0 y1 y2 y3 y4 y5 y6 y7 y8 y9 y10)) ∧ (∀ y0 y1 y2 y3 y4 y5 y6 y7 y8 y9 y10 y11, LeO (hornbeamref12_Sum.l1 k y0 y1 y2 y3 y4 y5 y6 y7 y8 y9 y10 y11) (hornbeamref12_Sum.l1 (k + 1) y0 y1 y2 y3 y4 y5 y6 y7 y8 y9 y10 y11))
  | 0 => ⟨fun _ _ _ _ _ _ _ _ r h => by simp [hornbeamref12_Sum.j0] at h, fun _ _ _ _ _ _ _ _ _ _ _ r h => by simp [hornbeamref12_Sum.l0] at h, fun _ _ _ _ _ _ _ _ _ _ _ _ r h => by simp [hornbeamref12_Sum.l1] at h⟩
  | k + 1 => by
    obtain ⟨ih0, ih1, ih2⟩ := hornbeamref12_Sum.mono_l k
    refine ⟨?_, ?_, ?_⟩
    · intro y0 y1 y2 y3 y4 y5 y6 y7
      unfold hornbeamref12_Sum.j0
      repeat' first
      | (with_reducible exact ih0 _ _ _ _ _ _ _ _)
      | (with_reducible exact ih1 _ _ _ _ _ _ _ _ _ _ _)
      | (with_reducible exact ih2 _ _ _ _ _ _ _ _ _ _ _ _)
      | (with_reducible exact LeO.refl _)
      | (with_reducible exact LeO.none _)
      | (with_reducible refine LeO.ite ?_ ?_)
      | (with_reducible refine LeO.bind ?_ (fun _ => ?_))
      | exact ih0 _ _ _ _ _ _ _ _
      | exact ih1 _ _ _ _ _ _ _ _ _ _ _
      | exact ih2 _ _ _ _ _ _ _ _ _ _ _ _
      | exact LeO.none _
      | refine LeO.ite ?_ ?_
      | refine LeO.bind ?_ (fun _ => ?_)
    · intro y0 y1 y2 y3 y4 y5 y6 y7 y8 y9 y10
      unfold hornbeamref12_Sum.l0
      repeat' first
      | (with_reducible exact ih0 _ _ _ _ _ _ _ _)
      | (with_reducible exact ih1 _ _ _ _ _ _ _ _ _ _ _)
      | (with_reducible exact ih2 _ _ _ _ _ _ _ _ _ _ _ _)
      | (with_reducible exact LeO.refl _)
      | (with_reducible exact LeO.none _)
      | (with_reducible refine LeO.ite ?_ ?_)
      | (with_reducible refine LeO.bind ?_ (fun _ => ?_))
      | exact ih0 _ _ _ _ _ _ _ _
      | exact ih1 _ _ _ _ _ _ _ _ _ _ _
      | exact ih2 _ _ _ _ _ _ _ _ _ _ _ _
      | exact LeO.none _
      | refine LeO.ite ?_ ?_
      | refine LeO.bind ?_ (fun _ => ?_)
    · intro y0 y1 y2 y3 y4 y5 y6 y7 y8 y9 y10 y11
      unfold hornbeamref12_Sum.l1
      repeat' first
      | (with_reducible exact ih0 _ _ _ _ _ _ _ _)
      | (with_reducible exact ih1 _ _ _ _ _ _ _ _ _ _ _)
      | (with_reducible exact ih2 _ _ _ _ _ _ _ _ _ _ _ _)
      | (with_reducible exact LeO.refl _)
      | (with_reducible exact LeO.none _)
      | (with_reducible refine LeO.ite ?_ ?_)
      | (with_reducible refine LeO.bind ?_ (fun _ => ?_))
      | exact ih0 _ _ _ _ _ _ _ _
      | exact ih1 _ _ _ _ _ _ _ _ _ _ _
      | exact ih2 _ _ _ _ _ _ _ _ _ _ _ _
      | exact LeO.none _
      | refine LeO.ite ?_ ?_
      | refine LeO.bind ?_ (fun _ => ?_)
theorem hornbeamref12_Sum.mono : ∀ a0 a1 a2 a3 a4 a5 a6 k, LeO (hornbeamref12_Sum.f k a0 a1 a2 a3 a4 a5 a6) (hornbeamref12_Sum.f (k + 1) a0 a1 a2 a3 a4 a5 a6) := by
  intro a0 a1 a2 a3 a4 a5 a6 k
  obtain ⟨ih0, ih1, ih2⟩ := hornbeamref12_Sum.mono_l k
  unfold hornbeamref12_Sum.f
  repeat' first
      | (with_reducible exact ih0 _ _ _ _ _ _ _ _)
      | (with_reducible exact ih1 _ _ _ _ _ _ _ _ _ _ _)
      | (with_reducible exact ih2 _ _ _ _ _ _ _ _ _ _ _ _)
      | (with_reducible exact LeO.refl _)
      | (with_reducible exact LeO.none _)
      | (with_reducible refine LeO.ite ?_ ?_)
      | (with_reducible refine LeO.bind ?_ (fun _ => ?_))
      | exact ih0 _ _ _ _ _ _ _ _
      | exact ih1 _ _ _ _ _ _ _ _ _ _ _
      | exact ih2 _ _ _ _ _ _ _ _ _ _ _ _
      | exact LeO.none _
      | refine LeO.ite ?_ ?_
      | refine LeO.bind ?_ (fun _ => ?_)
def hornbeamref12_Sum.T13 : Bool × List (List Nat × List Nat) := (true, [([], []), ([], []), ([0, 1], [0, 1]), ([2], [2]), ([], []), ([4], [4]), ([], []), ([], []), ([7], [7]), ([6, 8], [6, 8]), ([], []), ([9, 10], [9, 10]), ([5, 11], [5, 11]), ([12], [12]), ([3, 13], [3, 13]), ([14], [14]), ([15], [15]), ([15], [15]), ([16, 14, 0, 1, 2, 3, 4, 5, 6, 7, 8, 9, 10, 11, 12, 13, 14, 15, 16], [16]), ([17, 18, 0, 1, 2, 3, 4, 5, 6, 7, 8, 9, 10, 11, 12, 13, 14, 15, 16, 17, 18], [17])])
def hornbeamref12_Sum.B13 : List Nat := [0, 0, 3, 7, 0, 16, 0, 0, 128, 448, 0, 1984, 4080, 8176, 16383, 32767, 65535, 65535, 131071, 524287]
theorem hornbeamref12_Sum.tab13 : rtab .any (opsOf Try.f26 13) = hornbeamref12_Sum.T13 := by kernel_rfl
theorem hornbeamref12_Sum.bits13 : waitsOk hornbeamref12_Sum.T13.2 hornbeamref12_Sum.B13 = true := by kernel_rfl
def hornbeamref12_Sum.T18 : Bool × List (List Nat × List Nat) := (true, [([], []), ([], []), ([1], [1]), ([], []), ([2, 3], [2, 3]), ([4], [4]), ([0, 5], [0, 5]), ([6], [6]), ([7], [7]), ([7], [7]), ([], []), ([10, 8, 6, 0, 1, 2, 3, 4, 5, 6, 7, 8, 10], [8, 10]), ([9, 11, 0, 1, 2, 3, 4, 5, 6, 7, 8, 9, 10, 11], [9])])
def hornbeamref12_Sum.B18 : List Nat := [0, 0, 2, 0, 14, 30, 63, 127, 255, 255, 0, 1535, 4095]
theorem hornbeamref12_Sum.tab18 : rtab .any (opsOf Try.f26 18) = hornbeamref12_Sum.T18 := by kernel_rfl
theorem hornbeamref12_Sum.bits18 : waitsOk hornbeamref12_Sum.T18.2 hornbeamref12_Sum.B18 = true := by kernel_rfl
set_option maxHeartbeats 8000000 in
set_option maxRecDepth 100000 in
theorem hornbeamref12_Sum.calls (k : Nat) (a0_0 : Int) (a0_1 : Int) (a0_2 : Int) (A0_3 : Option Addr) (c0_3 : Nat) (l0_3 : List Int) (A0_4 : Option Addr) (c0_4 : Nat) (l0_4 : List (S52)) (a1 : Int) (a2 : Int) (r1 : List Int) (r2 : Int) (r3 : Int) (r4 : Int) (r5 : Int) (w : World) (hr0_3 : Kd.C (Kd.int .i64) w A0_3 l0_3.length l0_3) (hc0_3 : l0_3.length ≤ c0_3) (hr0_4 : Kd.C k52 w A0_4 l0_4.length l0_4) (hc0_4 : l0_4.length ≤ c0_4) (h : hornbeamref12_Sum.f k a0_0 a0_1 a0_2 l0_3 l0_4 a1 a2 = some (r1, r2, r3, r4, r5)) :
    Calls Try.prog 26 #[.agg #[.int .i64 a0_0, .int .i64 a0_1, .int .i64 a0_2, .slice A0_3 l0_3.length c0_3, .slice A0_4 l0_4.length c0_4], .int .i64 a1, .int .i64 a2] w fun e w' => ∃ v0_ : Value, e = .returned (.tuple #[v0_, .agg #[.int .i64 r2, .int .i64 r3, .int .i64 r4], .int .i64 r5]) ∧ Kd.R (Kd.int .i64) 2 w' w.heap.size (fun _ => True) v0_ r1 ∧ Below w.heap.size w w' := by
  have hu36 := Try.underlying36
  have hu52 := Try.underlying52
  have HR0_3 := Aside0.mk hr0_3
  have HC0_3 := Aside0.mk hc0_3
  clear hr0_3 hc0_3
  have HR0_4 := Aside0.mk hr0_4
  have HC0_4 := Aside0.mk hc0_4
  clear hr0_4 hc0_4
  have HB := Aside0.mk (Below.refl w.heap.size w)
  have H : ((hornbeamref12_Right.f a0_0 a0_1 a0_2 l0_3 l0_4).bind fun t151 => (if t151 = true then (if a1 < 0 then (hornbeamref12_Sum.j0 k a1 a2 true a0_0 a0_1 a0_2 l0_3 l0_4) else (if a1 > a2 then (hornbeamref12_Sum.j0 k a1 a2 true a0_0 a0_1 a0_2 l0_3 l0_4) else (hornbeamref12_Sum.j0 k a1 a2 (decide (a2 > a0_1)) a0_0 a0_1 a0_2 l0_3 l0_4))) else (some (([] : List Int), 0, 0, 0, 8)))) = some (r1, r2, r3, r4, r5) := h
  clear h
  replace H := Option.bind_eq_some_iff.mp H
  obtain ⟨t151, A40, H⟩ := H
  replace H : (if t151 = true then (if a1 < 0 then (hornbeamref12_Sum.j0 k a1 a2 true a0_0 a0_1 a0_2 l0_3 l0_4) else (if a1 > a2 then (hornbeamref12_Sum.j0 k a1 a2 true a0_0 a0_1 a0_2 l0_3 l0_4) else (hornbeamref12_Sum.j0 k a1 a2 (decide (a2 > a0_1)) a0_0 a0_1 a0_2 l0_3 l0_4))) else (some (([] : List Int), 0, 0, 0, 8))) = some (r1, r2, r3, r4, r5) := H
  have A4 := Aside0.mk A40
  clear A40
  by_cases c5 : t151 = true
  · subst c5
    have H1 : (if a1 < 0 then (hornbeamref12_Sum.j0 k a1 a2 true a0_0 a0_1 a0_2 l0_3 l0_4) else (if a1 > a2 then (hornbeamref12_Sum.j0 k a1 a2 true a0_0 a0_1 a0_2 l0_3 l0_4) else (hornbeamref12_Sum.j0 k a1 a2 (decide (a2 > a0_1)) a0_0 a0_1 a0_2 l0_3 l0_4))) = some (r1, r2, r3, r4, r5) := by rw [if_pos rfl] at H; exact H
    clear H
    have H := H1
    clear H1
    have HC6 := Aside0.mk H
    clear H
    go_enter Try.func26, Try.ntmps26
    go_upto_region 3 with (first | ((with_reducible refine gate_dst (N := 3) rfl ?_); refine box_event ?hg (N := 3) ?hd (cs := #[.int .i64 a0_0, .int .i64 a0_1, .int .i64 a0_2, .slice A0_3 l0_3.length c0_3, .slice A0_4 l0_4.length c0_4]) (t := 36) ?hr ?_; (case hd => rfl); (case hg => rfl); (case hr => first | (go_simp; done) | (go_simp; rfl)); intro gb149 hg w7 hbox hb; have n0_ := Aside0.mk (below_step (by repeat (first | (with_reducible first | exact HB.out | apply below_alloc | apply pw_below_drewN | apply below_drew1) | exact HB.out)) hb); have n1_ := Aside0.mk (hbox); have n2_ := Aside0.mk ((by rw [hg]; exact (below_size (by repeat (first | (with_reducible first | exact HB.out | apply below_alloc | apply pw_below_drewN | apply below_drew1) | exact HB.out))) : w.heap.size ≤ gb149)); have n3_ := Aside0.mk ((by rw [hg]; exact (below_size (by repeat (first | (with_reducible first | exact HB.out | apply below_alloc | apply pw_below_drewN | apply below_drew1) | exact HB.out))) : w.heap.size ≤ gb149)); clear HB; have HB := n0_; have BK149 := n1_; have GW149 := n2_; have GE149 := n3_; clear n0_ n1_ n2_ n3_; clear hb hbox hg) | ((with_reducible refine gate_dst (N := 7) rfl ?_); refine box_event ?hg (N := 7) ?hd (cs := #[.int .i64 0, .int .i64 0, .int .i64 0]) (t := 52) ?hr ?_; (case hd => rfl); (case hg => rfl); (case hr => first | (go_simp; done) | (go_simp; rfl)); intro gb150 hg w8 hbox hb; have n0_ := Aside0.mk (blk_below (g := gb149) (o := .cells #[.int .i64 a0_0, .int .i64 a0_1, .int .i64 a0_2, .slice A0_3 l0_3.length c0_3, .slice A0_4 l0_4.length c0_4] 36 (0, 0)) (by (with_reducible repeat (first | refine blk_drewN ?_ _ | refine blk_drew ?_ | refine blk_alloc ?_ _)); exact BK149.out) hb); have n1_ := Aside0.mk (below_step (by repeat (first | (with_reducible first | exact HB.out | apply below_alloc | apply pw_below_drewN | apply below_drew1 | refine below_set ?_ GE149.out) | exact HB.out)) hb); have n2_ := Aside0.mk (hbox); have n3_ := Aside0.mk ((by rw [hg]; exact (below_size (by repeat (first | (with_reducible first | exact HB.out | apply below_alloc | apply pw_below_drewN | apply below_drew1 | refine below_set ?_ GE149.out) | exact HB.out))) : w.heap.size ≤ gb150)); have n4_ := Aside0.mk ((by rw [hg]; exact (below_size (by repeat (first | (with_reducible first | exact HB.out | apply below_alloc | apply pw_below_drewN | apply below_drew1 | refine below_set ?_ GE149.out) | exact HB.out))) : w.heap.size ≤ gb150)); have n5_ := Aside0.mk ((by rw [hg]; exact Nat.ne_of_lt (blk_lt (g := gb149) (o := .cells #[.int .i64 a0_0, .int .i64 a0_1, .int .i64 a0_2, .slice A0_3 l0_3.length c0_3, .slice A0_4 l0_4.length c0_4] 36 (0, 0)) (by (with_reducible repeat (first | refine blk_drewN ?_ _ | refine blk_drew ?_ | refine blk_alloc ?_ _)); exact BK149.out)) : gb149 ≠ gb150)); have n6_ := Aside0.mk ((by rw [hg]; exact Nat.ne_of_gt (blk_lt (g := gb149) (o := .cells #[.int .i64 a0_0, .int .i64 a0_1, .int .i64 a0_2, .slice A0_3 l0_3.length c0_3, .slice A0_4 l0_4.length c0_4] 36 (0, 0)) (by (with_reducible repeat (first | refine blk_drewN ?_ _ | refine blk_drew ?_ | refine blk_alloc ?_ _)); exact BK149.out)) : gb150 ≠ gb149)); clear BK149; clear HB; have BK149 := n0_; have HB := n1_; have BK150 := n2_; have GW150 := n3_; have GE150 := n4_; have NB149_150 := n5_; have NB150_149 := n6_; clear n0_ n1_ n2_ n3_ n4_ n5_ n6_; clear hb hbox hg; have hnb9 := NB149_150.out; have hnc9 := NB150_149.out; have hcz10_0 : w8.cell? ⟨gb149, 0, none⟩ = some (.int .i64 a0_0) := (blk_cell BK149.out 0).trans rfl; have hcz10_1 : w8.cell? ⟨gb149, 1, none⟩ = some (.int .i64 a0_1) := (blk_cell BK149.out 1).trans rfl; have hcz10_2 : w8.cell? ⟨gb149, 2, none⟩ = some (.int .i64 a0_2) := (blk_cell BK149.out 2).trans rfl; have hcz10_3 : w8.cell? ⟨gb149, 3, none⟩ = some (.slice A0_3 l0_3.length c0_3) := (blk_cell BK149.out 3).trans rfl; have hcz10_4 : w8.cell? ⟨gb149, 4, none⟩ = some (.slice A0_4 l0_4.length c0_4) := (blk_cell BK149.out 4).trans rfl; have hfz10_0 := blk_frozen BK149.out 0; have hfz10_1 := blk_frozen BK149.out 1; have hfz10_2 := blk_frozen BK149.out 2; have hfz10_3 := blk_frozen BK149.out 3; have hfz10_4 := blk_frozen BK149.out 4) | ((with_reducible refine gate_callee (f := 32) rfl ?_); refine goesL_ (some 18) rfl rfl Try.func32 (by kernel_rfl) rfl #[.agg #[.int .i64 a0_0, .int .i64 a0_1, .int .i64 a0_2, .slice A0_3 l0_3.length c0_3, .slice A0_4 l0_4.length c0_4]] rfl (by (try simp only [List.map_toArray, List.map_cons, List.map_nil]); first | done | rfl | (simp only [List.length_drop, List.length_take]; rfl)) ?_; (with_reducible refine (hornbeamref12_Right.calls a0_0 a0_1 a0_2 _ _ l0_3 _ _ l0_4 true _ ?side1 ?side2 ?side3 ?side4 A4.out).mono ?_); (case side1 => repeat (first | exact (Kd.C_below HR0_3.out HB.out) | (with_reducible refine Kd.C_alloc ?_ _) | (with_reducible refine Kd.C_drewN ?_ _) | (with_reducible refine Kd.C_drew ?_))); (case side2 => exact HC0_3.out); (case side3 => repeat (first | exact (Kd.C_below HR0_4.out HB.out) | (with_reducible refine Kd.C_alloc ?_ _) | (with_reducible refine Kd.C_drewN ?_ _) | (with_reducible refine Kd.C_drew ?_))); (case side4 => exact HC0_4.out); rintro e w11 ⟨rfl, hb⟩; refine ⟨_, rfl, ?_⟩; have n0_ := Aside0.mk (blk_below (g := gb149) (o := .cells #[.int .i64 a0_0, .int .i64 a0_1, .int .i64 a0_2, .slice A0_3 l0_3.length c0_3, .slice A0_4 l0_4.length c0_4] 36 (0, 0)) (by (with_reducible repeat (first | refine blk_drewN ?_ _ | refine blk_drew ?_ | refine blk_alloc ?_ _)); exact BK149.out) hb); have n1_ := Aside0.mk (blk_below (g := gb150) (o := .cells #[.int .i64 0, .int .i64 0, .int .i64 0] 52 (0, 0)) (by (with_reducible repeat (first | refine blk_drewN ?_ _ | refine blk_drew ?_ | refine blk_alloc ?_ _)); exact BK150.out) hb); have n2_ := Aside0.mk (below_step (by repeat (first | (with_reducible first | exact HB.out | apply below_alloc | apply pw_below_drewN | apply below_drew1 | refine below_set ?_ GE149.out | refine below_set ?_ GE150.out) | exact HB.out)) hb); clear BK149; clear BK150; clear HB; have BK149 := n0_; have BK150 := n1_; have HB := n2_; clear n0_ n1_ n2_; (try clear hb); (try clear hb2); (try clear hk); (try clear hi)))
    (try simp only [Act.put, List.setIfInBounds_toArray, List.set_cons_zero, List.set_cons_succ])
    go_cut [33] (fun v33 wc => ∃ (kq : Nat) (x33_5 : Bool), v33 = .bool x33_5 ∧ Aside0 (hornbeamref12_Sum.j0 kq a1 a2 x33_5 a0_0 a0_1 a0_2 l0_3 l0_4 = some (r1, r2, r3, r4, r5)) ∧ Aside0 (kq ≤ k) ∧ Aside0 (wc.heap[gb149]? = some (.cells #[.int .i64 a0_0, .int .i64 a0_1, .int .i64 a0_2, (.slice A0_3 l0_3.length c0_3), (.slice A0_4 l0_4.length c0_4)] 36 (0, 0))) ∧ Aside0 (wc.heap[gb150]? = some (.cells #[.int .i64 0, .int .i64 0, .int .i64 0] 52 (0, 0))) ∧ Aside0 (Below w.heap.size w wc))
    case first =>
      have H := HC6.out
      clear HC6
      by_cases c12 : a1 < 0
      · rw [if_pos c12] at H
        have c12b0 : decide (a1 < 0) = true := decide_eq_true c12
        clear c12
        (first | rw [c12b0] | (simp only [i64_w, i32_w]; rw [c12b0]) | skip)
        have H' := Aside0.mk H
        clear H
        go_wp2
        go_meet
        case rel => exact ⟨_, (true), (by first | rfl | (simp; done) | (simp [*]; done)), H', ⟨by first | omega | exact Nat.le_refl _⟩, ⟨by (with_reducible repeat (first | refine blk_drewN ?_ _ | refine blk_drew ?_ | refine blk_alloc ?_ _)); exact BK149.out⟩, ⟨by (with_reducible repeat (first | refine blk_drewN ?_ _ | refine blk_drew ?_ | refine blk_alloc ?_ _)); exact BK150.out⟩, ⟨by repeat (first | (with_reducible first | exact HB.out | apply below_alloc | apply pw_below_drewN | apply below_drew1 | refine below_set ?_ GE149.out | refine below_set ?_ GE150.out) | exact HB.out)⟩⟩
      · rw [if_neg c12] at H
        have c12b0 : decide (a1 < 0) = false := decide_eq_false c12
        clear c12
        (first | rw [c12b0] | (simp only [i64_w, i32_w]; rw [c12b0]) | skip)
        by_cases c13 : a1 > a2
        · rw [if_pos c13] at H
          have c13b0 : decide (a2 < a1) = true := decide_eq_true c13
          clear c13
          have H' := Aside0.mk H
          clear H
          go_wp2
          go_meet
          case rel => exact ⟨_, (true), (by first | rfl | (simp; done) | (simp [*]; done)), H', ⟨by first | omega | exact Nat.le_refl _⟩, ⟨by (with_reducible repeat (first | refine blk_drewN ?_ _ | refine blk_drew ?_ | refine blk_alloc ?_ _)); exact BK149.out⟩, ⟨by (with_reducible repeat (first | refine blk_drewN ?_ _ | refine blk_drew ?_ | refine blk_alloc ?_ _)); exact BK150.out⟩, ⟨by repeat (first | (with_reducible first | exact HB.out | apply below_alloc | apply pw_below_drewN | apply below_drew1 | refine below_set ?_ GE149.out | refine below_set ?_ GE150.out) | exact HB.out)⟩⟩
        · rw [if_neg c13] at H
          have c13b0 : decide (a2 < a1) = false := decide_eq_false c13
          clear c13
          have H' := Aside0.mk H
          clear H
          have hnb14 := NB149_150.out
          have hnc14 := NB150_149.out
          have hcz15_0 : w11.cell? ⟨gb149, 0, none⟩ = some (.int .i64 a0_0) := (blk_cell BK149.out 0).trans rfl
          have hcz15_1 : w11.cell? ⟨gb149, 1, none⟩ = some (.int .i64 a0_1) := (blk_cell BK149.out 1).trans rfl
          have hcz15_2 : w11.cell? ⟨gb149, 2, none⟩ = some (.int .i64 a0_2) := (blk_cell BK149.out 2).trans rfl
          have hcz15_3 : w11.cell? ⟨gb149, 3, none⟩ = some (.slice A0_3 l0_3.length c0_3) := (blk_cell BK149.out 3).trans rfl
          have hcz15_4 : w11.cell? ⟨gb149, 4, none⟩ = some (.slice A0_4 l0_4.length c0_4) := (blk_cell BK149.out 4).trans rfl
          have hfz15_0 := blk_frozen BK149.out 0
          have hfz15_1 := blk_frozen BK149.out 1
          have hfz15_2 := blk_frozen BK149.out 2
          have hfz15_3 := blk_frozen BK149.out 3
          have hfz15_4 := blk_frozen BK149.out 4
          go_wp2
          go_meet
          case rel => exact ⟨_, (decide (a2 > a0_1)), (by first | rfl | (simp; done) | (simp [*]; done)), H', ⟨by first | omega | exact Nat.le_refl _⟩, ⟨by (with_reducible repeat (first | refine blk_drewN ?_ _ | refine blk_drew ?_ | refine blk_alloc ?_ _)); exact BK149.out⟩, ⟨by (with_reducible repeat (first | refine blk_drewN ?_ _ | refine blk_drew ?_ | refine blk_alloc ?_ _)); exact BK150.out⟩, ⟨by repeat (first | (with_reducible first | exact HB.out | apply below_alloc | apply pw_below_drewN | apply below_drew1 | refine below_set ?_ GE149.out | refine below_set ?_ GE150.out) | exact HB.out)⟩⟩
    case rest =>
      clear HC6
      try clear c1
      try clear c2
      try clear p2
      try clear c3
      try clear c5
      try clear c9
      try clear c12
      try clear c12b0
      try clear c13
      try clear c13b0
      try clear c14
      try clear hcz10_0
      try clear hcz10_1
      try clear hcz10_2
      try clear hcz10_3
      try clear hcz10_4
      try clear hcz15_0
      try clear hcz15_1
      try clear hcz15_2
      try clear hcz15_3
      try clear hcz15_4
      try clear hfz10_0
      try clear hfz10_1
      try clear hfz10_2
      try clear hfz10_3
      try clear hfz10_4
      try clear hfz15_0
      try clear hfz15_1
      try clear hfz15_2
      try clear hfz15_3
      try clear hfz15_4
      obtain ⟨kq, x33_5, rfl, HA, HJ5, BK149, BK150, HB⟩ := hcut
      cases kq with
      | zero => exact absurd HA.out (by simp [hornbeamref12_Sum.j0])
      | succ kj5 =>
        have H := HA.out
        clear HA
        simp only [hornbeamref12_Sum.j0] at H
        by_cases c16 : x33_5 = true
        · subst c16
          have H1 : (some (([] : List Int), 0, 0, 0, 1)) = some (r1, r2, r3, r4, r5) := by rw [if_pos rfl] at H; exact H
          clear H
          have H := H1
          clear H1
          simp only [Option.some.injEq, Prod.mk.injEq] at H
          obtain ⟨rfl, rfl, rfl, rfl, rfl⟩ := H
          have hnb17 := NB150_149.out
          have hnc17 := NB149_150.out
          have hcz18_0 : wc.cell? ⟨gb150, 0, none⟩ = some (.int .i64 0) := (blk_cell BK150.out 0).trans rfl
          have hcz18_1 : wc.cell? ⟨gb150, 1, none⟩ = some (.int .i64 0) := (blk_cell BK150.out 1).trans rfl
          have hcz18_2 : wc.cell? ⟨gb150, 2, none⟩ = some (.int .i64 0) := (blk_cell BK150.out 2).trans rfl
          have hfz18_0 := blk_frozen BK150.out 0
          have hfz18_1 := blk_frozen BK150.out 1
          have hfz18_2 := blk_frozen BK150.out 2
          go_wp2
          refine bodyPost_ret (results_list (rs := [.tmp 6, .cell 7 52, .tmp 8]) rfl (by simp) (.tmp (.cell gb150 52 #[.int .i64 0, .int .i64 0, .int .i64 0] (0, 0) _ rfl (by (with_reducible repeat (first | refine blk_drewN ?_ _ | refine blk_drew ?_ | refine blk_alloc ?_ _)); refine blk_put (cs := #[.int .i64 0, .int .i64 0, .int .i64 0]) ?_ 2 _ rfl; (with_reducible repeat (first | refine blk_drewN ?_ _ | refine blk_drew ?_ | refine blk_alloc ?_ _)); refine blk_put (cs := #[.int .i64 0, .int .i64 0, .int .i64 0]) ?_ 1 _ rfl; (with_reducible repeat (first | refine blk_drewN ?_ _ | refine blk_drew ?_ | refine blk_alloc ?_ _)); refine blk_put (cs := #[.int .i64 0, .int .i64 0, .int .i64 0]) ?_ 0 _ rfl; (with_reducible repeat (first | refine blk_drewN ?_ _ | refine blk_drew ?_ | refine blk_alloc ?_ _)); exact BK150.out) Try.underlying52 rfl (by kernel_rfl) (.tmp .nil)))) rfl ?_
          exact ⟨_, by first | rfl | (simp [errW_none, errW_some] <;> rfl) | (simp [*, errW_none, errW_some] <;> rfl), by first | exact Kd.R_nil _ _ _ _ _ | exact Kd.N_nil _ _ _ _ _ | exact Kd.V_nil _ _ _ _ _ | exact Kd.Q_nil _ _ _ _ _ | exact Kd.S_nil _ _ _ _ _, by repeat (first | (with_reducible first | exact HB.out | apply below_alloc | apply pw_below_drewN | apply below_drew1 | refine below_set ?_ GE149.out | refine below_set ?_ GE150.out) | exact HB.out)⟩
        · replace c16 := Bool.eq_false_iff.mpr c16
          subst c16
          have H1 : (if 0 ≤ a0_2 then (if (a0_2 : Int).toNat ≤ 35184372088832 then (hornbeamref12_Sum.l0 kj5 a2 (List.replicate (a0_2 : Int).toNat 0) a1 a0_0 a0_1 a0_2 l0_3 l0_4 0 0 0) else (none)) else (none)) = some (r1, r2, r3, r4, r5) := by rw [if_neg (show ¬ (false = true) by decide)] at H; exact H
          clear H
          have H := H1
          clear H1
          by_cases c19 : 0 ≤ a0_2
          · rw [if_pos c19] at H
            have c19b0 := eq_true c19
            have c19b1 : decide (0 ≤ a0_2) = true := decide_eq_true c19
            clear c19
            by_cases c20 : (a0_2 : Int).toNat ≤ 35184372088832
            · rw [if_pos c20] at H
              have c20b0 := eq_true c20
              have c20b1 : decide ((a0_2 : Int).toNat ≤ 35184372088832) = true := decide_eq_true c20
              clear c20
              obtain ⟨y152, hy152⟩ : ∃ y_ : List Int, y_ = (List.replicate (a0_2 : Int).toNat 0) := ⟨_, rfl⟩
              replace H : (hornbeamref12_Sum.l0 kj5 a2 y152 a1 a0_0 a0_1 a0_2 l0_3 l0_4 0 0 0) = some (r1, r2, r3, r4, r5) := by first | (rw [hy152]; with_reducible exact H) | (have H2_ := (Option.bind_some _ _).symm.trans H; rw [hy152]; with_reducible exact H2_) | (have H2_ := (Option.bind_some _ _).symm.trans H; with_reducible exact H2_) | with_reducible exact H | (rw [hy152]; exact H) | exact H
              have Ny152 := Aside0.mk hy152
              clear hy152
              have H' := Aside0.mk H
              clear H
              have hnb21 := NB149_150.out
              have hnc21 := NB150_149.out
              have hcz22_0 : wc.cell? ⟨gb149, 0, none⟩ = some (.int .i64 a0_0) := (blk_cell BK149.out 0).trans rfl
              have hcz22_1 : wc.cell? ⟨gb149, 1, none⟩ = some (.int .i64 a0_1) := (blk_cell BK149.out 1).trans rfl
              have hcz22_2 : wc.cell? ⟨gb149, 2, none⟩ = some (.int .i64 a0_2) := (blk_cell BK149.out 2).trans rfl
              have hcz22_3 : wc.cell? ⟨gb149, 3, none⟩ = some (.slice A0_3 l0_3.length c0_3) := (blk_cell BK149.out 3).trans rfl
              have hcz22_4 : wc.cell? ⟨gb149, 4, none⟩ = some (.slice A0_4 l0_4.length c0_4) := (blk_cell BK149.out 4).trans rfl
              have hfz22_0 := blk_frozen BK149.out 0
              have hfz22_1 := blk_frozen BK149.out 1
              have hfz22_2 := blk_frozen BK149.out 2
              have hfz22_3 := blk_frozen BK149.out 3
              have hfz22_4 := blk_frozen BK149.out 4
              go_wp2_with (first | ((with_reducible refine gate_dst (N := 37) rfl ?_); refine Kd.R_make (Kd.int .i64) _ 2 rfl (N := 37) rfl 33 _ _ rfl a0_2 rfl rfl Try.underlying33 (.int .i64 0) 8 info2 rfl (by decide) (by omega) 0 (ok := fun _ => True) (okp := fun _ => True) rfl (fun _ hk => hk) trivial (of_decide_eq_true (by first | (with_reducible assumption) | assumption)) (Nat.le_trans (Nat.mul_le_mul_right _ (of_decide_eq_true (by first | (with_reducible assumption) | assumption) : a0_2.toNat ≤ 35184372088832)) (by omega)) (Below.refl _ _) (Nat.le_refl _) ?_; intro v153 w23 ho24 hb hg_ hnew_; clear hg_ hnew_; (first | rw [← Ny152.out] at ho24 | (simp only [Int.reduceToNat] at ho24; rw [← Ny152.out] at ho24)); have n0_ := Aside0.mk (Kd.R_lower ho24 (below_size (by repeat (first | (with_reducible first | exact HB.out | apply below_alloc | apply pw_below_drewN | apply below_drew1 | refine below_set ?_ GE149.out | refine below_set ?_ GE150.out) | exact HB.out)))); have n1_ := Aside0.mk (blk_below (g := gb149) (o := .cells #[.int .i64 a0_0, .int .i64 a0_1, .int .i64 a0_2, .slice A0_3 l0_3.length c0_3, .slice A0_4 l0_4.length c0_4] 36 (0, 0)) (by (with_reducible repeat (first | refine blk_drewN ?_ _ | refine blk_drew ?_ | refine blk_alloc ?_ _)); exact BK149.out) hb); have n2_ := Aside0.mk (blk_below (g := gb150) (o := .cells #[.int .i64 0, .int .i64 0, .int .i64 0] 52 (0, 0)) (by (with_reducible repeat (first | refine blk_drewN ?_ _ | refine blk_drew ?_ | refine blk_alloc ?_ _)); exact BK150.out) hb); have n3_ := Aside0.mk (below_step (by repeat (first | (with_reducible first | exact HB.out | apply below_alloc | apply pw_below_drewN | apply below_drew1 | refine below_set ?_ GE149.out | refine below_set ?_ GE150.out) | exact HB.out)) hb); clear BK149; clear BK150; clear HB; have HO154 := n0_; have BK149 := n1_; have BK150 := n2_; have HB := n3_; clear n0_ n1_ n2_ n3_; clear hb ho24) | ((with_reducible refine gate_dst (N := 10) rfl ?_); refine box_event ?hg (N := 10) ?hd (cs := #[.int .i64 0, .int .i64 0, .int .i64 0]) (t := 52) ?hr ?_; (case hd => rfl); (case hg => rfl); (case hr => first | (go_simp; done) | (go_simp; rfl)); intro gb155 hg w25 hbox hb; have n0_ := Aside0.mk (Kd.R_below (by (with_reducible repeat (first | apply Kd.R_alloc | apply Kd.R_drewN | apply Kd.R_drew)); exact HO154.out) hb); have n1_ := Aside0.mk (blk_below (g := gb149) (o := .cells #[.int .i64 a0_0, .int .i64 a0_1, .int .i64 a0_2, .slice A0_3 l0_3.length c0_3, .slice A0_4 l0_4.length c0_4] 36 (0, 0)) (by (with_reducible repeat (first | refine blk_drewN ?_ _ | refine blk_drew ?_ | refine blk_alloc ?_ _)); exact BK149.out) hb); have n2_ := Aside0.mk (blk_below (g := gb150) (o := .cells #[.int .i64 0, .int .i64 0, .int .i64 0] 52 (0, 0)) (by (with_reducible repeat (first | refine blk_drewN ?_ _ | refine blk_drew ?_ | refine blk_alloc ?_ _)); exact BK150.out) hb); have n3_ := Aside0.mk (below_step (by repeat (first | (with_reducible first | exact HB.out | apply below_alloc | apply pw_below_drewN | apply below_drew1 | refine below_set ?_ GE149.out | refine below_set ?_ GE150.out) | exact HB.out)) hb); have n4_ := Aside0.mk (hbox); have n5_ := Aside0.mk ((by rw [hg]; exact (below_size (by repeat (first | (with_reducible first | exact HB.out | apply below_alloc | apply pw_below_drewN | apply below_drew1 | refine below_set ?_ GE149.out | refine below_set ?_ GE150.out) | exact HB.out))) : w.heap.size ≤ gb155)); have n6_ := Aside0.mk ((by rw [hg]; exact (below_size (by repeat (first | (with_reducible first | exact HB.out | apply below_alloc | apply pw_below_drewN | apply below_drew1 | refine below_set ?_ GE149.out | refine below_set ?_ GE150.out) | exact HB.out))) : w.heap.size ≤ gb155)); have n7_ := Aside0.mk ((by rw [hg]; exact Nat.ne_of_lt (blk_lt (g := gb149) (o := .cells #[.int .i64 a0_0, .int .i64 a0_1, .int .i64 a0_2, .slice A0_3 l0_3.length c0_3, .slice A0_4 l0_4.length c0_4] 36 (0, 0)) (by (with_reducible repeat (first | refine blk_drewN ?_ _ | refine blk_drew ?_ | refine blk_alloc ?_ _)); exact BK149.out)) : gb149 ≠ gb155)); have n8_ := Aside0.mk ((by rw [hg]; exact Nat.ne_of_gt (blk_lt (g := gb149) (o := .cells #[.int .i64 a0_0, .int .i64 a0_1, .int .i64 a0_2, .slice A0_3 l0_3.length c0_3, .slice A0_4 l0_4.length c0_4] 36 (0, 0)) (by (with_reducible repeat (first | refine blk_drewN ?_ _ | refine blk_drew ?_ | refine blk_alloc ?_ _)); exact BK149.out)) : gb155 ≠ gb149)); have n9_ := Aside0.mk ((by rw [hg]; exact Nat.ne_of_lt (blk_lt (g := gb150) (o := .cells #[.int .i64 0, .int .i64 0, .int .i64 0] 52 (0, 0)) (by (with_reducible repeat (first | refine blk_drewN ?_ _ | refine blk_drew ?_ | refine blk_alloc ?_ _)); exact BK150.out)) : gb150 ≠ gb155)); have n10_ := Aside0.mk ((by rw [hg]; exact Nat.ne_of_gt (blk_lt (g := gb150) (o := .cells #[.int .i64 0, .int .i64 0, .int .i64 0] 52 (0, 0)) (by (with_reducible repeat (first | refine blk_drewN ?_ _ | refine blk_drew ?_ | refine blk_alloc ?_ _)); exact BK150.out)) : gb155 ≠ gb150)); clear HO154; clear BK149; clear BK150; clear HB; have HO154 := n0_; have BK149 := n1_; have BK150 := n2_; have HB := n3_; have BK155 := n4_; have GW155 := n5_; have GE155 := n6_; have NB149_155 := n7_; have NB155_149 := n8_; have NB150_155 := n9_; have NB155_150 := n10_; clear n0_ n1_ n2_ n3_ n4_ n5_ n6_ n7_ n8_ n9_ n10_; clear hb hbox hg; have hnb26 := NB155_149.out; have hnc26 := NB149_155.out; have hnb27 := NB155_150.out; have hnc27 := NB150_155.out; have hcz28_0 : w25.cell? ⟨gb155, 0, none⟩ = some (.int .i64 0) := (blk_cell BK155.out 0).trans rfl; have hcz28_1 : w25.cell? ⟨gb155, 1, none⟩ = some (.int .i64 0) := (blk_cell BK155.out 1).trans rfl; have hcz28_2 : w25.cell? ⟨gb155, 2, none⟩ = some (.int .i64 0) := (blk_cell BK155.out 2).trans rfl; have hfz28_0 := blk_frozen BK155.out 0; have hfz28_1 := blk_frozen BK155.out 1; have hfz28_2 := blk_frozen BK155.out 2))
              go_loopg [11] kj5 (fun kq v11 w' => ∃ (x9_2 : List Int) (x11_2 : Int) (x151000_2 : Int) (x151001_2 : Int) (x151002_2 : Int) (x156000_2 : Int) (x156001_2 : Int) (x156002_2 : Int), v11 = .int .i64 x11_2 ∧ Aside0 (hornbeamref12_Sum.l0 kq a2 x9_2 x11_2 a0_0 a0_1 a0_2 l0_3 l0_4 x156000_2 x156001_2 x156002_2 = some (r1, r2, r3, r4, r5)) ∧ Aside0 (kq ≤ kj5) ∧ Aside0 (Kd.R (Kd.int .i64) 2 w' w.heap.size (fun _ => True) v153 x9_2) ∧ Aside0 (w'.heap[gb149]? = some (.cells #[.int .i64 a0_0, .int .i64 a0_1, .int .i64 a0_2, (.slice A0_3 l0_3.length c0_3), (.slice A0_4 l0_4.length c0_4)] 36 (0, 0))) ∧ Aside0 (w'.heap[gb150]? = some (.cells #[.int .i64 x151000_2, .int .i64 x151001_2, .int .i64 x151002_2] 52 (0, 0))) ∧ Aside0 (w'.heap[gb155]? = some (.cells #[.int .i64 x156000_2, .int .i64 x156001_2, .int .i64 x156002_2] 52 (0, 0))) ∧ Aside0 (Below w.heap.size w w'))
              case atStart => exact ⟨(y152), (a1), (0), (0), (0), (0), (0), (0), (by first | rfl | (simp; done) | (simp [*]; done)), H', ⟨Nat.le_refl _⟩, ⟨by (with_reducible repeat (first | apply Kd.R_alloc | apply Kd.R_drewN | apply Kd.R_drew)); exact Kd.R_mono (Kd.R_far (p := ⟨gb155, 2, none⟩) (Kd.R_far (p := ⟨gb155, 1, none⟩) (Kd.R_far (p := ⟨gb155, 0, none⟩) (Kd.R_types HO154.out BK155.out (by decide)) (fun _ hk => hk.2) (.int .i64 0)) (fun _ hk => hk.2) (.int .i64 0)) (fun _ hk => hk.2) (.int .i64 0)) (fun _ hk => trivial)⟩, ⟨by (with_reducible repeat (first | refine blk_drewN ?_ _ | refine blk_drew ?_ | refine blk_alloc ?_ _)); refine blk_far ?_ NB149_155.out _; (with_reducible repeat (first | refine blk_drewN ?_ _ | refine blk_drew ?_ | refine blk_alloc ?_ _)); refine blk_far ?_ NB149_155.out _; (with_reducible repeat (first | refine blk_drewN ?_ _ | refine blk_drew ?_ | refine blk_alloc ?_ _)); refine blk_far ?_ NB149_155.out _; (with_reducible repeat (first | refine blk_drewN ?_ _ | refine blk_drew ?_ | refine blk_alloc ?_ _)); exact BK149.out⟩, ⟨by (with_reducible repeat (first | refine blk_drewN ?_ _ | refine blk_drew ?_ | refine blk_alloc ?_ _)); refine blk_far ?_ NB150_155.out _; (with_reducible repeat (first | refine blk_drewN ?_ _ | refine blk_drew ?_ | refine blk_alloc ?_ _)); refine blk_far ?_ NB150_155.out _; (with_reducible repeat (first | refine blk_drewN ?_ _ | refine blk_drew ?_ | refine blk_alloc ?_ _)); refine blk_far ?_ NB150_155.out _; (with_reducible repeat (first | refine blk_drewN ?_ _ | refine blk_drew ?_ | refine blk_alloc ?_ _)); exact BK150.out⟩, ⟨by (with_reducible repeat (first | refine blk_drewN ?_ _ | refine blk_drew ?_ | refine blk_alloc ?_ _)); refine blk_put (cs := #[.int .i64 0, .int .i64 0, .int .i64 0]) ?_ 2 _ rfl; (with_reducible repeat (first | refine blk_drewN ?_ _ | refine blk_drew ?_ | refine blk_alloc ?_ _)); refine blk_put (cs := #[.int .i64 0, .int .i64 0, .int .i64 0]) ?_ 1 _ rfl; (with_reducible repeat (first | refine blk_drewN ?_ _ | refine blk_drew ?_ | refine blk_alloc ?_ _)); refine blk_put (cs := #[.int .i64 0, .int .i64 0, .int .i64 0]) ?_ 0 _ rfl; (with_reducible repeat (first | refine blk_drewN ?_ _ | refine blk_drew ?_ | refine blk_alloc ?_ _)); exact BK155.out⟩, ⟨by repeat (first | (with_reducible first | exact HB.out | apply below_alloc | apply pw_below_drewN | apply below_drew1 | refine below_set ?_ GE149.out | refine below_set ?_ GE150.out | refine below_set ?_ GE155.out) | exact HB.out)⟩⟩
              case round =>
                clear H'
                try clear c1
                try clear c2
                try clear p2
                try clear c3
                try clear c5
                try clear c9
                try clear c12
                try clear c12b0
                try clear c13
                try clear c13b0
                try clear c14
                try clear c16
                try clear c17
                try clear c19
                try clear c19b0
                try clear c19b1
                try clear c20
                try clear c20b0
                try clear c20b1
                try clear c21
                try clear c26
                try clear c27
                try clear hcz10_0
                try clear hcz10_1
                try clear hcz10_2
                try clear hcz10_3
                try clear hcz10_4
                try clear hcz15_0
                try clear hcz15_1
                try clear hcz15_2
                try clear hcz15_3
                try clear hcz15_4
                try clear hcz18_0
                try clear hcz18_1
                try clear hcz18_2
                try clear hcz22_0
                try clear hcz22_1
                try clear hcz22_2
                try clear hcz22_3
                try clear hcz22_4
                try clear hcz28_0
                try clear hcz28_1
                try clear hcz28_2
                try clear hfz10_0
                try clear hfz10_1
                try clear hfz10_2
                try clear hfz10_3
                try clear hfz10_4
                try clear hfz15_0
                try clear hfz15_1
                try clear hfz15_2
                try clear hfz15_3
                try clear hfz15_4
                try clear hfz18_0
                try clear hfz18_1
                try clear hfz18_2
                try clear hfz22_0
                try clear hfz22_1
                try clear hfz22_2
                try clear hfz22_3
                try clear hfz22_4
                try clear hfz28_0
                try clear hfz28_1
                try clear hfz28_2
                try clear p2
                obtain ⟨x9_2, x11_2, x151000_2, x151001_2, x151002_2, x156000_2, x156001_2, x156002_2, rfl, HA, HK2, HO_9, BK149, BK150, BK155, HB⟩ := hrel
                cases gk with
                | zero => exact absurd HA.out (by simp [hornbeamref12_Sum.l0])
                | succ k2 =>
                  have H := HA.out
                  clear HA
                  simp only [hornbeamref12_Sum.l0] at H
                  by_cases c29 : x11_2 < a2
                  · rw [if_pos c29] at H
                    have c29b0 : decide (x11_2 < a2) = true := decide_eq_true c29
                    clear c29
                    have H' := Aside0.mk H
                    clear H
                    go_wp2
                    go_loopg [12] k2 (fun kq v12 w' => ∃ (x9_3 : List Int) (x12_3 : Int) (x151000_3 : Int) (x151001_3 : Int) (x151002_3 : Int), v12 = .int .i64 x12_3 ∧ Aside0 (hornbeamref12_Sum.l1 kq a2 x9_3 x11_2 x12_3 a0_0 a0_1 a0_2 l0_3 l0_4 x156000_2 x156001_2 x156002_2 = some (r1, r2, r3, r4, r5)) ∧ Aside0 (kq ≤ k2) ∧ Aside0 (Kd.R (Kd.int .i64) 2 w' w.heap.size (fun _ => True) v153 x9_3) ∧ Aside0 (w'.heap[gb149]? = some (.cells #[.int .i64 a0_0, .int .i64 a0_1, .int .i64 a0_2, (.slice A0_3 l0_3.length c0_3), (.slice A0_4 l0_4.length c0_4)] 36 (0, 0))) ∧ Aside0 (w'.heap[gb150]? = some (.cells #[.int .i64 x151000_3, .int .i64 x151001_3, .int .i64 x151002_3] 52 (0, 0))) ∧ Aside0 (w'.heap[gb155]? = some (.cells #[.int .i64 x156000_2, .int .i64 x156001_2, .int .i64 x156002_2] 52 (0, 0))) ∧ Aside0 (Below w.heap.size w w'))
                    case atStart => exact ⟨(x9_2), (0), (x151000_2), (x151001_2), (x151002_2), (by first | rfl | (simp; done) | (simp [*]; done)), H', ⟨Nat.le_refl _⟩, ⟨by (with_reducible repeat (first | apply Kd.R_alloc | apply Kd.R_drewN | apply Kd.R_drew)); exact HO_9.out⟩, ⟨by (with_reducible repeat (first | refine blk_drewN ?_ _ | refine blk_drew ?_ | refine blk_alloc ?_ _)); exact BK149.out⟩, ⟨by (with_reducible repeat (first | refine blk_drewN ?_ _ | refine blk_drew ?_ | refine blk_alloc ?_ _)); exact BK150.out⟩, ⟨by (with_reducible repeat (first | refine blk_drewN ?_ _ | refine blk_drew ?_ | refine blk_alloc ?_ _)); exact BK155.out⟩, ⟨by repeat (first | (with_reducible first | exact HB.out | apply below_alloc | apply pw_below_drewN | apply below_drew1 | refine below_set ?_ GE149.out | refine below_set ?_ GE150.out | refine below_set ?_ GE155.out) | exact HB.out)⟩⟩
                    case round =>
                      clear H'
                      try clear c1
                      try clear c2
                      try clear p2
                      try clear c3
                      try clear c5
                      try clear c9
                      try clear c12
                      try clear c12b0
                      try clear c13
                      try clear c13b0
                      try clear c14
                      try clear c16
                      try clear c17
                      try clear c19
                      try clear c19b0
                      try clear c19b1
                      try clear c20
                      try clear c20b0
                      try clear c20b1
                      try clear c21
                      try clear c26
                      try clear c27
                      try clear c29
                      try clear c29b0
                      try clear hcz10_0
                      try clear hcz10_1
                      try clear hcz10_2
                      try clear hcz10_3
                      try clear hcz10_4
                      try clear hcz15_0
                      try clear hcz15_1
                      try clear hcz15_2
                      try clear hcz15_3
                      try clear hcz15_4
                      try clear hcz18_0
                      try clear hcz18_1
                      try clear hcz18_2
                      try clear hcz22_0
                      try clear hcz22_1
                      try clear hcz22_2
                      try clear hcz22_3
                      try clear hcz22_4
                      try clear hcz28_0
                      try clear hcz28_1
                      try clear hcz28_2
                      try clear hfz10_0
                      try clear hfz10_1
                      try clear hfz10_2
                      try clear hfz10_3
                      try clear hfz10_4
                      try clear hfz15_0
                      try clear hfz15_1
                      try clear hfz15_2
                      try clear hfz15_3
                      try clear hfz15_4
                      try clear hfz18_0
                      try clear hfz18_1
                      try clear hfz18_2
                      try clear hfz22_0
                      try clear hfz22_1
                      try clear hfz22_2
                      try clear hfz22_3
                      try clear hfz22_4
                      try clear hfz28_0
                      try clear hfz28_1
                      try clear hfz28_2
                      try clear p2
                      obtain ⟨x9_3, x12_3, x151000_3, x151001_3, x151002_3, rfl, HA, HK3, HO_9, BK149, BK150, BK155, HB⟩ := hrel
                      cases gk with
                      | zero => exact absurd HA.out (by simp [hornbeamref12_Sum.l1])
                      | succ k3 =>
                        have H := HA.out
                        clear HA
                        simp only [hornbeamref12_Sum.l1] at H
                        by_cases c30 : x12_3 < a0_2
                        · rw [if_pos c30] at H
                          have c30b0 : decide (x12_3 < a0_2) = true := decide_eq_true c30
                          clear c30
                          by_cases c31 : 0 ≤ x12_3
                          · rw [if_pos c31] at H
                            have c31b0 : decide (0 ≤ x12_3) = true := decide_eq_true c31
                            clear c31
                            by_cases c32 : x12_3 < (x9_3.length : Int)
                            · rw [if_pos c32] at H
                              have c32b0 : decide (x12_3 < (x9_3.length : Int)) = true := decide_eq_true c32
                              clear c32
                              obtain ⟨ji33, hji33⟩ : ∃ j_ : Int, (wrap64 ((wrap64 (x11_2 * a0_2)) + x12_3)) = j_ := ⟨_, rfl⟩
                              replace H : (if 0 ≤ (ji33) then (if (ji33) < (l0_3.length : Int) then ((hornbeamref04_Plus.f (rd x9_3 x12_3) (rd l0_3 (ji33))).bind fun bt158 => (if bt158.2 = 0 then (hornbeamref12_Sum.l1 k3 a2 (x9_3.set (x12_3 : Int).toNat bt158.1) x11_2 (wrap64 (x12_3 + 1)) a0_0 a0_1 a0_2 l0_3 l0_4 x156000_2 x156001_2 x156002_2) else (some (([] : List Int), 0, 0, 0, bt158.2)))) else (none)) else (none)) = some (r1, r2, r3, r4, r5) := by first | (rw [hji33] at H; exact H) | (simp only [hji33] at H ⊢; exact H)
                              have hji33w : (IntKind.i64.wrap ((wrap64 (x11_2 * a0_2)) + x12_3)) = ji33 := (i64_w _).trans hji33
                              by_cases c34 : 0 ≤ (ji33)
                              · rw [if_pos c34] at H
                                have c34b0 : decide (0 ≤ (ji33)) = true := decide_eq_true c34
                                clear c34
                                by_cases c35 : (ji33) < (l0_3.length : Int)
                                · rw [if_pos c35] at H
                                  have c35b0 : decide ((ji33) < (l0_3.length : Int)) = true := decide_eq_true c35
                                  clear c35
                                  replace H := Option.bind_eq_some_iff.mp H
                                  obtain ⟨⟨t158, t159⟩, A360, H⟩ := H
                                  replace H : (if t159 = 0 then (hornbeamref12_Sum.l1 k3 a2 (x9_3.set (x12_3 : Int).toNat t158) x11_2 (wrap64 (x12_3 + 1)) a0_0 a0_1 a0_2 l0_3 l0_4 x156000_2 x156001_2 x156002_2) else (some (([] : List Int), 0, 0, 0, t159))) = some (r1, r2, r3, r4, r5) := H
                                  have A36 := Aside0.mk A360
                                  clear A360
                                  by_cases c37 : t159 = 0
                                  · rw [if_pos c37] at H
                                    have c37b0 : (t159 == 0) = true := beq_iff_eq.mpr c37
                                    have c37b1 : (t159 != 0) = false := bne_eq_false_iff_eq.mpr c37
                                    clear c37
                                    obtain ⟨y160, hy160⟩ : ∃ y_ : List Int, y_ = (x9_3.set (x12_3 : Int).toNat t158) := ⟨_, rfl⟩
                                    replace H : (hornbeamref12_Sum.l1 k3 a2 y160 x11_2 (wrap64 (x12_3 + 1)) a0_0 a0_1 a0_2 l0_3 l0_4 x156000_2 x156001_2 x156002_2) = some (r1, r2, r3, r4, r5) := by first | (rw [hy160]; with_reducible exact H) | (have H2_ := (Option.bind_some _ _).symm.trans H; rw [hy160]; with_reducible exact H2_) | (have H2_ := (Option.bind_some _ _).symm.trans H; with_reducible exact H2_) | with_reducible exact H | (rw [hy160]; exact H) | exact H
                                    have Ny160 := Aside0.mk hy160
                                    clear hy160
                                    have H' := Aside0.mk H
                                    clear H
                                    have hnb39 := NB149_150.out
                                    have hnc39 := NB150_149.out
                                    have hnb40 := NB149_155.out
                                    have hnc40 := NB155_149.out
                                    have hcz41_0 : wr.cell? ⟨gb149, 0, none⟩ = some (.int .i64 a0_0) := (blk_cell BK149.out 0).trans rfl
                                    have hcz41_1 : wr.cell? ⟨gb149, 1, none⟩ = some (.int .i64 a0_1) := (blk_cell BK149.out 1).trans rfl
                                    have hcz41_2 : wr.cell? ⟨gb149, 2, none⟩ = some (.int .i64 a0_2) := (blk_cell BK149.out 2).trans rfl
                                    have hcz41_3 : wr.cell? ⟨gb149, 3, none⟩ = some (.slice A0_3 l0_3.length c0_3) := (blk_cell BK149.out 3).trans rfl
                                    have hcz41_4 : wr.cell? ⟨gb149, 4, none⟩ = some (.slice A0_4 l0_4.length c0_4) := (blk_cell BK149.out 4).trans rfl
                                    have hfz41_0 := blk_frozen BK149.out 0
                                    have hfz41_1 := blk_frozen BK149.out 1
                                    have hfz41_2 := blk_frozen BK149.out 2
                                    have hfz41_3 := blk_frozen BK149.out 3
                                    have hfz41_4 := blk_frozen BK149.out 4
                                    try go_wp2
                                    have n0_ := Aside0.mk (Kd.R_drew HO_9.out)
                                    have n1_ := Aside0.mk (blk_drew BK149.out)
                                    have n2_ := Aside0.mk (blk_drew BK150.out)
                                    have n3_ := Aside0.mk (blk_drew BK155.out)
                                    have n4_ := Aside0.mk (below_drew1 HB.out)
                                    clear HO_9
                                    clear BK149
                                    clear BK150
                                    clear BK155
                                    clear HB
                                    have HO_9 := n0_
                                    have BK149 := n1_
                                    have BK150 := n2_
                                    have BK155 := n3_
                                    have HB := n4_
                                    clear n0_ n1_ n2_ n3_ n4_
                                    obtain ⟨Ao43, co43, eo43⟩ := Kd.R_slice HO_9.out
                                    (first | subst eo43 | (injection eo43 with f1_ f2_ f3_; have f4_ := f1_.symm; have f5_ := f3_.symm; clear f1_ f2_ f3_; subst f4_; subst f5_))
                                    have p156 : 0 ≤ (x12_3 : Int) := of_decide_eq_true (by first | (with_reducible assumption) | assumption)
                                    have q156 : x12_3 < (x9_3.length : Int) := of_decide_eq_true (by first | (with_reducible assumption) | assumption)
                                    obtain ⟨ad156, e156, hx156_0⟩ := Kd.at_int (Kd.R_reads' HO_9.out).2.2 x12_3 p156 q156
                                    cases e156
                                    replace p156 := eq_true p156
                                    replace q156 := eq_true q156
                                    have p157 : 0 ≤ ((ji33) : Int) := of_decide_eq_true (by first | (with_reducible assumption) | assumption)
                                    have q157 : (ji33) < (l0_3.length : Int) := of_decide_eq_true (by first | (with_reducible assumption) | assumption)
                                    obtain ⟨ad157, e157, hx157_0⟩ := Kd.at_int HR0_3.out (ji33) p157 q157
                                    have hw157_0 := hx157_0
                                    cases e157
                                    replace hx157_0 := (HB.out.cell (World.block_lt_of_cell? w _ hx157_0)).trans hx157_0
                                    replace p157 := eq_true p157
                                    replace q157 := eq_true q157
                                    refine start_ (n := 20) (S := fun w' => w'.cell? ⟨gb149, 0, none⟩ = some (.int .i64 a0_0) ∧ w'.cell? ⟨gb149, 1, none⟩ = some (.int .i64 a0_1) ∧ w'.cell? ⟨gb149, 2, none⟩ = some (.int .i64 a0_2) ∧ w'.cell? ⟨gb149, 3, none⟩ = some (.slice (some ad157) l0_3.length c0_3) ∧ w'.cell? ⟨gb149, 4, none⟩ = some (.slice A0_4 l0_4.length c0_4) ∧ w'.cell? (ad156.add (x12_3).toNat) = some (.int .i64 (rd x9_3 x12_3)) ∧ w'.cell? (ad157.add ((ji33)).toNat) = some (.int .i64 (rd l0_3 (ji33)))) (ds := []) #[false, false, false, false, false, false, false, false, false, false, false, false, false, false, false, false, false, false, false, false] (by kernel_rfl) rfl rfl ⟨(blk_cell BK149.out 0).trans rfl, (blk_cell BK149.out 1).trans rfl, (blk_cell BK149.out 2).trans rfl, (blk_cell BK149.out 3).trans rfl, (blk_cell BK149.out 4).trans rfl, hx156_0, ((HB.out.cell (World.block_lt_of_cell? w _ hw157_0)).trans hw157_0)⟩ (fun hHeld => ?_); refine with_tabW hornbeamref12_Sum.tab13 hornbeamref12_Sum.bits13 (fun HT_ HW_ => ?_)
                                    generalize wr.drew = w42 at HO_9 BK149 BK150 BK155 HB hx156_0 hx157_0 hHeld ⊢
                                    refine pure_ (i := 0) (N := some 52) (v := ?_) (a' := ?_) #[true, false, false, false, false, false, false, false, false, false, false, false, false, false, false, false, false, false, false, false] rfl rfl (any_of HT_.out (by kernel_rfl)) (fun _ _ _ h => h) (Or.inl ⟨by rfl, ?_⟩) ?_ ?_
                                    rotate_left
                                    · intro w'
                                      go_simp
                                      with_reducible rfl
                                    rotate_left
                                    · simp only [Act.put, List.setIfInBounds_toArray, List.set_cons_zero, List.set_cons_succ, i64_w, i32_w]
                                      rfl
                                    refine pure_ (i := 1) (N := some 53) (v := ?_) (a' := ?_) #[true, true, false, false, false, false, false, false, false, false, false, false, false, false, false, false, false, false, false, false] rfl rfl (any_of HT_.out (by kernel_rfl)) (fun _ _ _ h => h) (Or.inl ⟨by rfl, ?_⟩) ?_ ?_
                                    rotate_left
                                    · intro w'
                                      go_simp
                                      with_reducible rfl
                                    rotate_left
                                    · simp only [Act.put, List.setIfInBounds_toArray, List.set_cons_zero, List.set_cons_succ, i64_w, i32_w]
                                      rfl
                                    refine pure_ (i := 2) (N := some 54) (v := ?_) (a' := ?_) #[true, true, true, false, false, false, false, false, false, false, false, false, false, false, false, false, false, false, false, false] rfl rfl (any_of HT_.out (by kernel_rfl)) (fun _ _ _ h => h) (Or.inl ⟨by rfl, ?_⟩) ?_ ?_
                                    rotate_left
                                    · intro w'
                                      go_simp
                                      with_reducible rfl
                                    rotate_left
                                    · simp only [Act.put, List.setIfInBounds_toArray, List.set_cons_zero, List.set_cons_succ, i64_w, i32_w]
                                      rfl
                                    refine pure_ (i := 4) (N := some 56) (v := ?_) (a' := ?_) #[true, true, true, false, true, false, false, false, false, false, false, false, false, false, false, false, false, false, false, false] rfl rfl (any_of HT_.out (by kernel_rfl)) (fun _ _ _ h => h) (Or.inl ⟨by rfl, ?_⟩) ?_ ?_
                                    rotate_left
                                    · intro w'
                                      go_simp
                                      with_reducible rfl
                                    rotate_left
                                    · simp only [Act.put, List.setIfInBounds_toArray, List.set_cons_zero, List.set_cons_succ, i64_w, i32_w]
                                      rfl
                                    refine pure_ (i := 6) (N := some 58) (v := ?_) (a' := ?_) #[true, true, true, false, true, false, true, false, false, false, false, false, false, false, false, false, false, false, false, false] rfl rfl (any_of HT_.out (by kernel_rfl)) (fun _ _ _ h => h) (Or.inl ⟨by rfl, ?_⟩) ?_ ?_
                                    rotate_left
                                    · intro w'
                                      go_simp
                                      with_reducible rfl
                                    rotate_left
                                    · simp only [Act.put, List.setIfInBounds_toArray, List.set_cons_zero, List.set_cons_succ, i64_w, i32_w]
                                      rfl
                                    refine pure_ (i := 7) (N := some 59) (v := ?_) (a' := ?_) #[true, true, true, false, true, false, true, true, false, false, false, false, false, false, false, false, false, false, false, false] rfl rfl (any_of HT_.out (by kernel_rfl)) (fun _ _ _ h => h) (Or.inl ⟨by rfl, ?_⟩) ?_ ?_
                                    rotate_left
                                    · intro w'
                                      go_simp
                                      with_reducible rfl
                                    rotate_left
                                    · simp only [Act.put, List.setIfInBounds_toArray, List.set_cons_zero, List.set_cons_succ, i64_w, i32_w]
                                      rfl
                                    refine pure_ (i := 10) (N := some 62) (v := ?_) (a' := ?_) #[true, true, true, false, true, false, true, true, false, false, true, false, false, false, false, false, false, false, false, false] rfl rfl (any_of HT_.out (by kernel_rfl)) (fun _ _ _ h => h) (Or.inl ⟨by rfl, ?_⟩) ?_ ?_
                                    rotate_left
                                    · intro w'
                                      go_simp
                                      with_reducible rfl
                                    rotate_left
                                    · simp only [Act.put, List.setIfInBounds_toArray, List.set_cons_zero, List.set_cons_succ, i64_w, i32_w]
                                      rfl
                                    refine take_ (i := 3) (N := some 55) (v := ?_) (a' := ?_) #[true, true, true, true, true, false, true, true, false, false, true, false, false, false, false, false, false, false, false, false] rfl rfl (take_ofW HT_.out HW_.out (by kernel_rfl)) (fun _ _ _ h => h) (Or.inl ⟨by rfl, ?_⟩) hHeld ?_ ?_
                                    rotate_left
                                    · rintro w' ⟨s0, s1, s2, s3, s4, s5, s6⟩
                                      go_simp
                                      with_reducible rfl
                                    rotate_left
                                    · simp only [Act.put, List.setIfInBounds_toArray, List.set_cons_zero, List.set_cons_succ, i64_w, i32_w]
                                      rfl
                                    refine take_ (i := 5) (N := some 57) (v := ?_) (a' := ?_) #[true, true, true, true, true, true, true, true, false, false, true, false, false, false, false, false, false, false, false, false] rfl rfl (take_ofW HT_.out HW_.out (by kernel_rfl)) (fun _ _ _ h => h) (Or.inl ⟨by rfl, ?_⟩) hHeld ?_ ?_
                                    rotate_left
                                    · rintro w' ⟨s0, s1, s2, s3, s4, s5, s6⟩
                                      go_simp
                                      with_reducible rfl
                                    rotate_left
                                    · simp only [Act.put, List.setIfInBounds_toArray, List.set_cons_zero, List.set_cons_succ, i64_w, i32_w]
                                      rfl
                                    refine take_ (i := 8) (N := some 60) (v := ?_) (a' := ?_) #[true, true, true, true, true, true, true, true, true, false, true, false, false, false, false, false, false, false, false, false] rfl rfl (take_ofW HT_.out HW_.out (by kernel_rfl)) (fun _ _ _ h => h) (Or.inl ⟨by rfl, ?_⟩) hHeld ?_ ?_
                                    rotate_left
                                    · rintro w' ⟨s0, s1, s2, s3, s4, s5, s6⟩
                                      go_simp
                                      with_reducible rfl
                                    rotate_left
                                    · simp only [Act.put, List.setIfInBounds_toArray, List.set_cons_zero, List.set_cons_succ, i64_w, i32_w]
                                      rfl
                                    refine pure_ (i := 9) (N := some 61) (v := ?_) (a' := ?_) #[true, true, true, true, true, true, true, true, true, true, true, false, false, false, false, false, false, false, false, false] rfl rfl (any_of HT_.out (by kernel_rfl)) (fun _ _ _ h => h) (Or.inl ⟨by rfl, ?_⟩) ?_ ?_
                                    rotate_left
                                    · intro w'
                                      go_simp
                                      with_reducible rfl
                                    rotate_left
                                    · simp only [Act.put, List.setIfInBounds_toArray, List.set_cons_zero, List.set_cons_succ, i64_w, i32_w]
                                      rfl
                                    refine pure_ (i := 11) (N := some 63) (v := ?_) (a' := ?_) #[true, true, true, true, true, true, true, true, true, true, true, true, false, false, false, false, false, false, false, false] rfl rfl (any_of HT_.out (by kernel_rfl)) (fun _ _ _ h => h) (Or.inl ⟨by rfl, ?_⟩) ?_ ?_
                                    rotate_left
                                    · intro w'
                                      go_simp
                                      with_reducible rfl
                                    rotate_left
                                    · simp only [Act.put, List.setIfInBounds_toArray, List.set_cons_zero, List.set_cons_succ, i64_w, i32_w]
                                      rfl
                                    refine pure_ (i := 12) (N := some 64) (v := ?_) (a' := ?_) #[true, true, true, true, true, true, true, true, true, true, true, true, true, false, false, false, false, false, false, false] rfl rfl (any_of HT_.out (by kernel_rfl)) (fun _ _ _ h => h) (Or.inl ⟨by rfl, ?_⟩) ?_ ?_
                                    rotate_left
                                    · intro w'
                                      go_simp
                                      with_reducible rfl
                                    rotate_left
                                    · simp only [Act.put, List.setIfInBounds_toArray, List.set_cons_zero, List.set_cons_succ, i64_w, i32_w]
                                      rfl
                                    refine take_ (i := 13) (N := some 65) (v := ?_) (a' := ?_) #[true, true, true, true, true, true, true, true, true, true, true, true, true, true, false, false, false, false, false, false] rfl rfl (take_ofW HT_.out HW_.out (by kernel_rfl)) (fun _ _ _ h => h) (Or.inl ⟨by rfl, ?_⟩) hHeld ?_ ?_
                                    rotate_left
                                    · rintro w' ⟨s0, s1, s2, s3, s4, s5, s6⟩
                                      go_simp
                                      with_reducible rfl
                                    rotate_left
                                    · simp only [Act.put, List.setIfInBounds_toArray, List.set_cons_zero, List.set_cons_succ, i64_w, i32_w]
                                      rfl
                                    refine one_ (i := 14) (N := some 66) #[true, true, true, true, true, true, true, true, true, true, true, true, true, true, true, false, false, false, false, false] rfl rfl (one_of HT_.out (by kernel_rfl)) (by decide) (fun K hK => ?_)
                                    refine goes_ Try.func49 (by kernel_rfl) rfl #[.int .i64 (rd x9_3 x12_3), .int .i64 (rd l0_3 (ji33))] (by rfl) rfl rfl (by (try simp only [List.map_toArray, List.map_cons, List.map_nil]); first | done | (simp only [hji33]; rfl) | rfl | (simp only [List.length_drop, List.length_take]; rfl)) ?_
                                    with_reducible refine (hornbeamref04_Plus.calls (rd x9_3 x12_3) (rd l0_3 (ji33)) t158 t159 _ A36.out).mono ?_
                                    rintro e w44 ⟨rfl, hb⟩
                                    have HS5_ := (hb.cell (World.block_lt_of_cell? _ _ (hHeld.2.2.2.2.2.1))).trans (hHeld.2.2.2.2.2.1)
                                    refine ⟨_, rfl, ?_⟩
                                    have n0_ := Aside0.mk (Kd.R_below (by (with_reducible repeat (first | apply Kd.R_alloc | apply Kd.R_drewN | apply Kd.R_drew)); exact HO_9.out) hb)
                                    have n1_ := Aside0.mk (blk_below (g := gb149) (o := .cells #[.int .i64 a0_0, .int .i64 a0_1, .int .i64 a0_2, .slice (some ad157) l0_3.length c0_3, .slice A0_4 l0_4.length c0_4] 36 (0, 0)) (by (with_reducible repeat (first | refine blk_drewN ?_ _ | refine blk_drew ?_ | refine blk_alloc ?_ _)); exact BK149.out) hb)
                                    have n2_ := Aside0.mk (blk_below (g := gb150) (o := .cells #[.int .i64 x151000_3, .int .i64 x151001_3, .int .i64 x151002_3] 52 (0, 0)) (by (with_reducible repeat (first | refine blk_drewN ?_ _ | refine blk_drew ?_ | refine blk_alloc ?_ _)); exact BK150.out) hb)
                                    have n3_ := Aside0.mk (blk_below (g := gb155) (o := .cells #[.int .i64 x156000_2, .int .i64 x156001_2, .int .i64 x156002_2] 52 (0, 0)) (by (with_reducible repeat (first | refine blk_drewN ?_ _ | refine blk_drew ?_ | refine blk_alloc ?_ _)); exact BK155.out) hb)
                                    have n4_ := Aside0.mk (below_step (by repeat (first | (with_reducible first | exact HB.out | apply below_alloc | apply pw_below_drewN | apply below_drew1 | refine below_set ?_ GE149.out | refine below_set ?_ GE150.out | refine below_set ?_ GE155.out) | exact HB.out)) hb)
                                    clear HO_9
                                    clear BK149
                                    clear BK150
                                    clear BK155
                                    clear HB
                                    have HO_9 := n0_
                                    have BK149 := n1_
                                    have BK150 := n2_
                                    have BK155 := n3_
                                    have HB := n4_
                                    clear n0_ n1_ n2_ n3_ n4_
                                    (try clear hb)
                                    (try clear hb2)
                                    (try clear hk)
                                    (try clear hi)
                                    refine hK.out _ _ ⟨(blk_cell BK149.out 0).trans rfl, (blk_cell BK149.out 1).trans rfl, (blk_cell BK149.out 2).trans rfl, (blk_cell BK149.out 3).trans rfl, (blk_cell BK149.out 4).trans rfl, HS5_, ((HB.out.cell (World.block_lt_of_cell? w _ hw157_0)).trans hw157_0)⟩ (fun hHeld => ?_)
                                    clear hK K
                                    refine norm_ (a' := ?_) ?_ ?_
                                    rotate_left
                                    · show Act.put _ (some 66) _ = _
                                      simp only [Act.put, List.setIfInBounds_toArray, List.set_cons_zero, List.set_cons_succ, i64_w, i32_w]
                                      rfl
                                    refine pure_ (i := 15) (N := some 51) (v := ?_) (a' := ?_) #[true, true, true, true, true, true, true, true, true, true, true, true, true, true, true, true, false, false, false, false] rfl rfl (any_of HT_.out (by kernel_rfl)) (fun _ _ _ h => h) (Or.inl ⟨by rfl, ?_⟩) ?_ ?_
                                    rotate_left
                                    · intro w'
                                      go_simp
                                      with_reducible rfl
                                    rotate_left
                                    · simp only [Act.put, List.setIfInBounds_toArray, List.set_cons_zero, List.set_cons_succ, i64_w, i32_w]
                                      rfl
                                    refine pure_ (i := 16) (N := some 67) (v := ?_) (a' := ?_) #[true, true, true, true, true, true, true, true, true, true, true, true, true, true, true, true, true, false, false, false] rfl rfl (any_of HT_.out (by kernel_rfl)) (fun _ _ _ h => h) (Or.inl ⟨by rfl, ?_⟩) ?_ ?_
                                    rotate_left
                                    · intro w'
                                      go_simp
                                      with_reducible rfl
                                    rotate_left
                                    · simp only [Act.put, List.setIfInBounds_toArray, List.set_cons_zero, List.set_cons_succ, i64_w, i32_w]
                                      rfl
                                    refine pure_ (i := 17) (N := some 68) (v := ?_) (a' := ?_) #[true, true, true, true, true, true, true, true, true, true, true, true, true, true, true, true, true, true, false, false] rfl rfl (any_of HT_.out (by kernel_rfl)) (fun _ _ _ h => h) (Or.inl ⟨by rfl, ?_⟩) ?_ ?_
                                    rotate_left
                                    · intro w'
                                      go_simp
                                      with_reducible rfl
                                    rotate_left
                                    · simp only [Act.put, List.setIfInBounds_toArray, List.set_cons_zero, List.set_cons_succ, i64_w, i32_w]
                                      rfl
                                    refine pure_ (i := 18) (N := some 13) (v := ?_) (a' := ?_) #[true, true, true, true, true, true, true, true, true, true, true, true, true, true, true, true, true, true, true, false] rfl rfl (any_of HT_.out (by kernel_rfl)) (fun _ _ _ h => h) (Or.inl ⟨by rfl, ?_⟩) ?_ ?_
                                    rotate_left
                                    · intro w'
                                      go_simp
                                      with_reducible rfl
                                    rotate_left
                                    · simp only [Act.put, List.setIfInBounds_toArray, List.set_cons_zero, List.set_cons_succ, i64_w, i32_w]
                                      rfl
                                    refine pure_ (i := 19) (N := some 14) (v := ?_) (a' := ?_) #[true, true, true, true, true, true, true, true, true, true, true, true, true, true, true, true, true, true, true, true] rfl rfl (any_of HT_.out (by kernel_rfl)) (fun _ _ _ h => h) (Or.inl ⟨by rfl, ?_⟩) ?_ ?_
                                    rotate_left
                                    · intro w'
                                      go_simp
                                      with_reducible rfl
                                    rotate_left
                                    · simp only [Act.put, List.setIfInBounds_toArray, List.set_cons_zero, List.set_cons_succ, i64_w, i32_w]
                                      rfl
                                    refine done_ (done_of HT_.out (by kernel_rfl)) ?_
                                    have p38 : 0 ≤ (x12_3 : Int) := of_decide_eq_true (by first | (with_reducible assumption) | assumption)
                                    have q38 : (x12_3 : Int) < ((x9_3.length : Int) : Int) := of_decide_eq_true (by first | (with_reducible assumption) | assumption)
                                    obtain ⟨go38, co38, eo38, gb38, gl38, cl38, HG38⟩ := Kd.R_form HO_9.out (by omega)
                                    (first | cases eo38 | (injection eo38 with ea_ en_ ec_; (first | subst ea_ | (injection ea_ with ea_; subst ea_)); subst ec_; clear en_))
                                    have GB38 := Aside0.mk gb38
                                    have GG38 := Aside0.mk HG38
                                    clear gb38 gl38 HG38
                                    (first | simp only [add_plain] at hx156_0 | skip)
                                    obtain ⟨hx38_0, hf38_0⟩ := Kd.R_celln 0 HO_9.out (x12_3 : Int) p38 q38
                                    replace p38 := eq_true p38
                                    replace q38 := eq_true q38
                                    obtain ⟨hy45_, hz45_⟩ := Kd.R_celln 0 HO_9.out (x12_3 : Int) (of_decide_eq_true (by first | (with_reducible assumption) | assumption)) (of_decide_eq_true (by first | (with_reducible assumption) | assumption))
                                    have HP45 := Kd.R_putg HO_9.out (x12_3 : Int) t158
                                    try go_wp2_with (first | ((with_reducible refine gate_store (t := 2) (p := 76) rfl ?_); refine store_event (t := 2) (p := 76) (v := ?vo_w46) (w1 := (w44.setCell ⟨go38, (x12_3 : Int).toNat, none⟩ (.int .i64 t158))) ?hg ?ho ?hn ?hr ?_; (case ho => rfl); (case hg => rfl); (case hn => rfl); (case hr => first | (go_simp; done) | (go_simp; rfl)); intro w46 hw; have hg : w44.grownBy w46 (some go38) := (by rw [hw]; exact HP45.2); have hp_ : Kd.R (Kd.int .i64) 2 w46 w.heap.size (fun _ => True) (.slice (some ⟨go38, 0, none⟩) x9_3.length co43) y160 := (by rw [hw, Ny160.out]; exact HP45.1); clear HP45; have n0_ := Aside0.mk (hp_); have n1_ := Aside0.mk (blk_grown (g := gb149) (o := .cells #[.int .i64 a0_0, .int .i64 a0_1, .int .i64 a0_2, .slice (some ad157) l0_3.length c0_3, .slice A0_4 l0_4.length c0_4] 36 (0, 0)) (by (with_reducible repeat (first | refine blk_drewN ?_ _ | refine blk_drew ?_ | refine blk_alloc ?_ _)); exact BK149.out) hg (Kd.R_ne HO_9.out BK149.out (by decide))); have n2_ := Aside0.mk (blk_grown (g := gb150) (o := .cells #[.int .i64 x151000_3, .int .i64 x151001_3, .int .i64 x151002_3] 52 (0, 0)) (by (with_reducible repeat (first | refine blk_drewN ?_ _ | refine blk_drew ?_ | refine blk_alloc ?_ _)); exact BK150.out) hg (Kd.R_ne HO_9.out BK150.out (by decide))); have n3_ := Aside0.mk (blk_grown (g := gb155) (o := .cells #[.int .i64 x156000_2, .int .i64 x156001_2, .int .i64 x156002_2] 52 (0, 0)) (by (with_reducible repeat (first | refine blk_drewN ?_ _ | refine blk_drew ?_ | refine blk_alloc ?_ _)); exact BK155.out) hg (Kd.R_ne HO_9.out BK155.out (by decide))); have n4_ := Aside0.mk ((by rw [hw]; exact below_set (HB.out) GB38.out : Below w.heap.size w w46)); clear HO_9; clear BK149; clear BK150; clear BK155; clear HB; have HO_9 := n0_; have BK149 := n1_; have BK150 := n2_; have BK155 := n3_; have HB := n4_; clear n0_ n1_ n2_ n3_ n4_; clear hg hw hp_))
                                    go_roundg k3
                                    case measure => have := HJ5.out; have := HK2.out; have := HK3.out; omega
                                    case rel => exact ⟨(y160), (wrap64 (x12_3 + 1)), (x151000_3), (x151001_3), (x151002_3), (by first | rfl | (simp; done) | (simp [*]; done)), H', ⟨by have := HJ5.out; have := HK2.out; have := HK3.out; omega⟩, ⟨by (with_reducible repeat (first | apply Kd.R_alloc | apply Kd.R_drewN | apply Kd.R_drew)); exact HO_9.out⟩, ⟨by (with_reducible repeat (first | refine blk_drewN ?_ _ | refine blk_drew ?_ | refine blk_alloc ?_ _)); exact BK149.out⟩, ⟨by (with_reducible repeat (first | refine blk_drewN ?_ _ | refine blk_drew ?_ | refine blk_alloc ?_ _)); exact BK150.out⟩, ⟨by (with_reducible repeat (first | refine blk_drewN ?_ _ | refine blk_drew ?_ | refine blk_alloc ?_ _)); exact BK155.out⟩, ⟨by repeat (first | (with_reducible first | exact HB.out | apply below_alloc | apply pw_below_drewN | apply below_drew1 | refine below_set ?_ GE149.out | refine below_set ?_ GE150.out | refine below_set ?_ GE155.out) | exact HB.out)⟩⟩
                                  · rw [if_neg c37] at H
                                    have c37b0 : (t159 == 0) = false := beq_eq_false_iff_ne.mpr c37
                                    have c37b1 : (t159 != 0) = true := bne_iff_ne.mpr c37
                                    simp only [Option.some.injEq, Prod.mk.injEq] at H
                                    obtain ⟨rfl, rfl, rfl, rfl, rfl⟩ := H
                                    have hnb47 := NB149_150.out
                                    have hnc47 := NB150_149.out
                                    have hnb48 := NB149_155.out
                                    have hnc48 := NB155_149.out
                                    have hcz49_0 : wr.cell? ⟨gb149, 0, none⟩ = some (.int .i64 a0_0) := (blk_cell BK149.out 0).trans rfl
                                    have hcz49_1 : wr.cell? ⟨gb149, 1, none⟩ = some (.int .i64 a0_1) := (blk_cell BK149.out 1).trans rfl
                                    have hcz49_2 : wr.cell? ⟨gb149, 2, none⟩ = some (.int .i64 a0_2) := (blk_cell BK149.out 2).trans rfl
                                    have hcz49_3 : wr.cell? ⟨gb149, 3, none⟩ = some (.slice A0_3 l0_3.length c0_3) := (blk_cell BK149.out 3).trans rfl
                                    have hcz49_4 : wr.cell? ⟨gb149, 4, none⟩ = some (.slice A0_4 l0_4.length c0_4) := (blk_cell BK149.out 4).trans rfl
                                    have hfz49_0 := blk_frozen BK149.out 0
                                    have hfz49_1 := blk_frozen BK149.out 1
                                    have hfz49_2 := blk_frozen BK149.out 2
                                    have hfz49_3 := blk_frozen BK149.out 3
                                    have hfz49_4 := blk_frozen BK149.out 4
                                    try go_wp2
                                    have n0_ := Aside0.mk (Kd.R_drew HO_9.out)
                                    have n1_ := Aside0.mk (blk_drew BK149.out)
                                    have n2_ := Aside0.mk (blk_drew BK150.out)
                                    have n3_ := Aside0.mk (blk_drew BK155.out)
                                    have n4_ := Aside0.mk (below_drew1 HB.out)
                                    clear HO_9
                                    clear BK149
                                    clear BK150
                                    clear BK155
                                    clear HB
                                    have HO_9 := n0_
                                    have BK149 := n1_
                                    have BK150 := n2_
                                    have BK155 := n3_
                                    have HB := n4_
                                    clear n0_ n1_ n2_ n3_ n4_
                                    obtain ⟨Ao51, co51, eo51⟩ := Kd.R_slice HO_9.out
                                    (first | subst eo51 | (injection eo51 with f1_ f2_ f3_; have f4_ := f1_.symm; have f5_ := f3_.symm; clear f1_ f2_ f3_; subst f4_; subst f5_))
                                    have p156 : 0 ≤ (x12_3 : Int) := of_decide_eq_true (by first | (with_reducible assumption) | assumption)
                                    have q156 : x12_3 < (x9_3.length : Int) := of_decide_eq_true (by first | (with_reducible assumption) | assumption)
                                    obtain ⟨ad156, e156, hx156_0⟩ := Kd.at_int (Kd.R_reads' HO_9.out).2.2 x12_3 p156 q156
                                    cases e156
                                    replace p156 := eq_true p156
                                    replace q156 := eq_true q156
                                    have p157 : 0 ≤ ((ji33) : Int) := of_decide_eq_true (by first | (with_reducible assumption) | assumption)
                                    have q157 : (ji33) < (l0_3.length : Int) := of_decide_eq_true (by first | (with_reducible assumption) | assumption)
                                    obtain ⟨ad157, e157, hx157_0⟩ := Kd.at_int HR0_3.out (ji33) p157 q157
                                    have hw157_0 := hx157_0
                                    cases e157
                                    replace hx157_0 := (HB.out.cell (World.block_lt_of_cell? w _ hx157_0)).trans hx157_0
                                    replace p157 := eq_true p157
                                    replace q157 := eq_true q157
                                    refine start_ (n := 20) (S := fun w' => w'.cell? ⟨gb149, 0, none⟩ = some (.int .i64 a0_0) ∧ w'.cell? ⟨gb149, 1, none⟩ = some (.int .i64 a0_1) ∧ w'.cell? ⟨gb149, 2, none⟩ = some (.int .i64 a0_2) ∧ w'.cell? ⟨gb149, 3, none⟩ = some (.slice (some ad157) l0_3.length c0_3) ∧ w'.cell? ⟨gb149, 4, none⟩ = some (.slice A0_4 l0_4.length c0_4) ∧ w'.cell? (ad156.add (x12_3).toNat) = some (.int .i64 (rd x9_3 x12_3)) ∧ w'.cell? (ad157.add ((ji33)).toNat) = some (.int .i64 (rd l0_3 (ji33)))) (ds := []) #[false, false, false, false, false, false, false, false, false, false, false, false, false, false, false, false, false, false, false, false] (by kernel_rfl) rfl rfl ⟨(blk_cell BK149.out 0).trans rfl, (blk_cell BK149.out 1).trans rfl, (blk_cell BK149.out 2).trans rfl, (blk_cell BK149.out 3).trans rfl, (blk_cell BK149.out 4).trans rfl, hx156_0, ((HB.out.cell (World.block_lt_of_cell? w _ hw157_0)).trans hw157_0)⟩ (fun hHeld => ?_); refine with_tabW hornbeamref12_Sum.tab13 hornbeamref12_Sum.bits13 (fun HT_ HW_ => ?_)
                                    generalize wr.drew = w50 at HO_9 BK149 BK150 BK155 HB hx156_0 hx157_0 hHeld ⊢
                                    refine pure_ (i := 0) (N := some 52) (v := ?_) (a' := ?_) #[true, false, false, false, false, false, false, false, false, false, false, false, false, false, false, false, false, false, false, false] rfl rfl (any_of HT_.out (by kernel_rfl)) (fun _ _ _ h => h) (Or.inl ⟨by rfl, ?_⟩) ?_ ?_
                                    rotate_left
                                    · intro w'
                                      go_simp
                                      with_reducible rfl
                                    rotate_left
                                    · simp only [Act.put, List.setIfInBounds_toArray, List.set_cons_zero, List.set_cons_succ, i64_w, i32_w]
                                      rfl
                                    refine pure_ (i := 1) (N := some 53) (v := ?_) (a' := ?_) #[true, true, false, false, false, false, false, false, false, false, false, false, false, false, false, false, false, false, false, false] rfl rfl (any_of HT_.out (by kernel_rfl)) (fun _ _ _ h => h) (Or.inl ⟨by rfl, ?_⟩) ?_ ?_
                                    rotate_left
                                    · intro w'
                                      go_simp
                                      with_reducible rfl
                                    rotate_left
                                    · simp only [Act.put, List.setIfInBounds_toArray, List.set_cons_zero, List.set_cons_succ, i64_w, i32_w]
                                      rfl
                                    refine pure_ (i := 2) (N := some 54) (v := ?_) (a' := ?_) #[true, true, true, false, false, false, false, false, false, false, false, false, false, false, false, false, false, false, false, false] rfl rfl (any_of HT_.out (by kernel_rfl)) (fun _ _ _ h => h) (Or.inl ⟨by rfl, ?_⟩) ?_ ?_
                                    rotate_left
                                    · intro w'
                                      go_simp
                                      with_reducible rfl
                                    rotate_left
                                    · simp only [Act.put, List.setIfInBounds_toArray, List.set_cons_zero, List.set_cons_succ, i64_w, i32_w]
                                      rfl
                                    refine pure_ (i := 4) (N := some 56) (v := ?_) (a' := ?_) #[true, true, true, false, true, false, false, false, false, false, false, false, false, false, false, false, false, false, false, false] rfl rfl (any_of HT_.out (by kernel_rfl)) (fun _ _ _ h => h) (Or.inl ⟨by rfl, ?_⟩) ?_ ?_
                                    rotate_left
                                    · intro w'
                                      go_simp
                                      with_reducible rfl
                                    rotate_left
                                    · simp only [Act.put, List.setIfInBounds_toArray, List.set_cons_zero, List.set_cons_succ, i64_w, i32_w]
                                      rfl
                                    refine pure_ (i := 6) (N := some 58) (v := ?_) (a' := ?_) #[true, true, true, false, true, false, true, false, false, false, false, false, false, false, false, false, false, false, false, false] rfl rfl (any_of HT_.out (by kernel_rfl)) (fun _ _ _ h => h) (Or.inl ⟨by rfl, ?_⟩) ?_ ?_
                                    rotate_left
                                    · intro w'
                                      go_simp
                                      with_reducible rfl
                                    rotate_left
                                    · simp only [Act.put, List.setIfInBounds_toArray, List.set_cons_zero, List.set_cons_succ, i64_w, i32_w]
                                      rfl
                                    refine pure_ (i := 7) (N := some 59) (v := ?_) (a' := ?_) #[true, true, true, false, true, false, true, true, false, false, false, false, false, false, false, false, false, false, false, false] rfl rfl (any_of HT_.out (by kernel_rfl)) (fun _ _ _ h => h) (Or.inl ⟨by rfl, ?_⟩) ?_ ?_
                                    rotate_left
                                    · intro w'
                                      go_simp
                                      with_reducible rfl
                                    rotate_left
                                    · simp only [Act.put, List.setIfInBounds_toArray, List.set_cons_zero, List.set_cons_succ, i64_w, i32_w]
                                      rfl
                                    refine pure_ (i := 10) (N := some 62) (v := ?_) (a' := ?_) #[true, true, true, false, true, false, true, true, false, false, true, false, false, false, false, false, false, false, false, false] rfl rfl (any_of HT_.out (by kernel_rfl)) (fun _ _ _ h => h) (Or.inl ⟨by rfl, ?_⟩) ?_ ?_
                                    rotate_left
                                    · intro w'
                                      go_simp
                                      with_reducible rfl
                                    rotate_left
                                    · simp only [Act.put, List.setIfInBounds_toArray, List.set_cons_zero, List.set_cons_succ, i64_w, i32_w]
                                      rfl
                                    refine take_ (i := 3) (N := some 55) (v := ?_) (a' := ?_) #[true, true, true, true, true, false, true, true, false, false, true, false, false, false, false, false, false, false, false, false] rfl rfl (take_ofW HT_.out HW_.out (by kernel_rfl)) (fun _ _ _ h => h) (Or.inl ⟨by rfl, ?_⟩) hHeld ?_ ?_
                                    rotate_left
                                    · rintro w' ⟨s0, s1, s2, s3, s4, s5, s6⟩
                                      go_simp
                                      with_reducible rfl
                                    rotate_left
                                    · simp only [Act.put, List.setIfInBounds_toArray, List.set_cons_zero, List.set_cons_succ, i64_w, i32_w]
                                      rfl
                                    refine take_ (i := 5) (N := some 57) (v := ?_) (a' := ?_) #[true, true, true, true, true, true, true, true, false, false, true, false, false, false, false, false, false, false, false, false] rfl rfl (take_ofW HT_.out HW_.out (by kernel_rfl)) (fun _ _ _ h => h) (Or.inl ⟨by rfl, ?_⟩) hHeld ?_ ?_
                                    rotate_left
                                    · rintro w' ⟨s0, s1, s2, s3, s4, s5, s6⟩
                                      go_simp
                                      with_reducible rfl
                                    rotate_left
                                    · simp only [Act.put, List.setIfInBounds_toArray, List.set_cons_zero, List.set_cons_succ, i64_w, i32_w]
                                      rfl
                                    refine take_ (i := 8) (N := some 60) (v := ?_) (a' := ?_) #[true, true, true, true, true, true, true, true, true, false, true, false, false, false, false, false, false, false, false, false] rfl rfl (take_ofW HT_.out HW_.out (by kernel_rfl)) (fun _ _ _ h => h) (Or.inl ⟨by rfl, ?_⟩) hHeld ?_ ?_
                                    rotate_left
                                    · rintro w' ⟨s0, s1, s2, s3, s4, s5, s6⟩
                                      go_simp
                                      with_reducible rfl
                                    rotate_left
                                    · simp only [Act.put, List.setIfInBounds_toArray, List.set_cons_zero, List.set_cons_succ, i64_w, i32_w]
                                      rfl
                                    refine pure_ (i := 9) (N := some 61) (v := ?_) (a' := ?_) #[true, true, true, true, true, true, true, true, true, true, true, false, false, false, false, false, false, false, false, false] rfl rfl (any_of HT_.out (by kernel_rfl)) (fun _ _ _ h => h) (Or.inl ⟨by rfl, ?_⟩) ?_ ?_
                                    rotate_left
                                    · intro w'
                                      go_simp
                                      with_reducible rfl
                                    rotate_left
                                    · simp only [Act.put, List.setIfInBounds_toArray, List.set_cons_zero, List.set_cons_succ, i64_w, i32_w]
                                      rfl
                                    refine pure_ (i := 11) (N := some 63) (v := ?_) (a' := ?_) #[true, true, true, true, true, true, true, true, true, true, true, true, false, false, false, false, false, false, false, false] rfl rfl (any_of HT_.out (by kernel_rfl)) (fun _ _ _ h => h) (Or.inl ⟨by rfl, ?_⟩) ?_ ?_
                                    rotate_left
                                    · intro w'
                                      go_simp
                                      with_reducible rfl
                                    rotate_left
                                    · simp only [Act.put, List.setIfInBounds_toArray, List.set_cons_zero, List.set_cons_succ, i64_w, i32_w]
                                      rfl
                                    refine pure_ (i := 12) (N := some 64) (v := ?_) (a' := ?_) #[true, true, true, true, true, true, true, true, true, true, true, true, true, false, false, false, false, false, false, false] rfl rfl (any_of HT_.out (by kernel_rfl)) (fun _ _ _ h => h) (Or.inl ⟨by rfl, ?_⟩) ?_ ?_
                                    rotate_left
                                    · intro w'
                                      go_simp
                                      with_reducible rfl
                                    rotate_left
                                    · simp only [Act.put, List.setIfInBounds_toArray, List.set_cons_zero, List.set_cons_succ, i64_w, i32_w]
                                      rfl
                                    refine take_ (i := 13) (N := some 65) (v := ?_) (a' := ?_) #[true, true, true, true, true, true, true, true, true, true, true, true, true, true, false, false, false, false, false, false] rfl rfl (take_ofW HT_.out HW_.out (by kernel_rfl)) (fun _ _ _ h => h) (Or.inl ⟨by rfl, ?_⟩) hHeld ?_ ?_
                                    rotate_left
                                    · rintro w' ⟨s0, s1, s2, s3, s4, s5, s6⟩
                                      go_simp
                                      with_reducible rfl
                                    rotate_left
                                    · simp only [Act.put, List.setIfInBounds_toArray, List.set_cons_zero, List.set_cons_succ, i64_w, i32_w]
                                      rfl
                                    refine one_ (i := 14) (N := some 66) #[true, true, true, true, true, true, true, true, true, true, true, true, true, true, true, false, false, false, false, false] rfl rfl (one_of HT_.out (by kernel_rfl)) (by decide) (fun K hK => ?_)
                                    refine goes_ Try.func49 (by kernel_rfl) rfl #[.int .i64 (rd x9_3 x12_3), .int .i64 (rd l0_3 (ji33))] (by rfl) rfl rfl (by (try simp only [List.map_toArray, List.map_cons, List.map_nil]); first | done | (simp only [hji33]; rfl) | rfl | (simp only [List.length_drop, List.length_take]; rfl)) ?_
                                    with_reducible refine (hornbeamref04_Plus.calls (rd x9_3 x12_3) (rd l0_3 (ji33)) t158 t159 _ A36.out).mono ?_
                                    rintro e w52 ⟨rfl, hb⟩
                                    have HS5_ := (hb.cell (World.block_lt_of_cell? _ _ (hHeld.2.2.2.2.2.1))).trans (hHeld.2.2.2.2.2.1)
                                    refine ⟨_, rfl, ?_⟩
                                    have n0_ := Aside0.mk (Kd.R_below (by (with_reducible repeat (first | apply Kd.R_alloc | apply Kd.R_drewN | apply Kd.R_drew)); exact HO_9.out) hb)
                                    have n1_ := Aside0.mk (blk_below (g := gb149) (o := .cells #[.int .i64 a0_0, .int .i64 a0_1, .int .i64 a0_2, .slice (some ad157) l0_3.length c0_3, .slice A0_4 l0_4.length c0_4] 36 (0, 0)) (by (with_reducible repeat (first | refine blk_drewN ?_ _ | refine blk_drew ?_ | refine blk_alloc ?_ _)); exact BK149.out) hb)
                                    have n2_ := Aside0.mk (blk_below (g := gb150) (o := .cells #[.int .i64 x151000_3, .int .i64 x151001_3, .int .i64 x151002_3] 52 (0, 0)) (by (with_reducible repeat (first | refine blk_drewN ?_ _ | refine blk_drew ?_ | refine blk_alloc ?_ _)); exact BK150.out) hb)
                                    have n3_ := Aside0.mk (blk_below (g := gb155) (o := .cells #[.int .i64 x156000_2, .int .i64 x156001_2, .int .i64 x156002_2] 52 (0, 0)) (by (with_reducible repeat (first | refine blk_drewN ?_ _ | refine blk_drew ?_ | refine blk_alloc ?_ _)); exact BK155.out) hb)
                                    have n4_ := Aside0.mk (below_step (by repeat (first | (with_reducible first | exact HB.out | apply below_alloc | apply pw_below_drewN | apply below_drew1 | refine below_set ?_ GE149.out | refine below_set ?_ GE150.out | refine below_set ?_ GE155.out) | exact HB.out)) hb)
                                    clear HO_9
                                    clear BK149
                                    clear BK150
                                    clear BK155
                                    clear HB
                                    have HO_9 := n0_
                                    have BK149 := n1_
                                    have BK150 := n2_
                                    have BK155 := n3_
                                    have HB := n4_
                                    clear n0_ n1_ n2_ n3_ n4_
                                    (try clear hb)
                                    (try clear hb2)
                                    (try clear hk)
                                    (try clear hi)
                                    refine hK.out _ _ ⟨(blk_cell BK149.out 0).trans rfl, (blk_cell BK149.out 1).trans rfl, (blk_cell BK149.out 2).trans rfl, (blk_cell BK149.out 3).trans rfl, (blk_cell BK149.out 4).trans rfl, HS5_, ((HB.out.cell (World.block_lt_of_cell? w _ hw157_0)).trans hw157_0)⟩ (fun hHeld => ?_)
                                    clear hK K
                                    refine norm_ (a' := ?_) ?_ ?_
                                    rotate_left
                                    · show Act.put _ (some 66) _ = _
                                      simp only [Act.put, List.setIfInBounds_toArray, List.set_cons_zero, List.set_cons_succ, i64_w, i32_w]
                                      rfl
                                    refine pure_ (i := 15) (N := some 51) (v := ?_) (a' := ?_) #[true, true, true, true, true, true, true, true, true, true, true, true, true, true, true, true, false, false, false, false] rfl rfl (any_of HT_.out (by kernel_rfl)) (fun _ _ _ h => h) (Or.inl ⟨by rfl, ?_⟩) ?_ ?_
                                    rotate_left
                                    · intro w'
                                      go_simp
                                      with_reducible rfl
                                    rotate_left
                                    · simp only [Act.put, List.setIfInBounds_toArray, List.set_cons_zero, List.set_cons_succ, i64_w, i32_w]
                                      rfl
                                    refine pure_ (i := 16) (N := some 67) (v := ?_) (a' := ?_) #[true, true, true, true, true, true, true, true, true, true, true, true, true, true, true, true, true, false, false, false] rfl rfl (any_of HT_.out (by kernel_rfl)) (fun _ _ _ h => h) (Or.inl ⟨by rfl, ?_⟩) ?_ ?_
                                    rotate_left
                                    · intro w'
                                      go_simp
                                      with_reducible rfl
                                    rotate_left
                                    · simp only [Act.put, List.setIfInBounds_toArray, List.set_cons_zero, List.set_cons_succ, i64_w, i32_w]
                                      rfl
                                    refine pure_ (i := 17) (N := some 68) (v := ?_) (a' := ?_) #[true, true, true, true, true, true, true, true, true, true, true, true, true, true, true, true, true, true, false, false] rfl rfl (any_of HT_.out (by kernel_rfl)) (fun _ _ _ h => h) (Or.inl ⟨by rfl, ?_⟩) ?_ ?_
                                    rotate_left
                                    · intro w'
                                      go_simp
                                      with_reducible rfl
                                    rotate_left
                                    · simp only [Act.put, List.setIfInBounds_toArray, List.set_cons_zero, List.set_cons_succ, i64_w, i32_w]
                                      rfl
                                    refine pure_ (i := 18) (N := some 13) (v := ?_) (a' := ?_) #[true, true, true, true, true, true, true, true, true, true, true, true, true, true, true, true, true, true, true, false] rfl rfl (any_of HT_.out (by kernel_rfl)) (fun _ _ _ h => h) (Or.inl ⟨by rfl, ?_⟩) ?_ ?_
                                    rotate_left
                                    · intro w'
                                      go_simp
                                      with_reducible rfl
                                    rotate_left
                                    · simp only [Act.put, List.setIfInBounds_toArray, List.set_cons_zero, List.set_cons_succ, i64_w, i32_w]
                                      rfl
                                    refine pure_ (i := 19) (N := some 14) (v := ?_) (a' := ?_) #[true, true, true, true, true, true, true, true, true, true, true, true, true, true, true, true, true, true, true, true] rfl rfl (any_of HT_.out (by kernel_rfl)) (fun _ _ _ h => h) (Or.inl ⟨by rfl, ?_⟩) ?_ ?_
                                    rotate_left
                                    · intro w'
                                      go_simp
                                      with_reducible rfl
                                    rotate_left
                                    · simp only [Act.put, List.setIfInBounds_toArray, List.set_cons_zero, List.set_cons_succ, i64_w, i32_w]
                                      rfl
                                    refine done_ (done_of HT_.out (by kernel_rfl)) ?_
                                    have hnb53 := NB150_155.out
                                    have hnc53 := NB155_150.out
                                    have hcz54_0 : w52.cell? ⟨gb150, 0, none⟩ = some (.int .i64 x151000_3) := (blk_cell BK150.out 0).trans rfl
                                    have hcz54_1 : w52.cell? ⟨gb150, 1, none⟩ = some (.int .i64 x151001_3) := (blk_cell BK150.out 1).trans rfl
                                    have hcz54_2 : w52.cell? ⟨gb150, 2, none⟩ = some (.int .i64 x151002_3) := (blk_cell BK150.out 2).trans rfl
                                    have hfz54_0 := blk_frozen BK150.out 0
                                    have hfz54_1 := blk_frozen BK150.out 1
                                    have hfz54_2 := blk_frozen BK150.out 2
                                    try go_wp2
                                    refine bodyPost_ret (results_list (rs := [.tmp 6, .cell 7 52, .tmp 8]) rfl (by simp) (.tmp (.cell gb150 52 #[.int .i64 0, .int .i64 0, .int .i64 0] (0, 0) _ rfl (by (with_reducible repeat (first | refine blk_drewN ?_ _ | refine blk_drew ?_ | refine blk_alloc ?_ _)); refine blk_put (cs := #[.int .i64 0, .int .i64 0, .int .i64 x151002_3]) ?_ 2 _ rfl; (with_reducible repeat (first | refine blk_drewN ?_ _ | refine blk_drew ?_ | refine blk_alloc ?_ _)); refine blk_put (cs := #[.int .i64 0, .int .i64 x151001_3, .int .i64 x151002_3]) ?_ 1 _ rfl; (with_reducible repeat (first | refine blk_drewN ?_ _ | refine blk_drew ?_ | refine blk_alloc ?_ _)); refine blk_put (cs := #[.int .i64 x151000_3, .int .i64 x151001_3, .int .i64 x151002_3]) ?_ 0 _ rfl; (with_reducible repeat (first | refine blk_drewN ?_ _ | refine blk_drew ?_ | refine blk_alloc ?_ _)); exact BK150.out) Try.underlying52 rfl (by kernel_rfl) (.tmp .nil)))) rfl ?_
                                    exact ⟨_, by first | rfl | (simp [errW_none, errW_some] <;> rfl) | (simp only [← hji33]; first | rfl | (simp [errW_none, errW_some] <;> rfl)) | (simp [*, errW_none, errW_some] <;> rfl), by first | exact Kd.R_nil _ _ _ _ _ | exact Kd.N_nil _ _ _ _ _ | exact Kd.V_nil _ _ _ _ _ | exact Kd.Q_nil _ _ _ _ _ | exact Kd.S_nil _ _ _ _ _, by repeat (first | (with_reducible first | exact HB.out | apply below_alloc | apply pw_below_drewN | apply below_drew1 | refine below_set ?_ GE149.out | refine below_set ?_ GE150.out | refine below_set ?_ GE155.out) | exact HB.out)⟩
                                · rw [if_neg c35] at H
                                  exact absurd H (by simp)
                              · rw [if_neg c34] at H
                                exact absurd H (by simp)
                            · rw [if_neg c32] at H
                              exact absurd H (by simp)
                          · rw [if_neg c31] at H
                            exact absurd H (by simp)
                        · rw [if_neg c30] at H
                          have c30b0 : decide (x12_3 < a0_2) = false := decide_eq_false c30
                          clear c30
                          by_cases c55 : a0_0 = 1
                          · rw [if_pos c55] at H
                            have c55b0 : (a0_0 == 1) = true := beq_iff_eq.mpr c55
                            have c55b1 : (a0_0 != 1) = false := bne_eq_false_iff_eq.mpr c55
                            clear c55
                            by_cases c56 : 0 ≤ x11_2
                            · rw [if_pos c56] at H
                              have c56b0 : decide (0 ≤ x11_2) = true := decide_eq_true c56
                              clear c56
                              by_cases c57 : x11_2 < (l0_4.length : Int)
                              · rw [if_pos c57] at H
                                have c57b0 : decide (x11_2 < (l0_4.length : Int)) = true := decide_eq_true c57
                                clear c57
                                replace H := Option.bind_eq_some_iff.mp H
                                obtain ⟨⟨t162, t163, t164, t165⟩, A580, H⟩ := H
                                replace H : (if t165 = 0 then (hornbeamref12_Sum.l0 k3 a2 x9_3 (wrap64 (x11_2 + 1)) a0_0 a0_1 a0_2 l0_3 l0_4 t162 t163 t164) else (some (([] : List Int), 0, 0, 0, t165))) = some (r1, r2, r3, r4, r5) := H
                                have A58 := Aside0.mk A580
                                clear A580
                                by_cases c59 : t165 = 0
                                · rw [if_pos c59] at H
                                  have c59b0 : (t165 == 0) = true := beq_iff_eq.mpr c59
                                  have c59b1 : (t165 != 0) = false := bne_eq_false_iff_eq.mpr c59
                                  clear c59
                                  have H' := Aside0.mk H
                                  clear H
                                  have hnb60 := NB149_150.out
                                  have hnc60 := NB150_149.out
                                  have hnb61 := NB149_155.out
                                  have hnc61 := NB155_149.out
                                  have hcz62_0 : wr.cell? ⟨gb149, 0, none⟩ = some (.int .i64 a0_0) := (blk_cell BK149.out 0).trans rfl
                                  have hcz62_1 : wr.cell? ⟨gb149, 1, none⟩ = some (.int .i64 a0_1) := (blk_cell BK149.out 1).trans rfl
                                  have hcz62_2 : wr.cell? ⟨gb149, 2, none⟩ = some (.int .i64 a0_2) := (blk_cell BK149.out 2).trans rfl
                                  have hcz62_3 : wr.cell? ⟨gb149, 3, none⟩ = some (.slice A0_3 l0_3.length c0_3) := (blk_cell BK149.out 3).trans rfl
                                  have hcz62_4 : wr.cell? ⟨gb149, 4, none⟩ = some (.slice A0_4 l0_4.length c0_4) := (blk_cell BK149.out 4).trans rfl
                                  have hfz62_0 := blk_frozen BK149.out 0
                                  have hfz62_1 := blk_frozen BK149.out 1
                                  have hfz62_2 := blk_frozen BK149.out 2
                                  have hfz62_3 := blk_frozen BK149.out 3
                                  have hfz62_4 := blk_frozen BK149.out 4
                                  try go_wp2
                                  have n0_ := Aside0.mk (Kd.R_drew HO_9.out)
                                  have n1_ := Aside0.mk (blk_drew BK149.out)
                                  have n2_ := Aside0.mk (blk_drew BK150.out)
                                  have n3_ := Aside0.mk (blk_drew BK155.out)
                                  have n4_ := Aside0.mk (below_drew1 HB.out)
                                  clear HO_9
                                  clear BK149
                                  clear BK150
                                  clear BK155
                                  clear HB
                                  have HO_9 := n0_
                                  have BK149 := n1_
                                  have BK150 := n2_
                                  have BK155 := n3_
                                  have HB := n4_
                                  clear n0_ n1_ n2_ n3_ n4_
                                  have p161 : 0 ≤ (x11_2 : Int) := of_decide_eq_true (by first | (with_reducible assumption) | assumption)
                                  have q161 : x11_2 < (l0_4.length : Int) := of_decide_eq_true (by first | (with_reducible assumption) | assumption)
                                  obtain ⟨ad161, e161, hx161_0, hx161_1, hx161_2⟩ := at_T52 HR0_4.out x11_2 p161 q161
                                  have hw161_2 := hx161_2
                                  have hw161_1 := hx161_1
                                  have hw161_0 := hx161_0
                                  cases e161
                                  replace hx161_0 := (HB.out.cell (World.block_lt_of_cell? w _ hx161_0)).trans hx161_0
                                  replace hx161_1 := (HB.out.cell (World.block_lt_of_cell? w _ hx161_1)).trans hx161_1
                                  replace hx161_2 := (HB.out.cell (World.block_lt_of_cell? w _ hx161_2)).trans hx161_2
                                  replace p161 := eq_true p161
                                  replace q161 := eq_true q161
                                  refine start_ (n := 13) (S := fun w' => w'.cell? ⟨gb155, 0, none⟩ = some (.int .i64 x156000_2) ∧ w'.cell? ⟨gb155, 1, none⟩ = some (.int .i64 x156001_2) ∧ w'.cell? ⟨gb155, 2, none⟩ = some (.int .i64 x156002_2) ∧ w'.cell? ⟨gb149, 0, none⟩ = some (.int .i64 a0_0) ∧ w'.cell? ⟨gb149, 1, none⟩ = some (.int .i64 a0_1) ∧ w'.cell? ⟨gb149, 2, none⟩ = some (.int .i64 a0_2) ∧ w'.cell? ⟨gb149, 3, none⟩ = some (.slice A0_3 l0_3.length c0_3) ∧ w'.cell? ⟨gb149, 4, none⟩ = some (.slice (some ad161) l0_4.length c0_4) ∧ w'.cell? (ad161.add ((x11_2).toNat * 3)) = some (.int .i64 ((rd_T52 l0_4 x11_2).f0)) ∧ w'.cell? ⟨(ad161.add ((x11_2).toNat * 3)).block, (ad161.add ((x11_2).toNat * 3)).off + 1, none⟩ = some (.int .i64 ((rd_T52 l0_4 x11_2).f1)) ∧ w'.cell? ⟨(ad161.add ((x11_2).toNat * 3)).block, (ad161.add ((x11_2).toNat * 3)).off + 2, none⟩ = some (.int .i64 ((rd_T52 l0_4 x11_2).f2))) (ds := []) #[false, false, false, false, false, false, false, false, false, false, false, false, false] (by kernel_rfl) rfl rfl ⟨(blk_cell BK155.out 0).trans rfl, (blk_cell BK155.out 1).trans rfl, (blk_cell BK155.out 2).trans rfl, (blk_cell BK149.out 0).trans rfl, (blk_cell BK149.out 1).trans rfl, (blk_cell BK149.out 2).trans rfl, (blk_cell BK149.out 3).trans rfl, (blk_cell BK149.out 4).trans rfl, ((HB.out.cell (World.block_lt_of_cell? w _ hw161_0)).trans hw161_0), ((HB.out.cell (World.block_lt_of_cell? w _ hw161_1)).trans hw161_1), ((HB.out.cell (World.block_lt_of_cell? w _ hw161_2)).trans hw161_2)⟩ (fun hHeld => ?_); refine with_tabW hornbeamref12_Sum.tab18 hornbeamref12_Sum.bits18 (fun HT_ HW_ => ?_)
                                  generalize wr.drew = w63 at HO_9 BK149 BK150 BK155 HB hx161_0 hx161_1 hx161_2 hHeld ⊢
                                  refine pure_ (i := 1) (N := some 82) (v := ?_) (a' := ?_) #[false, true, false, false, false, false, false, false, false, false, false, false, false] rfl rfl (any_of HT_.out (by kernel_rfl)) (fun _ _ _ h => h) (Or.inl ⟨by rfl, ?_⟩) ?_ ?_
                                  rotate_left
                                  · intro w'
                                    go_simp
                                    with_reducible rfl
                                  rotate_left
                                  · simp only [Act.put, List.setIfInBounds_toArray, List.set_cons_zero, List.set_cons_succ, i64_w, i32_w]
                                    rfl
                                  refine pure_ (i := 3) (N := some 84) (v := ?_) (a' := ?_) #[false, true, false, true, false, false, false, false, false, false, false, false, false] rfl rfl (any_of HT_.out (by kernel_rfl)) (fun _ _ _ h => h) (Or.inl ⟨by rfl, ?_⟩) ?_ ?_
                                  rotate_left
                                  · intro w'
                                    go_simp
                                    with_reducible rfl
                                  rotate_left
                                  · simp only [Act.put, List.setIfInBounds_toArray, List.set_cons_zero, List.set_cons_succ, i64_w, i32_w]
                                    rfl
                                  refine take_ (i := 0) (N := some 81) (v := ?_) (a' := ?_) #[true, true, false, true, false, false, false, false, false, false, false, false, false] rfl rfl (take_ofW HT_.out HW_.out (by kernel_rfl)) (fun _ _ _ h => h) (Or.inl ⟨by rfl, ?_⟩) hHeld ?_ ?_
                                  rotate_left
                                  · rintro w' ⟨s0, s1, s2, s3, s4, s5, s6, s7, s8, s9, s10⟩
                                    go_simp
                                    with_reducible rfl
                                  rotate_left
                                  · simp only [Act.put, List.setIfInBounds_toArray, List.set_cons_zero, List.set_cons_succ, i64_w, i32_w]
                                    rfl
                                  refine take_ (i := 2) (N := some 83) (v := ?_) (a' := ?_) #[true, true, true, true, false, false, false, false, false, false, false, false, false] rfl rfl (take_ofW HT_.out HW_.out (by kernel_rfl)) (fun _ _ _ h => h) (Or.inl ⟨by rfl, ?_⟩) hHeld ?_ ?_
                                  rotate_left
                                  · rintro w' ⟨s0, s1, s2, s3, s4, s5, s6, s7, s8, s9, s10⟩
                                    go_simp
                                    with_reducible rfl
                                  rotate_left
                                  · simp only [Act.put, List.setIfInBounds_toArray, List.set_cons_zero, List.set_cons_succ, i64_w, i32_w]
                                    rfl
                                  refine pure_ (i := 4) (N := some 85) (v := ?_) (a' := ?_) #[true, true, true, true, true, false, false, false, false, false, false, false, false] rfl rfl (any_of HT_.out (by kernel_rfl)) (fun _ _ _ h => h) (Or.inl ⟨by rfl, ?_⟩) ?_ ?_
                                  rotate_left
                                  · intro w'
                                    go_simp
                                    with_reducible rfl
                                  rotate_left
                                  · simp only [Act.put, List.setIfInBounds_toArray, List.set_cons_zero, List.set_cons_succ, i64_w, i32_w]
                                    rfl
                                  refine take_ (i := 5) (N := some 86) (v := ?_) (a' := ?_) #[true, true, true, true, true, true, false, false, false, false, false, false, false] rfl rfl (take_ofW HT_.out HW_.out (by kernel_rfl)) (fun _ _ _ h => h) (Or.inl ⟨by rfl, ?_⟩) hHeld ?_ ?_
                                  rotate_left
                                  · rintro w' ⟨s0, s1, s2, s3, s4, s5, s6, s7, s8, s9, s10⟩
                                    go_simp
                                    with_reducible rfl
                                  rotate_left
                                  · simp only [Act.put, List.setIfInBounds_toArray, List.set_cons_zero, List.set_cons_succ, i64_w, i32_w]
                                    rfl
                                  refine join_ (σ := Nat) 2 #[true, true, true, true, true, true, true, true, true, true, true, false, false] (fun s_ => [(87, .tuple #[.agg #[.int .i64 t162, .int .i64 t163, .int .i64 t164], .int .i64 t165]), (15, .pointer (some ⟨s_, 0, none⟩)), (80, .tuple #[.agg #[.int .i64 t162, .int .i64 t163, .int .i64 t164], .int .i64 t165]), (88, .agg #[.int .i64 t162, .int .i64 t163, .int .i64 t164]), (89, .int .i64 t165)]) (fun s_ w' => (w'.cell? ⟨gb155, 0, none⟩ = some (.int .i64 x156000_2) ∧ w'.cell? ⟨gb155, 1, none⟩ = some (.int .i64 x156001_2) ∧ w'.cell? ⟨gb155, 2, none⟩ = some (.int .i64 x156002_2) ∧ w'.cell? ⟨gb149, 0, none⟩ = some (.int .i64 a0_0) ∧ w'.cell? ⟨gb149, 1, none⟩ = some (.int .i64 a0_1) ∧ w'.cell? ⟨gb149, 2, none⟩ = some (.int .i64 a0_2) ∧ w'.cell? ⟨gb149, 3, none⟩ = some (.slice A0_3 l0_3.length c0_3) ∧ w'.cell? ⟨gb149, 4, none⟩ = some (.slice (some ad161) l0_4.length c0_4) ∧ w'.cell? (ad161.add ((x11_2).toNat * 3)) = some (.int .i64 ((rd_T52 l0_4 x11_2).f0)) ∧ w'.cell? ⟨(ad161.add ((x11_2).toNat * 3)).block, (ad161.add ((x11_2).toNat * 3)).off + 1, none⟩ = some (.int .i64 ((rd_T52 l0_4 x11_2).f1)) ∧ w'.cell? ⟨(ad161.add ((x11_2).toNat * 3)).block, (ad161.add ((x11_2).toNat * 3)).off + 2, none⟩ = some (.int .i64 ((rd_T52 l0_4 x11_2).f2))) ∧ (Kd.R (Kd.int .i64) 2 w' w.heap.size (fun _ => True) v153 x9_3) ∧ (w'.heap[gb149]? = some (.cells #[.int .i64 a0_0, .int .i64 a0_1, .int .i64 a0_2, .slice A0_3 l0_3.length c0_3, .slice (some ad161) l0_4.length c0_4] 36 (0, 0))) ∧ (w'.heap[gb150]? = some (.cells #[.int .i64 x151000_3, .int .i64 x151001_3, .int .i64 x151002_3] 52 (0, 0))) ∧ (w'.heap[gb155]? = some (.cells #[.int .i64 x156000_2, .int .i64 x156001_2, .int .i64 x156002_2] 52 (0, 0))) ∧ (w'.heap[s_]? = some (.cells #[.int .i64 0, .int .i64 0, .int .i64 0] 52 (0, 0))) ∧ (w.heap.size ≤ s_) ∧ (w.heap.size ≤ s_) ∧ (gb149 ≠ s_) ∧ (s_ ≠ gb149) ∧ (gb150 ≠ s_) ∧ (s_ ≠ gb150) ∧ (gb155 ≠ s_) ∧ (s_ ≠ gb155) ∧ (Below w.heap.size w w')) ?_ ?_
                                  rotate_left
                                  · intro hCont
                                    refine two_ (i := 6) (j := 10) (Ni := some 87) (Nj := some 15) #[true, true, true, true, true, true, true, false, false, false, false, false, false] #[true, true, true, true, true, true, false, false, false, false, true, false, false] rfl rfl rfl rfl (two_of HT_.out (by kernel_rfl)) (by decide) (by decide) (fun K hK => ?_) (fun K hK => ?_)
                                    · skip
                                      refine goes_ Try.func51 (by kernel_rfl) rfl #[.agg #[.int .i64 x156000_2, .int .i64 x156001_2, .int .i64 x156002_2], .agg #[.int .i64 ((rd_T52 l0_4 x11_2).f0), .int .i64 ((rd_T52 l0_4 x11_2).f1), .int .i64 ((rd_T52 l0_4 x11_2).f2)]] (by rfl) rfl rfl (by (try simp only [List.map_toArray, List.map_cons, List.map_nil]); first | done | rfl | (simp only [List.length_drop, List.length_take]; rfl)) ?_
                                      with_reducible refine (hornbeamref12_plus.calls x156000_2 x156001_2 x156002_2 ((rd_T52 l0_4 x11_2).f0) ((rd_T52 l0_4 x11_2).f1) ((rd_T52 l0_4 x11_2).f2) t162 t163 t164 t165 _ A58.out).mono ?_
                                      rintro e w64 ⟨rfl, hb⟩
                                      refine ⟨_, rfl, ?_⟩
                                      have n0_ := Aside0.mk (Kd.R_below (by (with_reducible repeat (first | apply Kd.R_alloc | apply Kd.R_drewN | apply Kd.R_drew)); exact HO_9.out) hb)
                                      have n1_ := Aside0.mk (blk_below (g := gb149) (o := .cells #[.int .i64 a0_0, .int .i64 a0_1, .int .i64 a0_2, .slice A0_3 l0_3.length c0_3, .slice (some ad161) l0_4.length c0_4] 36 (0, 0)) (by (with_reducible repeat (first | refine blk_drewN ?_ _ | refine blk_drew ?_ | refine blk_alloc ?_ _)); exact BK149.out) hb)
                                      have n2_ := Aside0.mk (blk_below (g := gb150) (o := .cells #[.int .i64 x151000_3, .int .i64 x151001_3, .int .i64 x151002_3] 52 (0, 0)) (by (with_reducible repeat (first | refine blk_drewN ?_ _ | refine blk_drew ?_ | refine blk_alloc ?_ _)); exact BK150.out) hb)
                                      have n3_ := Aside0.mk (blk_below (g := gb155) (o := .cells #[.int .i64 x156000_2, .int .i64 x156001_2, .int .i64 x156002_2] 52 (0, 0)) (by (with_reducible repeat (first | refine blk_drewN ?_ _ | refine blk_drew ?_ | refine blk_alloc ?_ _)); exact BK155.out) hb)
                                      have n4_ := Aside0.mk (below_step (by repeat (first | (with_reducible first | exact HB.out | apply below_alloc | apply pw_below_drewN | apply below_drew1 | refine below_set ?_ GE149.out | refine below_set ?_ GE150.out | refine below_set ?_ GE155.out) | exact HB.out)) hb)
                                      clear HO_9
                                      clear BK149
                                      clear BK150
                                      clear BK155
                                      clear HB
                                      have HO_9 := n0_
                                      have BK149 := n1_
                                      have BK150 := n2_
                                      have BK155 := n3_
                                      have HB := n4_
                                      clear n0_ n1_ n2_ n3_ n4_
                                      (try clear hb)
                                      (try clear hb2)
                                      (try clear hk)
                                      (try clear hi)
                                      refine hK.out _ _ ⟨(blk_cell BK155.out 0).trans rfl, (blk_cell BK155.out 1).trans rfl, (blk_cell BK155.out 2).trans rfl, (blk_cell BK149.out 0).trans rfl, (blk_cell BK149.out 1).trans rfl, (blk_cell BK149.out 2).trans rfl, (blk_cell BK149.out 3).trans rfl, (blk_cell BK149.out 4).trans rfl, ((HB.out.cell (World.block_lt_of_cell? w _ hw161_0)).trans hw161_0), ((HB.out.cell (World.block_lt_of_cell? w _ hw161_1)).trans hw161_1), ((HB.out.cell (World.block_lt_of_cell? w _ hw161_2)).trans hw161_2)⟩ (fun hHeld => ?_)
                                      clear hK K
                                      refine norm_ (a' := ?_) ?_ ?_
                                      rotate_left
                                      · show Act.put _ (some 87) _ = _
                                        simp only [Act.put, List.setIfInBounds_toArray, List.set_cons_zero, List.set_cons_succ, i64_w, i32_w]
                                        rfl
                                      refine pure_ (i := 7) (N := some 80) (v := ?_) (a' := ?_) #[true, true, true, true, true, true, true, true, false, false, false, false, false] rfl rfl (any_of HT_.out (by kernel_rfl)) (fun _ _ _ h => h) (Or.inl ⟨by rfl, ?_⟩) ?_ ?_
                                      rotate_left
                                      · intro w'
                                        go_simp
                                        with_reducible rfl
                                      rotate_left
                                      · simp only [Act.put, List.setIfInBounds_toArray, List.set_cons_zero, List.set_cons_succ, i64_w, i32_w]
                                        rfl
                                      refine pure_ (i := 8) (N := some 88) (v := ?_) (a' := ?_) #[true, true, true, true, true, true, true, true, true, false, false, false, false] rfl rfl (any_of HT_.out (by kernel_rfl)) (fun _ _ _ h => h) (Or.inl ⟨by rfl, ?_⟩) ?_ ?_
                                      rotate_left
                                      · intro w'
                                        go_simp
                                        with_reducible rfl
                                      rotate_left
                                      · simp only [Act.put, List.setIfInBounds_toArray, List.set_cons_zero, List.set_cons_succ, i64_w, i32_w]
                                        rfl
                                      refine pure_ (i := 9) (N := some 89) (v := ?_) (a' := ?_) #[true, true, true, true, true, true, true, true, true, true, false, false, false] rfl rfl (any_of HT_.out (by kernel_rfl)) (fun _ _ _ h => h) (Or.inl ⟨by rfl, ?_⟩) ?_ ?_
                                      rotate_left
                                      · intro w'
                                        go_simp
                                        with_reducible rfl
                                      rotate_left
                                      · simp only [Act.put, List.setIfInBounds_toArray, List.set_cons_zero, List.set_cons_succ, i64_w, i32_w]
                                        rfl
                                      refine one_ (i := 10) (N := some 15) #[true, true, true, true, true, true, true, true, true, true, true, false, false] rfl rfl (one_of HT_.out (by kernel_rfl)) (by decide) (fun K hK => ?_)
                                      refine box_step ?hg (N := 15) ?hd (cs := #[.int .i64 0, .int .i64 0, .int .i64 0]) (t := 52) ?hr ?_; (case hd => rfl); (case hg => rfl); (case hr => first | (go_simp; done) | (go_simp; rfl))
                                      intro gb166 hg w65 hbox hb
                                      have n0_ := Aside0.mk (Kd.R_below (by (with_reducible repeat (first | apply Kd.R_alloc | apply Kd.R_drewN | apply Kd.R_drew)); exact HO_9.out) hb)
                                      have n1_ := Aside0.mk (blk_below (g := gb149) (o := .cells #[.int .i64 a0_0, .int .i64 a0_1, .int .i64 a0_2, .slice A0_3 l0_3.length c0_3, .slice (some ad161) l0_4.length c0_4] 36 (0, 0)) (by (with_reducible repeat (first | refine blk_drewN ?_ _ | refine blk_drew ?_ | refine blk_alloc ?_ _)); exact BK149.out) hb)
                                      have n2_ := Aside0.mk (blk_below (g := gb150) (o := .cells #[.int .i64 x151000_3, .int .i64 x151001_3, .int .i64 x151002_3] 52 (0, 0)) (by (with_reducible repeat (first | refine blk_drewN ?_ _ | refine blk_drew ?_ | refine blk_alloc ?_ _)); exact BK150.out) hb)
                                      have n3_ := Aside0.mk (blk_below (g := gb155) (o := .cells #[.int .i64 x156000_2, .int .i64 x156001_2, .int .i64 x156002_2] 52 (0, 0)) (by (with_reducible repeat (first | refine blk_drewN ?_ _ | refine blk_drew ?_ | refine blk_alloc ?_ _)); exact BK155.out) hb)
                                      have n4_ := Aside0.mk (below_step (by repeat (first | (with_reducible first | exact HB.out | apply below_alloc | apply pw_below_drewN | apply below_drew1 | refine below_set ?_ GE149.out | refine below_set ?_ GE150.out | refine below_set ?_ GE155.out) | exact HB.out)) hb)
                                      have n5_ := Aside0.mk (hbox)
                                      have n6_ := Aside0.mk ((by rw [hg]; exact (below_size (by repeat (first | (with_reducible first | exact HB.out | apply below_alloc | apply pw_below_drewN | apply below_drew1 | refine below_set ?_ GE149.out | refine below_set ?_ GE150.out | refine below_set ?_ GE155.out) | exact HB.out))) : w.heap.size ≤ gb166))
                                      have n7_ := Aside0.mk ((by rw [hg]; exact (below_size (by repeat (first | (with_reducible first | exact HB.out | apply below_alloc | apply pw_below_drewN | apply below_drew1 | refine below_set ?_ GE149.out | refine below_set ?_ GE150.out | refine below_set ?_ GE155.out) | exact HB.out))) : w.heap.size ≤ gb166))
                                      have n8_ := Aside0.mk ((by rw [hg]; exact Nat.ne_of_lt (blk_lt (g := gb149) (o := .cells #[.int .i64 a0_0, .int .i64 a0_1, .int .i64 a0_2, .slice A0_3 l0_3.length c0_3, .slice (some ad161) l0_4.length c0_4] 36 (0, 0)) (by (with_reducible repeat (first | refine blk_drewN ?_ _ | refine blk_drew ?_ | refine blk_alloc ?_ _)); exact BK149.out)) : gb149 ≠ gb166))
                                      have n9_ := Aside0.mk ((by rw [hg]; exact Nat.ne_of_gt (blk_lt (g := gb149) (o := .cells #[.int .i64 a0_0, .int .i64 a0_1, .int .i64 a0_2, .slice A0_3 l0_3.length c0_3, .slice (some ad161) l0_4.length c0_4] 36 (0, 0)) (by (with_reducible repeat (first | refine blk_drewN ?_ _ | refine blk_drew ?_ | refine blk_alloc ?_ _)); exact BK149.out)) : gb166 ≠ gb149))
                                      have n10_ := Aside0.mk ((by rw [hg]; exact Nat.ne_of_lt (blk_lt (g := gb150) (o := .cells #[.int .i64 x151000_3, .int .i64 x151001_3, .int .i64 x151002_3] 52 (0, 0)) (by (with_reducible repeat (first | refine blk_drewN ?_ _ | refine blk_drew ?_ | refine blk_alloc ?_ _)); exact BK150.out)) : gb150 ≠ gb166))
                                      have n11_ := Aside0.mk ((by rw [hg]; exact Nat.ne_of_gt (blk_lt (g := gb150) (o := .cells #[.int .i64 x151000_3, .int .i64 x151001_3, .int .i64 x151002_3] 52 (0, 0)) (by (with_reducible repeat (first | refine blk_drewN ?_ _ | refine blk_drew ?_ | refine blk_alloc ?_ _)); exact BK150.out)) : gb166 ≠ gb150))
                                      have n12_ := Aside0.mk ((by rw [hg]; exact Nat.ne_of_lt (blk_lt (g := gb155) (o := .cells #[.int .i64 x156000_2, .int .i64 x156001_2, .int .i64 x156002_2] 52 (0, 0)) (by (with_reducible repeat (first | refine blk_drewN ?_ _ | refine blk_drew ?_ | refine blk_alloc ?_ _)); exact BK155.out)) : gb155 ≠ gb166))
                                      have n13_ := Aside0.mk ((by rw [hg]; exact Nat.ne_of_gt (blk_lt (g := gb155) (o := .cells #[.int .i64 x156000_2, .int .i64 x156001_2, .int .i64 x156002_2] 52 (0, 0)) (by (with_reducible repeat (first | refine blk_drewN ?_ _ | refine blk_drew ?_ | refine blk_alloc ?_ _)); exact BK155.out)) : gb166 ≠ gb155))
                                      clear HO_9
                                      clear BK149
                                      clear BK150
                                      clear BK155
                                      clear HB
                                      have HO_9 := n0_
                                      have BK149 := n1_
                                      have BK150 := n2_
                                      have BK155 := n3_
                                      have HB := n4_
                                      have BK166 := n5_
                                      have GW166 := n6_
                                      have GE166 := n7_
                                      have NB149_166 := n8_
                                      have NB166_149 := n9_
                                      have NB150_166 := n10_
                                      have NB166_150 := n11_
                                      have NB155_166 := n12_
                                      have NB166_155 := n13_
                                      clear n0_ n1_ n2_ n3_ n4_ n5_ n6_ n7_ n8_ n9_ n10_ n11_ n12_ n13_
                                      clear hb hbox hg
                                      refine hK.out _ _ ⟨(blk_cell BK155.out 0).trans rfl, (blk_cell BK155.out 1).trans rfl, (blk_cell BK155.out 2).trans rfl, (blk_cell BK149.out 0).trans rfl, (blk_cell BK149.out 1).trans rfl, (blk_cell BK149.out 2).trans rfl, (blk_cell BK149.out 3).trans rfl, (blk_cell BK149.out 4).trans rfl, ((HB.out.cell (World.block_lt_of_cell? w _ hw161_0)).trans hw161_0), ((HB.out.cell (World.block_lt_of_cell? w _ hw161_1)).trans hw161_1), ((HB.out.cell (World.block_lt_of_cell? w _ hw161_2)).trans hw161_2)⟩ (fun hHeld => ?_)
                                      clear hK K
                                      refine norm_ (a' := ?_) ?_ ?_
                                      rotate_left
                                      · show Act.put _ (some 15) _ = _
                                        simp only [Act.put, List.setIfInBounds_toArray, List.set_cons_zero, List.set_cons_succ, i64_w, i32_w]
                                        rfl
                                      exact norm_ (by simp only [putAll, Act.put, List.setIfInBounds_toArray, List.set_cons_zero, List.set_cons_succ]) (hCont (gb166) _ ⟨hHeld, (by (with_reducible repeat (first | apply Kd.R_alloc | apply Kd.R_drewN | apply Kd.R_drew)); exact HO_9.out), (by (with_reducible repeat (first | refine blk_drewN ?_ _ | refine blk_drew ?_ | refine blk_alloc ?_ _)); exact BK149.out), (by (with_reducible repeat (first | refine blk_drewN ?_ _ | refine blk_drew ?_ | refine blk_alloc ?_ _)); exact BK150.out), (by (with_reducible repeat (first | refine blk_drewN ?_ _ | refine blk_drew ?_ | refine blk_alloc ?_ _)); exact BK155.out), (by (with_reducible repeat (first | refine blk_drewN ?_ _ | refine blk_drew ?_ | refine blk_alloc ?_ _)); exact BK166.out), GW166.out, GE166.out, NB149_166.out, NB166_149.out, NB150_166.out, NB166_150.out, NB155_166.out, NB166_155.out, (by repeat (first | (with_reducible first | exact HB.out | apply below_alloc | apply pw_below_drewN | apply below_drew1 | refine below_set ?_ GE149.out | refine below_set ?_ GE150.out | refine below_set ?_ GE155.out | refine below_set ?_ GE166.out) | exact HB.out))⟩)
                                    · skip
                                      refine box_step ?hg (N := 15) ?hd (cs := #[.int .i64 0, .int .i64 0, .int .i64 0]) (t := 52) ?hr ?_; (case hd => rfl); (case hg => rfl); (case hr => first | (go_simp; done) | (go_simp; rfl))
                                      intro gb166 hg w64 hbox hb
                                      have n0_ := Aside0.mk (Kd.R_below (by (with_reducible repeat (first | apply Kd.R_alloc | apply Kd.R_drewN | apply Kd.R_drew)); exact HO_9.out) hb)
                                      have n1_ := Aside0.mk (blk_below (g := gb149) (o := .cells #[.int .i64 a0_0, .int .i64 a0_1, .int .i64 a0_2, .slice A0_3 l0_3.length c0_3, .slice (some ad161) l0_4.length c0_4] 36 (0, 0)) (by (with_reducible repeat (first | refine blk_drewN ?_ _ | refine blk_drew ?_ | refine blk_alloc ?_ _)); exact BK149.out) hb)
                                      have n2_ := Aside0.mk (blk_below (g := gb150) (o := .cells #[.int .i64 x151000_3, .int .i64 x151001_3, .int .i64 x151002_3] 52 (0, 0)) (by (with_reducible repeat (first | refine blk_drewN ?_ _ | refine blk_drew ?_ | refine blk_alloc ?_ _)); exact BK150.out) hb)
                                      have n3_ := Aside0.mk (blk_below (g := gb155) (o := .cells #[.int .i64 x156000_2, .int .i64 x156001_2, .int .i64 x156002_2] 52 (0, 0)) (by (with_reducible repeat (first | refine blk_drewN ?_ _ | refine blk_drew ?_ | refine blk_alloc ?_ _)); exact BK155.out) hb)
                                      have n4_ := Aside0.mk (below_step (by repeat (first | (with_reducible first | exact HB.out | apply below_alloc | apply pw_below_drewN | apply below_drew1 | refine below_set ?_ GE149.out | refine below_set ?_ GE150.out | refine below_set ?_ GE155.out) | exact HB.out)) hb)
                                      have n5_ := Aside0.mk (hbox)
                                      have n6_ := Aside0.mk ((by rw [hg]; exact (below_size (by repeat (first | (with_reducible first | exact HB.out | apply below_alloc | apply pw_below_drewN | apply below_drew1 | refine below_set ?_ GE149.out | refine below_set ?_ GE150.out | refine below_set ?_ GE155.out) | exact HB.out))) : w.heap.size ≤ gb166))
                                      have n7_ := Aside0.mk ((by rw [hg]; exact (below_size (by repeat (first | (with_reducible first | exact HB.out | apply below_alloc | apply pw_below_drewN | apply below_drew1 | refine below_set ?_ GE149.out | refine below_set ?_ GE150.out | refine below_set ?_ GE155.out) | exact HB.out))) : w.heap.size ≤ gb166))
                                      have n8_ := Aside0.mk ((by rw [hg]; exact Nat.ne_of_lt (blk_lt (g := gb149) (o := .cells #[.int .i64 a0_0, .int .i64 a0_1, .int .i64 a0_2, .slice A0_3 l0_3.length c0_3, .slice (some ad161) l0_4.length c0_4] 36 (0, 0)) (by (with_reducible repeat (first | refine blk_drewN ?_ _ | refine blk_drew ?_ | refine blk_alloc ?_ _)); exact BK149.out)) : gb149 ≠ gb166))
                                      have n9_ := Aside0.mk ((by rw [hg]; exact Nat.ne_of_gt (blk_lt (g := gb149) (o := .cells #[.int .i64 a0_0, .int .i64 a0_1, .int .i64 a0_2, .slice A0_3 l0_3.length c0_3, .slice (some ad161) l0_4.length c0_4] 36 (0, 0)) (by (with_reducible repeat (first | refine blk_drewN ?_ _ | refine blk_drew ?_ | refine blk_alloc ?_ _)); exact BK149.out)) : gb166 ≠ gb149))
                                      have n10_ := Aside0.mk ((by rw [hg]; exact Nat.ne_of_lt (blk_lt (g := gb150) (o := .cells #[.int .i64 x151000_3, .int .i64 x151001_3, .int .i64 x151002_3] 52 (0, 0)) (by (with_reducible repeat (first | refine blk_drewN ?_ _ | refine blk_drew ?_ | refine blk_alloc ?_ _)); exact BK150.out)) : gb150 ≠ gb166))
                                      have n11_ := Aside0.mk ((by rw [hg]; exact Nat.ne_of_gt (blk_lt (g := gb150) (o := .cells #[.int .i64 x151000_3, .int .i64 x151001_3, .int .i64 x151002_3] 52 (0, 0)) (by (with_reducible repeat (first | refine blk_drewN ?_ _ | refine blk_drew ?_ | refine blk_alloc ?_ _)); exact BK150.out)) : gb166 ≠ gb150))
                                      have n12_ := Aside0.mk ((by rw [hg]; exact Nat.ne_of_lt (blk_lt (g := gb155) (o := .cells #[.int .i64 x156000_2, .int .i64 x156001_2, .int .i64 x156002_2] 52 (0, 0)) (by (with_reducible repeat (first | refine blk_drewN ?_ _ | refine blk_drew ?_ | refine blk_alloc ?_ _)); exact BK155.out)) : gb155 ≠ gb166))
                                      have n13_ := Aside0.mk ((by rw [hg]; exact Nat.ne_of_gt (blk_lt (g := gb155) (o := .cells #[.int .i64 x156000_2, .int .i64 x156001_2, .int .i64 x156002_2] 52 (0, 0)) (by (with_reducible repeat (first | refine blk_drewN ?_ _ | refine blk_drew ?_ | refine blk_alloc ?_ _)); exact BK155.out)) : gb166 ≠ gb155))
                                      clear HO_9
                                      clear BK149
                                      clear BK150
                                      clear BK155
                                      clear HB
                                      have HO_9 := n0_
                                      have BK149 := n1_
                                      have BK150 := n2_
                                      have BK155 := n3_
                                      have HB := n4_
                                      have BK166 := n5_
                                      have GW166 := n6_
                                      have GE166 := n7_
                                      have NB149_166 := n8_
                                      have NB166_149 := n9_
                                      have NB150_166 := n10_
                                      have NB166_150 := n11_
                                      have NB155_166 := n12_
                                      have NB166_155 := n13_
                                      clear n0_ n1_ n2_ n3_ n4_ n5_ n6_ n7_ n8_ n9_ n10_ n11_ n12_ n13_
                                      clear hb hbox hg
                                      refine hK.out _ _ ⟨(blk_cell BK155.out 0).trans rfl, (blk_cell BK155.out 1).trans rfl, (blk_cell BK155.out 2).trans rfl, (blk_cell BK149.out 0).trans rfl, (blk_cell BK149.out 1).trans rfl, (blk_cell BK149.out 2).trans rfl, (blk_cell BK149.out 3).trans rfl, (blk_cell BK149.out 4).trans rfl, ((HB.out.cell (World.block_lt_of_cell? w _ hw161_0)).trans hw161_0), ((HB.out.cell (World.block_lt_of_cell? w _ hw161_1)).trans hw161_1), ((HB.out.cell (World.block_lt_of_cell? w _ hw161_2)).trans hw161_2)⟩ (fun hHeld => ?_)
                                      clear hK K
                                      refine norm_ (a' := ?_) ?_ ?_
                                      rotate_left
                                      · show Act.put _ (some 15) _ = _
                                        simp only [Act.put, List.setIfInBounds_toArray, List.set_cons_zero, List.set_cons_succ, i64_w, i32_w]
                                        rfl
                                      refine one_ (i := 6) (N := some 87) #[true, true, true, true, true, true, true, false, false, false, true, false, false] rfl rfl (one_of HT_.out (by kernel_rfl)) (by decide) (fun K hK => ?_)
                                      refine goes_ Try.func51 (by kernel_rfl) rfl #[.agg #[.int .i64 x156000_2, .int .i64 x156001_2, .int .i64 x156002_2], .agg #[.int .i64 ((rd_T52 l0_4 x11_2).f0), .int .i64 ((rd_T52 l0_4 x11_2).f1), .int .i64 ((rd_T52 l0_4 x11_2).f2)]] (by rfl) rfl rfl (by (try simp only [List.map_toArray, List.map_cons, List.map_nil]); first | done | rfl | (simp only [List.length_drop, List.length_take]; rfl)) ?_
                                      with_reducible refine (hornbeamref12_plus.calls x156000_2 x156001_2 x156002_2 ((rd_T52 l0_4 x11_2).f0) ((rd_T52 l0_4 x11_2).f1) ((rd_T52 l0_4 x11_2).f2) t162 t163 t164 t165 _ A58.out).mono ?_
                                      rintro e w65 ⟨rfl, hb⟩
                                      refine ⟨_, rfl, ?_⟩
                                      have n0_ := Aside0.mk (Kd.R_below (by (with_reducible repeat (first | apply Kd.R_alloc | apply Kd.R_drewN | apply Kd.R_drew)); exact HO_9.out) hb)
                                      have n1_ := Aside0.mk (blk_below (g := gb149) (o := .cells #[.int .i64 a0_0, .int .i64 a0_1, .int .i64 a0_2, .slice A0_3 l0_3.length c0_3, .slice (some ad161) l0_4.length c0_4] 36 (0, 0)) (by (with_reducible repeat (first | refine blk_drewN ?_ _ | refine blk_drew ?_ | refine blk_alloc ?_ _)); exact BK149.out) hb)
                                      have n2_ := Aside0.mk (blk_below (g := gb150) (o := .cells #[.int .i64 x151000_3, .int .i64 x151001_3, .int .i64 x151002_3] 52 (0, 0)) (by (with_reducible repeat (first | refine blk_drewN ?_ _ | refine blk_drew ?_ | refine blk_alloc ?_ _)); exact BK150.out) hb)
                                      have n3_ := Aside0.mk (blk_below (g := gb155) (o := .cells #[.int .i64 x156000_2, .int .i64 x156001_2, .int .i64 x156002_2] 52 (0, 0)) (by (with_reducible repeat (first | refine blk_drewN ?_ _ | refine blk_drew ?_ | refine blk_alloc ?_ _)); exact BK155.out) hb)
                                      have n4_ := Aside0.mk (blk_below (g := gb166) (o := .cells #[.int .i64 0, .int .i64 0, .int .i64 0] 52 (0, 0)) (by (with_reducible repeat (first | refine blk_drewN ?_ _ | refine blk_drew ?_ | refine blk_alloc ?_ _)); exact BK166.out) hb)
                                      have n5_ := Aside0.mk (below_step (by repeat (first | (with_reducible first | exact HB.out | apply below_alloc | apply pw_below_drewN | apply below_drew1 | refine below_set ?_ GE149.out | refine below_set ?_ GE150.out | refine below_set ?_ GE155.out | refine below_set ?_ GE166.out) | exact HB.out)) hb)
                                      clear HO_9
                                      clear BK149
                                      clear BK150
                                      clear BK155
                                      clear BK166
                                      clear HB
                                      have HO_9 := n0_
                                      have BK149 := n1_
                                      have BK150 := n2_
                                      have BK155 := n3_
                                      have BK166 := n4_
                                      have HB := n5_
                                      clear n0_ n1_ n2_ n3_ n4_ n5_
                                      (try clear hb)
                                      (try clear hb2)
                                      (try clear hk)
                                      (try clear hi)
                                      refine hK.out _ _ ⟨(blk_cell BK155.out 0).trans rfl, (blk_cell BK155.out 1).trans rfl, (blk_cell BK155.out 2).trans rfl, (blk_cell BK149.out 0).trans rfl, (blk_cell BK149.out 1).trans rfl, (blk_cell BK149.out 2).trans rfl, (blk_cell BK149.out 3).trans rfl, (blk_cell BK149.out 4).trans rfl, ((HB.out.cell (World.block_lt_of_cell? w _ hw161_0)).trans hw161_0), ((HB.out.cell (World.block_lt_of_cell? w _ hw161_1)).trans hw161_1), ((HB.out.cell (World.block_lt_of_cell? w _ hw161_2)).trans hw161_2)⟩ (fun hHeld => ?_)
                                      clear hK K
                                      refine norm_ (a' := ?_) ?_ ?_
                                      rotate_left
                                      · show Act.put _ (some 87) _ = _
                                        simp only [Act.put, List.setIfInBounds_toArray, List.set_cons_zero, List.set_cons_succ, i64_w, i32_w]
                                        rfl
                                      refine pure_ (i := 7) (N := some 80) (v := ?_) (a' := ?_) #[true, true, true, true, true, true, true, true, false, false, true, false, false] rfl rfl (any_of HT_.out (by kernel_rfl)) (fun _ _ _ h => h) (Or.inl ⟨by rfl, ?_⟩) ?_ ?_
                                      rotate_left
                                      · intro w'
                                        go_simp
                                        with_reducible rfl
                                      rotate_left
                                      · simp only [Act.put, List.setIfInBounds_toArray, List.set_cons_zero, List.set_cons_succ, i64_w, i32_w]
                                        rfl
                                      refine pure_ (i := 8) (N := some 88) (v := ?_) (a' := ?_) #[true, true, true, true, true, true, true, true, true, false, true, false, false] rfl rfl (any_of HT_.out (by kernel_rfl)) (fun _ _ _ h => h) (Or.inl ⟨by rfl, ?_⟩) ?_ ?_
                                      rotate_left
                                      · intro w'
                                        go_simp
                                        with_reducible rfl
                                      rotate_left
                                      · simp only [Act.put, List.setIfInBounds_toArray, List.set_cons_zero, List.set_cons_succ, i64_w, i32_w]
                                        rfl
                                      refine pure_ (i := 9) (N := some 89) (v := ?_) (a' := ?_) #[true, true, true, true, true, true, true, true, true, true, true, false, false] rfl rfl (any_of HT_.out (by kernel_rfl)) (fun _ _ _ h => h) (Or.inl ⟨by rfl, ?_⟩) ?_ ?_
                                      rotate_left
                                      · intro w'
                                        go_simp
                                        with_reducible rfl
                                      rotate_left
                                      · simp only [Act.put, List.setIfInBounds_toArray, List.set_cons_zero, List.set_cons_succ, i64_w, i32_w]
                                        rfl
                                      exact norm_ (by simp only [putAll, Act.put, List.setIfInBounds_toArray, List.set_cons_zero, List.set_cons_succ]) (hCont (gb166) _ ⟨hHeld, (by (with_reducible repeat (first | apply Kd.R_alloc | apply Kd.R_drewN | apply Kd.R_drew)); exact HO_9.out), (by (with_reducible repeat (first | refine blk_drewN ?_ _ | refine blk_drew ?_ | refine blk_alloc ?_ _)); exact BK149.out), (by (with_reducible repeat (first | refine blk_drewN ?_ _ | refine blk_drew ?_ | refine blk_alloc ?_ _)); exact BK150.out), (by (with_reducible repeat (first | refine blk_drewN ?_ _ | refine blk_drew ?_ | refine blk_alloc ?_ _)); exact BK155.out), (by (with_reducible repeat (first | refine blk_drewN ?_ _ | refine blk_drew ?_ | refine blk_alloc ?_ _)); exact BK166.out), GW166.out, GE166.out, NB149_166.out, NB166_149.out, NB150_166.out, NB166_150.out, NB155_166.out, NB166_155.out, (by repeat (first | (with_reducible first | exact HB.out | apply below_alloc | apply pw_below_drewN | apply below_drew1 | refine below_set ?_ GE149.out | refine below_set ?_ GE150.out | refine below_set ?_ GE155.out | refine below_set ?_ GE166.out) | exact HB.out))⟩)
                                  rintro gb166 w66 ⟨hS_, h0_, h1_, h2_, h3_, h4_, h5_, h6_, h7_, h8_, h9_, h10_, h11_, h12_, h13_⟩
                                  have n0_ : Aside0 (Kd.R (Kd.int .i64) 2 w66 w.heap.size (fun _ => True) v153 x9_3) := ⟨h0_⟩
                                  have n1_ : Aside0 (w66.heap[gb149]? = some (.cells #[.int .i64 a0_0, .int .i64 a0_1, .int .i64 a0_2, .slice A0_3 l0_3.length c0_3, .slice (some ad161) l0_4.length c0_4] 36 (0, 0))) := ⟨h1_⟩
                                  have n2_ : Aside0 (w66.heap[gb150]? = some (.cells #[.int .i64 x151000_3, .int .i64 x151001_3, .int .i64 x151002_3] 52 (0, 0))) := ⟨h2_⟩
                                  have n3_ : Aside0 (w66.heap[gb155]? = some (.cells #[.int .i64 x156000_2, .int .i64 x156001_2, .int .i64 x156002_2] 52 (0, 0))) := ⟨h3_⟩
                                  have n4_ : Aside0 (w66.heap[gb166]? = some (.cells #[.int .i64 0, .int .i64 0, .int .i64 0] 52 (0, 0))) := ⟨h4_⟩
                                  have n5_ : Aside0 (w.heap.size ≤ gb166) := ⟨h5_⟩
                                  have n6_ : Aside0 (w.heap.size ≤ gb166) := ⟨h6_⟩
                                  have n7_ : Aside0 (gb149 ≠ gb166) := ⟨h7_⟩
                                  have n8_ : Aside0 (gb166 ≠ gb149) := ⟨h8_⟩
                                  have n9_ : Aside0 (gb150 ≠ gb166) := ⟨h9_⟩
                                  have n10_ : Aside0 (gb166 ≠ gb150) := ⟨h10_⟩
                                  have n11_ : Aside0 (gb155 ≠ gb166) := ⟨h11_⟩
                                  have n12_ : Aside0 (gb166 ≠ gb155) := ⟨h12_⟩
                                  have n13_ : Aside0 (Below w.heap.size w w66) := ⟨h13_⟩
                                  clear HO_9
                                  clear BK149
                                  clear BK150
                                  clear BK155
                                  clear HB
                                  clear h0_ h1_ h2_ h3_ h4_ h5_ h6_ h7_ h8_ h9_ h10_ h11_ h12_ h13_
                                  have HO_9 := n0_
                                  have BK149 := n1_
                                  have BK150 := n2_
                                  have BK155 := n3_
                                  have BK166 := n4_
                                  have GW166 := n5_
                                  have GE166 := n6_
                                  have NB149_166 := n7_
                                  have NB166_149 := n8_
                                  have NB150_166 := n9_
                                  have NB166_150 := n10_
                                  have NB155_166 := n11_
                                  have NB166_155 := n12_
                                  have HB := n13_
                                  clear n0_ n1_ n2_ n3_ n4_ n5_ n6_ n7_ n8_ n9_ n10_ n11_ n12_ n13_
                                  have hHeld : w66.cell? ⟨gb155, 0, none⟩ = some (.int .i64 x156000_2) ∧ w66.cell? ⟨gb155, 1, none⟩ = some (.int .i64 x156001_2) ∧ w66.cell? ⟨gb155, 2, none⟩ = some (.int .i64 x156002_2) ∧ w66.cell? ⟨gb149, 0, none⟩ = some (.int .i64 a0_0) ∧ w66.cell? ⟨gb149, 1, none⟩ = some (.int .i64 a0_1) ∧ w66.cell? ⟨gb149, 2, none⟩ = some (.int .i64 a0_2) ∧ w66.cell? ⟨gb149, 3, none⟩ = some (.slice A0_3 l0_3.length c0_3) ∧ w66.cell? ⟨gb149, 4, none⟩ = some (.slice (some ad161) l0_4.length c0_4) ∧ w66.cell? (ad161.add ((x11_2).toNat * 3)) = some (.int .i64 ((rd_T52 l0_4 x11_2).f0)) ∧ w66.cell? ⟨(ad161.add ((x11_2).toNat * 3)).block, (ad161.add ((x11_2).toNat * 3)).off + 1, none⟩ = some (.int .i64 ((rd_T52 l0_4 x11_2).f1)) ∧ w66.cell? ⟨(ad161.add ((x11_2).toNat * 3)).block, (ad161.add ((x11_2).toNat * 3)).off + 2, none⟩ = some (.int .i64 ((rd_T52 l0_4 x11_2).f2)) := hS_
                                  refine norm_ (a' := ?_) ?_ ?_
                                  rotate_left
                                  · simp only [putAll, Act.put, List.setIfInBounds_toArray, List.set_cons_zero, List.set_cons_succ]
                                    rfl
                                  refine one_ (i := 11) (N := none) #[true, true, true, true, true, true, true, true, true, true, true, true, false] rfl rfl (one_of HT_.out (by kernel_rfl)) (by decide) (fun K hK => ?_)
                                  have hs67 : w66.cell? ⟨gb166, 0, none⟩ = some (.int .i64 0) := (blk_cell BK166.out 0).trans rfl
                                  have hfs67 := blk_frozen BK166.out 0
                                  have hns67_0 := NB149_166.out
                                  have hns67_1 := NB150_166.out
                                  have hns67_2 := NB155_166.out
                                  have hms67_0 := NB166_149.out
                                  have hms67_1 := NB166_150.out
                                  have hms67_2 := NB166_155.out
                                  have hs68 : w66.cell? ⟨gb166, 1, none⟩ = some (.int .i64 0) := (blk_cell BK166.out 1).trans rfl
                                  have hfs68 := blk_frozen BK166.out 1
                                  have hns68_0 := NB149_166.out
                                  have hns68_1 := NB150_166.out
                                  have hns68_2 := NB155_166.out
                                  have hms68_0 := NB166_149.out
                                  have hms68_1 := NB166_150.out
                                  have hms68_2 := NB166_155.out
                                  have hs69 : w66.cell? ⟨gb166, 2, none⟩ = some (.int .i64 0) := (blk_cell BK166.out 2).trans rfl
                                  have hfs69 := blk_frozen BK166.out 2
                                  have hns69_0 := NB149_166.out
                                  have hns69_1 := NB150_166.out
                                  have hns69_2 := NB155_166.out
                                  have hms69_0 := NB166_149.out
                                  have hms69_1 := NB166_150.out
                                  have hms69_2 := NB166_155.out
                                  refine skip_ (w1 := ?_) (by rfl) rfl ?_ ?_
                                  rotate_left
                                  · go_simp
                                    rfl
                                  refine hK.out _ _ ⟨((cell_far (p := ⟨gb166, _, none⟩) NB155_166.out _).trans (((cell_far (p := ⟨gb166, _, none⟩) NB155_166.out _).trans (((cell_far (p := ⟨gb166, _, none⟩) NB155_166.out _).trans (hHeld.1)))))), ((cell_far (p := ⟨gb166, _, none⟩) NB155_166.out _).trans (((cell_far (p := ⟨gb166, _, none⟩) NB155_166.out _).trans (((cell_far (p := ⟨gb166, _, none⟩) NB155_166.out _).trans (hHeld.2.1)))))), ((cell_far (p := ⟨gb166, _, none⟩) NB155_166.out _).trans (((cell_far (p := ⟨gb166, _, none⟩) NB155_166.out _).trans (((cell_far (p := ⟨gb166, _, none⟩) NB155_166.out _).trans (hHeld.2.2.1)))))), ((cell_far (p := ⟨gb166, _, none⟩) NB149_166.out _).trans (((cell_far (p := ⟨gb166, _, none⟩) NB149_166.out _).trans (((cell_far (p := ⟨gb166, _, none⟩) NB149_166.out _).trans (hHeld.2.2.2.1)))))), ((cell_far (p := ⟨gb166, _, none⟩) NB149_166.out _).trans (((cell_far (p := ⟨gb166, _, none⟩) NB149_166.out _).trans (((cell_far (p := ⟨gb166, _, none⟩) NB149_166.out _).trans (hHeld.2.2.2.2.1)))))), ((cell_far (p := ⟨gb166, _, none⟩) NB149_166.out _).trans (((cell_far (p := ⟨gb166, _, none⟩) NB149_166.out _).trans (((cell_far (p := ⟨gb166, _, none⟩) NB149_166.out _).trans (hHeld.2.2.2.2.2.1)))))), ((cell_far (p := ⟨gb166, _, none⟩) NB149_166.out _).trans (((cell_far (p := ⟨gb166, _, none⟩) NB149_166.out _).trans (((cell_far (p := ⟨gb166, _, none⟩) NB149_166.out _).trans (hHeld.2.2.2.2.2.2.1)))))), ((cell_far (p := ⟨gb166, _, none⟩) NB149_166.out _).trans (((cell_far (p := ⟨gb166, _, none⟩) NB149_166.out _).trans (((cell_far (p := ⟨gb166, _, none⟩) NB149_166.out _).trans (hHeld.2.2.2.2.2.2.2.1)))))), ((cell_far (p := ⟨gb166, _, none⟩) (by first | exact Nat.ne_of_lt (Nat.lt_of_lt_of_le (by have := World.block_lt_of_cell? _ _ hw161_0; first | rwa [add_block] at this | exact this) GW166.out) | (rw [add_block]; exact Nat.ne_of_lt (Nat.lt_of_lt_of_le (by have := World.block_lt_of_cell? _ _ hw161_0; first | rwa [add_block] at this | exact this) GW166.out)) | (show (Addr.add _ _).block ≠ _; rw [add_block]; exact Nat.ne_of_lt (Nat.lt_of_lt_of_le (by have := World.block_lt_of_cell? _ _ hw161_0; first | rwa [add_block] at this | exact this) GW166.out)) | (dsimp only; exact Nat.ne_of_lt (Nat.lt_of_lt_of_le (by have := World.block_lt_of_cell? _ _ hw161_0; first | rwa [add_block] at this | exact this) GW166.out))) _).trans (((cell_far (p := ⟨gb166, _, none⟩) (by first | exact Nat.ne_of_lt (Nat.lt_of_lt_of_le (by have := World.block_lt_of_cell? _ _ hw161_0; first | rwa [add_block] at this | exact this) GW166.out) | (rw [add_block]; exact Nat.ne_of_lt (Nat.lt_of_lt_of_le (by have := World.block_lt_of_cell? _ _ hw161_0; first | rwa [add_block] at this | exact this) GW166.out)) | (show (Addr.add _ _).block ≠ _; rw [add_block]; exact Nat.ne_of_lt (Nat.lt_of_lt_of_le (by have := World.block_lt_of_cell? _ _ hw161_0; first | rwa [add_block] at this | exact this) GW166.out)) | (dsimp only; exact Nat.ne_of_lt (Nat.lt_of_lt_of_le (by have := World.block_lt_of_cell? _ _ hw161_0; first | rwa [add_block] at this | exact this) GW166.out))) _).trans (((cell_far (p := ⟨gb166, _, none⟩) (by first | exact Nat.ne_of_lt (Nat.lt_of_lt_of_le (by have := World.block_lt_of_cell? _ _ hw161_0; first | rwa [add_block] at this | exact this) GW166.out) | (rw [add_block]; exact Nat.ne_of_lt (Nat.lt_of_lt_of_le (by have := World.block_lt_of_cell? _ _ hw161_0; first | rwa [add_block] at this | exact this) GW166.out)) | (show (Addr.add _ _).block ≠ _; rw [add_block]; exact Nat.ne_of_lt (Nat.lt_of_lt_of_le (by have := World.block_lt_of_cell? _ _ hw161_0; first | rwa [add_block] at this | exact this) GW166.out)) | (dsimp only; exact Nat.ne_of_lt (Nat.lt_of_lt_of_le (by have := World.block_lt_of_cell? _ _ hw161_0; first | rwa [add_block] at this | exact this) GW166.out))) _).trans (hHeld.2.2.2.2.2.2.2.2.1)))))), ((cell_far (p := ⟨gb166, _, none⟩) (by first | exact Nat.ne_of_lt (Nat.lt_of_lt_of_le (by have := World.block_lt_of_cell? _ _ hw161_1; first | rwa [add_block] at this | exact this) GW166.out) | (rw [add_block]; exact Nat.ne_of_lt (Nat.lt_of_lt_of_le (by have := World.block_lt_of_cell? _ _ hw161_1; first | rwa [add_block] at this | exact this) GW166.out)) | (show (Addr.add _ _).block ≠ _; rw [add_block]; exact Nat.ne_of_lt (Nat.lt_of_lt_of_le (by have := World.block_lt_of_cell? _ _ hw161_1; first | rwa [add_block] at this | exact this) GW166.out)) | (dsimp only; exact Nat.ne_of_lt (Nat.lt_of_lt_of_le (by have := World.block_lt_of_cell? _ _ hw161_1; first | rwa [add_block] at this | exact this) GW166.out))) _).trans (((cell_far (p := ⟨gb166, _, none⟩) (by first | exact Nat.ne_of_lt (Nat.lt_of_lt_of_le (by have := World.block_lt_of_cell? _ _ hw161_1; first | rwa [add_block] at this | exact this) GW166.out) | (rw [add_block]; exact Nat.ne_of_lt (Nat.lt_of_lt_of_le (by have := World.block_lt_of_cell? _ _ hw161_1; first | rwa [add_block] at this | exact this) GW166.out)) | (show (Addr.add _ _).block ≠ _; rw [add_block]; exact Nat.ne_of_lt (Nat.lt_of_lt_of_le (by have := World.block_lt_of_cell? _ _ hw161_1; first | rwa [add_block] at this | exact this) GW166.out)) | (dsimp only; exact Nat.ne_of_lt (Nat.lt_of_lt_of_le (by have := World.block_lt_of_cell? _ _ hw161_1; first | rwa [add_block] at this | exact this) GW166.out))) _).trans (((cell_far (p := ⟨gb166, _, none⟩) (by first | exact Nat.ne_of_lt (Nat.lt_of_lt_of_le (by have := World.block_lt_of_cell? _ _ hw161_1; first | rwa [add_block] at this | exact this) GW166.out) | (rw [add_block]; exact Nat.ne_of_lt (Nat.lt_of_lt_of_le (by have := World.block_lt_of_cell? _ _ hw161_1; first | rwa [add_block] at this | exact this) GW166.out)) | (show (Addr.add _ _).block ≠ _; rw [add_block]; exact Nat.ne_of_lt (Nat.lt_of_lt_of_le (by have := World.block_lt_of_cell? _ _ hw161_1; first | rwa [add_block] at this | exact this) GW166.out)) | (dsimp only; exact Nat.ne_of_lt (Nat.lt_of_lt_of_le (by have := World.block_lt_of_cell? _ _ hw161_1; first | rwa [add_block] at this | exact this) GW166.out))) _).trans (hHeld.2.2.2.2.2.2.2.2.2.1)))))), ((cell_far (p := ⟨gb166, _, none⟩) (by first | exact Nat.ne_of_lt (Nat.lt_of_lt_of_le (by have := World.block_lt_of_cell? _ _ hw161_2; first | rwa [add_block] at this | exact this) GW166.out) | (rw [add_block]; exact Nat.ne_of_lt (Nat.lt_of_lt_of_le (by have := World.block_lt_of_cell? _ _ hw161_2; first | rwa [add_block] at this | exact this) GW166.out)) | (show (Addr.add _ _).block ≠ _; rw [add_block]; exact Nat.ne_of_lt (Nat.lt_of_lt_of_le (by have := World.block_lt_of_cell? _ _ hw161_2; first | rwa [add_block] at this | exact this) GW166.out)) | (dsimp only; exact Nat.ne_of_lt (Nat.lt_of_lt_of_le (by have := World.block_lt_of_cell? _ _ hw161_2; first | rwa [add_block] at this | exact this) GW166.out))) _).trans (((cell_far (p := ⟨gb166, _, none⟩) (by first | exact Nat.ne_of_lt (Nat.lt_of_lt_of_le (by have := World.block_lt_of_cell? _ _ hw161_2; first | rwa [add_block] at this | exact this) GW166.out) | (rw [add_block]; exact Nat.ne_of_lt (Nat.lt_of_lt_of_le (by have := World.block_lt_of_cell? _ _ hw161_2; first | rwa [add_block] at this | exact this) GW166.out)) | (show (Addr.add _ _).block ≠ _; rw [add_block]; exact Nat.ne_of_lt (Nat.lt_of_lt_of_le (by have := World.block_lt_of_cell? _ _ hw161_2; first | rwa [add_block] at this | exact this) GW166.out)) | (dsimp only; exact Nat.ne_of_lt (Nat.lt_of_lt_of_le (by have := World.block_lt_of_cell? _ _ hw161_2; first | rwa [add_block] at this | exact this) GW166.out))) _).trans (((cell_far (p := ⟨gb166, _, none⟩) (by first | exact Nat.ne_of_lt (Nat.lt_of_lt_of_le (by have := World.block_lt_of_cell? _ _ hw161_2; first | rwa [add_block] at this | exact this) GW166.out) | (rw [add_block]; exact Nat.ne_of_lt (Nat.lt_of_lt_of_le (by have := World.block_lt_of_cell? _ _ hw161_2; first | rwa [add_block] at this | exact this) GW166.out)) | (show (Addr.add _ _).block ≠ _; rw [add_block]; exact Nat.ne_of_lt (Nat.lt_of_lt_of_le (by have := World.block_lt_of_cell? _ _ hw161_2; first | rwa [add_block] at this | exact this) GW166.out)) | (dsimp only; exact Nat.ne_of_lt (Nat.lt_of_lt_of_le (by have := World.block_lt_of_cell? _ _ hw161_2; first | rwa [add_block] at this | exact this) GW166.out))) _).trans (hHeld.2.2.2.2.2.2.2.2.2.2))))))⟩ (fun hHeld => ?_)
                                  clear hK K
                                  refine pure_ (i := 12) (N := some 16) (v := ?_) (a' := ?_) #[true, true, true, true, true, true, true, true, true, true, true, true, true] rfl rfl (any_of HT_.out (by kernel_rfl)) (fun _ _ _ h => h) (Or.inl ⟨by rfl, ?_⟩) ?_ ?_
                                  rotate_left
                                  · intro w'
                                    go_simp
                                    with_reducible rfl
                                  rotate_left
                                  · simp only [Act.put, List.setIfInBounds_toArray, List.set_cons_zero, List.set_cons_succ, i64_w, i32_w]
                                    rfl
                                  refine done_ (done_of HT_.out (by kernel_rfl)) ?_
                                  have hnb70 := NB166_149.out
                                  have hnc70 := NB149_166.out
                                  have hnb71 := NB166_150.out
                                  have hnc71 := NB150_166.out
                                  have hnb72 := NB166_155.out
                                  have hnc72 := NB155_166.out
                                  have hcz73_0 : w66.cell? ⟨gb166, 0, none⟩ = some (.int .i64 0) := (blk_cell BK166.out 0).trans rfl
                                  have hcz73_1 : w66.cell? ⟨gb166, 1, none⟩ = some (.int .i64 0) := (blk_cell BK166.out 1).trans rfl
                                  have hcz73_2 : w66.cell? ⟨gb166, 2, none⟩ = some (.int .i64 0) := (blk_cell BK166.out 2).trans rfl
                                  have hfz73_0 := blk_frozen BK166.out 0
                                  have hfz73_1 := blk_frozen BK166.out 1
                                  have hfz73_2 := blk_frozen BK166.out 2
                                  have hnb74 := NB155_150.out
                                  have hnc74 := NB150_155.out
                                  have hcz75_0 : w66.cell? ⟨gb155, 0, none⟩ = some (.int .i64 x156000_2) := (blk_cell BK155.out 0).trans rfl
                                  have hcz75_1 : w66.cell? ⟨gb155, 1, none⟩ = some (.int .i64 x156001_2) := (blk_cell BK155.out 1).trans rfl
                                  have hcz75_2 : w66.cell? ⟨gb155, 2, none⟩ = some (.int .i64 x156002_2) := (blk_cell BK155.out 2).trans rfl
                                  have hfz75_0 := blk_frozen BK155.out 0
                                  have hfz75_1 := blk_frozen BK155.out 1
                                  have hfz75_2 := blk_frozen BK155.out 2
                                  try go_wp2
                                  go_roundg k3
                                  case measure => have := HJ5.out; have := HK2.out; have := HK3.out; omega
                                  case rel => exact ⟨(x9_3), (wrap64 (x11_2 + 1)), (x151000_3), (x151001_3), (x151002_3), (t162), (t163), (t164), (by first | rfl | (simp; done) | (simp [*]; done)), H', ⟨by have := HJ5.out; have := HK2.out; have := HK3.out; omega⟩, ⟨by (with_reducible repeat (first | apply Kd.R_alloc | apply Kd.R_drewN | apply Kd.R_drew)); exact Kd.R_mono (Kd.R_far (p := ⟨gb155, 2, none⟩) (Kd.R_far (p := ⟨gb155, 1, none⟩) (Kd.R_far (p := ⟨gb155, 0, none⟩) (Kd.R_far (p := ⟨gb166, 2, none⟩) (Kd.R_far (p := ⟨gb166, 1, none⟩) (Kd.R_far (p := ⟨gb166, 0, none⟩) (Kd.R_types (Kd.R_types HO_9.out BK166.out (by decide)) BK155.out (by decide)) (fun _ hk => hk.1.2) (.int .i64 t162)) (fun _ hk => hk.1.2) (.int .i64 t163)) (fun _ hk => hk.1.2) (.int .i64 t164)) (fun _ hk => hk.2) (.int .i64 t162)) (fun _ hk => hk.2) (.int .i64 t163)) (fun _ hk => hk.2) (.int .i64 t164)) (fun _ hk => trivial)⟩, ⟨by (with_reducible repeat (first | refine blk_drewN ?_ _ | refine blk_drew ?_ | refine blk_alloc ?_ _)); refine blk_far ?_ NB149_155.out _; (with_reducible repeat (first | refine blk_drewN ?_ _ | refine blk_drew ?_ | refine blk_alloc ?_ _)); refine blk_far ?_ NB149_155.out _; (with_reducible repeat (first | refine blk_drewN ?_ _ | refine blk_drew ?_ | refine blk_alloc ?_ _)); refine blk_far ?_ NB149_155.out _; (with_reducible repeat (first | refine blk_drewN ?_ _ | refine blk_drew ?_ | refine blk_alloc ?_ _)); refine blk_far ?_ NB149_166.out _; (with_reducible repeat (first | refine blk_drewN ?_ _ | refine blk_drew ?_ | refine blk_alloc ?_ _)); refine blk_far ?_ NB149_166.out _; (with_reducible repeat (first | refine blk_drewN ?_ _ | refine blk_drew ?_ | refine blk_alloc ?_ _)); refine blk_far ?_ NB149_166.out _; (with_reducible repeat (first | refine blk_drewN ?_ _ | refine blk_drew ?_ | refine blk_alloc ?_ _)); exact BK149.out⟩, ⟨by (with_reducible repeat (first | refine blk_drewN ?_ _ | refine blk_drew ?_ | refine blk_alloc ?_ _)); refine blk_far ?_ NB150_155.out _; (with_reducible repeat (first | refine blk_drewN ?_ _ | refine blk_drew ?_ | refine blk_alloc ?_ _)); refine blk_far ?_ NB150_155.out _; (with_reducible repeat (first | refine blk_drewN ?_ _ | refine blk_drew ?_ | refine blk_alloc ?_ _)); refine blk_far ?_ NB150_155.out _; (with_reducible repeat (first | refine blk_drewN ?_ _ | refine blk_drew ?_ | refine blk_alloc ?_ _)); refine blk_far ?_ NB150_166.out _; (with_reducible repeat (first | refine blk_drewN ?_ _ | refine blk_drew ?_ | refine blk_alloc ?_ _)); refine blk_far ?_ NB150_166.out _; (with_reducible repeat (first | refine blk_drewN ?_ _ | refine blk_drew ?_ | refine blk_alloc ?_ _)); refine blk_far ?_ NB150_166.out _; (with_reducible repeat (first | refine blk_drewN ?_ _ | refine blk_drew ?_ | refine blk_alloc ?_ _)); exact BK150.out⟩, ⟨by (with_reducible repeat (first | refine blk_drewN ?_ _ | refine blk_drew ?_ | refine blk_alloc ?_ _)); refine blk_put (cs := #[.int .i64 t162, .int .i64 t163, .int .i64 x156002_2]) ?_ 2 _ rfl; (with_reducible repeat (first | refine blk_drewN ?_ _ | refine blk_drew ?_ | refine blk_alloc ?_ _)); refine blk_put (cs := #[.int .i64 t162, .int .i64 x156001_2, .int .i64 x156002_2]) ?_ 1 _ rfl; (with_reducible repeat (first | refine blk_drewN ?_ _ | refine blk_drew ?_ | refine blk_alloc ?_ _)); refine blk_put (cs := #[.int .i64 x156000_2, .int .i64 x156001_2, .int .i64 x156002_2]) ?_ 0 _ rfl; (with_reducible repeat (first | refine blk_drewN ?_ _ | refine blk_drew ?_ | refine blk_alloc ?_ _)); refine blk_far ?_ NB155_166.out _; (with_reducible repeat (first | refine blk_drewN ?_ _ | refine blk_drew ?_ | refine blk_alloc ?_ _)); refine blk_far ?_ NB155_166.out _; (with_reducible repeat (first | refine blk_drewN ?_ _ | refine blk_drew ?_ | refine blk_alloc ?_ _)); refine blk_far ?_ NB155_166.out _; (with_reducible repeat (first | refine blk_drewN ?_ _ | refine blk_drew ?_ | refine blk_alloc ?_ _)); exact BK155.out⟩, ⟨by repeat (first | (with_reducible first | exact HB.out | apply below_alloc | apply pw_below_drewN | apply below_drew1 | refine below_set ?_ GE149.out | refine below_set ?_ GE150.out | refine below_set ?_ GE155.out | refine below_set ?_ GE166.out) | exact HB.out)⟩⟩
                                · rw [if_neg c59] at H
                                  have c59b0 : (t165 == 0) = false := beq_eq_false_iff_ne.mpr c59
                                  have c59b1 : (t165 != 0) = true := bne_iff_ne.mpr c59
                                  simp only [Option.some.injEq, Prod.mk.injEq] at H
                                  obtain ⟨rfl, rfl, rfl, rfl, rfl⟩ := H
                                  have hnb76 := NB149_150.out
                                  have hnc76 := NB150_149.out
                                  have hnb77 := NB149_155.out
                                  have hnc77 := NB155_149.out
                                  have hcz78_0 : wr.cell? ⟨gb149, 0, none⟩ = some (.int .i64 a0_0) := (blk_cell BK149.out 0).trans rfl
                                  have hcz78_1 : wr.cell? ⟨gb149, 1, none⟩ = some (.int .i64 a0_1) := (blk_cell BK149.out 1).trans rfl
                                  have hcz78_2 : wr.cell? ⟨gb149, 2, none⟩ = some (.int .i64 a0_2) := (blk_cell BK149.out 2).trans rfl
                                  have hcz78_3 : wr.cell? ⟨gb149, 3, none⟩ = some (.slice A0_3 l0_3.length c0_3) := (blk_cell BK149.out 3).trans rfl
                                  have hcz78_4 : wr.cell? ⟨gb149, 4, none⟩ = some (.slice A0_4 l0_4.length c0_4) := (blk_cell BK149.out 4).trans rfl
                                  have hfz78_0 := blk_frozen BK149.out 0
                                  have hfz78_1 := blk_frozen BK149.out 1
                                  have hfz78_2 := blk_frozen BK149.out 2
                                  have hfz78_3 := blk_frozen BK149.out 3
                                  have hfz78_4 := blk_frozen BK149.out 4
                                  try go_wp2
                                  have n0_ := Aside0.mk (Kd.R_drew HO_9.out)
                                  have n1_ := Aside0.mk (blk_drew BK149.out)
                                  have n2_ := Aside0.mk (blk_drew BK150.out)
                                  have n3_ := Aside0.mk (blk_drew BK155.out)
                                  have n4_ := Aside0.mk (below_drew1 HB.out)
                                  clear HO_9
                                  clear BK149
                                  clear BK150
                                  clear BK155
                                  clear HB
                                  have HO_9 := n0_
                                  have BK149 := n1_
                                  have BK150 := n2_
                                  have BK155 := n3_
                                  have HB := n4_
                                  clear n0_ n1_ n2_ n3_ n4_
                                  have p161 : 0 ≤ (x11_2 : Int) := of_decide_eq_true (by first | (with_reducible assumption) | assumption)
                                  have q161 : x11_2 < (l0_4.length : Int) := of_decide_eq_true (by first | (with_reducible assumption) | assumption)
                                  obtain ⟨ad161, e161, hx161_0, hx161_1, hx161_2⟩ := at_T52 HR0_4.out x11_2 p161 q161
                                  have hw161_2 := hx161_2
                                  have hw161_1 := hx161_1
                                  have hw161_0 := hx161_0
                                  cases e161
                                  replace hx161_0 := (HB.out.cell (World.block_lt_of_cell? w _ hx161_0)).trans hx161_0
                                  replace hx161_1 := (HB.out.cell (World.block_lt_of_cell? w _ hx161_1)).trans hx161_1
                                  replace hx161_2 := (HB.out.cell (World.block_lt_of_cell? w _ hx161_2)).trans hx161_2
                                  replace p161 := eq_true p161
                                  replace q161 := eq_true q161
                                  refine start_ (n := 13) (S := fun w' => w'.cell? ⟨gb155, 0, none⟩ = some (.int .i64 x156000_2) ∧ w'.cell? ⟨gb155, 1, none⟩ = some (.int .i64 x156001_2) ∧ w'.cell? ⟨gb155, 2, none⟩ = some (.int .i64 x156002_2) ∧ w'.cell? ⟨gb149, 0, none⟩ = some (.int .i64 a0_0) ∧ w'.cell? ⟨gb149, 1, none⟩ = some (.int .i64 a0_1) ∧ w'.cell? ⟨gb149, 2, none⟩ = some (.int .i64 a0_2) ∧ w'.cell? ⟨gb149, 3, none⟩ = some (.slice A0_3 l0_3.length c0_3) ∧ w'.cell? ⟨gb149, 4, none⟩ = some (.slice (some ad161) l0_4.length c0_4) ∧ w'.cell? (ad161.add ((x11_2).toNat * 3)) = some (.int .i64 ((rd_T52 l0_4 x11_2).f0)) ∧ w'.cell? ⟨(ad161.add ((x11_2).toNat * 3)).block, (ad161.add ((x11_2).toNat * 3)).off + 1, none⟩ = some (.int .i64 ((rd_T52 l0_4 x11_2).f1)) ∧ w'.cell? ⟨(ad161.add ((x11_2).toNat * 3)).block, (ad161.add ((x11_2).toNat * 3)).off + 2, none⟩ = some (.int .i64 ((rd_T52 l0_4 x11_2).f2))) (ds := []) #[false, false, false, false, false, false, false, false, false, false, false, false, false] (by kernel_rfl) rfl rfl ⟨(blk_cell BK155.out 0).trans rfl, (blk_cell BK155.out 1).trans rfl, (blk_cell BK155.out 2).trans rfl, (blk_cell BK149.out 0).trans rfl, (blk_cell BK149.out 1).trans rfl, (blk_cell BK149.out 2).trans rfl, (blk_cell BK149.out 3).trans rfl, (blk_cell BK149.out 4).trans rfl, ((HB.out.cell (World.block_lt_of_cell? w _ hw161_0)).trans hw161_0), ((HB.out.cell (World.block_lt_of_cell? w _ hw161_1)).trans hw161_1), ((HB.out.cell (World.block_lt_of_cell? w _ hw161_2)).trans hw161_2)⟩ (fun hHeld => ?_); refine with_tabW hornbeamref12_Sum.tab18 hornbeamref12_Sum.bits18 (fun HT_ HW_ => ?_)
                                  generalize wr.drew = w79 at HO_9 BK149 BK150 BK155 HB hx161_0 hx161_1 hx161_2 hHeld ⊢
                                  refine pure_ (i := 1) (N := some 82) (v := ?_) (a' := ?_) #[false, true, false, false, false, false, false, false, false, false, false, false, false] rfl rfl (any_of HT_.out (by kernel_rfl)) (fun _ _ _ h => h) (Or.inl ⟨by rfl, ?_⟩) ?_ ?_
                                  rotate_left
                                  · intro w'
                                    go_simp
                                    with_reducible rfl
                                  rotate_left
                                  · simp only [Act.put, List.setIfInBounds_toArray, List.set_cons_zero, List.set_cons_succ, i64_w, i32_w]
                                    rfl
                                  refine pure_ (i := 3) (N := some 84) (v := ?_) (a' := ?_) #[false, true, false, true, false, false, false, false, false, false, false, false, false] rfl rfl (any_of HT_.out (by kernel_rfl)) (fun _ _ _ h => h) (Or.inl ⟨by rfl, ?_⟩) ?_ ?_
                                  rotate_left
                                  · intro w'
                                    go_simp
                                    with_reducible rfl
                                  rotate_left
                                  · simp only [Act.put, List.setIfInBounds_toArray, List.set_cons_zero, List.set_cons_succ, i64_w, i32_w]
                                    rfl
                                  refine take_ (i := 0) (N := some 81) (v := ?_) (a' := ?_) #[true, true, false, true, false, false, false, false, false, false, false, false, false] rfl rfl (take_ofW HT_.out HW_.out (by kernel_rfl)) (fun _ _ _ h => h) (Or.inl ⟨by rfl, ?_⟩) hHeld ?_ ?_
                                  rotate_left
                                  · rintro w' ⟨s0, s1, s2, s3, s4, s5, s6, s7, s8, s9, s10⟩
                                    go_simp
                                    with_reducible rfl
                                  rotate_left
                                  · simp only [Act.put, List.setIfInBounds_toArray, List.set_cons_zero, List.set_cons_succ, i64_w, i32_w]
                                    rfl
                                  refine take_ (i := 2) (N := some 83) (v := ?_) (a' := ?_) #[true, true, true, true, false, false, false, false, false, false, false, false, false] rfl rfl (take_ofW HT_.out HW_.out (by kernel_rfl)) (fun _ _ _ h => h) (Or.inl ⟨by rfl, ?_⟩) hHeld ?_ ?_
                                  rotate_left
                                  · rintro w' ⟨s0, s1, s2, s3, s4, s5, s6, s7, s8, s9, s10⟩
                                    go_simp
                                    with_reducible rfl
                                  rotate_left
                                  · simp only [Act.put, List.setIfInBounds_toArray, List.set_cons_zero, List.set_cons_succ, i64_w, i32_w]
                                    rfl
                                  refine pure_ (i := 4) (N := some 85) (v := ?_) (a' := ?_) #[true, true, true, true, true, false, false, false, false, false, false, false, false] rfl rfl (any_of HT_.out (by kernel_rfl)) (fun _ _ _ h => h) (Or.inl ⟨by rfl, ?_⟩) ?_ ?_
                                  rotate_left
                                  · intro w'
                                    go_simp
                                    with_reducible rfl
                                  rotate_left
                                  · simp only [Act.put, List.setIfInBounds_toArray, List.set_cons_zero, List.set_cons_succ, i64_w, i32_w]
                                    rfl
                                  refine take_ (i := 5) (N := some 86) (v := ?_) (a' := ?_) #[true, true, true, true, true, true, false, false, false, false, false, false, false] rfl rfl (take_ofW HT_.out HW_.out (by kernel_rfl)) (fun _ _ _ h => h) (Or.inl ⟨by rfl, ?_⟩) hHeld ?_ ?_
                                  rotate_left
                                  · rintro w' ⟨s0, s1, s2, s3, s4, s5, s6, s7, s8, s9, s10⟩
                                    go_simp
                                    with_reducible rfl
                                  rotate_left
                                  · simp only [Act.put, List.setIfInBounds_toArray, List.set_cons_zero, List.set_cons_succ, i64_w, i32_w]
                                    rfl
                                  refine join_ (σ := Nat) 2 #[true, true, true, true, true, true, true, true, true, true, true, false, false] (fun s_ => [(87, .tuple #[.agg #[.int .i64 t162, .int .i64 t163, .int .i64 t164], .int .i64 t165]), (15, .pointer (some ⟨s_, 0, none⟩)), (80, .tuple #[.agg #[.int .i64 t162, .int .i64 t163, .int .i64 t164], .int .i64 t165]), (88, .agg #[.int .i64 t162, .int .i64 t163, .int .i64 t164]), (89, .int .i64 t165)]) (fun s_ w' => (w'.cell? ⟨gb155, 0, none⟩ = some (.int .i64 x156000_2) ∧ w'.cell? ⟨gb155, 1, none⟩ = some (.int .i64 x156001_2) ∧ w'.cell? ⟨gb155, 2, none⟩ = some (.int .i64 x156002_2) ∧ w'.cell? ⟨gb149, 0, none⟩ = some (.int .i64 a0_0) ∧ w'.cell? ⟨gb149, 1, none⟩ = some (.int .i64 a0_1) ∧ w'.cell? ⟨gb149, 2, none⟩ = some (.int .i64 a0_2) ∧ w'.cell? ⟨gb149, 3, none⟩ = some (.slice A0_3 l0_3.length c0_3) ∧ w'.cell? ⟨gb149, 4, none⟩ = some (.slice (some ad161) l0_4.length c0_4) ∧ w'.cell? (ad161.add ((x11_2).toNat * 3)) = some (.int .i64 ((rd_T52 l0_4 x11_2).f0)) ∧ w'.cell? ⟨(ad161.add ((x11_2).toNat * 3)).block, (ad161.add ((x11_2).toNat * 3)).off + 1, none⟩ = some (.int .i64 ((rd_T52 l0_4 x11_2).f1)) ∧ w'.cell? ⟨(ad161.add ((x11_2).toNat * 3)).block, (ad161.add ((x11_2).toNat * 3)).off + 2, none⟩ = some (.int .i64 ((rd_T52 l0_4 x11_2).f2))) ∧ (Kd.R (Kd.int .i64) 2 w' w.heap.size (fun _ => True) v153 x9_3) ∧ (w'.heap[gb149]? = some (.cells #[.int .i64 a0_0, .int .i64 a0_1, .int .i64 a0_2, .slice A0_3 l0_3.length c0_3, .slice (some ad161) l0_4.length c0_4] 36 (0, 0))) ∧ (w'.heap[gb150]? = some (.cells #[.int .i64 x151000_3, .int .i64 x151001_3, .int .i64 x151002_3] 52 (0, 0))) ∧ (w'.heap[gb155]? = some (.cells #[.int .i64 x156000_2, .int .i64 x156001_2, .int .i64 x156002_2] 52 (0, 0))) ∧ (w'.heap[s_]? = some (.cells #[.int .i64 0, .int .i64 0, .int .i64 0] 52 (0, 0))) ∧ (w.heap.size ≤ s_) ∧ (w.heap.size ≤ s_) ∧ (gb149 ≠ s_) ∧ (s_ ≠ gb149) ∧ (gb150 ≠ s_) ∧ (s_ ≠ gb150) ∧ (gb155 ≠ s_) ∧ (s_ ≠ gb155) ∧ (Below w.heap.size w w')) ?_ ?_
                                  rotate_left
                                  · intro hCont
                                    refine two_ (i := 6) (j := 10) (Ni := some 87) (Nj := some 15) #[true, true, true, true, true, true, true, false, false, false, false, false, false] #[true, true, true, true, true, true, false, false, false, false, true, false, false] rfl rfl rfl rfl (two_of HT_.out (by kernel_rfl)) (by decide) (by decide) (fun K hK => ?_) (fun K hK => ?_)
                                    · skip
                                      refine goes_ Try.func51 (by kernel_rfl) rfl #[.agg #[.int .i64 x156000_2, .int .i64 x156001_2, .int .i64 x156002_2], .agg #[.int .i64 ((rd_T52 l0_4 x11_2).f0), .int .i64 ((rd_T52 l0_4 x11_2).f1), .int .i64 ((rd_T52 l0_4 x11_2).f2)]] (by rfl) rfl rfl (by (try simp only [List.map_toArray, List.map_cons, List.map_nil]); first | done | rfl | (simp only [List.length_drop, List.length_take]; rfl)) ?_
                                      with_reducible refine (hornbeamref12_plus.calls x156000_2 x156001_2 x156002_2 ((rd_T52 l0_4 x11_2).f0) ((rd_T52 l0_4 x11_2).f1) ((rd_T52 l0_4 x11_2).f2) t162 t163 t164 t165 _ A58.out).mono ?_
                                      rintro e w80 ⟨rfl, hb⟩
                                      refine ⟨_, rfl, ?_⟩
                                      have n0_ := Aside0.mk (Kd.R_below (by (with_reducible repeat (first | apply Kd.R_alloc | apply Kd.R_drewN | apply Kd.R_drew)); exact HO_9.out) hb)
                                      have n1_ := Aside0.mk (blk_below (g := gb149) (o := .cells #[.int .i64 a0_0, .int .i64 a0_1, .int .i64 a0_2, .slice A0_3 l0_3.length c0_3, .slice (some ad161) l0_4.length c0_4] 36 (0, 0)) (by (with_reducible repeat (first | refine blk_drewN ?_ _ | refine blk_drew ?_ | refine blk_alloc ?_ _)); exact BK149.out) hb)
                                      have n2_ := Aside0.mk (blk_below (g := gb150) (o := .cells #[.int .i64 x151000_3, .int .i64 x151001_3, .int .i64 x151002_3] 52 (0, 0)) (by (with_reducible repeat (first | refine blk_drewN ?_ _ | refine blk_drew ?_ | refine blk_alloc ?_ _)); exact BK150.out) hb)
                                      have n3_ := Aside0.mk (blk_below (g := gb155) (o := .cells #[.int .i64 x156000_2, .int .i64 x156001_2, .int .i64 x156002_2] 52 (0, 0)) (by (with_reducible repeat (first | refine blk_drewN ?_ _ | refine blk_drew ?_ | refine blk_alloc ?_ _)); exact BK155.out) hb)
                                      have n4_ := Aside0.mk (below_step (by repeat (first | (with_reducible first | exact HB.out | apply below_alloc | apply pw_below_drewN | apply below_drew1 | refine below_set ?_ GE149.out | refine below_set ?_ GE150.out | refine below_set ?_ GE155.out) | exact HB.out)) hb)
                                      clear HO_9
                                      clear BK149
                                      clear BK150
                                      clear BK155
                                      clear HB
                                      have HO_9 := n0_
                                      have BK149 := n1_
                                      have BK150 := n2_
                                      have BK155 := n3_
                                      have HB := n4_
                                      clear n0_ n1_ n2_ n3_ n4_
                                      (try clear hb)
                                      (try clear hb2)
                                      (try clear hk)
                                      (try clear hi)
                                      refine hK.out _ _ ⟨(blk_cell BK155.out 0).trans rfl, (blk_cell BK155.out 1).trans rfl, (blk_cell BK155.out 2).trans rfl, (blk_cell BK149.out 0).trans rfl, (blk_cell BK149.out 1).trans rfl, (blk_cell BK149.out 2).trans rfl, (blk_cell BK149.out 3).trans rfl, (blk_cell BK149.out 4).trans rfl, ((HB.out.cell (World.block_lt_of_cell? w _ hw161_0)).trans hw161_0), ((HB.out.cell (World.block_lt_of_cell? w _ hw161_1)).trans hw161_1), ((HB.out.cell (World.block_lt_of_cell? w _ hw161_2)).trans hw161_2)⟩ (fun hHeld => ?_)
                                      clear hK K
                                      refine norm_ (a' := ?_) ?_ ?_
                                      rotate_left
                                      · show Act.put _ (some 87) _ = _
                                        simp only [Act.put, List.setIfInBounds_toArray, List.set_cons_zero, List.set_cons_succ, i64_w, i32_w]
                                        rfl
                                      refine pure_ (i := 7) (N := some 80) (v := ?_) (a' := ?_) #[true, true, true, true, true, true, true, true, false, false, false, false, false] rfl rfl (any_of HT_.out (by kernel_rfl)) (fun _ _ _ h => h) (Or.inl ⟨by rfl, ?_⟩) ?_ ?_
                                      rotate_left
                                      · intro w'
                                        go_simp
                                        with_reducible rfl
                                      rotate_left
                                      · simp only [Act.put, List.setIfInBounds_toArray, List.set_cons_zero, List.set_cons_succ, i64_w, i32_w]
                                        rfl
                                      refine pure_ (i := 8) (N := some 88) (v := ?_) (a' := ?_) #[true, true, true, true, true, true, true, true, true, false, false, false, false] rfl rfl (any_of HT_.out (by kernel_rfl)) (fun _ _ _ h => h) (Or.inl ⟨by rfl, ?_⟩) ?_ ?_
                                      rotate_left
                                      · intro w'
                                        go_simp
                                        with_reducible rfl
                                      rotate_left
                                      · simp only [Act.put, List.setIfInBounds_toArray, List.set_cons_zero, List.set_cons_succ, i64_w, i32_w]
                                        rfl
                                      refine pure_ (i := 9) (N := some 89) (v := ?_) (a' := ?_) #[true, true, true, true, true, true, true, true, true, true, false, false, false] rfl rfl (any_of HT_.out (by kernel_rfl)) (fun _ _ _ h => h) (Or.inl ⟨by rfl, ?_⟩) ?_ ?_
                                      rotate_left
                                      · intro w'
                                        go_simp
                                        with_reducible rfl
                                      rotate_left
                                      · simp only [Act.put, List.setIfInBounds_toArray, List.set_cons_zero, List.set_cons_succ, i64_w, i32_w]
                                        rfl
                                      refine one_ (i := 10) (N := some 15) #[true, true, true, true, true, true, true, true, true, true, true, false, false] rfl rfl (one_of HT_.out (by kernel_rfl)) (by decide) (fun K hK => ?_)
                                      refine box_step ?hg (N := 15) ?hd (cs := #[.int .i64 0, .int .i64 0, .int .i64 0]) (t := 52) ?hr ?_; (case hd => rfl); (case hg => rfl); (case hr => first | (go_simp; done) | (go_simp; rfl))
                                      intro gb166 hg w81 hbox hb
                                      have n0_ := Aside0.mk (Kd.R_below (by (with_reducible repeat (first | apply Kd.R_alloc | apply Kd.R_drewN | apply Kd.R_drew)); exact HO_9.out) hb)
                                      have n1_ := Aside0.mk (blk_below (g := gb149) (o := .cells #[.int .i64 a0_0, .int .i64 a0_1, .int .i64 a0_2, .slice A0_3 l0_3.length c0_3, .slice (some ad161) l0_4.length c0_4] 36 (0, 0)) (by (with_reducible repeat (first | refine blk_drewN ?_ _ | refine blk_drew ?_ | refine blk_alloc ?_ _)); exact BK149.out) hb)
                                      have n2_ := Aside0.mk (blk_below (g := gb150) (o := .cells #[.int .i64 x151000_3, .int .i64 x151001_3, .int .i64 x151002_3] 52 (0, 0)) (by (with_reducible repeat (first | refine blk_drewN ?_ _ | refine blk_drew ?_ | refine blk_alloc ?_ _)); exact BK150.out) hb)
                                      have n3_ := Aside0.mk (blk_below (g := gb155) (o := .cells #[.int .i64 x156000_2, .int .i64 x156001_2, .int .i64 x156002_2] 52 (0, 0)) (by (with_reducible repeat (first | refine blk_drewN ?_ _ | refine blk_drew ?_ | refine blk_alloc ?_ _)); exact BK155.out) hb)
                                      have n4_ := Aside0.mk (below_step (by repeat (first | (with_reducible first | exact HB.out | apply below_alloc | apply pw_below_drewN | apply below_drew1 | refine below_set ?_ GE149.out | refine below_set ?_ GE150.out | refine below_set ?_ GE155.out) | exact HB.out)) hb)
                                      have n5_ := Aside0.mk (hbox)
                                      have n6_ := Aside0.mk ((by rw [hg]; exact (below_size (by repeat (first | (with_reducible first | exact HB.out | apply below_alloc | apply pw_below_drewN | apply below_drew1 | refine below_set ?_ GE149.out | refine below_set ?_ GE150.out | refine below_set ?_ GE155.out) | exact HB.out))) : w.heap.size ≤ gb166))
                                      have n7_ := Aside0.mk ((by rw [hg]; exact (below_size (by repeat (first | (with_reducible first | exact HB.out | apply below_alloc | apply pw_below_drewN | apply below_drew1 | refine below_set ?_ GE149.out | refine below_set ?_ GE150.out | refine below_set ?_ GE155.out) | exact HB.out))) : w.heap.size ≤ gb166))
                                      have n8_ := Aside0.mk ((by rw [hg]; exact Nat.ne_of_lt (blk_lt (g := gb149) (o := .cells #[.int .i64 a0_0, .int .i64 a0_1, .int .i64 a0_2, .slice A0_3 l0_3.length c0_3, .slice (some ad161) l0_4.length c0_4] 36 (0, 0)) (by (with_reducible repeat (first | refine blk_drewN ?_ _ | refine blk_drew ?_ | refine blk_alloc ?_ _)); exact BK149.out)) : gb149 ≠ gb166))
                                      have n9_ := Aside0.mk ((by rw [hg]; exact Nat.ne_of_gt (blk_lt (g := gb149) (o := .cells #[.int .i64 a0_0, .int .i64 a0_1, .int .i64 a0_2, .slice A0_3 l0_3.length c0_3, .slice (some ad161) l0_4.length c0_4] 36 (0, 0)) (by (with_reducible repeat (first | refine blk_drewN ?_ _ | refine blk_drew ?_ | refine blk_alloc ?_ _)); exact BK149.out)) : gb166 ≠ gb149))
                                      have n10_ := Aside0.mk ((by rw [hg]; exact Nat.ne_of_lt (blk_lt (g := gb150) (o := .cells #[.int .i64 x151000_3, .int .i64 x151001_3, .int .i64 x151002_3] 52 (0, 0)) (by (with_reducible repeat (first | refine blk_drewN ?_ _ | refine blk_drew ?_ | refine blk_alloc ?_ _)); exact BK150.out)) : gb150 ≠ gb166))
                                      have n11_ := Aside0.mk ((by rw [hg]; exact Nat.ne_of_gt (blk_lt (g := gb150) (o := .cells #[.int .i64 x151000_3, .int .i64 x151001_3, .int .i64 x151002_3] 52 (0, 0)) (by (with_reducible repeat (first | refine blk_drewN ?_ _ | refine blk_drew ?_ | refine blk_alloc ?_ _)); exact BK150.out)) : gb166 ≠ gb150))
                                      have n12_ := Aside0.mk ((by rw [hg]; exact Nat.ne_of_lt (blk_lt (g := gb155) (o := .cells #[.int .i64 x156000_2, .int .i64 x156001_2, .int .i64 x156002_2] 52 (0, 0)) (by (with_reducible repeat (first | refine blk_drewN ?_ _ | refine blk_drew ?_ | refine blk_alloc ?_ _)); exact BK155.out)) : gb155 ≠ gb166))
                                      have n13_ := Aside0.mk ((by rw [hg]; exact Nat.ne_of_gt (blk_lt (g := gb155) (o := .cells #[.int .i64 x156000_2, .int .i64 x156001_2, .int .i64 x156002_2] 52 (0, 0)) (by (with_reducible repeat (first | refine blk_drewN ?_ _ | refine blk_drew ?_ | refine blk_alloc ?_ _)); exact BK155.out)) : gb166 ≠ gb155))
                                      clear HO_9
                                      clear BK149
                                      clear BK150
                                      clear BK155
                                      clear HB
                                      have HO_9 := n0_
                                      have BK149 := n1_
                                      have BK150 := n2_
                                      have BK155 := n3_
                                      have HB := n4_
                                      have BK166 := n5_
                                      have GW166 := n6_
                                      have GE166 := n7_
                                      have NB149_166 := n8_
                                      have NB166_149 := n9_
                                      have NB150_166 := n10_
                                      have NB166_150 := n11_
                                      have NB155_166 := n12_
                                      have NB166_155 := n13_
                                      clear n0_ n1_ n2_ n3_ n4_ n5_ n6_ n7_ n8_ n9_ n10_ n11_ n12_ n13_
                                      clear hb hbox hg
                                      refine hK.out _ _ ⟨(blk_cell BK155.out 0).trans rfl, (blk_cell BK155.out 1).trans rfl, (blk_cell BK155.out 2).trans rfl, (blk_cell BK149.out 0).trans rfl, (blk_cell BK149.out 1).trans rfl, (blk_cell BK149.out 2).trans rfl, (blk_cell BK149.out 3).trans rfl, (blk_cell BK149.out 4).trans rfl, ((HB.out.cell (World.block_lt_of_cell? w _ hw161_0)).trans hw161_0), ((HB.out.cell (World.block_lt_of_cell? w _ hw161_1)).trans hw161_1), ((HB.out.cell (World.block_lt_of_cell? w _ hw161_2)).trans hw161_2)⟩ (fun hHeld => ?_)
                                      clear hK K
                                      refine norm_ (a' := ?_) ?_ ?_
                                      rotate_left
                                      · show Act.put _ (some 15) _ = _
                                        simp only [Act.put, List.setIfInBounds_toArray, List.set_cons_zero, List.set_cons_succ, i64_w, i32_w]
                                        rfl
                                      exact norm_ (by simp only [putAll, Act.put, List.setIfInBounds_toArray, List.set_cons_zero, List.set_cons_succ]) (hCont (gb166) _ ⟨hHeld, (by (with_reducible repeat (first | apply Kd.R_alloc | apply Kd.R_drewN | apply Kd.R_drew)); exact HO_9.out), (by (with_reducible repeat (first | refine blk_drewN ?_ _ | refine blk_drew ?_ | refine blk_alloc ?_ _)); exact BK149.out), (by (with_reducible repeat (first | refine blk_drewN ?_ _ | refine blk_drew ?_ | refine blk_alloc ?_ _)); exact BK150.out), (by (with_reducible repeat (first | refine blk_drewN ?_ _ | refine blk_drew ?_ | refine blk_alloc ?_ _)); exact BK155.out), (by (with_reducible repeat (first | refine blk_drewN ?_ _ | refine blk_drew ?_ | refine blk_alloc ?_ _)); exact BK166.out), GW166.out, GE166.out, NB149_166.out, NB166_149.out, NB150_166.out, NB166_150.out, NB155_166.out, NB166_155.out, (by repeat (first | (with_reducible first | exact HB.out | apply below_alloc | apply pw_below_drewN | apply below_drew1 | refine below_set ?_ GE149.out | refine below_set ?_ GE150.out | refine below_set ?_ GE155.out | refine below_set ?_ GE166.out) | exact HB.out))⟩)
                                    · skip
                                      refine box_step ?hg (N := 15) ?hd (cs := #[.int .i64 0, .int .i64 0, .int .i64 0]) (t := 52) ?hr ?_; (case hd => rfl); (case hg => rfl); (case hr => first | (go_simp; done) | (go_simp; rfl))
                                      intro gb166 hg w80 hbox hb
                                      have n0_ := Aside0.mk (Kd.R_below (by (with_reducible repeat (first | apply Kd.R_alloc | apply Kd.R_drewN | apply Kd.R_drew)); exact HO_9.out) hb)
                                      have n1_ := Aside0.mk (blk_below (g := gb149) (o := .cells #[.int .i64 a0_0, .int .i64 a0_1, .int .i64 a0_2, .slice A0_3 l0_3.length c0_3, .slice (some ad161) l0_4.length c0_4] 36 (0, 0)) (by (with_reducible repeat (first | refine blk_drewN ?_ _ | refine blk_drew ?_ | refine blk_alloc ?_ _)); exact BK149.out) hb)
                                      have n2_ := Aside0.mk (blk_below (g := gb150) (o := .cells #[.int .i64 x151000_3, .int .i64 x151001_3, .int .i64 x151002_3] 52 (0, 0)) (by (with_reducible repeat (first | refine blk_drewN ?_ _ | refine blk_drew ?_ | refine blk_alloc ?_ _)); exact BK150.out) hb)
                                      have n3_ := Aside0.mk (blk_below (g := gb155) (o := .cells #[.int .i64 x156000_2, .int .i64 x156001_2, .int .i64 x156002_2] 52 (0, 0)) (by (with_reducible repeat (first | refine blk_drewN ?_ _ | refine blk_drew ?_ | refine blk_alloc ?_ _)); exact BK155.out) hb)
                                      have n4_ := Aside0.mk (below_step (by repeat (first | (with_reducible first | exact HB.out | apply below_alloc | apply pw_below_drewN | apply below_drew1 | refine below_set ?_ GE149.out | refine below_set ?_ GE150.out | refine below_set ?_ GE155.out) | exact HB.out)) hb)
                                      have n5_ := Aside0.mk (hbox)
                                      have n6_ := Aside0.mk ((by rw [hg]; exact (below_size (by repeat (first | (with_reducible first | exact HB.out | apply below_alloc | apply pw_below_drewN | apply below_drew1 | refine below_set ?_ GE149.out | refine below_set ?_ GE150.out | refine below_set ?_ GE155.out) | exact HB.out))) : w.heap.size ≤ gb166))
                                      have n7_ := Aside0.mk ((by rw [hg]; exact (below_size (by repeat (first | (with_reducible first | exact HB.out | apply below_alloc | apply pw_below_drewN | apply below_drew1 | refine below_set ?_ GE149.out | refine below_set ?_ GE150.out | refine below_set ?_ GE155.out) | exact HB.out))) : w.heap.size ≤ gb166))
                                      have n8_ := Aside0.mk ((by rw [hg]; exact Nat.ne_of_lt (blk_lt (g := gb149) (o := .cells #[.int .i64 a0_0, .int .i64 a0_1, .int .i64 a0_2, .slice A0_3 l0_3.length c0_3, .slice (some ad161) l0_4.length c0_4] 36 (0, 0)) (by (with_reducible repeat (first | refine blk_drewN ?_ _ | refine blk_drew ?_ | refine blk_alloc ?_ _)); exact BK149.out)) : gb149 ≠ gb166))
                                      have n9_ := Aside0.mk ((by rw [hg]; exact Nat.ne_of_gt (blk_lt (g := gb149) (o := .cells #[.int .i64 a0_0, .int .i64 a0_1, .int .i64 a0_2, .slice A0_3 l0_3.length c0_3, .slice (some ad161) l0_4.length c0_4] 36 (0, 0)) (by (with_reducible repeat (first | refine blk_drewN ?_ _ | refine blk_drew ?_ | refine blk_alloc ?_ _)); exact BK149.out)) : gb166 ≠ gb149))
                                      have n10_ := Aside0.mk ((by rw [hg]; exact Nat.ne_of_lt (blk_lt (g := gb150) (o := .cells #[.int .i64 x151000_3, .int .i64 x151001_3, .int .i64 x151002_3] 52 (0, 0)) (by (with_reducible repeat (first | refine blk_drewN ?_ _ | refine blk_drew ?_ | refine blk_alloc ?_ _)); exact BK150.out)) : gb150 ≠ gb166))
                                      have n11_ := Aside0.mk ((by rw [hg]; exact Nat.ne_of_gt (blk_lt (g := gb150) (o := .cells #[.int .i64 x151000_3, .int .i64 x151001_3, .int .i64 x151002_3] 52 (0, 0)) (by (with_reducible repeat (first | refine blk_drewN ?_ _ | refine blk_drew ?_ | refine blk_alloc ?_ _)); exact BK150.out)) : gb166 ≠ gb150))
                                      have n12_ := Aside0.mk ((by rw [hg]; exact Nat.ne_of_lt (blk_lt (g := gb155) (o := .cells #[.int .i64 x156000_2, .int .i64 x156001_2, .int .i64 x156002_2] 52 (0, 0)) (by (with_reducible repeat (first | refine blk_drewN ?_ _ | refine blk_drew ?_ | refine blk_alloc ?_ _)); exact BK155.out)) : gb155 ≠ gb166))
                                      have n13_ := Aside0.mk ((by rw [hg]; exact Nat.ne_of_gt (blk_lt (g := gb155) (o := .cells #[.int .i64 x156000_2, .int .i64 x156001_2, .int .i64 x156002_2] 52 (0, 0)) (by (with_reducible repeat (first | refine blk_drewN ?_ _ | refine blk_drew ?_ | refine blk_alloc ?_ _)); exact BK155.out)) : gb166 ≠ gb155))
                                      clear HO_9
                                      clear BK149
                                      clear BK150
                                      clear BK155
                                      clear HB
                                      have HO_9 := n0_
                                      have BK149 := n1_
                                      have BK150 := n2_
                                      have BK155 := n3_
                                      have HB := n4_
                                      have BK166 := n5_
                                      have GW166 := n6_
                                      have GE166 := n7_
                                      have NB149_166 := n8_
                                      have NB166_149 := n9_
                                      have NB150_166 := n10_
                                      have NB166_150 := n11_
                                      have NB155_166 := n12_
                                      have NB166_155 := n13_
                                      clear n0_ n1_ n2_ n3_ n4_ n5_ n6_ n7_ n8_ n9_ n10_ n11_ n12_ n13_
                                      clear hb hbox hg
                                      refine hK.out _ _ ⟨(blk_cell BK155.out 0).trans rfl, (blk_cell BK155.out 1).trans rfl, (blk_cell BK155.out 2).trans rfl, (blk_cell BK149.out 0).trans rfl, (blk_cell BK149.out 1).trans rfl, (blk_cell BK149.out 2).trans rfl, (blk_cell BK149.out 3).trans rfl, (blk_cell BK149.out 4).trans rfl, ((HB.out.cell (World.block_lt_of_cell? w _ hw161_0)).trans hw161_0), ((HB.out.cell (World.block_lt_of_cell? w _ hw161_1)).trans hw161_1), ((HB.out.cell (World.block_lt_of_cell? w _ hw161_2)).trans hw161_2)⟩ (fun hHeld => ?_)
                                      clear hK K
                                      refine norm_ (a' := ?_) ?_ ?_
                                      rotate_left
                                      · show Act.put _ (some 15) _ = _
                                        simp only [Act.put, List.setIfInBounds_toArray, List.set_cons_zero, List.set_cons_succ, i64_w, i32_w]
                                        rfl
                                      refine one_ (i := 6) (N := some 87) #[true, true, true, true, true, true, true, false, false, false, true, false, false] rfl rfl (one_of HT_.out (by kernel_rfl)) (by decide) (fun K hK => ?_)
                                      refine goes_ Try.func51 (by kernel_rfl) rfl #[.agg #[.int .i64 x156000_2, .int .i64 x156001_2, .int .i64 x156002_2], .agg #[.int .i64 ((rd_T52 l0_4 x11_2).f0), .int .i64 ((rd_T52 l0_4 x11_2).f1), .int .i64 ((rd_T52 l0_4 x11_2).f2)]] (by rfl) rfl rfl (by (try simp only [List.map_toArray, List.map_cons, List.map_nil]); first | done | rfl | (simp only [List.length_drop, List.length_take]; rfl)) ?_
                                      with_reducible refine (hornbeamref12_plus.calls x156000_2 x156001_2 x156002_2 ((rd_T52 l0_4 x11_2).f0) ((rd_T52 l0_4 x11_2).f1) ((rd_T52 l0_4 x11_2).f2) t162 t163 t164 t165 _ A58.out).mono ?_
                                      rintro e w81 ⟨rfl, hb⟩
                                      refine ⟨_, rfl, ?_⟩
                                      have n0_ := Aside0.mk (Kd.R_below (by (with_reducible repeat (first | apply Kd.R_alloc | apply Kd.R_drewN | apply Kd.R_drew)); exact HO_9.out) hb)
                                      have n1_ := Aside0.mk (blk_below (g := gb149) (o := .cells #[.int .i64 a0_0, .int .i64 a0_1, .int .i64 a0_2, .slice A0_3 l0_3.length c0_3, .slice (some ad161) l0_4.length c0_4] 36 (0, 0)) (by (with_reducible repeat (first | refine blk_drewN ?_ _ | refine blk_drew ?_ | refine blk_alloc ?_ _)); exact BK149.out) hb)
                                      have n2_ := Aside0.mk (blk_below (g := gb150) (o := .cells #[.int .i64 x151000_3, .int .i64 x151001_3, .int .i64 x151002_3] 52 (0, 0)) (by (with_reducible repeat (first | refine blk_drewN ?_ _ | refine blk_drew ?_ | refine blk_alloc ?_ _)); exact BK150.out) hb)
                                      have n3_ := Aside0.mk (blk_below (g := gb155) (o := .cells #[.int .i64 x156000_2, .int .i64 x156001_2, .int .i64 x156002_2] 52 (0, 0)) (by (with_reducible repeat (first | refine blk_drewN ?_ _ | refine blk_drew ?_ | refine blk_alloc ?_ _)); exact BK155.out) hb)
                                      have n4_ := Aside0.mk (blk_below (g := gb166) (o := .cells #[.int .i64 0, .int .i64 0, .int .i64 0] 52 (0, 0)) (by (with_reducible repeat (first | refine blk_drewN ?_ _ | refine blk_drew ?_ | refine blk_alloc ?_ _)); exact BK166.out) hb)
                                      have n5_ := Aside0.mk (below_step (by repeat (first | (with_reducible first | exact HB.out | apply below_alloc | apply pw_below_drewN | apply below_drew1 | refine below_set ?_ GE149.out | refine below_set ?_ GE150.out | refine below_set ?_ GE155.out | refine below_set ?_ GE166.out) | exact HB.out)) hb)
                                      clear HO_9
                                      clear BK149
                                      clear BK150
                                      clear BK155
                                      clear BK166
                                      clear HB
                                      have HO_9 := n0_
                                      have BK149 := n1_
                                      have BK150 := n2_
                                      have BK155 := n3_
                                      have BK166 := n4_
                                      have HB := n5_
                                      clear n0_ n1_ n2_ n3_ n4_ n5_
                                      (try clear hb)
                                      (try clear hb2)
                                      (try clear hk)
                                      (try clear hi)
                                      refine hK.out _ _ ⟨(blk_cell BK155.out 0).trans rfl, (blk_cell BK155.out 1).trans rfl, (blk_cell BK155.out 2).trans rfl, (blk_cell BK149.out 0).trans rfl, (blk_cell BK149.out 1).trans rfl, (blk_cell BK149.out 2).trans rfl, (blk_cell BK149.out 3).trans rfl, (blk_cell BK149.out 4).trans rfl, ((HB.out.cell (World.block_lt_of_cell? w _ hw161_0)).trans hw161_0), ((HB.out.cell (World.block_lt_of_cell? w _ hw161_1)).trans hw161_1), ((HB.out.cell (World.block_lt_of_cell? w _ hw161_2)).trans hw161_2)⟩ (fun hHeld => ?_)
                                      clear hK K
                                      refine norm_ (a' := ?_) ?_ ?_
                                      rotate_left
                                      · show Act.put _ (some 87) _ = _
                                        simp only [Act.put, List.setIfInBounds_toArray, List.set_cons_zero, List.set_cons_succ, i64_w, i32_w]
                                        rfl
                                      refine pure_ (i := 7) (N := some 80) (v := ?_) (a' := ?_) #[true, true, true, true, true, true, true, true, false, false, true, false, false] rfl rfl (any_of HT_.out (by kernel_rfl)) (fun _ _ _ h => h) (Or.inl ⟨by rfl, ?_⟩) ?_ ?_
                                      rotate_left
                                      · intro w'
                                        go_simp
                                        with_reducible rfl
                                      rotate_left
                                      · simp only [Act.put, List.setIfInBounds_toArray, List.set_cons_zero, List.set_cons_succ, i64_w, i32_w]
                                        rfl
                                      refine pure_ (i := 8) (N := some 88) (v := ?_) (a' := ?_) #[true, true, true, true, true, true, true, true, true, false, true, false, false] rfl rfl (any_of HT_.out (by kernel_rfl)) (fun _ _ _ h => h) (Or.inl ⟨by rfl, ?_⟩) ?_ ?_
                                      rotate_left
                                      · intro w'
                                        go_simp
                                        with_reducible rfl
                                      rotate_left
                                      · simp only [Act.put, List.setIfInBounds_toArray, List.set_cons_zero, List.set_cons_succ, i64_w, i32_w]
                                        rfl
                                      refine pure_ (i := 9) (N := some 89) (v := ?_) (a' := ?_) #[true, true, true, true, true, true, true, true, true, true, true, false, false] rfl rfl (any_of HT_.out (by kernel_rfl)) (fun _ _ _ h => h) (Or.inl ⟨by rfl, ?_⟩) ?_ ?_
                                      rotate_left
                                      · intro w'
                                        go_simp
                                        with_reducible rfl
                                      rotate_left
                                      · simp only [Act.put, List.setIfInBounds_toArray, List.set_cons_zero, List.set_cons_succ, i64_w, i32_w]
                                        rfl
                                      exact norm_ (by simp only [putAll, Act.put, List.setIfInBounds_toArray, List.set_cons_zero, List.set_cons_succ]) (hCont (gb166) _ ⟨hHeld, (by (with_reducible repeat (first | apply Kd.R_alloc | apply Kd.R_drewN | apply Kd.R_drew)); exact HO_9.out), (by (with_reducible repeat (first | refine blk_drewN ?_ _ | refine blk_drew ?_ | refine blk_alloc ?_ _)); exact BK149.out), (by (with_reducible repeat (first | refine blk_drewN ?_ _ | refine blk_drew ?_ | refine blk_alloc ?_ _)); exact BK150.out), (by (with_reducible repeat (first | refine blk_drewN ?_ _ | refine blk_drew ?_ | refine blk_alloc ?_ _)); exact BK155.out), (by (with_reducible repeat (first | refine blk_drewN ?_ _ | refine blk_drew ?_ | refine blk_alloc ?_ _)); exact BK166.out), GW166.out, GE166.out, NB149_166.out, NB166_149.out, NB150_166.out, NB166_150.out, NB155_166.out, NB166_155.out, (by repeat (first | (with_reducible first | exact HB.out | apply below_alloc | apply pw_below_drewN | apply below_drew1 | refine below_set ?_ GE149.out | refine below_set ?_ GE150.out | refine below_set ?_ GE155.out | refine below_set ?_ GE166.out) | exact HB.out))⟩)
                                  rintro gb166 w82 ⟨hS_, h0_, h1_, h2_, h3_, h4_, h5_, h6_, h7_, h8_, h9_, h10_, h11_, h12_, h13_⟩
                                  have n0_ : Aside0 (Kd.R (Kd.int .i64) 2 w82 w.heap.size (fun _ => True) v153 x9_3) := ⟨h0_⟩
                                  have n1_ : Aside0 (w82.heap[gb149]? = some (.cells #[.int .i64 a0_0, .int .i64 a0_1, .int .i64 a0_2, .slice A0_3 l0_3.length c0_3, .slice (some ad161) l0_4.length c0_4] 36 (0, 0))) := ⟨h1_⟩
                                  have n2_ : Aside0 (w82.heap[gb150]? = some (.cells #[.int .i64 x151000_3, .int .i64 x151001_3, .int .i64 x151002_3] 52 (0, 0))) := ⟨h2_⟩
                                  have n3_ : Aside0 (w82.heap[gb155]? = some (.cells #[.int .i64 x156000_2, .int .i64 x156001_2, .int .i64 x156002_2] 52 (0, 0))) := ⟨h3_⟩
                                  have n4_ : Aside0 (w82.heap[gb166]? = some (.cells #[.int .i64 0, .int .i64 0, .int .i64 0] 52 (0, 0))) := ⟨h4_⟩
                                  have n5_ : Aside0 (w.heap.size ≤ gb166) := ⟨h5_⟩
                                  have n6_ : Aside0 (w.heap.size ≤ gb166) := ⟨h6_⟩
                                  have n7_ : Aside0 (gb149 ≠ gb166) := ⟨h7_⟩
                                  have n8_ : Aside0 (gb166 ≠ gb149) := ⟨h8_⟩
                                  have n9_ : Aside0 (gb150 ≠ gb166) := ⟨h9_⟩
                                  have n10_ : Aside0 (gb166 ≠ gb150) := ⟨h10_⟩
                                  have n11_ : Aside0 (gb155 ≠ gb166) := ⟨h11_⟩
                                  have n12_ : Aside0 (gb166 ≠ gb155) := ⟨h12_⟩
                                  have n13_ : Aside0 (Below w.heap.size w w82) := ⟨h13_⟩
                                  clear HO_9
                                  clear BK149
                                  clear BK150
                                  clear BK155
                                  clear HB
                                  clear h0_ h1_ h2_ h3_ h4_ h5_ h6_ h7_ h8_ h9_ h10_ h11_ h12_ h13_
                                  have HO_9 := n0_
                                  have BK149 := n1_
                                  have BK150 := n2_
                                  have BK155 := n3_
                                  have BK166 := n4_
                                  have GW166 := n5_
                                  have GE166 := n6_
                                  have NB149_166 := n7_
                                  have NB166_149 := n8_
                                  have NB150_166 := n9_
                                  have NB166_150 := n10_
                                  have NB155_166 := n11_
                                  have NB166_155 := n12_
                                  have HB := n13_
                                  clear n0_ n1_ n2_ n3_ n4_ n5_ n6_ n7_ n8_ n9_ n10_ n11_ n12_ n13_
                                  have hHeld : w82.cell? ⟨gb155, 0, none⟩ = some (.int .i64 x156000_2) ∧ w82.cell? ⟨gb155, 1, none⟩ = some (.int .i64 x156001_2) ∧ w82.cell? ⟨gb155, 2, none⟩ = some (.int .i64 x156002_2) ∧ w82.cell? ⟨gb149, 0, none⟩ = some (.int .i64 a0_0) ∧ w82.cell? ⟨gb149, 1, none⟩ = some (.int .i64 a0_1) ∧ w82.cell? ⟨gb149, 2, none⟩ = some (.int .i64 a0_2) ∧ w82.cell? ⟨gb149, 3, none⟩ = some (.slice A0_3 l0_3.length c0_3) ∧ w82.cell? ⟨gb149, 4, none⟩ = some (.slice (some ad161) l0_4.length c0_4) ∧ w82.cell? (ad161.add ((x11_2).toNat * 3)) = some (.int .i64 ((rd_T52 l0_4 x11_2).f0)) ∧ w82.cell? ⟨(ad161.add ((x11_2).toNat * 3)).block, (ad161.add ((x11_2).toNat * 3)).off + 1, none⟩ = some (.int .i64 ((rd_T52 l0_4 x11_2).f1)) ∧ w82.cell? ⟨(ad161.add ((x11_2).toNat * 3)).block, (ad161.add ((x11_2).toNat * 3)).off + 2, none⟩ = some (.int .i64 ((rd_T52 l0_4 x11_2).f2)) := hS_
                                  refine norm_ (a' := ?_) ?_ ?_
                                  rotate_left
                                  · simp only [putAll, Act.put, List.setIfInBounds_toArray, List.set_cons_zero, List.set_cons_succ]
                                    rfl
                                  refine one_ (i := 11) (N := none) #[true, true, true, true, true, true, true, true, true, true, true, true, false] rfl rfl (one_of HT_.out (by kernel_rfl)) (by decide) (fun K hK => ?_)
                                  have hs83 : w82.cell? ⟨gb166, 0, none⟩ = some (.int .i64 0) := (blk_cell BK166.out 0).trans rfl
                                  have hfs83 := blk_frozen BK166.out 0
                                  have hns83_0 := NB149_166.out
                                  have hns83_1 := NB150_166.out
                                  have hns83_2 := NB155_166.out
                                  have hms83_0 := NB166_149.out
                                  have hms83_1 := NB166_150.out
                                  have hms83_2 := NB166_155.out
                                  have hs84 : w82.cell? ⟨gb166, 1, none⟩ = some (.int .i64 0) := (blk_cell BK166.out 1).trans rfl
                                  have hfs84 := blk_frozen BK166.out 1
                                  have hns84_0 := NB149_166.out
                                  have hns84_1 := NB150_166.out
                                  have hns84_2 := NB155_166.out
                                  have hms84_0 := NB166_149.out
                                  have hms84_1 := NB166_150.out
                                  have hms84_2 := NB166_155.out
                                  have hs85 : w82.cell? ⟨gb166, 2, none⟩ = some (.int .i64 0) := (blk_cell BK166.out 2).trans rfl
                                  have hfs85 := blk_frozen BK166.out 2
                                  have hns85_0 := NB149_166.out
                                  have hns85_1 := NB150_166.out
                                  have hns85_2 := NB155_166.out
                                  have hms85_0 := NB166_149.out
                                  have hms85_1 := NB166_150.out
                                  have hms85_2 := NB166_155.out
                                  refine skip_ (w1 := ?_) (by rfl) rfl ?_ ?_
                                  rotate_left
                                  · go_simp
                                    rfl
                                  refine hK.out _ _ ⟨((cell_far (p := ⟨gb166, _, none⟩) NB155_166.out _).trans (((cell_far (p := ⟨gb166, _, none⟩) NB155_166.out _).trans (((cell_far (p := ⟨gb166, _, none⟩) NB155_166.out _).trans (hHeld.1)))))), ((cell_far (p := ⟨gb166, _, none⟩) NB155_166.out _).trans (((cell_far (p := ⟨gb166, _, none⟩) NB155_166.out _).trans (((cell_far (p := ⟨gb166, _, none⟩) NB155_166.out _).trans (hHeld.2.1)))))), ((cell_far (p := ⟨gb166, _, none⟩) NB155_166.out _).trans (((cell_far (p := ⟨gb166, _, none⟩) NB155_166.out _).trans (((cell_far (p := ⟨gb166, _, none⟩) NB155_166.out _).trans (hHeld.2.2.1)))))), ((cell_far (p := ⟨gb166, _, none⟩) NB149_166.out _).trans (((cell_far (p := ⟨gb166, _, none⟩) NB149_166.out _).trans (((cell_far (p := ⟨gb166, _, none⟩) NB149_166.out _).trans (hHeld.2.2.2.1)))))), ((cell_far (p := ⟨gb166, _, none⟩) NB149_166.out _).trans (((cell_far (p := ⟨gb166, _, none⟩) NB149_166.out _).trans (((cell_far (p := ⟨gb166, _, none⟩) NB149_166.out _).trans (hHeld.2.2.2.2.1)))))), ((cell_far (p := ⟨gb166, _, none⟩) NB149_166.out _).trans (((cell_far (p := ⟨gb166, _, none⟩) NB149_166.out _).trans (((cell_far (p := ⟨gb166, _, none⟩) NB149_166.out _).trans (hHeld.2.2.2.2.2.1)))))), ((cell_far (p := ⟨gb166, _, none⟩) NB149_166.out _).trans (((cell_far (p := ⟨gb166, _, none⟩) NB149_166.out _).trans (((cell_far (p := ⟨gb166, _, none⟩) NB149_166.out _).trans (hHeld.2.2.2.2.2.2.1)))))), ((cell_far (p := ⟨gb166, _, none⟩) NB149_166.out _).trans (((cell_far (p := ⟨gb166, _, none⟩) NB149_166.out _).trans (((cell_far (p := ⟨gb166, _, none⟩) NB149_166.out _).trans (hHeld.2.2.2.2.2.2.2.1)))))), ((cell_far (p := ⟨gb166, _, none⟩) (by first | exact Nat.ne_of_lt (Nat.lt_of_lt_of_le (by have := World.block_lt_of_cell? _ _ hw161_0; first | rwa [add_block] at this | exact this) GW166.out) | (rw [add_block]; exact Nat.ne_of_lt (Nat.lt_of_lt_of_le (by have := World.block_lt_of_cell? _ _ hw161_0; first | rwa [add_block] at this | exact this) GW166.out)) | (show (Addr.add _ _).block ≠ _; rw [add_block]; exact Nat.ne_of_lt (Nat.lt_of_lt_of_le (by have := World.block_lt_of_cell? _ _ hw161_0; first | rwa [add_block] at this | exact this) GW166.out)) | (dsimp only; exact Nat.ne_of_lt (Nat.lt_of_lt_of_le (by have := World.block_lt_of_cell? _ _ hw161_0; first | rwa [add_block] at this | exact this) GW166.out))) _).trans (((cell_far (p := ⟨gb166, _, none⟩) (by first | exact Nat.ne_of_lt (Nat.lt_of_lt_of_le (by have := World.block_lt_of_cell? _ _ hw161_0; first | rwa [add_block] at this | exact this) GW166.out) | (rw [add_block]; exact Nat.ne_of_lt (Nat.lt_of_lt_of_le (by have := World.block_lt_of_cell? _ _ hw161_0; first | rwa [add_block] at this | exact this) GW166.out)) | (show (Addr.add _ _).block ≠ _; rw [add_block]; exact Nat.ne_of_lt (Nat.lt_of_lt_of_le (by have := World.block_lt_of_cell? _ _ hw161_0; first | rwa [add_block] at this | exact this) GW166.out)) | (dsimp only; exact Nat.ne_of_lt (Nat.lt_of_lt_of_le (by have := World.block_lt_of_cell? _ _ hw161_0; first | rwa [add_block] at this | exact this) GW166.out))) _).trans (((cell_far (p := ⟨gb166, _, none⟩) (by first | exact Nat.ne_of_lt (Nat.lt_of_lt_of_le (by have := World.block_lt_of_cell? _ _ hw161_0; first | rwa [add_block] at this | exact this) GW166.out) | (rw [add_block]; exact Nat.ne_of_lt (Nat.lt_of_lt_of_le (by have := World.block_lt_of_cell? _ _ hw161_0; first | rwa [add_block] at this | exact this) GW166.out)) | (show (Addr.add _ _).block ≠ _; rw [add_block]; exact Nat.ne_of_lt (Nat.lt_of_lt_of_le (by have := World.block_lt_of_cell? _ _ hw161_0; first | rwa [add_block] at this | exact this) GW166.out)) | (dsimp only; exact Nat.ne_of_lt (Nat.lt_of_lt_of_le (by have := World.block_lt_of_cell? _ _ hw161_0; first | rwa [add_block] at this | exact this) GW166.out))) _).trans (hHeld.2.2.2.2.2.2.2.2.1)))))), ((cell_far (p := ⟨gb166, _, none⟩) (by first | exact Nat.ne_of_lt (Nat.lt_of_lt_of_le (by have := World.block_lt_of_cell? _ _ hw161_1; first | rwa [add_block] at this | exact this) GW166.out) | (rw [add_block]; exact Nat.ne_of_lt (Nat.lt_of_lt_of_le (by have := World.block_lt_of_cell? _ _ hw161_1; first | rwa [add_block] at this | exact this) GW166.out)) | (show (Addr.add _ _).block ≠ _; rw [add_block]; exact Nat.ne_of_lt (Nat.lt_of_lt_of_le (by have := World.block_lt_of_cell? _ _ hw161_1; first | rwa [add_block] at this | exact this) GW166.out)) | (dsimp only; exact Nat.ne_of_lt (Nat.lt_of_lt_of_le (by have := World.block_lt_of_cell? _ _ hw161_1; first | rwa [add_block] at this | exact this) GW166.out))) _).trans (((cell_far (p := ⟨gb166, _, none⟩) (by first | exact Nat.ne_of_lt (Nat.lt_of_lt_of_le (by have := World.block_lt_of_cell? _ _ hw161_1; first | rwa [add_block] at this | exact this) GW166.out) | (rw [add_block]; exact Nat.ne_of_lt (Nat.lt_of_lt_of_le (by have := World.block_lt_of_cell? _ _ hw161_1; first | rwa [add_block] at this | exact this) GW166.out)) | (show (Addr.add _ _).block ≠ _; rw [add_block]; exact Nat.ne_of_lt (Nat.lt_of_lt_of_le (by have := World.block_lt_of_cell? _ _ hw161_1; first | rwa [add_block] at this | exact this) GW166.out)) | (dsimp only; exact Nat.ne_of_lt (Nat.lt_of_lt_of_le (by have := World.block_lt_of_cell? _ _ hw161_1; first | rwa [add_block] at this | exact this) GW166.out))) _).trans (((cell_far (p := ⟨gb166, _, none⟩) (by first | exact Nat.ne_of_lt (Nat.lt_of_lt_of_le (by have := World.block_lt_of_cell? _ _ hw161_1; first | rwa [add_block] at this | exact this) GW166.out) | (rw [add_block]; exact Nat.ne_of_lt (Nat.lt_of_lt_of_le (by have := World.block_lt_of_cell? _ _ hw161_1; first | rwa [add_block] at this | exact this) GW166.out)) | (show (Addr.add _ _).block ≠ _; rw [add_block]; exact Nat.ne_of_lt (Nat.lt_of_lt_of_le (by have := World.block_lt_of_cell? _ _ hw161_1; first | rwa [add_block] at this | exact this) GW166.out)) | (dsimp only; exact Nat.ne_of_lt (Nat.lt_of_lt_of_le (by have := World.block_lt_of_cell? _ _ hw161_1; first | rwa [add_block] at this | exact this) GW166.out))) _).trans (hHeld.2.2.2.2.2.2.2.2.2.1)))))), ((cell_far (p := ⟨gb166, _, none⟩) (by first | exact Nat.ne_of_lt (Nat.lt_of_lt_of_le (by have := World.block_lt_of_cell? _ _ hw161_2; first | rwa [add_block] at this | exact this) GW166.out) | (rw [add_block]; exact Nat.ne_of_lt (Nat.lt_of_lt_of_le (by have := World.block_lt_of_cell? _ _ hw161_2; first | rwa [add_block] at this | exact this) GW166.out)) | (show (Addr.add _ _).block ≠ _; rw [add_block]; exact Nat.ne_of_lt (Nat.lt_of_lt_of_le (by have := World.block_lt_of_cell? _ _ hw161_2; first | rwa [add_block] at this | exact this) GW166.out)) | (dsimp only; exact Nat.ne_of_lt (Nat.lt_of_lt_of_le (by have := World.block_lt_of_cell? _ _ hw161_2; first | rwa [add_block] at this | exact this) GW166.out))) _).trans (((cell_far (p := ⟨gb166, _, none⟩) (by first | exact Nat.ne_of_lt (Nat.lt_of_lt_of_le (by have := World.block_lt_of_cell? _ _ hw161_2; first | rwa [add_block] at this | exact this) GW166.out) | (rw [add_block]; exact Nat.ne_of_lt (Nat.lt_of_lt_of_le (by have := World.block_lt_of_cell? _ _ hw161_2; first | rwa [add_block] at this | exact this) GW166.out)) | (show (Addr.add _ _).block ≠ _; rw [add_block]; exact Nat.ne_of_lt (Nat.lt_of_lt_of_le (by have := World.block_lt_of_cell? _ _ hw161_2; first | rwa [add_block] at this | exact this) GW166.out)) | (dsimp only; exact Nat.ne_of_lt (Nat.lt_of_lt_of_le (by have := World.block_lt_of_cell? _ _ hw161_2; first | rwa [add_block] at this | exact this) GW166.out))) _).trans (((cell_far (p := ⟨gb166, _, none⟩) (by first | exact Nat.ne_of_lt (Nat.lt_of_lt_of_le (by have := World.block_lt_of_cell? _ _ hw161_2; first | rwa [add_block] at this | exact this) GW166.out) | (rw [add_block]; exact Nat.ne_of_lt (Nat.lt_of_lt_of_le (by have := World.block_lt_of_cell? _ _ hw161_2; first | rwa [add_block] at this | exact this) GW166.out)) | (show (Addr.add _ _).block ≠ _; rw [add_block]; exact Nat.ne_of_lt (Nat.lt_of_lt_of_le (by have := World.block_lt_of_cell? _ _ hw161_2; first | rwa [add_block] at this | exact this) GW166.out)) | (dsimp only; exact Nat.ne_of_lt (Nat.lt_of_lt_of_le (by have := World.block_lt_of_cell? _ _ hw161_2; first | rwa [add_block] at this | exact this) GW166.out))) _).trans (hHeld.2.2.2.2.2.2.2.2.2.2))))))⟩ (fun hHeld => ?_)
                                  clear hK K
                                  refine pure_ (i := 12) (N := some 16) (v := ?_) (a' := ?_) #[true, true, true, true, true, true, true, true, true, true, true, true, true] rfl rfl (any_of HT_.out (by kernel_rfl)) (fun _ _ _ h => h) (Or.inl ⟨by rfl, ?_⟩) ?_ ?_
                                  rotate_left
                                  · intro w'
                                    go_simp
                                    with_reducible rfl
                                  rotate_left
                                  · simp only [Act.put, List.setIfInBounds_toArray, List.set_cons_zero, List.set_cons_succ, i64_w, i32_w]
                                    rfl
                                  refine done_ (done_of HT_.out (by kernel_rfl)) ?_
                                  have hnb86 := NB150_155.out
                                  have hnc86 := NB155_150.out
                                  have hnb87 := NB150_166.out
                                  have hnc87 := NB166_150.out
                                  have hcz88_0 : w82.cell? ⟨gb150, 0, none⟩ = some (.int .i64 x151000_3) := (blk_cell BK150.out 0).trans rfl
                                  have hcz88_1 : w82.cell? ⟨gb150, 1, none⟩ = some (.int .i64 x151001_3) := (blk_cell BK150.out 1).trans rfl
                                  have hcz88_2 : w82.cell? ⟨gb150, 2, none⟩ = some (.int .i64 x151002_3) := (blk_cell BK150.out 2).trans rfl
                                  have hfz88_0 := blk_frozen BK150.out 0
                                  have hfz88_1 := blk_frozen BK150.out 1
                                  have hfz88_2 := blk_frozen BK150.out 2
                                  try go_wp2
                                  refine bodyPost_ret (results_list (rs := [.tmp 6, .cell 7 52, .tmp 8]) rfl (by simp) (.tmp (.cell gb150 52 #[.int .i64 0, .int .i64 0, .int .i64 0] (0, 0) _ rfl (by (with_reducible repeat (first | refine blk_drewN ?_ _ | refine blk_drew ?_ | refine blk_alloc ?_ _)); refine blk_put (cs := #[.int .i64 0, .int .i64 0, .int .i64 x151002_3]) ?_ 2 _ rfl; (with_reducible repeat (first | refine blk_drewN ?_ _ | refine blk_drew ?_ | refine blk_alloc ?_ _)); refine blk_put (cs := #[.int .i64 0, .int .i64 x151001_3, .int .i64 x151002_3]) ?_ 1 _ rfl; (with_reducible repeat (first | refine blk_drewN ?_ _ | refine blk_drew ?_ | refine blk_alloc ?_ _)); refine blk_put (cs := #[.int .i64 x151000_3, .int .i64 x151001_3, .int .i64 x151002_3]) ?_ 0 _ rfl; (with_reducible repeat (first | refine blk_drewN ?_ _ | refine blk_drew ?_ | refine blk_alloc ?_ _)); refine blk_far ?_ NB150_166.out _; (with_reducible repeat (first | refine blk_drewN ?_ _ | refine blk_drew ?_ | refine blk_alloc ?_ _)); refine blk_far ?_ NB150_166.out _; (with_reducible repeat (first | refine blk_drewN ?_ _ | refine blk_drew ?_ | refine blk_alloc ?_ _)); refine blk_far ?_ NB150_166.out _; (with_reducible repeat (first | refine blk_drewN ?_ _ | refine blk_drew ?_ | refine blk_alloc ?_ _)); exact BK150.out) Try.underlying52 rfl (by kernel_rfl) (.tmp .nil)))) rfl ?_
                                  exact ⟨_, by first | rfl | (simp [errW_none, errW_some] <;> rfl) | (simp [*, errW_none, errW_some] <;> rfl), by first | exact Kd.R_nil _ _ _ _ _ | exact Kd.N_nil _ _ _ _ _ | exact Kd.V_nil _ _ _ _ _ | exact Kd.Q_nil _ _ _ _ _ | exact Kd.S_nil _ _ _ _ _, by repeat (first | (with_reducible first | exact HB.out | apply below_alloc | apply pw_below_drewN | apply below_drew1 | refine below_set ?_ GE149.out | refine below_set ?_ GE150.out | refine below_set ?_ GE155.out | refine below_set ?_ GE166.out) | exact HB.out)⟩
                              · rw [if_neg c57] at H
                                exact absurd H (by simp)
                            · rw [if_neg c56] at H
                              exact absurd H (by simp)
                          · rw [if_neg c55] at H
                            have c55b0 : (a0_0 == 1) = false := beq_eq_false_iff_ne.mpr c55
                            have c55b1 : (a0_0 != 1) = true := bne_iff_ne.mpr c55
                            have H' := Aside0.mk H
                            clear H
                            have hnb89 := NB149_150.out
                            have hnc89 := NB150_149.out
                            have hnb90 := NB149_155.out
                            have hnc90 := NB155_149.out
                            have hcz91_0 : wr.cell? ⟨gb149, 0, none⟩ = some (.int .i64 a0_0) := (blk_cell BK149.out 0).trans rfl
                            have hcz91_1 : wr.cell? ⟨gb149, 1, none⟩ = some (.int .i64 a0_1) := (blk_cell BK149.out 1).trans rfl
                            have hcz91_2 : wr.cell? ⟨gb149, 2, none⟩ = some (.int .i64 a0_2) := (blk_cell BK149.out 2).trans rfl
                            have hcz91_3 : wr.cell? ⟨gb149, 3, none⟩ = some (.slice A0_3 l0_3.length c0_3) := (blk_cell BK149.out 3).trans rfl
                            have hcz91_4 : wr.cell? ⟨gb149, 4, none⟩ = some (.slice A0_4 l0_4.length c0_4) := (blk_cell BK149.out 4).trans rfl
                            have hfz91_0 := blk_frozen BK149.out 0
                            have hfz91_1 := blk_frozen BK149.out 1
                            have hfz91_2 := blk_frozen BK149.out 2
                            have hfz91_3 := blk_frozen BK149.out 3
                            have hfz91_4 := blk_frozen BK149.out 4
                            go_wp2
                            go_roundg k3
                            case measure => have := HJ5.out; have := HK2.out; have := HK3.out; omega
                            case rel => exact ⟨(x9_3), (wrap64 (x11_2 + 1)), (x151000_3), (x151001_3), (x151002_3), (x156000_2), (x156001_2), (x156002_2), (by first | rfl | (simp; done) | (simp [*]; done)), H', ⟨by have := HJ5.out; have := HK2.out; have := HK3.out; omega⟩, ⟨by (with_reducible repeat (first | apply Kd.R_alloc | apply Kd.R_drewN | apply Kd.R_drew)); exact HO_9.out⟩, ⟨by (with_reducible repeat (first | refine blk_drewN ?_ _ | refine blk_drew ?_ | refine blk_alloc ?_ _)); exact BK149.out⟩, ⟨by (with_reducible repeat (first | refine blk_drewN ?_ _ | refine blk_drew ?_ | refine blk_alloc ?_ _)); exact BK150.out⟩, ⟨by (with_reducible repeat (first | refine blk_drewN ?_ _ | refine blk_drew ?_ | refine blk_alloc ?_ _)); exact BK155.out⟩, ⟨by repeat (first | (with_reducible first | exact HB.out | apply below_alloc | apply pw_below_drewN | apply below_drew1 | refine below_set ?_ GE149.out | refine below_set ?_ GE150.out | refine below_set ?_ GE155.out) | exact HB.out)⟩⟩
                  · rw [if_neg c29] at H
                    have c29b0 : decide (x11_2 < a2) = false := decide_eq_false c29
                    clear c29
                    simp only [Option.some.injEq, Prod.mk.injEq] at H
                    obtain ⟨rfl, rfl, rfl, rfl, rfl⟩ := H
                    try go_wp2
                    have n0_ := Aside0.mk (Kd.R_drew HO_9.out)
                    have n1_ := Aside0.mk (blk_drew BK149.out)
                    have n2_ := Aside0.mk (blk_drew BK150.out)
                    have n3_ := Aside0.mk (blk_drew BK155.out)
                    have n4_ := Aside0.mk (below_drew1 HB.out)
                    clear HO_9
                    clear BK149
                    clear BK150
                    clear BK155
                    clear HB
                    have HO_9 := n0_
                    have BK149 := n1_
                    have BK150 := n2_
                    have BK155 := n3_
                    have HB := n4_
                    clear n0_ n1_ n2_ n3_ n4_
                    refine start_ (n := 5) (S := fun w' => w'.cell? ⟨gb155, 0, none⟩ = some (.int .i64 x156000_2) ∧ w'.cell? ⟨gb155, 1, none⟩ = some (.int .i64 x156001_2) ∧ w'.cell? ⟨gb155, 2, none⟩ = some (.int .i64 x156002_2)) (ds := []) #[false, false, false, false, false] (by kernel_rfl) rfl rfl ⟨(blk_cell BK155.out 0).trans rfl, (blk_cell BK155.out 1).trans rfl, (blk_cell BK155.out 2).trans rfl⟩ (fun hHeld => ?_)
                    generalize wr.drew = w92 at HO_9 BK149 BK150 BK155 HB hHeld ⊢
                    refine pure_ (i := 0) (N := some 95) (v := ?_) (a' := ?_) #[true, false, false, false, false] rfl rfl (by kernel_rfl) (fun _ _ _ h => h) (Or.inl ⟨by rfl, ?_⟩) ?_ ?_
                    rotate_left
                    · intro w'
                      go_simp
                      with_reducible rfl
                    rotate_left
                    · simp only [Act.put, List.setIfInBounds_toArray, List.set_cons_zero, List.set_cons_succ, i64_w, i32_w]
                      rfl
                    refine pure_ (i := 2) (N := some 6) (v := ?_) (a' := ?_) #[true, false, true, false, false] rfl rfl (by kernel_rfl) (fun _ _ _ h => h) (Or.inl ⟨by rfl, ?_⟩) ?_ ?_
                    rotate_left
                    · intro w'
                      go_simp
                      with_reducible rfl
                    rotate_left
                    · simp only [Act.put, List.setIfInBounds_toArray, List.set_cons_zero, List.set_cons_succ, i64_w, i32_w]
                      rfl
                    refine take_ (i := 1) (N := some 96) (v := ?_) (a' := ?_) #[true, true, true, false, false] rfl rfl (by kernel_rfl) (fun _ _ _ h => h) (Or.inl ⟨by rfl, ?_⟩) hHeld ?_ ?_
                    rotate_left
                    · rintro w' ⟨s0, s1, s2⟩
                      go_simp
                      with_reducible rfl
                    rotate_left
                    · simp only [Act.put, List.setIfInBounds_toArray, List.set_cons_zero, List.set_cons_succ, i64_w, i32_w]
                      rfl
                    refine one_ (i := 3) (N := none) #[true, true, true, true, false] rfl rfl (by kernel_rfl) (by decide) (fun K hK => ?_)
                    have hs93 : w92.cell? ⟨gb150, 0, none⟩ = some (.int .i64 x151000_2) := (blk_cell BK150.out 0).trans rfl
                    have hfs93 := blk_frozen BK150.out 0
                    have hns93_0 := NB149_150.out
                    have hns93_2 := NB155_150.out
                    have hms93_0 := NB150_149.out
                    have hms93_2 := NB150_155.out
                    have hs94 : w92.cell? ⟨gb150, 1, none⟩ = some (.int .i64 x151001_2) := (blk_cell BK150.out 1).trans rfl
                    have hfs94 := blk_frozen BK150.out 1
                    have hns94_0 := NB149_150.out
                    have hns94_2 := NB155_150.out
                    have hms94_0 := NB150_149.out
                    have hms94_2 := NB150_155.out
                    have hs95 : w92.cell? ⟨gb150, 2, none⟩ = some (.int .i64 x151002_2) := (blk_cell BK150.out 2).trans rfl
                    have hfs95 := blk_frozen BK150.out 2
                    have hns95_0 := NB149_150.out
                    have hns95_2 := NB155_150.out
                    have hms95_0 := NB150_149.out
                    have hms95_2 := NB150_155.out
                    refine skip_ (w1 := ?_) (by rfl) rfl ?_ ?_
                    rotate_left
                    · go_simp
                      rfl
                    refine hK.out _ _ ⟨((cell_far (p := ⟨gb150, _, none⟩) NB155_150.out _).trans (((cell_far (p := ⟨gb150, _, none⟩) NB155_150.out _).trans (((cell_far (p := ⟨gb150, _, none⟩) NB155_150.out _).trans (hHeld.1)))))), ((cell_far (p := ⟨gb150, _, none⟩) NB155_150.out _).trans (((cell_far (p := ⟨gb150, _, none⟩) NB155_150.out _).trans (((cell_far (p := ⟨gb150, _, none⟩) NB155_150.out _).trans (hHeld.2.1)))))), ((cell_far (p := ⟨gb150, _, none⟩) NB155_150.out _).trans (((cell_far (p := ⟨gb150, _, none⟩) NB155_150.out _).trans (((cell_far (p := ⟨gb150, _, none⟩) NB155_150.out _).trans (hHeld.2.2))))))⟩ (fun hHeld => ?_)
                    clear hK K
                    refine pure_ (i := 4) (N := some 8) (v := ?_) (a' := ?_) #[true, true, true, true, true] rfl rfl (by kernel_rfl) (fun _ _ _ h => h) (Or.inl ⟨by rfl, ?_⟩) ?_ ?_
                    rotate_left
                    · intro w'
                      go_simp
                      with_reducible rfl
                    rotate_left
                    · simp only [Act.put, List.setIfInBounds_toArray, List.set_cons_zero, List.set_cons_succ, i64_w, i32_w]
                      rfl
                    refine done_ (by kernel_rfl) ?_
                    try go_wp2
                    refine bodyPost_ret (results_list (rs := [.tmp 6, .cell 7 52, .tmp 8]) rfl (by simp) (.tmp (.cell gb150 52 #[.int .i64 x156000_2, .int .i64 x156001_2, .int .i64 x156002_2] (0, 0) _ rfl (by (with_reducible repeat (first | refine blk_drewN ?_ _ | refine blk_drew ?_ | refine blk_alloc ?_ _)); refine blk_put (cs := #[.int .i64 x156000_2, .int .i64 x156001_2, .int .i64 x151002_2]) ?_ 2 _ rfl; (with_reducible repeat (first | refine blk_drewN ?_ _ | refine blk_drew ?_ | refine blk_alloc ?_ _)); refine blk_put (cs := #[.int .i64 x156000_2, .int .i64 x151001_2, .int .i64 x151002_2]) ?_ 1 _ rfl; (with_reducible repeat (first | refine blk_drewN ?_ _ | refine blk_drew ?_ | refine blk_alloc ?_ _)); refine blk_put (cs := #[.int .i64 x151000_2, .int .i64 x151001_2, .int .i64 x151002_2]) ?_ 0 _ rfl; (with_reducible repeat (first | refine blk_drewN ?_ _ | refine blk_drew ?_ | refine blk_alloc ?_ _)); exact BK150.out) Try.underlying52 rfl (by kernel_rfl) (.tmp .nil)))) rfl ?_
                    exact ⟨_, by first | rfl | (simp [errW_none, errW_some] <;> rfl) | (simp [*, errW_none, errW_some] <;> rfl), by (with_reducible repeat (first | apply Kd.R_alloc | apply Kd.R_drewN | apply Kd.R_drew)); exact Kd.R_mono (Kd.R_far (p := ⟨gb150, 2, none⟩) (Kd.R_far (p := ⟨gb150, 1, none⟩) (Kd.R_far (p := ⟨gb150, 0, none⟩) (Kd.R_types HO_9.out BK150.out (by decide)) (fun _ hk => hk.2) (.int .i64 x156000_2)) (fun _ hk => hk.2) (.int .i64 x156001_2)) (fun _ hk => hk.2) (.int .i64 x156002_2)) (fun _ hk => trivial), by repeat (first | (with_reducible first | exact HB.out | apply below_alloc | apply pw_below_drewN | apply below_drew1 | refine below_set ?_ GE149.out | refine below_set ?_ GE150.out | refine below_set ?_ GE155.out) | exact HB.out)⟩
            · rw [if_neg c20] at H
              exact absurd H (by simp)
          · rw [if_neg c19] at H
            exact absurd H (by simp)
  · replace c5 := Bool.eq_false_iff.mpr c5
    subst c5
    have H1 : (some (([] : List Int), 0, 0, 0, 8)) = some (r1, r2, r3, r4, r5) := by rw [if_neg (show ¬ (false = true) by decide)] at H; exact H
    clear H
    have H := H1
    clear H1
    simp only [Option.some.injEq, Prod.mk.injEq] at H
    obtain ⟨rfl, rfl, rfl, rfl, rfl⟩ := H
    go_enter Try.func26, Try.ntmps26
    go_wp2_with (first | ((with_reducible refine gate_dst (N := 3) rfl ?_); refine box_event ?hg (N := 3) ?hd (cs := #[.int .i64 a0_0, .int .i64 a0_1, .int .i64 a0_2, .slice A0_3 l0_3.length c0_3, .slice A0_4 l0_4.length c0_4]) (t := 36) ?hr ?_; (case hd => rfl); (case hg => rfl); (case hr => first | (go_simp; done) | (go_simp; rfl)); intro gb149 hg w96 hbox hb; have n0_ := Aside0.mk (below_step (by repeat (first | (with_reducible first | exact HB.out | apply below_alloc | apply pw_below_drewN | apply below_drew1) | exact HB.out)) hb); have n1_ := Aside0.mk (hbox); have n2_ := Aside0.mk ((by rw [hg]; exact (below_size (by repeat (first | (with_reducible first | exact HB.out | apply below_alloc | apply pw_below_drewN | apply below_drew1) | exact HB.out))) : w.heap.size ≤ gb149)); have n3_ := Aside0.mk ((by rw [hg]; exact (below_size (by repeat (first | (with_reducible first | exact HB.out | apply below_alloc | apply pw_below_drewN | apply below_drew1) | exact HB.out))) : w.heap.size ≤ gb149)); clear HB; have HB := n0_; have BK149 := n1_; have GW149 := n2_; have GE149 := n3_; clear n0_ n1_ n2_ n3_; clear hb hbox hg) | ((with_reducible refine gate_dst (N := 7) rfl ?_); refine box_event ?hg (N := 7) ?hd (cs := #[.int .i64 0, .int .i64 0, .int .i64 0]) (t := 52) ?hr ?_; (case hd => rfl); (case hg => rfl); (case hr => first | (go_simp; done) | (go_simp; rfl)); intro gb150 hg w97 hbox hb; have n0_ := Aside0.mk (blk_below (g := gb149) (o := .cells #[.int .i64 a0_0, .int .i64 a0_1, .int .i64 a0_2, .slice A0_3 l0_3.length c0_3, .slice A0_4 l0_4.length c0_4] 36 (0, 0)) (by (with_reducible repeat (first | refine blk_drewN ?_ _ | refine blk_drew ?_ | refine blk_alloc ?_ _)); exact BK149.out) hb); have n1_ := Aside0.mk (below_step (by repeat (first | (with_reducible first | exact HB.out | apply below_alloc | apply pw_below_drewN | apply below_drew1 | refine below_set ?_ GE149.out) | exact HB.out)) hb); have n2_ := Aside0.mk (hbox); have n3_ := Aside0.mk ((by rw [hg]; exact (below_size (by repeat (first | (with_reducible first | exact HB.out | apply below_alloc | apply pw_below_drewN | apply below_drew1 | refine below_set ?_ GE149.out) | exact HB.out))) : w.heap.size ≤ gb150)); have n4_ := Aside0.mk ((by rw [hg]; exact (below_size (by repeat (first | (with_reducible first | exact HB.out | apply below_alloc | apply pw_below_drewN | apply below_drew1 | refine below_set ?_ GE149.out) | exact HB.out))) : w.heap.size ≤ gb150)); have n5_ := Aside0.mk ((by rw [hg]; exact Nat.ne_of_lt (blk_lt (g := gb149) (o := .cells #[.int .i64 a0_0, .int .i64 a0_1, .int .i64 a0_2, .slice A0_3 l0_3.length c0_3, .slice A0_4 l0_4.length c0_4] 36 (0, 0)) (by (with_reducible repeat (first | refine blk_drewN ?_ _ | refine blk_drew ?_ | refine blk_alloc ?_ _)); exact BK149.out)) : gb149 ≠ gb150)); have n6_ := Aside0.mk ((by rw [hg]; exact Nat.ne_of_gt (blk_lt (g := gb149) (o := .cells #[.int .i64 a0_0, .int .i64 a0_1, .int .i64 a0_2, .slice A0_3 l0_3.length c0_3, .slice A0_4 l0_4.length c0_4] 36 (0, 0)) (by (with_reducible repeat (first | refine blk_drewN ?_ _ | refine blk_drew ?_ | refine blk_alloc ?_ _)); exact BK149.out)) : gb150 ≠ gb149)); clear BK149; clear HB; have BK149 := n0_; have HB := n1_; have BK150 := n2_; have GW150 := n3_; have GE150 := n4_; have NB149_150 := n5_; have NB150_149 := n6_; clear n0_ n1_ n2_ n3_ n4_ n5_ n6_; clear hb hbox hg; have hnb98 := NB149_150.out; have hnc98 := NB150_149.out; have hcz99_0 : w97.cell? ⟨gb149, 0, none⟩ = some (.int .i64 a0_0) := (blk_cell BK149.out 0).trans rfl; have hcz99_1 : w97.cell? ⟨gb149, 1, none⟩ = some (.int .i64 a0_1) := (blk_cell BK149.out 1).trans rfl; have hcz99_2 : w97.cell? ⟨gb149, 2, none⟩ = some (.int .i64 a0_2) := (blk_cell BK149.out 2).trans rfl; have hcz99_3 : w97.cell? ⟨gb149, 3, none⟩ = some (.slice A0_3 l0_3.length c0_3) := (blk_cell BK149.out 3).trans rfl; have hcz99_4 : w97.cell? ⟨gb149, 4, none⟩ = some (.slice A0_4 l0_4.length c0_4) := (blk_cell BK149.out 4).trans rfl; have hfz99_0 := blk_frozen BK149.out 0; have hfz99_1 := blk_frozen BK149.out 1; have hfz99_2 := blk_frozen BK149.out 2; have hfz99_3 := blk_frozen BK149.out 3; have hfz99_4 := blk_frozen BK149.out 4) | ((with_reducible refine gate_callee (f := 32) rfl ?_); refine goesL_ (some 18) rfl rfl Try.func32 (by kernel_rfl) rfl #[.agg #[.int .i64 a0_0, .int .i64 a0_1, .int .i64 a0_2, .slice A0_3 l0_3.length c0_3, .slice A0_4 l0_4.length c0_4]] rfl (by (try simp only [List.map_toArray, List.map_cons, List.map_nil]); first | done | rfl | (simp only [List.length_drop, List.length_take]; rfl)) ?_; (with_reducible refine (hornbeamref12_Right.calls a0_0 a0_1 a0_2 _ _ l0_3 _ _ l0_4 false _ ?side1 ?side2 ?side3 ?side4 A4.out).mono ?_); (case side1 => repeat (first | exact (Kd.C_below HR0_3.out HB.out) | (with_reducible refine Kd.C_alloc ?_ _) | (with_reducible refine Kd.C_drewN ?_ _) | (with_reducible refine Kd.C_drew ?_))); (case side2 => exact HC0_3.out); (case side3 => repeat (first | exact (Kd.C_below HR0_4.out HB.out) | (with_reducible refine Kd.C_alloc ?_ _) | (with_reducible refine Kd.C_drewN ?_ _) | (with_reducible refine Kd.C_drew ?_))); (case side4 => exact HC0_4.out); rintro e w100 ⟨rfl, hb⟩; refine ⟨_, rfl, ?_⟩; have n0_ := Aside0.mk (blk_below (g := gb149) (o := .cells #[.int .i64 a0_0, .int .i64 a0_1, .int .i64 a0_2, .slice A0_3 l0_3.length c0_3, .slice A0_4 l0_4.length c0_4] 36 (0, 0)) (by (with_reducible repeat (first | refine blk_drewN ?_ _ | refine blk_drew ?_ | refine blk_alloc ?_ _)); exact BK149.out) hb); have n1_ := Aside0.mk (blk_below (g := gb150) (o := .cells #[.int .i64 0, .int .i64 0, .int .i64 0] 52 (0, 0)) (by (with_reducible repeat (first | refine blk_drewN ?_ _ | refine blk_drew ?_ | refine blk_alloc ?_ _)); exact BK150.out) hb); have n2_ := Aside0.mk (below_step (by repeat (first | (with_reducible first | exact HB.out | apply below_alloc | apply pw_below_drewN | apply below_drew1 | refine below_set ?_ GE149.out | refine below_set ?_ GE150.out) | exact HB.out)) hb); clear BK149; clear BK150; clear HB; have BK149 := n0_; have BK150 := n1_; have HB := n2_; clear n0_ n1_ n2_; (try clear hb); (try clear hb2); (try clear hk); (try clear hi); have hcz101_0 : w100.cell? ⟨gb150, 0, none⟩ = some (.int .i64 0) := (blk_cell BK150.out 0).trans rfl; have hcz101_1 : w100.cell? ⟨gb150, 1, none⟩ = some (.int .i64 0) := (blk_cell BK150.out 1).trans rfl; have hcz101_2 : w100.cell? ⟨gb150, 2, none⟩ = some (.int .i64 0) := (blk_cell BK150.out 2).trans rfl; have hfz101_0 := blk_frozen BK150.out 0; have hfz101_1 := blk_frozen BK150.out 1; have hfz101_2 := blk_frozen BK150.out 2))
    refine bodyPost_ret (results_list (rs := [.tmp 6, .cell 7 52, .tmp 8]) rfl (by simp) (.tmp (.cell gb150 52 #[.int .i64 0, .int .i64 0, .int .i64 0] (0, 0) _ rfl (by (with_reducible repeat (first | refine blk_drewN ?_ _ | refine blk_drew ?_ | refine blk_alloc ?_ _)); refine blk_put (cs := #[.int .i64 0, .int .i64 0, .int .i64 0]) ?_ 2 _ rfl; (with_reducible repeat (first | refine blk_drewN ?_ _ | refine blk_drew ?_ | refine blk_alloc ?_ _)); refine blk_put (cs := #[.int .i64 0, .int .i64 0, .int .i64 0]) ?_ 1 _ rfl; (with_reducible repeat (first | refine blk_drewN ?_ _ | refine blk_drew ?_ | refine blk_alloc ?_ _)); refine blk_put (cs := #[.int .i64 0, .int .i64 0, .int .i64 0]) ?_ 0 _ rfl; (with_reducible repeat (first | refine blk_drewN ?_ _ | refine blk_drew ?_ | refine blk_alloc ?_ _)); exact BK150.out) Try.underlying52 rfl (by kernel_rfl) (.tmp .nil)))) rfl ?_
    exact ⟨_, by first | rfl | (simp [errW_none, errW_some] <;> rfl) | (simp [*, errW_none, errW_some] <;> rfl), by first | exact Kd.R_nil _ _ _ _ _ | exact Kd.N_nil _ _ _ _ _ | exact Kd.V_nil _ _ _ _ _ | exact Kd.Q_nil _ _ _ _ _ | exact Kd.S_nil _ _ _ _ _, by repeat (first | (with_reducible first | exact HB.out | apply below_alloc | apply pw_below_drewN | apply below_drew1 | refine below_set ?_ GE149.out | refine below_set ?_ GE150.out) | exact HB.out)⟩

end Go.Proofs.Yteckbgpkoanhfaa.Pr
end

section
-- Printed by a program of the session's over the kit's print.
namespace Go.Proofs.Yteckbgpkoanhfaa.Pr
open Go.RowKit Go.Proofs.YteckbgpkoanhfaaW.PrintWords Go.Proofs.YteckbgpkoanhfaaW.PrintLast Go.Proofs.YteckbgpkoanhfaaW.PrintMore
attribute [local go_sem] max2_int min2_int max_two min_two max_three min_three max_four min_four   -- for this text's walks alone
set_option linter.unusedVariables false
set_option linter.unusedSimpArgs false

/-! ### hornbeamref12_SameCounts: function 27 -/
def hornbeamref12_SameCounts.l0 : Nat → List Int → List Int → Int → Option (Bool)
  | 0, _, _, _ => none
  | k + 1, x0, x1, x5 => if x5 < (x0.length : Int) then (if 0 ≤ x5 then (if x5 < (x1.length : Int) then (if (rd x0 x5) = (rd x1 x5) then (hornbeamref12_SameCounts.l0 k x0 x1 (wrap64 (x5 + 1))) else (some false)) else (none)) else (none)) else (some true)
def hornbeamref12_SameCounts.f (k : Nat) (l0 : List Int) (l1 : List Int) : Option (Bool) := if (l0.length : Int) = (l1.length : Int) then (hornbeamref12_SameCounts.l0 k l0 l1 0) else (some false)
theorem hornbeamref12_SameCounts.mono_l : ∀ k, (∀ y0 y1 y2, LeO (hornbeamref12_SameCounts.l0 k y0 y1 y2) (hornbeamref12_SameCounts.l0 (k + 1) y0 y1 y2))
  | 0 => fun _ _ _ r h => by simp [hornbeamref12_SameCounts.l0] at h
  | k + 1 => by
    have ih0 := hornbeamref12_SameCounts.mono_l k
    · intro y0 y1 y2
      unfold hornbeamref12_SameCounts.l0
      repeat' first
      | (with_reducible exact ih0 _ _ _)
      | (with_reducible exact LeO.refl _)
      | (with_reducible exact LeO.none _)
      | (with_reducible refine LeO.ite ?_ ?_)
      | (with_reducible refine LeO.bind ?_ (fun _ => ?_))
      | exact ih0 _ _ _
      | exact LeO.none _
      | refine LeO.ite ?_ ?_
      | refine LeO.bind ?_ (fun _ => ?_)
theorem hornbeamref12_SameCounts.mono : ∀ a0 a1 k, LeO (hornbeamref12_SameCounts.f k a0 a1) (hornbeamref12_SameCounts.f (k + 1) a0 a1) := by
  intro a0 a1 k
  have ih0 := hornbeamref12_SameCounts.mono_l k
  unfold hornbeamref12_SameCounts.f
  repeat' first
      | (with_reducible exact ih0 _ _ _)
      | (with_reducible exact LeO.refl _)
      | (with_reducible exact LeO.none _)
      | (with_reducible refine LeO.ite ?_ ?_)
      | (with_reducible refine LeO.bind ?_ (fun _ => ?_))
      | exact ih0 _ _ _
      | exact LeO.none _
      | refine LeO.ite ?_ ?_
      | refine LeO.bind ?_ (fun _ => ?_)
set_option maxHeartbeats 8000000 in
set_option maxRecDepth 100000 in
theorem hornbeamref12_SameCounts.calls (k : Nat) (A0 : Option Addr) (c0 : Nat) (l0 : List Int) (A1 : Option Addr) (c1 : Nat) (l1 : List Int) (r : Bool) (w : World) (hr0 : Kd.C (Kd.int .i64) w A0 l0.length l0) (hc0 : l0.length ≤ c0) (hr1 : Kd.C (Kd.int .i64) w A1 l1.length l1) (hc1 : l1.length ≤ c1) (h : hornbeamref12_SameCounts.f k l0 l1 = some r) :
    Calls Try.prog 27 #[.slice A0 l0.length c0, .slice A1 l1.length c1] w fun e w' => e = .returned (.bool r) ∧ Drawn0 w w' := by
  have HR0 := Aside0.mk hr0
  have HC0 := Aside0.mk hc0
  clear hr0 hc0
  have HR1 := Aside0.mk hr1
  have HC1 := Aside0.mk hc1
  clear hr1 hc1
  have H : (if (l0.length : Int) = (l1.length : Int) then (hornbeamref12_SameCounts.l0 k l0 l1 0) else (some false)) = some r := h
  clear h
  by_cases c3 : (l0.length : Int) = (l1.length : Int)
  · rw [if_pos c3] at H
    have c3b0 : ((l0.length : Int) == (l1.length : Int)) = true := beq_iff_eq.mpr c3
    have c3b1 : ((l0.length : Int) != (l1.length : Int)) = false := bne_eq_false_iff_eq.mpr c3
    have c3b2 : (l0.length == l1.length) = true := by first | simpa using c3 | (simp at c3 ⊢; omega)
    clear c3
    have H' := Aside0.mk H
    clear H
    go_enter Try.func27, Try.ntmps27
    go_wp2
    repeat (go_quiet (fail); try go_wp2)
    go_loopg [5] k (fun kq v5 w' => ∃ (x5_1 : Int), v5 = .int .i64 x5_1 ∧ Aside0 (hornbeamref12_SameCounts.l0 kq l0 l1 x5_1 = some r) ∧ Aside0 (kq ≤ k) ∧ Drawn0 w w')
    case atStart => exact ⟨(0), (by first | rfl | (simp; done) | (simp [*]; done)), H', ⟨Nat.le_refl _⟩, by repeat (first | exact Drawn0.refl _ | apply Drawn0.step)⟩
    case round =>
      clear H'
      try clear c1
      try clear c2
      try clear p2
      try clear c3
      try clear c3b0
      try clear c3b1
      try clear c3b2
      obtain ⟨x5_1, rfl, HA, HK1, ⟨m1, rfl⟩⟩ := hrel
      cases gk with
      | zero => exact absurd HA.out (by simp [hornbeamref12_SameCounts.l0])
      | succ k1 =>
        have H := HA.out
        clear HA
        simp only [hornbeamref12_SameCounts.l0] at H
        by_cases c4 : x5_1 < (l0.length : Int)
        · rw [if_pos c4] at H
          have c4b0 : decide (x5_1 < (l0.length : Int)) = true := decide_eq_true c4
          clear c4
          by_cases c5 : 0 ≤ x5_1
          · rw [if_pos c5] at H
            have c5b0 : decide (0 ≤ x5_1) = true := decide_eq_true c5
            clear c5
            by_cases c6 : x5_1 < (l1.length : Int)
            · rw [if_pos c6] at H
              have c6b0 : decide (x5_1 < (l1.length : Int)) = true := decide_eq_true c6
              clear c6
              by_cases c7 : (rd l0 x5_1) = (rd l1 x5_1)
              · rw [if_pos c7] at H
                have c7b0 : ((rd l0 x5_1) == (rd l1 x5_1)) = true := beq_iff_eq.mpr c7
                have c7b1 : ((rd l0 x5_1) != (rd l1 x5_1)) = false := bne_eq_false_iff_eq.mpr c7
                clear c7
                have H' := Aside0.mk H
                clear H
                have p167 : 0 ≤ (x5_1 : Int) := of_decide_eq_true (by first | (with_reducible assumption) | assumption)
                have q167 : x5_1 < (l0.length : Int) := of_decide_eq_true (by first | (with_reducible assumption) | assumption)
                obtain ⟨ad167, e167, hx167_0⟩ := Kd.at_int HR0.out x5_1 p167 q167
                cases e167
                replace p167 := eq_true p167
                replace q167 := eq_true q167
                have p168 : 0 ≤ (x5_1 : Int) := of_decide_eq_true (by first | (with_reducible assumption) | assumption)
                have q168 : x5_1 < (l1.length : Int) := of_decide_eq_true (by first | (with_reducible assumption) | assumption)
                obtain ⟨ad168, e168, hx168_0⟩ := Kd.at_int HR1.out x5_1 p168 q168
                cases e168
                replace p168 := eq_true p168
                replace q168 := eq_true q168
                go_wp2
                repeat (go_quiet (fail); try go_wp2)
                go_roundg k1
                case measure => have := HK1.out; omega
                case rel => exact ⟨(wrap64 (x5_1 + 1)), (by first | rfl | (simp; done) | (simp [*]; done)), H', ⟨by have := HK1.out; omega⟩, by repeat (first | exact Drawn0.refl _ | apply Drawn0.step)⟩
              · rw [if_neg c7] at H
                have c7b0 : ((rd l0 x5_1) == (rd l1 x5_1)) = false := beq_eq_false_iff_ne.mpr c7
                have c7b1 : ((rd l0 x5_1) != (rd l1 x5_1)) = true := bne_iff_ne.mpr c7
                obtain rfl := Option.some.inj H
                have p167 : 0 ≤ (x5_1 : Int) := of_decide_eq_true (by first | (with_reducible assumption) | assumption)
                have q167 : x5_1 < (l0.length : Int) := of_decide_eq_true (by first | (with_reducible assumption) | assumption)
                obtain ⟨ad167, e167, hx167_0⟩ := Kd.at_int HR0.out x5_1 p167 q167
                cases e167
                replace p167 := eq_true p167
                replace q167 := eq_true q167
                have p168 : 0 ≤ (x5_1 : Int) := of_decide_eq_true (by first | (with_reducible assumption) | assumption)
                have q168 : x5_1 < (l1.length : Int) := of_decide_eq_true (by first | (with_reducible assumption) | assumption)
                obtain ⟨ad168, e168, hx168_0⟩ := Kd.at_int HR1.out x5_1 p168 q168
                cases e168
                replace p168 := eq_true p168
                replace q168 := eq_true q168
                go_wp2
                repeat (go_quiet (fail); try go_wp2)
                go_ret
                exact ⟨by first | rfl | (simp; done) | (simp [*]; done), by repeat (first | exact Drawn0.refl _ | apply Drawn0.step)⟩
            · rw [if_neg c6] at H
              exact absurd H (by simp)
          · rw [if_neg c5] at H
            exact absurd H (by simp)
        · rw [if_neg c4] at H
          have c4b0 : decide (x5_1 < (l0.length : Int)) = false := decide_eq_false c4
          clear c4
          obtain rfl := Option.some.inj H
          go_wp2
          repeat (go_quiet (fail); try go_wp2)
          go_ret
          exact ⟨by first | rfl | (simp; done) | (simp [*]; done), by repeat (first | exact Drawn0.refl _ | apply Drawn0.step)⟩
  · rw [if_neg c3] at H
    have c3b0 : ((l0.length : Int) == (l1.length : Int)) = false := beq_eq_false_iff_ne.mpr c3
    have c3b1 : ((l0.length : Int) != (l1.length : Int)) = true := bne_iff_ne.mpr c3
    have c3b2 : (l0.length == l1.length) = false := by first | simpa using c3 | (simp at c3 ⊢; omega)
    obtain rfl := Option.some.inj H
    go_enter Try.func27, Try.ntmps27
    go_wp2
    repeat (go_quiet (fail); try go_wp2)
    go_ret
    exact ⟨by first | rfl | (simp; done) | (simp [*]; done), by repeat (first | exact Drawn0.refl _ | apply Drawn0.step)⟩

end Go.Proofs.Yteckbgpkoanhfaa.Pr
end

section
/- The walks of layer hist: Add of means. -/
namespace Go.Proofs.Yteckbgpkoanhfaa.Hb
open Go.RowKit

theorem momC_cons (m : Mom) (l : List Mom) : momC (m :: l) = .int .i64 m.c :: .int .i64 m.s :: .int .i64 m.q :: momC l := by simp [momC]
theorem momC_at : ∀ (l : List Mom) (i : Nat) (x : Mom), l[i]? = some x → (momC l)[i * 3]? = some (.int .i64 x.c) ∧ (momC l)[i * 3 + 1]? = some (.int .i64 x.s) ∧ (momC l)[i * 3 + 2]? = some (.int .i64 x.q)
  | [], i, x, h => by simp at h
  | m :: l, 0, x, h => by
    simp at h; subst h
    rw [momC_cons]; exact ⟨rfl, rfl, rfl⟩
  | m :: l, i + 1, x, h => by
    have ih := momC_at l i x (by simpa using h)
    rw [momC_cons, show (i + 1) * 3 = i * 3 + 3 by omega]
    exact ih
theorem momC_set : ∀ (l : List Mom) (i : Nat) (m : Mom), i < l.length → (((momC l).set (i * 3) (.int .i64 m.c)).set (i * 3 + 1) (.int .i64 m.s)).set (i * 3 + 2) (.int .i64 m.q) = momC (l.set i m)
  | [], i, m, h => by simp at h
  | x :: l, 0, m, h => by simp [momC_cons]
  | x :: l, i + 1, m, h => by
    have ih := momC_set l i m (by simpa using h)
    rw [List.set_cons_succ, momC_cons, momC_cons, ← ih, show (i + 1) * 3 = i * 3 + 3 by omega]
    rfl
theorem momentO_ok {t k : Int} {m : Mom} (hk : inR k) (h : momentO t k = .ok m) : m.ok := by
  unfold momentO at h
  cases h1 : lim (t * k) with
  | none => rw [h1] at h; cases h
  | some s =>
    rw [h1] at h; simp only at h
    cases h2 : lim (t * s) with
    | none => rw [h2] at h; cases h
    | some q =>
      rw [h2] at h
      cases h
      have a1 := lim_some h1
      have a2 := lim_some h2
      exact ⟨hk, by rw [a1.1]; exact a1.2, by rw [a2.1]; exact a2.2⟩
theorem own_ne {w : World} {base : Nat} {e : TypeId} {size n g i : Nat} {v u : Value} {xs : List Value} (h : w.ownsRow base e size v n xs) (hne : v.ownBlock ≠ some g) : (w.setCell ⟨g, i, none⟩ u).ownsRow base e size v n xs :=
  h.kept (row := some g) ⟨rfl, rfl, rfl, by simp [World.setCell], fun k _ hk => Below.heap_setCell _ _ _ k (fun e => hk (by rw [e]))⟩ (.inr hne)
theorem store3 {w : World} {base g n cap : Nat} {e : TypeId} {size : Nat} {xs : List Value} (h : w.ownsRow base e size (.slice (some ⟨g, 0, none⟩) n cap) n xs) (i j k : Nat) (a b c : Value) :
    (((w.setCell ⟨g, i, none⟩ a).setCell ⟨g, j, none⟩ b).setCell ⟨g, k, none⟩ c).ownsRow base e size (.slice (some ⟨g, 0, none⟩) n cap) n (((xs.set i a).set j b).set k c) ∧ w.grownBy (((w.setCell ⟨g, i, none⟩ a).setCell ⟨g, j, none⟩ b).setCell ⟨g, k, none⟩ c) (some g) := by
  have s1 := h.stored i a
  have s2 := s1.1.stored j b
  have s3 := s2.1.stored k c
  refine ⟨s3.1, s3.2.os.trans (s2.2.os.trans s1.2.os), s3.2.tape.trans (s2.2.tape.trans s1.2.tape), s3.2.output.trans (s2.2.output.trans s1.2.output), Nat.le_trans s1.2.size (Nat.le_trans s2.2.size s3.2.size), fun x hx hne => ?_⟩
  exact (s3.2.block x (Nat.lt_of_lt_of_le hx (Nat.le_trans s1.2.size s2.2.size)) hne).trans ((s2.2.block x (Nat.lt_of_lt_of_le hx s1.2.size) hne).trans (s1.2.block x hx hne))
theorem hm_box {base g B gr n c : Nat} {h : H} {v1 : Value} {W : World} {x0 x1 x2 : Value} (m : HM base g h v1 (.slice (some ⟨gr, 0, none⟩) n c) W) (kB : Blk W B #[x0, x1, x2] 52) (h1 : g ≠ B) (h2 : gr ≠ B) (a b d : Value) :
    HM base g h v1 (.slice (some ⟨gr, 0, none⟩) n c) (((W.setCell ⟨B, 0, none⟩ a).setCell ⟨B, 1, none⟩ b).setCell ⟨B, 2, none⟩ d) where
  blk := ((m.blk.other (p := ⟨B, 0, none⟩) h1 _).other (p := ⟨B, 1, none⟩) h1 _).other (p := ⟨B, 2, none⟩) h1 _
  r1 := own_set (own_set (own_set m.r1 kB (by decide)) (kB.set 0 _) (by decide)) ((kB.set 0 _).set 1 _) (by decide)
  r2 := by
    have hne : (Value.slice (some ⟨gr, 0, none⟩) n c).ownBlock ≠ some B := by simpa [Value.ownBlock] using h2
    exact own_ne (own_ne (own_ne m.r2 hne) hne) hne
theorem AddP.err' {h : H} {bin t k : Int} {base g : Nat} {v1 v2 : Value} {w w' : World} {e : Ending} {x : Int} (hx : addO h bin t k = .error x) (hm : HM base g h v1 v2 w') (h1 : e = .returned (.int .i64 x)) (hb : Below w.heap.size w w') : AddP h bin t k base g v1 v2 w e w' := by
  refine ⟨none, ?_, ?_, ⟨hb.os, hb.tape, hb.output, hb.size, fun k hk _ => hb.block k hk⟩, .inl rfl⟩
  · rw [hx, h1]; rfl
  · rw [hx]; exact hm

set_option maxRecDepth 100000 in
set_option maxHeartbeats 4000000 in
theorem add_mom (h : H) (base g : Nat) (v1 v2 : Value) (bin t k : Int) (w : World) (hm : HM base g h v1 v2 w) (ho : okH h) (htR : inR t) (hkR : inR k) (hl1 : h.counts.length ≤ 9223372036854775807) (hl2 : h.moms.length ≤ 9223372036854775807) (hr : rightP h) (hbad : ¬ addBad h bin t) (hk : ¬ k < 0) (h0 : ¬ h.kind = 0) :
    Calls Try.prog 21 #[.pointer (some ⟨g, 0, none⟩), .int .i64 bin, .int .i64 t, .int .i64 k] w (AddP h bin t k base g v1 v2 w) := by
  have hadd := add_m hr hbad hk h0
  obtain ⟨A1, c1, rfl⟩ := own_slice hm.r1
  obtain ⟨A2, c2, rfl⟩ := own_slice hm.r2
  have ra := fun w => right_any h A1 A2 c1 c2 w hl1 hl2
  rw [show rightB h = true from decide_eq_true hr] at ra
  unfold hV at ra
  obtain ⟨y1, y2, z1, z2⟩ := may_le hr.1
  have x1 : ¬ bin < 0 := fun e => hbad (.inl e)
  have x2 : ¬ bin ≥ h.bins := fun e => hbad (.inr (.inl e))
  have k0 : (h.kind == 0) = false := beq_eq_false_iff_ne.2 h0
  have hlen : (h.moms.length : Int) = h.bins := by rcases hr.2 with ⟨e, _⟩ | ⟨_, _, e⟩ <;> first | exact e | exact absurd e h0
  obtain ⟨at', rfl⟩ : ∃ tn : Nat, bin = tn := ⟨bin.toNat, by omega⟩
  obtain ⟨n, hn⟩ : ∃ n, h.moms.length = n := ⟨_, rfl⟩
  have hlt : at' < n := by omega
  rw [Int.toNat_natCast] at hadd
  obtain ⟨x, hx⟩ : ∃ x, h.moms.getD at' m0 = x := ⟨_, rfl⟩
  rw [hx] at hadd
  have hxm : h.moms[at']? = some x := by
    rw [List.getD_eq_getElem?_getD] at hx
    rw [List.getElem?_eq_getElem (by omega)] at hx ⊢
    simpa using hx
  have hxR : x.ok := ho.o2 x (List.mem_of_getElem? hxm)
  have hn257 : n ≤ 257 := by omega
  obtain ⟨gr, cap, hv, _, _, _, _⟩ := own_open hm.r2 (by omega)
  simp only [Value.slice.injEq, true_and] at hv
  obtain ⟨rfl, -⟩ := hv
  have HXR := Lib.hid hxR
  have HADD := Lib.hid hadd
  have HX := Lib.hid hxm
  have RA := Lib.hid ra
  have hn1 : (at' : Int) < n := by omega
  rw [hn] at RA
  have HM0 := Lib.hid hm
  have qb := hm.blk
  rw [hn] at qb
  obtain ⟨p0, p1, p2, p3, p4⟩ := qb.cells5
  have x5 : ¬ h.bins ≤ at' := by omega
  have d1 : decide ((at' : Int) < 0) = false := decide_eq_false x1
  have d2 : decide (h.bins ≤ at') = false := decide_eq_false x5
  have e0 : ((0 : Int) == 0) = true := rfl
  have e0' : ((0 : Int) != 0) = false := rfl
  have mm := fun w => moment_any t k htR hkR w
  clear hm qb hadd hxm hx ra hr hbad h0 hl1 hl2 ho x2 hlen hxR htR
  cases hlim : momentO t k with
  | error e1 =>
    rw [hlim] at mm HADD
    have ee : (e1 != 0) = true := by
      unfold momentO at hlim
      cases h1 : lim (t * k) with
      | none => rw [h1] at hlim; cases hlim; rfl
      | some s =>
        rw [h1] at hlim; simp only at hlim
        cases h2 : lim (t * s) with
        | none => rw [h2] at hlim; cases hlim; rfl
        | some q => rw [h2] at hlim; cases hlim
    have MM := Lib.hid mm
    clear mm hlim
    go_enter Try.func21, Try.ntmps21
    go_wp2_with (first
      | (go_at_call 20; refine (RA.out _).mono ?_; rintro e w1 ⟨rfl, hb⟩; have hm1 := HM0.out.below hb; have qb := hm1.blk; rw [hn] at qb; obtain ⟨q0, q1, q2, q3, q4⟩ := qb.cells5; have HM1 := Lib.hid hm1; clear hm1 qb)
      | (go_at_call 46; refine (MM.out _).mono ?_; rintro e w2 ⟨rfl, hb2⟩; simp only [momE, momV, valO, errO]))
    go_ret
    exact AddP.err HADD.out HM0.out rfl ((hb.trans (hb2.mono hb.size)).alloc (Nat.le_trans hb.size hb2.size) _)
  | ok m =>
    rw [hlim] at mm HADD
    have HMR := Lib.hid (momentO_ok hkR hlim)
    have MM := Lib.hid mm
    clear mm hlim
    go_enter Try.func21, Try.ntmps21
    go_wp2_with (first
      | (go_at_call 20; refine (RA.out _).mono ?_; rintro e w1 ⟨rfl, hb⟩; have hm1 := HM0.out.below hb; have qb := hm1.blk; rw [hn] at qb; obtain ⟨q0, q1, q2, q3, q4⟩ := qb.cells5; have HM1 := Lib.hid hm1; clear hm1 qb)
      | (go_at_call 46; refine (MM.out _).mono ?_; rintro e w2 ⟨rfl, hb2⟩; simp only [momE, momV, valO, errO]; have hm2 := HM1.out.below hb2; have qb := hm2.blk; rw [hn] at qb; clear q0 q1 q2 q3 q4; obtain ⟨q0, q1, q2, q3, q4⟩ := qb.cells5; have HM2 := Lib.hid hm2; clear hm2 qb)
      | fail)
    obtain ⟨W3, e3⟩ : ∃ W3, W3 = w2.alloc (.cells #[.int .i64 m.c, .int .i64 m.s, .int .i64 m.q] 52) := ⟨_, rfl⟩
    rw [← e3]
    have kB : Blk W3 w2.heap.size #[.int .i64 m.c, .int .i64 m.s, .int .i64 m.q] 52 := by rw [e3]; exact Blk.new _ _ _
    have bl3 : Below w2.heap.size w2 W3 := by rw [e3]; exact (Below.refl _ _).alloc (Nat.le_refl _) _
    have HM3 := Lib.hid (HM2.out.below bl3)
    have s3 : w2.heap.size < W3.heap.size := by rw [e3]; simp
    obtain ⟨B, hB⟩ : ∃ B, w2.heap.size = B := ⟨_, rfl⟩
    have gB : g < B := by rw [← hB]; exact HM2.out.blk.lt
    have grB : gr < B := by rw [← hB]; exact (World.ownsRow.lt HM2.out.r2 gr rfl).2
    have gB1 : g ≠ B := by omega
    have gB2 : B ≠ g := by omega
    have gB3 : gr ≠ B := by omega
    have gB4 : B ≠ gr := by omega
    have wB : w.heap.size ≤ B := by rw [← hB]; exact Nat.le_trans hb.size hb2.size
    have bl0 : Below w.heap.size w W3 := hb.trans ((hb2.mono hb.size).trans (bl3.mono (Nat.le_trans hb.size hb2.size)))
    rw [hB] at kB s3 ⊢
    clear e3 bl3 hB HM2 HM1 hb2 q0 q1 q2 q3 q4
    have qb := HM3.out.blk
    rw [hn] at qb
    obtain ⟨q0, q1, q2, q3, q4⟩ := qb.cells5
    obtain ⟨u0, u1, u2⟩ := cells3 kB
    obtain ⟨hx1, hx2, hx3⟩ := momC_at h.moms at' x HX.out
    have t1 := own_cell HM3.out.r2 hx1
    have t2 := own_cell HM3.out.r2 hx2
    have t3 := own_cell HM3.out.r2 hx3
    clear hx1 hx2 hx3 qb
    have g1 : gr < W3.heap.size := World.block_lt_of_cell? W3 _ t1
    have g2 : g < W3.heap.size := World.block_lt_of_cell? W3 _ q4
    obtain ⟨rz, hrz⟩ : ∃ rz, momO opP x m = rz := ⟨_, rfl⟩
    obtain ⟨z1, z2, z3, z4, hz⟩ : ∃ z1 z2 z3 z4, momE rz = .tuple #[.agg #[.int .i64 z1, .int .i64 z2, .int .i64 z3], .int .i64 z4] := ⟨_, _, _, _, rfl⟩
    have HZ := Lib.hid hz
    have HRZ := Lib.hid hrz
    clear hz hrz
    go_cut [13] (fun ev wc => ev = .int .i64 z4 ∧ Blk wc B #[.int .i64 z1, .int .i64 z2, .int .i64 z3] 52 ∧ HM base g h (.slice A1 h.counts.length c1) (.slice (some ⟨gr, 0, none⟩) h.moms.length c2) wc ∧ Below w.heap.size w wc)
    case first =>
      have b8 : Below W3.heap.size W3 (W3.alloc (.cells #[.func (.func 48) #[] #[]] 109)).drew := ((Below.refl _ W3).alloc (Nat.le_refl _) _).drew
      have HM8 := Lib.hid (HM3.out.below b8)
      have kB8 := kB.below b8
      have bl8 := bl0.trans (b8.mono bl0.size)
      have g8 := moments1_any 48 opP plus_is x m HXR.out HMR.out W3.heap.size (W3.alloc (.cells #[.func (.func 48) #[] #[]] 109)).drew (by
        have := (Blk.new W3 #[.func (.func 48) #[] #[]] 109).below ((Below.refl _ _).drew)
        exact this.cells1)
      rw [HRZ.out, HZ.out] at g8
      have G8 := Lib.hid g8
      clear g8
      go_region_with (first
        | (go_at_call 47; refine (moments_any 48 _).mono ?_; rintro e w3 ⟨rfl, rfl⟩)
        | (go_at_call 67; refine G8.out.mono ?_; rintro e w3 ⟨rfl, hb3⟩; have HM9 := HM8.out.below hb3; have kB9 := kB8.below hb3; clear u0 u1 u2; obtain ⟨u0, u1, u2⟩ := cells3 kB9; have uf := kB9.frozen))
      all_goals
        go_wp2
        go_meet
        case rel => exact ⟨rfl, set3 kB9 _ _ _, hm_box HM9 kB9 gB1 gB3 _ _ _, below3 (bl8.trans (hb3.mono bl8.size)) wB _ _ _⟩
    case rest =>
      obtain ⟨rfl, kC, HMC, bC⟩ := hcut
      clear q0 q1 q2 q3 q4 u0 u1 u2 t1 t2 t3
      have HMc := Lib.hid HMC
      have qb := HMC.blk
      rw [hn] at qb
      obtain ⟨q0, q1, q2, q3, q4⟩ := qb.cells5
      obtain ⟨u0, u1, u2⟩ := cells3 kC
      obtain ⟨hx1, hx2, hx3⟩ := momC_at h.moms at' x HX.out
      have t1 := own_cell HMC.r2 hx1
      have t2 := own_cell HMC.r2 hx2
      have t3 := own_cell HMC.r2 hx3
      have fr := fun i => World.ownsRow.frozenAt HMC.r2 i
      have rn := row_ne HMC.blk HMC.r2 (by decide)
      clear hx1 hx2 hx3 qb HMC
      have hz := HZ.out
      have hadd := HADD.out
      simp only [HRZ.out] at hadd
      cases rz with
      | error e1 =>
        simp only [momE, momV, valO, errO, m0, Value.tuple.injEq, Array.mk.injEq, List.cons.injEq, Value.agg.injEq, Value.int.injEq, and_true, true_and] at hz
        obtain ⟨⟨rfl, rfl, rfl⟩, rfl⟩ := hz
        have ee : (e1 == 0) = false := by
          have := momO_err plus_is HRZ.out
          simpa using this
        have HA := Lib.hid hadd
        clear hadd
        go_wp2
        go_ret
        subst hn
        exact AddP.err' HA.out HMc.out rfl bC
      | ok z =>
        simp only [momE, momV, valO, errO, Value.tuple.injEq, Array.mk.injEq, List.cons.injEq, Value.agg.injEq, Value.int.injEq, and_true, true_and] at hz
        obtain ⟨⟨rfl, rfl, rfl⟩, rfl⟩ := hz
        have HA := Lib.hid hadd
        clear hadd
        go_wp2
        have rn' := rn.symm
        go_region_held3 (fun W => W.cell? ⟨g, 4, none⟩ = some (.slice (some ⟨gr, 0, none⟩) n c2) ∧ W.cell? ⟨B, 0, none⟩ = some (.int .i64 z.c) ∧ W.cell? ⟨B, 1, none⟩ = some (.int .i64 z.s) ∧ W.cell? ⟨B, 2, none⟩ = some (.int .i64 z.q)) (go_keep) (fail)
        all_goals
          go_wp2
          go_ret
          have hst := store3 HMc.out.r2 (at' * 3) (at' * 3 + 1) (at' * 3 + 2) (.int .i64 z.c) (.int .i64 z.s) (.int .i64 z.q)
          refine ⟨some gr, by rw [HA.out]; rfl, ?_, below_row bC ⟨hst.2.os, hst.2.tape, hst.2.output, hst.2.size, hst.2.block⟩, .inr (.inr rfl)⟩
          rw [HA.out]
          refine ⟨?_, ?_, ?_⟩
          · exact ((HMc.out.blk.other (p := ⟨gr, at' * 3, none⟩) rn _).other (p := ⟨gr, at' * 3 + 1, none⟩) rn _).other (p := ⟨gr, at' * 3 + 2, none⟩) rn _
          · have s1 := World.ownsRow.stored HMc.out.r2 (at' * 3) (.int .i64 z.c)
            have s2 := World.ownsRow.stored s1.1 (at' * 3 + 1) (.int .i64 z.s)
            exact own_other (own_other (own_other HMc.out.r1 HMc.out.r2 (by decide)) s1.1 (by decide)) s2.1 (by decide)
          · have := hst.1
            rw [momC_set _ _ _ (by rw [hn]; exact hlt)] at this
            simp only [valO, List.length_set]
            exact this
end Go.Proofs.Yteckbgpkoanhfaa.Hb
end

section
/- Add, of any histogram; the chapter's example. -/
namespace Go.Proofs.Yteckbgpkoanhfaa.Hb
open Go.RowKit

theorem add_any (h : H) (base g : Nat) (v1 v2 : Value) (bin t k : Int) (w : World) (hm : HM base g h v1 v2 w) (ho : okH h) (htR : inR t) (hkR : inR k) (hl1 : h.counts.length ≤ 9223372036854775807) (hl2 : h.moms.length ≤ 9223372036854775807) :
    Calls Try.prog 21 #[.pointer (some ⟨g, 0, none⟩), .int .i64 bin, .int .i64 t, .int .i64 k] w (AddP h bin t k base g v1 v2 w) := by
  by_cases hr : rightP h
  · by_cases hb : addBad h bin t
    · exact (add_range h base g v1 v2 bin t k w hm hl1 hl2 hr hb).mono fun e w' ⟨h1, h2⟩ => AddP.err (add_5 hr hb) hm h1 h2
    · by_cases hk : k < 0
      · exact (add_neg h base g v1 v2 bin t k w hm hl1 hl2 hr hb hk).mono fun e w' ⟨h1, h2⟩ => AddP.err (add_1 hr hb hk) hm h1 h2
      · by_cases h0 : h.kind = 0
        · exact add_count h base g v1 v2 bin t k w hm ho hkR hl1 hl2 hr hb hk h0
        · exact add_mom h base g v1 v2 bin t k w hm ho htR hkR hl1 hl2 hr hb hk h0
  · exact (add_bad h base g v1 v2 bin t k w hm hl1 hl2 hr).mono fun e w' ⟨h1, h2⟩ => AddP.err (add_8 hr) hm h1 h2
theorem momO_in {f : Nat} {op : Int → Int → Bool → Except Int Int} (hop : IsOp f op) {x y m : Mom} (h : momO op x y = .ok m) : m.ok := by
  unfold momO at h
  cases h1 : op x.c y.c false with
  | error e1 => rw [h1] at h; cases h
  | ok c =>
    rw [h1] at h; simp only at h
    cases h2 : op x.s y.s true with
    | error e1 => rw [h2] at h; cases h
    | ok s =>
      rw [h2] at h; simp only at h
      cases h3 : op x.q y.q false with
      | error e1 => rw [h3] at h; cases h
      | ok q => rw [h3] at h; cases h; exact ⟨hop.ok h1, hop.ok h2, hop.ok h3⟩
/-- What is behind Add stays within. -/
theorem okH_add {h h' : H} {bin t k : Int} (ho : okH h) (e : addO h bin t k = .ok h') : okH h' := by
  by_cases hr : rightP h
  · by_cases hb : addBad h bin t
    · rw [add_5 hr hb] at e; cases e
    · by_cases hk : k < 0
      · rw [add_1 hr hb hk] at e; cases e
      · by_cases h0 : h.kind = 0
        · rw [add_c hr hb hk h0] at e
          cases hl : lim (h.counts.getD (bin * h.classes + t).toNat 0 + k) with
          | none => rw [hl] at e; cases e
          | some n =>
            rw [hl] at e
            cases e
            have := lim_some hl
            refine ⟨fun x hx => ?_, ho.o2⟩
            rcases List.mem_or_eq_of_mem_set hx with h1 | rfl
            · exact ho.o1 x h1
            · rw [this.1]; exact this.2
        · rw [add_m hr hb hk h0] at e
          cases hm : momentO t k with
          | error e1 => rw [hm] at e; cases e
          | ok m =>
            rw [hm] at e
            simp only at e
            cases hm2 : momO opP (h.moms.getD bin.toNat m0) m with
            | error e1 => rw [hm2] at e; cases e
            | ok m' =>
              rw [hm2] at e
              cases e
              refine ⟨ho.o1, fun x hx => ?_⟩
              rcases List.mem_or_eq_of_mem_set hx with h1 | rfl
              · exact ho.o2 x h1
              · exact momO_in plus_is hm2
  · rw [add_8 hr] at e; cases e
theorem okH_new {k b c : Int} {h : H} (e : newO k b c = .ok h) : okH h := by
  have h0 : inR 0 := ⟨by decide, by decide⟩
  by_cases hm : mayP k b c
  · by_cases hk : k = 0
    · rw [new_0 hm hk] at e; cases e
      exact ⟨fun x hx => by rw [(List.mem_replicate.1 hx).2]; exact h0, fun m hx => by simp at hx⟩
    · rw [new_1 hm hk] at e; cases e
      exact ⟨fun x hx => by simp at hx, fun m hx => by rw [(List.mem_replicate.1 hx).2]; exact ⟨h0, h0, h0⟩⟩
  · rw [new_not hm] at e; cases e
theorem eq_mom (d : Nat) (w : World) (x0 x1 x2 y0 y1 y2 : Int) :
    (Op.equalIn (d + 2) 52 (.agg #[.int .i64 x0, .int .i64 x1, .int .i64 x2]) (.agg #[.int .i64 y0, .int .i64 y1, .int .i64 y2])).run Try.prog w = .ok (x0 == y0 && (x1 == y1 && (x2 == y2 && true))) w := by
  refine eqs_of Try.underlying52 (by kernel_rfl) ?_
  refine eqf_cons (by rfl) (by go_simp; rfl) (by go_simp; rfl) (by go_simp) ?_
  refine eqf_cons (by rfl) (by go_simp; rfl) (by go_simp; rfl) (by go_simp) ?_
  exact eqf_cons (by rfl) (by go_simp; rfl) (by go_simp; rfl) (by go_simp) eqf_nil
def fx0 : H := ⟨1, 2, 0, [], [m0, m0]⟩
def fx1 : H := ⟨1, 2, 0, [], [m0, ⟨2, 6, 18⟩]⟩
theorem fx_new : newO 1 2 0 = .ok fx0 := by rw [new_1 (by decide) (by decide)]; rfl
theorem fx_add : addO fx0 1 3 2 = .ok fx1 := by rw [add_m (by decide) (by decide) (by decide) (by decide)]; rfl
theorem fx_ok : okH fx0 := okH_new fx_new
set_option maxRecDepth 100000 in
set_option maxHeartbeats 4000000 in
theorem fixed12_any (w : World) : Calls Try.prog 16 #[] w fun e w' => e = .returned (.bool true) ∧ Below w.heap.size w w' := by
  have hn := fun w => new_any 1 2 0 w
  rw [fx_new] at hn
  have KN := Lib.hid hn
  clear hn
  go_enter Try.func16, Try.ntmps16
  go_wp2_with fail
  refine (KN.out _).mono ?_
  rintro e w1 ⟨v, rfl, ⟨v1, v2, rfl, r1, r2⟩, hb⟩
  simp only [errO, valO] at r1 r2 ⊢
  obtain ⟨gr, cap, rfl, _, gr1, gr2, _⟩ := own_open r2 (by decide)
  obtain ⟨A1, c1, rfl⟩ := own_slice r1
  go_wp2_with fail
  obtain ⟨W2, e2⟩ : ∃ W2, W2 = w1.alloc (.cells #[.int .i64 fx0.kind, .int .i64 fx0.bins, .int .i64 fx0.classes, .slice A1 fx0.counts.length c1, .slice (some ⟨gr, 0, none⟩) fx0.moms.length cap] 36) := ⟨_, rfl⟩
  rw [← e2]
  have hM : HM w.heap.size w1.heap.size fx0 (.slice A1 fx0.counts.length c1) (.slice (some ⟨gr, 0, none⟩) fx0.moms.length cap) W2 := by
    rw [e2]
    exact ⟨Blk.new _ _ _, r1.alloc _, r2.alloc _⟩
  have bW : Below w.heap.size w W2 := by rw [e2]; exact hb.alloc hb.size _
  obtain ⟨B, hB⟩ : ∃ B, w1.heap.size = B := ⟨_, rfl⟩
  rw [hB] at hM ⊢
  clear e2 r1 r2 hB gr2
  refine (add_any fx0 w.heap.size B _ _ 1 3 2 W2 hM fx_ok (by decide) (by decide) (by decide) (by decide)).mono ?_
  rintro e w3 ⟨row, rfl, hM3, hg3, hrow⟩
  rw [fx_add] at hM3 ⊢
  simp only [errO, valO] at hM3 ⊢
  have b3 : Below w.heap.size w w3 := bW.grown hg3 bW.size (fun k hk => by
    rcases hrow with h | h | h
    · rw [h] at hk; cases hk
    · exact (World.ownsRow.lt hM.r1 k (by rw [← h]; exact hk)).1
    · exact (World.ownsRow.lt hM.r2 k (by rw [← h]; exact hk)).1)
  obtain ⟨q0, q1, q2, q3, q4⟩ := hM3.blk.cells5
  have t1 := own_cell hM3.r2 (j := 3) (u := .int .i64 2) rfl
  have t2 := own_cell hM3.r2 (j := 4) (u := .int .i64 6) rfl
  have t3 := own_cell hM3.r2 (j := 5) (u := .int .i64 18) rfl
  have hq := fun (w : World) x0 x1 x2 y0 y1 y2 => eq_mom 9998 w x0 x1 x2 y0 y1 y2
  clear hM hM3 hg3 hrow
  go_wp2
  go_ret
  exact ⟨rfl, b3⟩
end Go.Proofs.Yteckbgpkoanhfaa.Hb
end

section
/- Contracts by hand, as the printed texts use them: the chapter's example of layer 12. -/
namespace Go.Proofs.Yteckbgpkoanhfaa.Pr
set_option linter.unusedVariables false
open Go.RowKit
def hornbeamlaw12_fixed.f : Option (Bool) := some true
theorem hornbeamlaw12_fixed.calls (r : Bool) (w : World) (h : hornbeamlaw12_fixed.f = some r) :
    Calls Try.prog 16 #[] w fun e w' => e = .returned (.bool r) ∧ Below w.heap.size w w' := by
  rw [← Option.some.inj h]
  exact Hb.fixed12_any w
end Go.Proofs.Yteckbgpkoanhfaa.Pr
end

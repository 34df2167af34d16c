/- What the laws of layer 25 share: the grove as the program has it, the chapter's example, what is too great. -/
import Derived.Test.YtbhikceekldenaaHbErr
namespace Go.Proofs.Ytbhikceekldenaa.Hb
set_option linter.unusedVariables false
set_option linter.unusedSimpArgs false
open Go.RowKit

def True0 (w : World) (e : Ending) (w' : World) : Prop := e = .returned (.bool true) ∧ Below w.heap.size w w'
theorem grove_size : (Try.prog.info? 38).map (·.size) = some 13 := by kernel_rfl
theorem grove_any (g : Grv) (Ac At Aw Ag : Option Addr) (cc ct cw cg : Nat) (w : World) : Calls Try.prog 17 #[.agg (grvA g Ac At Aw Ag cc ct cw cg)] w fun e w' =>
    e = .returned (.agg (grvA g Ac At Aw Ag cc ct cw cg)) ∧ Below w.heap.size w w' := by
  unfold grvA
  go_enter Try.func17, Try.ntmps17
  go_wp2_with fail
  refine bodyPost_ret (results_cell rfl _ _ (w.heap.size + 1) 38 (grvA g Ac At Aw Ag cc ct cw cg) _ rfl ?_ Try.underlying38 rfl grove_size) rfl ⟨rfl, ?_⟩
  · have := Blk.new (w.alloc (.cells (grvA g Ac At Aw Ag cc ct cw cg) 31)) (grvA g Ac At Aw Ag cc ct cw cg) 38
    rw [World.size_alloc] at this
    exact this
  · exact ((Below.refl _ _).alloc (Nat.le_refl _) _).alloc (by simp) _
theorem rowAt_one {w : World} {sz : Nat} {α : Type} {R : α → List Value → Prop} {g : Nat} {x : α} {c : List Value} (hl : c.length = sz) (hR : R x c) (hc : ∀ j u, c[j]? = some u → w.cell? ⟨g, j, none⟩ = some u) : RowAt w sz R (some ⟨g, 0, none⟩) [x] := by
  intro _
  refine ⟨_, rfl, fun i y hy => ?_⟩
  rcases i with _ | i
  · simp at hy; subst hy
    refine ⟨c, hl, hR, fun j u hj => ?_⟩
    rw [Nat.zero_mul, Nat.zero_add, show (⟨g, 0, none⟩ : Addr).add j = ⟨g, j, none⟩ from by unfold Addr.add; split <;> simp_all]
    exact hc j u hj
  · simp at hy
theorem blk_list {w : World} {g : Nat} {cs : Array Value} {t : TypeId} (h : Blk w g cs t) : ∀ j u, cs.toList[j]? = some u → w.cell? ⟨g, j, none⟩ = some u := fun j u hj => by rw [h.cell j]; simpa using hj
theorem boxes7 (w : World) (X0 X1 X2 X3 X4 X5 X6 : Array Value) (t0 t1 t2 t3 t4 t5 t6 : TypeId) (W : World) (h : W = ((((((w.alloc (.cells X0 t0)).alloc (.cells X1 t1)).alloc (.cells X2 t2)).alloc (.cells X3 t3)).alloc (.cells X4 t4)).alloc (.cells X5 t5)).alloc (.cells X6 t6)) :
    Blk W w.heap.size X0 t0 ∧ Blk W (w.heap.size + 1) X1 t1 ∧ Blk W (w.heap.size + 1 + 1) X2 t2 ∧ Blk W (w.heap.size + 1 + 1 + 1) X3 t3 ∧ Blk W (w.heap.size + 1 + 1 + 1 + 1) X4 t4 ∧ Blk W (w.heap.size + 1 + 1 + 1 + 1 + 1) X5 t5 ∧ Blk W (w.heap.size + 1 + 1 + 1 + 1 + 1 + 1) X6 t6 ∧ Below w.heap.size w W := by
  subst h
  refine ⟨?_, ?_, ?_, ?_, ?_, ?_, ?_, ?_⟩
  case refine_8 => exact (((((((Below.refl _ w).alloc (Nat.le_refl _) _).alloc (by simp) _).alloc (by simp; omega) _).alloc (by simp; omega) _).alloc (by simp; omega) _).alloc (by simp; omega) _).alloc (by simp; omega) _
  all_goals
    unfold Blk World.alloc
    rw [Array.getElem?_eq_getElem (by simp <;> omega)]
    simp only [Array.getElem_push, Array.size_push]
    congr 1
    simp (disch := omega) only [dif_pos, dif_neg]
def leaf1 : Nd := ⟨-1, 0, 0, 1, 0, 0⟩
def oneG (wt : Int) : Grv := ⟨0, 2, 2, 1, 0, 1, 1, 1, 1, [1], [[leaf1]], [[wt]], [0]⟩
theorem one_ok (wt : Int) : OkG (oneG wt) := ⟨by simp [oneG], by simp [oneG], by simp [oneG], by simp [oneG], by simp [oneG], by simp [oneG]⟩
theorem ref_size : (Try.prog.info? 31).map (·.size) = some 13 := by kernel_rfl
set_option maxRecDepth 100000 in
set_option maxHeartbeats 1000000 in
theorem one_any (wt : Int) (hw : in64 wt) (w : World) : Calls Try.prog 35 #[.int .i64 wt] w fun e w' => ∃ Ac At Aw Ag, e = .returned (.agg (grvA (oneG wt) Ac At Aw Ag 1 1 1 1)) ∧ RG w' (oneG wt) Ac At Aw Ag ∧ Below w.heap.size w w' := by
  have HW := Lib.hid hw
  clear hw
  go_enter Try.func35, Try.ntmps35
  go_wp2_with fail
  obtain ⟨k0, k1, k2, k3, k4, k5, k6, be⟩ := boxes7 w #[.int .i64 0, .int .i64 2, .int .i64 2, .int .i64 1, .int .i64 0, .int .i64 1, .int .i64 1, .int .i64 1, .int .i64 1, .slice (some ⟨w.heap.size + 1, 0, none⟩) 1 1, .slice (some ⟨w.heap.size + 1 + 1 + 1, 0, none⟩) 1 1, .slice (some ⟨w.heap.size + 1 + 1 + 1 + 1 + 1, 0, none⟩) 1 1, .slice (some ⟨w.heap.size + 1 + 1 + 1 + 1 + 1 + 1, 0, none⟩) 1 1]
    #[.int .u16 1] #[.int .i64 (-1), .int .i64 0, .int .i64 0, .int .i64 1, .int .i64 0, .int .i64 0] #[.slice (some ⟨w.heap.size + 1 + 1, 0, none⟩) 1 1] #[.int .i64 wt] #[.slice (some ⟨w.heap.size + 1 + 1 + 1 + 1, 0, none⟩) 1 1] #[.int .i64 0] 31 74 88 53 3 54 2 _ rfl
  refine bodyPost_ret (results_cell rfl _ _ w.heap.size 31 _ _ rfl k0 Try.underlying31 rfl ref_size) rfl ⟨_, _, _, _, rfl, ?_, be⟩
  refine ⟨⟨?_, .inr ⟨_, rfl, fun i hi => ?_⟩⟩, ?_, ?_, ?_⟩
  · simp [oneG]
  · obtain rfl : i = 0 := by simp [oneG] at hi; omega
    exact k1.cell 0
  · refine rowAt_one (c := [.slice (some ⟨w.heap.size + 1 + 1, 0, none⟩) 1 1]) rfl ⟨_, _, rfl, Nat.le_refl _, by simp, ?_⟩ (blk_list k3)
    exact rowAt_one (c := ndC leaf1) rfl ⟨rfl, by simp [Nd.ok, leaf1, in64]⟩ (blk_list k2)
  · refine rowAt_one (c := [.slice (some ⟨w.heap.size + 1 + 1 + 1 + 1, 0, none⟩) 1 1]) rfl ⟨_, _, rfl, Nat.le_refl _, by simp, ?_⟩ (blk_list k5)
    exact rowAt_one (c := [.int .i64 wt]) rfl ⟨rfl, HW.out⟩ (blk_list k4)
  · exact rowAt_one (c := [.int .i64 0]) rfl ⟨rfl, by simp [in64]⟩ (blk_list k6)
theorem one_1 : mayG (oneG 1) = true ∧ errO (oneG 1) = (0, 0) := by decide +kernel
theorem one_0 : mayG (oneG 0) = true ∧ errO (oneG 0) = (1, 1) := by decide +kernel
theorem err_one (wt N D : Int) (h : mayG (oneG wt) = true ∧ errO (oneG wt) = (N, D)) (Ac At Aw Ag : Option Addr) (w : World) (hr : RG w (oneG wt) Ac At Aw Ag) :
    Calls Try.prog 21 #[.agg (grvA (oneG wt) Ac At Aw Ag 1 1 1 1)] w fun e w' => e = .returned (.tuple #[.agg #[.int .i64 N, .int .i64 D], .int .i64 0]) ∧ Below w.heap.size w w' := by
  have := error_any (oneG wt) Ac At Aw Ag 1 1 1 1 w (one_ok wt) (fun _ => by simp [oneG]) hr
  rw [h.1, h.2] at this
  exact this
theorem eq_signed (d : Nat) (w : World) (x0 x1 y0 y1 : Int) :
    (Op.equalIn (d + 2) 48 (.agg #[.int .i64 x0, .int .i64 x1]) (.agg #[.int .i64 y0, .int .i64 y1])).run Try.prog w = .ok (x0 == y0 && (x1 == y1 && true)) w := by
  refine eqs_of Try.underlying48 (by kernel_rfl) ?_
  refine eqf_cons (by rfl) (by go_simp; rfl) (by go_simp; rfl) (by go_simp) ?_
  exact eqf_cons (by rfl) (by go_simp; rfl) (by go_simp; rfl) (by go_simp) eqf_nil
set_option maxRecDepth 100000 in
set_option maxHeartbeats 2000000 in
theorem fixed25_any (w : World) : Calls Try.prog 15 #[] w (True0 w) := by
  have K1 := Lib.hid (fun w => one_any 1 (by simp [in64]) w)
  have K0 := Lib.hid (fun w => one_any 0 (by simp [in64]) w)
  have E1 := Lib.hid (fun Ac At Aw Ag w hr => err_one 1 0 0 one_1 Ac At Aw Ag w hr)
  have E0 := Lib.hid (fun Ac At Aw Ag w hr => err_one 0 1 1 one_0 Ac At Aw Ag w hr)
  obtain ⟨G1, hG1⟩ : ∃ G, oneG 1 = G := ⟨_, rfl⟩
  obtain ⟨G0, hG0⟩ : ∃ G, oneG 0 = G := ⟨_, rfl⟩
  rw [hG1] at K1 E1
  rw [hG0] at K0 E0
  clear hG1 hG0
  go_enter Try.func15, Try.ntmps15
  go_wp2_with fail
  refine (K1.out _).mono ?_
  rintro e w1 ⟨Ac, At, Aw, Ag, rfl, hr1, hb1⟩
  have KG1 := Lib.hid (fun w => grove_any G1 Ac At Aw Ag 1 1 1 1 w)
  have KE1 := Lib.hid (fun w hr => E1.out Ac At Aw Ag w hr)
  obtain ⟨V1, hV1⟩ : ∃ V, grvA G1 Ac At Aw Ag 1 1 1 1 = V := ⟨_, rfl⟩
  rw [hV1] at KG1 KE1 ⊢
  have HR1 := Lib.hid hr1
  have HB1 := Lib.hid hb1
  clear hV1 hr1 hb1
  go_wp2_with fail
  refine (KG1.out _).mono ?_
  rintro e w2 ⟨rfl, hb2⟩
  have HR2 := Lib.hid (HR1.out.below hb2)
  have HB2 := Lib.hid (HB1.out.trans (hb2.mono HB1.out.size))
  clear hb2
  go_wp2_with fail
  refine (KE1.out _ HR2.out).mono ?_
  rintro e w3 ⟨rfl, hb3⟩
  have HB3 := Lib.hid (HB2.out.trans (hb3.mono HB2.out.size))
  clear hb3
  go_wp2_with fail
  have kA := Lib.hid (Blk.new w3 #[.int .i64 0, .int .i64 0] 48)
  have HB3' := Lib.hid (HB3.out.alloc HB3.out.size (.cells #[.int .i64 0, .int .i64 0] 48))
  obtain ⟨W3, hW3⟩ : ∃ W, w3.alloc (.cells #[.int .i64 0, .int .i64 0] 48) = W := ⟨_, rfl⟩
  rw [hW3] at kA HB3' ⊢
  clear hW3
  refine (K0.out _).mono ?_
  rintro e w4 ⟨Bc, Bt, Bw, Bg, rfl, hr4, hb4⟩
  have KG0 := Lib.hid (fun w => grove_any G0 Bc Bt Bw Bg 1 1 1 1 w)
  have KE0 := Lib.hid (fun w hr => E0.out Bc Bt Bw Bg w hr)
  obtain ⟨V0, hV0⟩ : ∃ V, grvA G0 Bc Bt Bw Bg 1 1 1 1 = V := ⟨_, rfl⟩
  rw [hV0] at KG0 KE0 ⊢
  have HR4 := Lib.hid hr4
  have HB4 := Lib.hid (HB3'.out.trans (hb4.mono HB3'.out.size))
  have kA4 := Lib.hid (kA.out.below hb4)
  clear hV0 hr4 hb4
  go_wp2_with fail
  refine (KG0.out _).mono ?_
  rintro e w5 ⟨rfl, hb5⟩
  have HR5 := Lib.hid (HR4.out.below hb5)
  have HB5 := Lib.hid (HB4.out.trans (hb5.mono HB4.out.size))
  have kA5 := Lib.hid (kA4.out.below hb5)
  clear hb5
  go_wp2_with fail
  refine (KE0.out _ HR5.out).mono ?_
  rintro e w6 ⟨rfl, hb6⟩
  have HB6 := Lib.hid (HB5.out.trans (hb6.mono HB5.out.size))
  have kA6 := kA5.out.below hb6
  have a0 := kA6.cell 0
  have a1 := kA6.cell 1
  have hlA := kA6.lt
  simp only [List.getElem?_toArray, List.getElem?_cons_zero, List.getElem?_cons_succ] at a0 a1
  clear hb6 kA6
  go_wp2_with fail
  go_ret
  exact ⟨rfl, HB6.out.alloc HB6.out.size _⟩
end Go.Proofs.Ytbhikceekldenaa.Hb

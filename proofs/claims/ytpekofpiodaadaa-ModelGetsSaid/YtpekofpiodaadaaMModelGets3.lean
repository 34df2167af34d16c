/- Texts joined: the walks and the plain laws that the claim ModelGets rests on. -/
import Derived.Test.YtpekofpiodaadaaMModelGets2
import Derived.Laws.IdiomStrings
import Derived.Laws.Concat
import Derived.Test.YtpekofpiodaadaaMModelGets1
import Derived.WalkLawsBesides
import Derived.Laws.BitsAllLaws
section
/- The walk of model.errors. -/
namespace Go.Proofs.Ytpekofpiodaadaa.Hb
set_option linter.unusedVariables false
set_option linter.unusedSimpArgs false
open Go.RowKit

theorem all_at {α : Type} {p : α → Bool} {l : List α} {k : Nat} {x : α} (h : l[k]? = some x) : (l.drop k).all p = (p x && (l.drop (k + 1)).all p) := by
  obtain ⟨hk, rfl⟩ := List.getElem?_eq_some_iff.1 h
  rw [List.drop_eq_getElem_cons hk, List.all_cons]
set_option maxRecDepth 100000 in
set_option maxHeartbeats 16000000 in
theorem errs_any (f : Fst) (Ae At As : Option Addr) (ce ct cs : Nat) (w : World) (hr : RS2 w As f.shake) (hl : f.shake.length ≤ 9223372036854775807) :
    Calls Try.prog 71 #[.agg (forA f Ae At As ce ct cs)] w fun e w' => e = .returned (.bool (errsE f)) ∧ Below w.heap.size w w' := by
  have KB := Lib.hid (fun den w => bound_any f.k f.cl f.b f.t f.d f.l f.p den w)
  unfold cfgF at KB
  have HE : Hid (errsE f = (outE f && (f.shake.all (shkE f) && ((f.shake.length : Int) == f.cols)))) := Lib.hid rfl
  have HO : Hid (outE f = !(decide (f.den < 0) || (decide (1048576 < f.den) || (decide (f.num < 0) || decide (bndO f.k f.den < f.num))))) := Lib.hid rfl
  have HS : Hid (∀ x, shkE f x = !(x.2 != f.den || (decide (bndO f.k f.den < x.1) || decide (x.1 < IntKind.i64.wrap (-(bndO f.k f.den)))))) := Lib.hid (fun x => rfl)
  obtain ⟨E, hE⟩ : ∃ E, errsE f = E := ⟨_, rfl⟩
  obtain ⟨O, hO⟩ : ∃ E, outE f = E := ⟨_, rfl⟩
  obtain ⟨SE, hSE⟩ : ∃ E, shkE f = E := ⟨_, rfl⟩
  obtain ⟨SA, hSA⟩ : ∃ E, f.shake.all (shkE f) = E := ⟨_, rfl⟩
  have HSA0 : Hid ((f.shake.drop 0).all SE = SA) := Lib.hid (by rw [List.drop_zero, ← hSE]; exact hSA)
  rw [hE, hO, hSA] at HE
  rw [hO] at HO
  rw [hSE] at HS
  rw [hE]
  unfold forA
  obtain ⟨ne, hne⟩ : ∃ n, f.edges.length = n := ⟨_, rfl⟩
  obtain ⟨nt, hnt⟩ : ∃ n, f.trees.length = n := ⟨_, rfl⟩
  obtain ⟨ns, hns⟩ : ∃ n, f.shake.length = n := ⟨_, rfl⟩
  have HRS := Lib.hid hr
  obtain ⟨k, cl, b, tt, d, l, p, cols, seed, edges, trees, num, den, shake⟩ := f
  simp only at KB HE HO HS HSA0 HRS hne hnt hns hl ⊢
  rw [hns] at HE hl
  rw [hne, hnt, hns]
  have HNS := Lib.hid hns
  have hneg : ∀ x : Int, IntKind.i64.wrap (-x) = wrap64 (0 - x) := fun x => by rw [wrapI_fst]; congr 1; omega
  have HNEG := Lib.hid hneg
  obtain ⟨B, hB⟩ : ∃ B, bndO k den = B := ⟨_, rfl⟩
  have KB2 := Lib.hid (fun w => KB.out den w)
  rw [hB] at HO HS KB2
  clear hE hO hSE hSA hr hne hnt hns hneg hB
  go_enter Try.func71, Try.ntmps71
  go_upto_region 2 with (fail)
  have kB := Blk.new w #[.int .i64 k, .int .i64 cl, .int .i64 b, .int .i64 tt, .int .i64 d, .int .i64 l, .int .i64 p, .int .i64 cols, .int .u64 (seed : Int), .slice Ae ne ce, .slice At nt ct, .int .i64 num, .int .i64 den, .slice As ns cs] 59
  have HBE := Lib.hid ((Below.refl w.heap.size w).alloc (Nat.le_refl _) (.cells #[.int .i64 k, .int .i64 cl, .int .i64 b, .int .i64 tt, .int .i64 d, .int .i64 l, .int .i64 p, .int .i64 cols, .int .u64 (seed : Int), .slice Ae ne ce, .slice At nt ct, .int .i64 num, .int .i64 den, .slice As ns cs] 59))
  obtain ⟨w0, hw0⟩ : ∃ W, w.alloc (.cells #[.int .i64 k, .int .i64 cl, .int .i64 b, .int .i64 tt, .int .i64 d, .int .i64 l, .int .i64 p, .int .i64 cols, .int .u64 (seed : Int), .slice Ae ne ce, .slice At nt ct, .int .i64 num, .int .i64 den, .slice As ns cs] 59) = W := ⟨_, rfl⟩
  rw [hw0] at kB HBE ⊢
  have KBX := Lib.hid kB
  have HSS := Lib.hid (fun (W : World) (hb : Below w0.heap.size w0 W) => (kB.below hb).cells14)
  have HY0 := Lib.hid ((Below.refl w0.heap.size w0).drew)
  clear hw0 kB
  by_cases c1 : den < 0
  · have d1 : decide (den < 0) = true := decide_eq_true c1
    have HF : Hid (E = false) := Lib.hid (by rw [HE.out, HO.out, d1]; rfl)
    clear c1
    refine wp_region_held_drew (S := (fun W => W.cell? ⟨w.heap.size, 0, none⟩ = some (.int .i64 k) ∧ W.cell? ⟨w.heap.size, 1, none⟩ = some (.int .i64 cl) ∧ W.cell? ⟨w.heap.size, 2, none⟩ = some (.int .i64 b) ∧ W.cell? ⟨w.heap.size, 3, none⟩ = some (.int .i64 tt) ∧ W.cell? ⟨w.heap.size, 4, none⟩ = some (.int .i64 d) ∧ W.cell? ⟨w.heap.size, 5, none⟩ = some (.int .i64 l) ∧ W.cell? ⟨w.heap.size, 6, none⟩ = some (.int .i64 p) ∧ W.cell? ⟨w.heap.size, 7, none⟩ = some (.int .i64 cols) ∧ W.cell? ⟨w.heap.size, 8, none⟩ = some (.int .u64 (seed : Int)) ∧ W.cell? ⟨w.heap.size, 9, none⟩ = some (.slice Ae ne ce) ∧ W.cell? ⟨w.heap.size, 10, none⟩ = some (.slice At nt ct) ∧ W.cell? ⟨w.heap.size, 11, none⟩ = some (.int .i64 num) ∧ W.cell? ⟨w.heap.size, 12, none⟩ = some (.int .i64 den) ∧ W.cell? ⟨w.heap.size, 13, none⟩ = some (.slice As ns cs))) (by kernel_rfl) ?_ (fun hS0 => ?_)
    · exact (HSS.out _ HY0.out)
    refine' wpAnyH_take (i := 0) (v := _) rfl (by kernel_rfl) (by kernel_rfl) (by kernel_rfl) (fun _ _ _ h => h) (Or.inl ⟨by rfl, ?hyr1_0⟩) hS0 ?restr1_0
    case hyr1_0 => (intro w hSw; (try dsimp only at hSw); go_simp; try with_reducible rfl)
    simp only [Act.put, List.setIfInBounds_toArray, List.set_cons_zero, List.set_cons_succ, List.getElem_toArray, List.getElem_cons_zero, List.getElem_cons_succ]
    refine' wpAnyH_take (i := 1) (v := _) rfl (by kernel_rfl) (by kernel_rfl) (by kernel_rfl) (fun _ _ _ h => h) (Or.inl ⟨by rfl, ?hyr1_1⟩) hS0 ?restr1_1
    case hyr1_1 => (intro w hSw; (try dsimp only at hSw); go_simp; try with_reducible rfl)
    simp only [Act.put, List.setIfInBounds_toArray, List.set_cons_zero, List.set_cons_succ, List.getElem_toArray, List.getElem_cons_zero, List.getElem_cons_succ]
    refine' wpAnyH_take (i := 2) (v := _) rfl (by kernel_rfl) (by kernel_rfl) (by kernel_rfl) (fun _ _ _ h => h) (Or.inl ⟨by rfl, ?hyr1_2⟩) hS0 ?restr1_2
    case hyr1_2 => (intro w hSw; (try dsimp only at hSw); go_simp; try with_reducible rfl)
    simp only [Act.put, List.setIfInBounds_toArray, List.set_cons_zero, List.set_cons_succ, List.getElem_toArray, List.getElem_cons_zero, List.getElem_cons_succ]
    refine' wpAnyH_take (i := 3) (v := _) rfl (by kernel_rfl) (by kernel_rfl) (by kernel_rfl) (fun _ _ _ h => h) (Or.inr ⟨by rfl, rfl⟩) hS0 ?restr1_3
    simp only [Act.put, List.setIfInBounds_toArray, List.set_cons_zero, List.set_cons_succ, List.getElem_toArray, List.getElem_cons_zero, List.getElem_cons_succ]
    refine' wpAnyH_take (i := 4) (v := _) rfl (by kernel_rfl) (by kernel_rfl) (by kernel_rfl) (fun _ _ _ h => h) (Or.inr ⟨by rfl, rfl⟩) hS0 ?restr1_4
    simp only [Act.put, List.setIfInBounds_toArray, List.set_cons_zero, List.set_cons_succ, List.getElem_toArray, List.getElem_cons_zero, List.getElem_cons_succ]
    refine' wpAnyH_take (i := 5) (v := _) rfl (by kernel_rfl) (by kernel_rfl) (by kernel_rfl) (fun _ _ _ h => h) (Or.inl ⟨by rfl, ?hyr1_5⟩) hS0 ?restr1_5
    case hyr1_5 => (intro w hSw; (try dsimp only at hSw); go_simp; try with_reducible rfl)
    simp only [Act.put, List.setIfInBounds_toArray, List.set_cons_zero, List.set_cons_succ, List.getElem_toArray, List.getElem_cons_zero, List.getElem_cons_succ]
    refine' wpAnyH_take (i := 6) (v := _) rfl (by kernel_rfl) (by kernel_rfl) (by kernel_rfl) (fun _ _ _ h => h) (Or.inl ⟨by rfl, ?hyr1_6⟩) hS0 ?restr1_6
    case hyr1_6 => (intro w hSw; (try dsimp only at hSw); go_simp; try with_reducible rfl)
    simp only [Act.put, List.setIfInBounds_toArray, List.set_cons_zero, List.set_cons_succ, List.getElem_toArray, List.getElem_cons_zero, List.getElem_cons_succ]
    refine' wpAnyH_take (i := 7) (v := _) rfl (by kernel_rfl) (by kernel_rfl) (by kernel_rfl) (fun _ _ _ h => h) (Or.inr ⟨by rfl, rfl⟩) hS0 ?restr1_7
    simp only [Act.put, List.setIfInBounds_toArray, List.set_cons_zero, List.set_cons_succ, List.getElem_toArray, List.getElem_cons_zero, List.getElem_cons_succ]
    refine' wpAnyH_take (i := 8) (v := _) rfl (by kernel_rfl) (by kernel_rfl) (by kernel_rfl) (fun _ _ _ h => h) (Or.inr ⟨by rfl, rfl⟩) hS0 ?restr1_8
    simp only [Act.put, List.setIfInBounds_toArray, List.set_cons_zero, List.set_cons_succ, List.getElem_toArray, List.getElem_cons_zero, List.getElem_cons_succ]
    refine' wpAnyH_take (i := 9) (v := _) rfl (by kernel_rfl) (by kernel_rfl) (by kernel_rfl) (fun _ _ _ h => h) (Or.inr ⟨by rfl, rfl⟩) hS0 ?restr1_9
    simp only [Act.put, List.setIfInBounds_toArray, List.set_cons_zero, List.set_cons_succ, List.getElem_toArray, List.getElem_cons_zero, List.getElem_cons_succ]
    refine' wpAnyH_take (i := 10) (v := _) rfl (by kernel_rfl) (by kernel_rfl) (by kernel_rfl) (fun _ _ _ h => h) (Or.inr ⟨by rfl, rfl⟩) hS0 ?restr1_10
    simp only [Act.put, List.setIfInBounds_toArray, List.set_cons_zero, List.set_cons_succ, List.getElem_toArray, List.getElem_cons_zero, List.getElem_cons_succ]
    refine' wpAnyH_take (i := 11) (v := _) rfl (by kernel_rfl) (by kernel_rfl) (by kernel_rfl) (fun _ _ _ h => h) (Or.inl ⟨by rfl, ?hyr1_11⟩) hS0 ?restr1_11
    case hyr1_11 => (intro w hSw; (try dsimp only at hSw); go_simp; try with_reducible rfl)
    simp only [Act.put, List.setIfInBounds_toArray, List.set_cons_zero, List.set_cons_succ, List.getElem_toArray, List.getElem_cons_zero, List.getElem_cons_succ]
    refine' wpAnyH_take (i := 12) (v := _) rfl (by kernel_rfl) (by kernel_rfl) (by kernel_rfl) (fun _ _ _ h => h) (Or.inl ⟨by rfl, ?hyr1_12⟩) hS0 ?restr1_12
    case hyr1_12 => (intro w hSw; (try dsimp only at hSw); go_simp; try with_reducible rfl)
    simp only [Act.put, List.setIfInBounds_toArray, List.set_cons_zero, List.set_cons_succ, List.getElem_toArray, List.getElem_cons_zero, List.getElem_cons_succ]
    refine' wpAnyH_take (i := 13) (v := _) rfl (by kernel_rfl) (by kernel_rfl) (by kernel_rfl) (fun _ _ _ h => h) (Or.inr ⟨by rfl, rfl⟩) hS0 ?restr1_13
    simp only [Act.put, List.setIfInBounds_toArray, List.set_cons_zero, List.set_cons_succ, List.getElem_toArray, List.getElem_cons_zero, List.getElem_cons_succ]
    refine' wpAnyH_take (i := 14) (v := _) rfl (by kernel_rfl) (by kernel_rfl) (by kernel_rfl) (fun _ _ _ h => h) (Or.inr ⟨by rfl, rfl⟩) hS0 ?restr1_14
    simp only [Act.put, List.setIfInBounds_toArray, List.set_cons_zero, List.set_cons_succ, List.getElem_toArray, List.getElem_cons_zero, List.getElem_cons_succ]
    refine' wpAnyH_take (i := 15) (v := _) rfl (by kernel_rfl) (by kernel_rfl) (by kernel_rfl) (fun _ _ _ h => h) (Or.inr ⟨by rfl, rfl⟩) hS0 ?restr1_15
    simp only [Act.put, List.setIfInBounds_toArray, List.set_cons_zero, List.set_cons_succ, List.getElem_toArray, List.getElem_cons_zero, List.getElem_cons_succ]
    refine' wpAnyH_take (i := 16) (v := _) rfl (by kernel_rfl) (by kernel_rfl) (by kernel_rfl) (fun _ _ _ h => h) (Or.inr ⟨by rfl, rfl⟩) hS0 ?restr1_16
    simp only [Act.put, List.setIfInBounds_toArray, List.set_cons_zero, List.set_cons_succ, List.getElem_toArray, List.getElem_cons_zero, List.getElem_cons_succ]
    refine' wpAnyH_take (i := 17) (v := _) rfl (by kernel_rfl) (by kernel_rfl) (by kernel_rfl) (fun _ _ _ h => h) (Or.inr ⟨by rfl, rfl⟩) hS0 ?restr1_17
    simp only [Act.put, List.setIfInBounds_toArray, List.set_cons_zero, List.set_cons_succ, List.getElem_toArray, List.getElem_cons_zero, List.getElem_cons_succ]
    refine' wpAnyH_take (i := 18) (v := _) rfl (by kernel_rfl) (by kernel_rfl) (by kernel_rfl) (fun _ _ _ h => h) (Or.inr ⟨by rfl, rfl⟩) hS0 ?restr1_18
    simp only [Act.put, List.setIfInBounds_toArray, List.set_cons_zero, List.set_cons_succ, List.getElem_toArray, List.getElem_cons_zero, List.getElem_cons_succ]
    refine' wpAnyH_take (i := 19) (v := _) rfl (by kernel_rfl) (by kernel_rfl) (by kernel_rfl) (fun _ _ _ h => h) (Or.inr ⟨by rfl, rfl⟩) hS0 ?restr1_19
    simp only [Act.put, List.setIfInBounds_toArray, List.set_cons_zero, List.set_cons_succ, List.getElem_toArray, List.getElem_cons_zero, List.getElem_cons_succ]
    refine' wpAnyH_take (i := 20) (v := _) rfl (by kernel_rfl) (by kernel_rfl) (by kernel_rfl) (fun _ _ _ h => h) (Or.inr ⟨by rfl, rfl⟩) hS0 ?restr1_20
    simp only [Act.put, List.setIfInBounds_toArray, List.set_cons_zero, List.set_cons_succ, List.getElem_toArray, List.getElem_cons_zero, List.getElem_cons_succ]
    refine' wpAnyH_take (i := 21) (v := _) rfl (by kernel_rfl) (by kernel_rfl) (by kernel_rfl) (fun _ _ _ h => h) (Or.inl ⟨by rfl, ?hyr1_21⟩) hS0 ?restr1_21
    case hyr1_21 => (intro w hSw; (try dsimp only at hSw); go_simp; try with_reducible rfl)
    simp only [Act.put, List.setIfInBounds_toArray, List.set_cons_zero, List.set_cons_succ, List.getElem_toArray, List.getElem_cons_zero, List.getElem_cons_succ]
    refine wpAnyH_done (by kernel_rfl) ?_ _
    go_wp2
    go_ret
    exact ⟨by rw [HF.out]; simp, HBE.out.trans (HY0.out.mono HBE.out.size)⟩
  have d1 : decide (den < 0) = false := decide_eq_false c1
  by_cases c2 : 1048576 < den
  · have d2 : decide (1048576 < den) = true := decide_eq_true c2
    have HF : Hid (E = false) := Lib.hid (by rw [HE.out, HO.out, d1, d2]; rfl)
    clear c1 c2
    refine wp_region_held_drew (S := (fun W => W.cell? ⟨w.heap.size, 0, none⟩ = some (.int .i64 k) ∧ W.cell? ⟨w.heap.size, 1, none⟩ = some (.int .i64 cl) ∧ W.cell? ⟨w.heap.size, 2, none⟩ = some (.int .i64 b) ∧ W.cell? ⟨w.heap.size, 3, none⟩ = some (.int .i64 tt) ∧ W.cell? ⟨w.heap.size, 4, none⟩ = some (.int .i64 d) ∧ W.cell? ⟨w.heap.size, 5, none⟩ = some (.int .i64 l) ∧ W.cell? ⟨w.heap.size, 6, none⟩ = some (.int .i64 p) ∧ W.cell? ⟨w.heap.size, 7, none⟩ = some (.int .i64 cols) ∧ W.cell? ⟨w.heap.size, 8, none⟩ = some (.int .u64 (seed : Int)) ∧ W.cell? ⟨w.heap.size, 9, none⟩ = some (.slice Ae ne ce) ∧ W.cell? ⟨w.heap.size, 10, none⟩ = some (.slice At nt ct) ∧ W.cell? ⟨w.heap.size, 11, none⟩ = some (.int .i64 num) ∧ W.cell? ⟨w.heap.size, 12, none⟩ = some (.int .i64 den) ∧ W.cell? ⟨w.heap.size, 13, none⟩ = some (.slice As ns cs))) (by kernel_rfl) ?_ (fun hS0 => ?_)
    · exact (HSS.out _ HY0.out)
    refine' wpAnyH_take (i := 0) (v := _) rfl (by kernel_rfl) (by kernel_rfl) (by kernel_rfl) (fun _ _ _ h => h) (Or.inl ⟨by rfl, ?hyr2_0⟩) hS0 ?restr2_0
    case hyr2_0 => (intro w hSw; (try dsimp only at hSw); go_simp; try with_reducible rfl)
    simp only [Act.put, List.setIfInBounds_toArray, List.set_cons_zero, List.set_cons_succ, List.getElem_toArray, List.getElem_cons_zero, List.getElem_cons_succ]
    refine' wpAnyH_take (i := 1) (v := _) rfl (by kernel_rfl) (by kernel_rfl) (by kernel_rfl) (fun _ _ _ h => h) (Or.inl ⟨by rfl, ?hyr2_1⟩) hS0 ?restr2_1
    case hyr2_1 => (intro w hSw; (try dsimp only at hSw); go_simp; try with_reducible rfl)
    simp only [Act.put, List.setIfInBounds_toArray, List.set_cons_zero, List.set_cons_succ, List.getElem_toArray, List.getElem_cons_zero, List.getElem_cons_succ]
    refine' wpAnyH_take (i := 2) (v := _) rfl (by kernel_rfl) (by kernel_rfl) (by kernel_rfl) (fun _ _ _ h => h) (Or.inl ⟨by rfl, ?hyr2_2⟩) hS0 ?restr2_2
    case hyr2_2 => (intro w hSw; (try dsimp only at hSw); go_simp; try with_reducible rfl)
    simp only [Act.put, List.setIfInBounds_toArray, List.set_cons_zero, List.set_cons_succ, List.getElem_toArray, List.getElem_cons_zero, List.getElem_cons_succ]
    refine' wpAnyH_take (i := 3) (v := _) rfl (by kernel_rfl) (by kernel_rfl) (by kernel_rfl) (fun _ _ _ h => h) (Or.inl ⟨by rfl, ?hyr2_3⟩) hS0 ?restr2_3
    case hyr2_3 => (intro w hSw; (try dsimp only at hSw); go_simp; try with_reducible rfl)
    simp only [Act.put, List.setIfInBounds_toArray, List.set_cons_zero, List.set_cons_succ, List.getElem_toArray, List.getElem_cons_zero, List.getElem_cons_succ]
    refine' wpAnyH_take (i := 4) (v := _) rfl (by kernel_rfl) (by kernel_rfl) (by kernel_rfl) (fun _ _ _ h => h) (Or.inl ⟨by rfl, ?hyr2_4⟩) hS0 ?restr2_4
    case hyr2_4 => (intro w hSw; (try dsimp only at hSw); go_simp; try with_reducible rfl)
    simp only [Act.put, List.setIfInBounds_toArray, List.set_cons_zero, List.set_cons_succ, List.getElem_toArray, List.getElem_cons_zero, List.getElem_cons_succ]
    refine' wpAnyH_take (i := 5) (v := _) rfl (by kernel_rfl) (by kernel_rfl) (by kernel_rfl) (fun _ _ _ h => h) (Or.inl ⟨by rfl, ?hyr2_5⟩) hS0 ?restr2_5
    case hyr2_5 => (intro w hSw; (try dsimp only at hSw); go_simp; try with_reducible rfl)
    simp only [Act.put, List.setIfInBounds_toArray, List.set_cons_zero, List.set_cons_succ, List.getElem_toArray, List.getElem_cons_zero, List.getElem_cons_succ]
    refine' wpAnyH_take (i := 6) (v := _) rfl (by kernel_rfl) (by kernel_rfl) (by kernel_rfl) (fun _ _ _ h => h) (Or.inl ⟨by rfl, ?hyr2_6⟩) hS0 ?restr2_6
    case hyr2_6 => (intro w hSw; (try dsimp only at hSw); go_simp; try with_reducible rfl)
    simp only [Act.put, List.setIfInBounds_toArray, List.set_cons_zero, List.set_cons_succ, List.getElem_toArray, List.getElem_cons_zero, List.getElem_cons_succ]
    refine' wpAnyH_take (i := 7) (v := _) rfl (by kernel_rfl) (by kernel_rfl) (by kernel_rfl) (fun _ _ _ h => h) (Or.inr ⟨by rfl, rfl⟩) hS0 ?restr2_7
    simp only [Act.put, List.setIfInBounds_toArray, List.set_cons_zero, List.set_cons_succ, List.getElem_toArray, List.getElem_cons_zero, List.getElem_cons_succ]
    refine' wpAnyH_take (i := 8) (v := _) rfl (by kernel_rfl) (by kernel_rfl) (by kernel_rfl) (fun _ _ _ h => h) (Or.inr ⟨by rfl, rfl⟩) hS0 ?restr2_8
    simp only [Act.put, List.setIfInBounds_toArray, List.set_cons_zero, List.set_cons_succ, List.getElem_toArray, List.getElem_cons_zero, List.getElem_cons_succ]
    refine' wpAnyH_take (i := 9) (v := _) rfl (by kernel_rfl) (by kernel_rfl) (by kernel_rfl) (fun _ _ _ h => h) (Or.inr ⟨by rfl, rfl⟩) hS0 ?restr2_9
    simp only [Act.put, List.setIfInBounds_toArray, List.set_cons_zero, List.set_cons_succ, List.getElem_toArray, List.getElem_cons_zero, List.getElem_cons_succ]
    refine' wpAnyH_take (i := 10) (v := _) rfl (by kernel_rfl) (by kernel_rfl) (by kernel_rfl) (fun _ _ _ h => h) (Or.inr ⟨by rfl, rfl⟩) hS0 ?restr2_10
    simp only [Act.put, List.setIfInBounds_toArray, List.set_cons_zero, List.set_cons_succ, List.getElem_toArray, List.getElem_cons_zero, List.getElem_cons_succ]
    refine' wpAnyH_take (i := 11) (v := _) rfl (by kernel_rfl) (by kernel_rfl) (by kernel_rfl) (fun _ _ _ h => h) (Or.inl ⟨by rfl, ?hyr2_11⟩) hS0 ?restr2_11
    case hyr2_11 => (intro w hSw; (try dsimp only at hSw); go_simp; try with_reducible rfl)
    simp only [Act.put, List.setIfInBounds_toArray, List.set_cons_zero, List.set_cons_succ, List.getElem_toArray, List.getElem_cons_zero, List.getElem_cons_succ]
    refine' wpAnyH_take (i := 12) (v := _) rfl (by kernel_rfl) (by kernel_rfl) (by kernel_rfl) (fun _ _ _ h => h) (Or.inl ⟨by rfl, ?hyr2_12⟩) hS0 ?restr2_12
    case hyr2_12 => (intro w hSw; (try dsimp only at hSw); go_simp; try with_reducible rfl)
    simp only [Act.put, List.setIfInBounds_toArray, List.set_cons_zero, List.set_cons_succ, List.getElem_toArray, List.getElem_cons_zero, List.getElem_cons_succ]
    refine' wpAnyH_take (i := 13) (v := _) rfl (by kernel_rfl) (by kernel_rfl) (by kernel_rfl) (fun _ _ _ h => h) (Or.inr ⟨by rfl, rfl⟩) hS0 ?restr2_13
    simp only [Act.put, List.setIfInBounds_toArray, List.set_cons_zero, List.set_cons_succ, List.getElem_toArray, List.getElem_cons_zero, List.getElem_cons_succ]
    refine' wpAnyH_take (i := 14) (v := _) rfl (by kernel_rfl) (by kernel_rfl) (by kernel_rfl) (fun _ _ _ h => h) (Or.inr ⟨by rfl, rfl⟩) hS0 ?restr2_14
    simp only [Act.put, List.setIfInBounds_toArray, List.set_cons_zero, List.set_cons_succ, List.getElem_toArray, List.getElem_cons_zero, List.getElem_cons_succ]
    refine' wpAnyH_take (i := 15) (v := _) rfl (by kernel_rfl) (by kernel_rfl) (by kernel_rfl) (fun _ _ _ h => h) (Or.inr ⟨by rfl, rfl⟩) hS0 ?restr2_15
    simp only [Act.put, List.setIfInBounds_toArray, List.set_cons_zero, List.set_cons_succ, List.getElem_toArray, List.getElem_cons_zero, List.getElem_cons_succ]
    refine' wpAnyH_take (i := 16) (v := _) rfl (by kernel_rfl) (by kernel_rfl) (by kernel_rfl) (fun _ _ _ h => h) (Or.inr ⟨by rfl, rfl⟩) hS0 ?restr2_16
    simp only [Act.put, List.setIfInBounds_toArray, List.set_cons_zero, List.set_cons_succ, List.getElem_toArray, List.getElem_cons_zero, List.getElem_cons_succ]
    refine' wpAnyH_take (i := 17) (v := _) rfl (by kernel_rfl) (by kernel_rfl) (by kernel_rfl) (fun _ _ _ h => h) (Or.inr ⟨by rfl, rfl⟩) hS0 ?restr2_17
    simp only [Act.put, List.setIfInBounds_toArray, List.set_cons_zero, List.set_cons_succ, List.getElem_toArray, List.getElem_cons_zero, List.getElem_cons_succ]
    refine' wpAnyH_take (i := 18) (v := _) rfl (by kernel_rfl) (by kernel_rfl) (by kernel_rfl) (fun _ _ _ h => h) (Or.inr ⟨by rfl, rfl⟩) hS0 ?restr2_18
    simp only [Act.put, List.setIfInBounds_toArray, List.set_cons_zero, List.set_cons_succ, List.getElem_toArray, List.getElem_cons_zero, List.getElem_cons_succ]
    refine' wpAnyH_take (i := 19) (v := _) rfl (by kernel_rfl) (by kernel_rfl) (by kernel_rfl) (fun _ _ _ h => h) (Or.inr ⟨by rfl, rfl⟩) hS0 ?restr2_19
    simp only [Act.put, List.setIfInBounds_toArray, List.set_cons_zero, List.set_cons_succ, List.getElem_toArray, List.getElem_cons_zero, List.getElem_cons_succ]
    refine' wpAnyH_take (i := 20) (v := _) rfl (by kernel_rfl) (by kernel_rfl) (by kernel_rfl) (fun _ _ _ h => h) (Or.inr ⟨by rfl, rfl⟩) hS0 ?restr2_20
    simp only [Act.put, List.setIfInBounds_toArray, List.set_cons_zero, List.set_cons_succ, List.getElem_toArray, List.getElem_cons_zero, List.getElem_cons_succ]
    refine' wpAnyH_take (i := 21) (v := _) rfl (by kernel_rfl) (by kernel_rfl) (by kernel_rfl) (fun _ _ _ h => h) (Or.inl ⟨by rfl, ?hyr2_21⟩) hS0 ?restr2_21
    case hyr2_21 => (intro w hSw; (try dsimp only at hSw); go_simp; try with_reducible rfl)
    simp only [Act.put, List.setIfInBounds_toArray, List.set_cons_zero, List.set_cons_succ, List.getElem_toArray, List.getElem_cons_zero, List.getElem_cons_succ]
    refine wpAnyH_done (by kernel_rfl) ?_ _
    go_wp2
    go_ret
    exact ⟨by rw [HF.out]; simp, HBE.out.trans (HY0.out.mono HBE.out.size)⟩
  have d2 : decide (1048576 < den) = false := decide_eq_false c2
  by_cases c3 : num < 0
  · have d3 : decide (num < 0) = true := decide_eq_true c3
    have HF : Hid (E = false) := Lib.hid (by rw [HE.out, HO.out, d1, d2, d3]; rfl)
    clear c1 c2 c3
    refine wp_region_held_drew (S := (fun W => W.cell? ⟨w.heap.size, 0, none⟩ = some (.int .i64 k) ∧ W.cell? ⟨w.heap.size, 1, none⟩ = some (.int .i64 cl) ∧ W.cell? ⟨w.heap.size, 2, none⟩ = some (.int .i64 b) ∧ W.cell? ⟨w.heap.size, 3, none⟩ = some (.int .i64 tt) ∧ W.cell? ⟨w.heap.size, 4, none⟩ = some (.int .i64 d) ∧ W.cell? ⟨w.heap.size, 5, none⟩ = some (.int .i64 l) ∧ W.cell? ⟨w.heap.size, 6, none⟩ = some (.int .i64 p) ∧ W.cell? ⟨w.heap.size, 7, none⟩ = some (.int .i64 cols) ∧ W.cell? ⟨w.heap.size, 8, none⟩ = some (.int .u64 (seed : Int)) ∧ W.cell? ⟨w.heap.size, 9, none⟩ = some (.slice Ae ne ce) ∧ W.cell? ⟨w.heap.size, 10, none⟩ = some (.slice At nt ct) ∧ W.cell? ⟨w.heap.size, 11, none⟩ = some (.int .i64 num) ∧ W.cell? ⟨w.heap.size, 12, none⟩ = some (.int .i64 den) ∧ W.cell? ⟨w.heap.size, 13, none⟩ = some (.slice As ns cs))) (by kernel_rfl) ?_ (fun hS0 => ?_)
    · exact (HSS.out _ HY0.out)
    refine' wpAnyH_take (i := 0) (v := _) rfl (by kernel_rfl) (by kernel_rfl) (by kernel_rfl) (fun _ _ _ h => h) (Or.inl ⟨by rfl, ?hyr3_0⟩) hS0 ?restr3_0
    case hyr3_0 => (intro w hSw; (try dsimp only at hSw); go_simp; try with_reducible rfl)
    simp only [Act.put, List.setIfInBounds_toArray, List.set_cons_zero, List.set_cons_succ, List.getElem_toArray, List.getElem_cons_zero, List.getElem_cons_succ]
    refine' wpAnyH_take (i := 1) (v := _) rfl (by kernel_rfl) (by kernel_rfl) (by kernel_rfl) (fun _ _ _ h => h) (Or.inl ⟨by rfl, ?hyr3_1⟩) hS0 ?restr3_1
    case hyr3_1 => (intro w hSw; (try dsimp only at hSw); go_simp; try with_reducible rfl)
    simp only [Act.put, List.setIfInBounds_toArray, List.set_cons_zero, List.set_cons_succ, List.getElem_toArray, List.getElem_cons_zero, List.getElem_cons_succ]
    refine' wpAnyH_take (i := 2) (v := _) rfl (by kernel_rfl) (by kernel_rfl) (by kernel_rfl) (fun _ _ _ h => h) (Or.inl ⟨by rfl, ?hyr3_2⟩) hS0 ?restr3_2
    case hyr3_2 => (intro w hSw; (try dsimp only at hSw); go_simp; try with_reducible rfl)
    simp only [Act.put, List.setIfInBounds_toArray, List.set_cons_zero, List.set_cons_succ, List.getElem_toArray, List.getElem_cons_zero, List.getElem_cons_succ]
    refine' wpAnyH_take (i := 3) (v := _) rfl (by kernel_rfl) (by kernel_rfl) (by kernel_rfl) (fun _ _ _ h => h) (Or.inl ⟨by rfl, ?hyr3_3⟩) hS0 ?restr3_3
    case hyr3_3 => (intro w hSw; (try dsimp only at hSw); go_simp; try with_reducible rfl)
    simp only [Act.put, List.setIfInBounds_toArray, List.set_cons_zero, List.set_cons_succ, List.getElem_toArray, List.getElem_cons_zero, List.getElem_cons_succ]
    refine' wpAnyH_take (i := 4) (v := _) rfl (by kernel_rfl) (by kernel_rfl) (by kernel_rfl) (fun _ _ _ h => h) (Or.inl ⟨by rfl, ?hyr3_4⟩) hS0 ?restr3_4
    case hyr3_4 => (intro w hSw; (try dsimp only at hSw); go_simp; try with_reducible rfl)
    simp only [Act.put, List.setIfInBounds_toArray, List.set_cons_zero, List.set_cons_succ, List.getElem_toArray, List.getElem_cons_zero, List.getElem_cons_succ]
    refine' wpAnyH_take (i := 5) (v := _) rfl (by kernel_rfl) (by kernel_rfl) (by kernel_rfl) (fun _ _ _ h => h) (Or.inl ⟨by rfl, ?hyr3_5⟩) hS0 ?restr3_5
    case hyr3_5 => (intro w hSw; (try dsimp only at hSw); go_simp; try with_reducible rfl)
    simp only [Act.put, List.setIfInBounds_toArray, List.set_cons_zero, List.set_cons_succ, List.getElem_toArray, List.getElem_cons_zero, List.getElem_cons_succ]
    refine' wpAnyH_take (i := 6) (v := _) rfl (by kernel_rfl) (by kernel_rfl) (by kernel_rfl) (fun _ _ _ h => h) (Or.inl ⟨by rfl, ?hyr3_6⟩) hS0 ?restr3_6
    case hyr3_6 => (intro w hSw; (try dsimp only at hSw); go_simp; try with_reducible rfl)
    simp only [Act.put, List.setIfInBounds_toArray, List.set_cons_zero, List.set_cons_succ, List.getElem_toArray, List.getElem_cons_zero, List.getElem_cons_succ]
    refine' wpAnyH_take (i := 7) (v := _) rfl (by kernel_rfl) (by kernel_rfl) (by kernel_rfl) (fun _ _ _ h => h) (Or.inl ⟨by rfl, ?hyr3_7⟩) hS0 ?restr3_7
    case hyr3_7 => (intro w hSw; (try dsimp only at hSw); go_simp; try with_reducible rfl)
    simp only [Act.put, List.setIfInBounds_toArray, List.set_cons_zero, List.set_cons_succ, List.getElem_toArray, List.getElem_cons_zero, List.getElem_cons_succ]
    refine' wpAnyH_take (i := 8) (v := _) rfl (by kernel_rfl) (by kernel_rfl) (by kernel_rfl) (fun _ _ _ h => h) (Or.inl ⟨by rfl, ?hyr3_8⟩) hS0 ?restr3_8
    case hyr3_8 => (intro w hSw; (try dsimp only at hSw); go_simp; try with_reducible rfl)
    simp only [Act.put, List.setIfInBounds_toArray, List.set_cons_zero, List.set_cons_succ, List.getElem_toArray, List.getElem_cons_zero, List.getElem_cons_succ]
    refine' wpAnyH_take (i := 9) (v := _) rfl (by kernel_rfl) (by kernel_rfl) (by kernel_rfl) (fun _ _ _ h => h) (Or.inl ⟨by rfl, ?hyr3_9⟩) hS0 ?restr3_9
    case hyr3_9 => (intro w hSw; (try dsimp only at hSw); go_simp; try with_reducible rfl)
    simp only [Act.put, List.setIfInBounds_toArray, List.set_cons_zero, List.set_cons_succ, List.getElem_toArray, List.getElem_cons_zero, List.getElem_cons_succ]
    refine' wpAnyH_take (i := 10) (v := _) rfl (by kernel_rfl) (by kernel_rfl) (by kernel_rfl) (fun _ _ _ h => h) (Or.inl ⟨by rfl, ?hyr3_10⟩) hS0 ?restr3_10
    case hyr3_10 => (intro w hSw; (try dsimp only at hSw); go_simp; try with_reducible rfl)
    simp only [Act.put, List.setIfInBounds_toArray, List.set_cons_zero, List.set_cons_succ, List.getElem_toArray, List.getElem_cons_zero, List.getElem_cons_succ]
    refine' wpAnyH_take (i := 11) (v := _) rfl (by kernel_rfl) (by kernel_rfl) (by kernel_rfl) (fun _ _ _ h => h) (Or.inl ⟨by rfl, ?hyr3_11⟩) hS0 ?restr3_11
    case hyr3_11 => (intro w hSw; (try dsimp only at hSw); go_simp; try with_reducible rfl)
    simp only [Act.put, List.setIfInBounds_toArray, List.set_cons_zero, List.set_cons_succ, List.getElem_toArray, List.getElem_cons_zero, List.getElem_cons_succ]
    refine' wpAnyH_take (i := 12) (v := _) rfl (by kernel_rfl) (by kernel_rfl) (by kernel_rfl) (fun _ _ _ h => h) (Or.inl ⟨by rfl, ?hyr3_12⟩) hS0 ?restr3_12
    case hyr3_12 => (intro w hSw; (try dsimp only at hSw); go_simp; try with_reducible rfl)
    simp only [Act.put, List.setIfInBounds_toArray, List.set_cons_zero, List.set_cons_succ, List.getElem_toArray, List.getElem_cons_zero, List.getElem_cons_succ]
    refine' wpAnyH_take (i := 13) (v := _) rfl (by kernel_rfl) (by kernel_rfl) (by kernel_rfl) (fun _ _ _ h => h) (Or.inr ⟨by rfl, rfl⟩) hS0 ?restr3_13
    simp only [Act.put, List.setIfInBounds_toArray, List.set_cons_zero, List.set_cons_succ, List.getElem_toArray, List.getElem_cons_zero, List.getElem_cons_succ]
    refine' wpAnyH_take (i := 14) (v := _) rfl (by kernel_rfl) (by kernel_rfl) (by kernel_rfl) (fun _ _ _ h => h) (Or.inr ⟨by rfl, rfl⟩) hS0 ?restr3_14
    simp only [Act.put, List.setIfInBounds_toArray, List.set_cons_zero, List.set_cons_succ, List.getElem_toArray, List.getElem_cons_zero, List.getElem_cons_succ]
    refine' wpAnyH_take (i := 15) (v := _) rfl (by kernel_rfl) (by kernel_rfl) (by kernel_rfl) (fun _ _ _ h => h) (Or.inr ⟨by rfl, rfl⟩) hS0 ?restr3_15
    simp only [Act.put, List.setIfInBounds_toArray, List.set_cons_zero, List.set_cons_succ, List.getElem_toArray, List.getElem_cons_zero, List.getElem_cons_succ]
    refine' wpAnyH_take (i := 16) (v := _) rfl (by kernel_rfl) (by kernel_rfl) (by kernel_rfl) (fun _ _ _ h => h) (Or.inr ⟨by rfl, rfl⟩) hS0 ?restr3_16
    simp only [Act.put, List.setIfInBounds_toArray, List.set_cons_zero, List.set_cons_succ, List.getElem_toArray, List.getElem_cons_zero, List.getElem_cons_succ]
    refine' wpAnyH_take (i := 17) (v := _) rfl (by kernel_rfl) (by kernel_rfl) (by kernel_rfl) (fun _ _ _ h => h) (Or.inr ⟨by rfl, rfl⟩) hS0 ?restr3_17
    simp only [Act.put, List.setIfInBounds_toArray, List.set_cons_zero, List.set_cons_succ, List.getElem_toArray, List.getElem_cons_zero, List.getElem_cons_succ]
    refine' wpAnyH_take (i := 18) (v := _) rfl (by kernel_rfl) (by kernel_rfl) (by kernel_rfl) (fun _ _ _ h => h) (Or.inr ⟨by rfl, rfl⟩) hS0 ?restr3_18
    simp only [Act.put, List.setIfInBounds_toArray, List.set_cons_zero, List.set_cons_succ, List.getElem_toArray, List.getElem_cons_zero, List.getElem_cons_succ]
    refine' wpAnyH_take (i := 19) (v := _) rfl (by kernel_rfl) (by kernel_rfl) (by kernel_rfl) (fun _ _ _ h => h) (Or.inr ⟨by rfl, rfl⟩) hS0 ?restr3_19
    simp only [Act.put, List.setIfInBounds_toArray, List.set_cons_zero, List.set_cons_succ, List.getElem_toArray, List.getElem_cons_zero, List.getElem_cons_succ]
    refine' wpAnyH_take (i := 20) (v := _) rfl (by kernel_rfl) (by kernel_rfl) (by kernel_rfl) (fun _ _ _ h => h) (Or.inr ⟨by rfl, rfl⟩) hS0 ?restr3_20
    simp only [Act.put, List.setIfInBounds_toArray, List.set_cons_zero, List.set_cons_succ, List.getElem_toArray, List.getElem_cons_zero, List.getElem_cons_succ]
    refine' wpAnyH_take (i := 21) (v := _) rfl (by kernel_rfl) (by kernel_rfl) (by kernel_rfl) (fun _ _ _ h => h) (Or.inl ⟨by rfl, ?hyr3_21⟩) hS0 ?restr3_21
    case hyr3_21 => (intro w hSw; (try dsimp only at hSw); go_simp; try with_reducible rfl)
    simp only [Act.put, List.setIfInBounds_toArray, List.set_cons_zero, List.set_cons_succ, List.getElem_toArray, List.getElem_cons_zero, List.getElem_cons_succ]
    refine wpAnyH_done (by kernel_rfl) ?_ _
    go_wp2
    go_ret
    exact ⟨by rw [HF.out]; simp, HBE.out.trans (HY0.out.mono HBE.out.size)⟩
  have d3 : decide (num < 0) = false := decide_eq_false c3
  by_cases c4 : B < num
  · have d4 : decide (B < num) = true := decide_eq_true c4
    have HF : Hid (E = false) := Lib.hid (by rw [HE.out, HO.out, d1, d2, d3, d4]; rfl)
    clear c1 c2 c3 c4
    refine wp_region_held_drew (S := (fun W => W.cell? ⟨w.heap.size, 0, none⟩ = some (.int .i64 k) ∧ W.cell? ⟨w.heap.size, 1, none⟩ = some (.int .i64 cl) ∧ W.cell? ⟨w.heap.size, 2, none⟩ = some (.int .i64 b) ∧ W.cell? ⟨w.heap.size, 3, none⟩ = some (.int .i64 tt) ∧ W.cell? ⟨w.heap.size, 4, none⟩ = some (.int .i64 d) ∧ W.cell? ⟨w.heap.size, 5, none⟩ = some (.int .i64 l) ∧ W.cell? ⟨w.heap.size, 6, none⟩ = some (.int .i64 p) ∧ W.cell? ⟨w.heap.size, 7, none⟩ = some (.int .i64 cols) ∧ W.cell? ⟨w.heap.size, 8, none⟩ = some (.int .u64 (seed : Int)) ∧ W.cell? ⟨w.heap.size, 9, none⟩ = some (.slice Ae ne ce) ∧ W.cell? ⟨w.heap.size, 10, none⟩ = some (.slice At nt ct) ∧ W.cell? ⟨w.heap.size, 11, none⟩ = some (.int .i64 num) ∧ W.cell? ⟨w.heap.size, 12, none⟩ = some (.int .i64 den) ∧ W.cell? ⟨w.heap.size, 13, none⟩ = some (.slice As ns cs))) (by kernel_rfl) ?_ (fun hS0 => ?_)
    · exact (HSS.out _ HY0.out)
    refine' wpAnyH_take (i := 0) (v := _) rfl (by kernel_rfl) (by kernel_rfl) (by kernel_rfl) (fun _ _ _ h => h) (Or.inl ⟨by rfl, ?hyr4_0⟩) hS0 ?restr4_0
    case hyr4_0 => (intro w hSw; (try dsimp only at hSw); go_simp; try with_reducible rfl)
    simp only [Act.put, List.setIfInBounds_toArray, List.set_cons_zero, List.set_cons_succ, List.getElem_toArray, List.getElem_cons_zero, List.getElem_cons_succ]
    refine' wpAnyH_take (i := 1) (v := _) rfl (by kernel_rfl) (by kernel_rfl) (by kernel_rfl) (fun _ _ _ h => h) (Or.inl ⟨by rfl, ?hyr4_1⟩) hS0 ?restr4_1
    case hyr4_1 => (intro w hSw; (try dsimp only at hSw); go_simp; try with_reducible rfl)
    simp only [Act.put, List.setIfInBounds_toArray, List.set_cons_zero, List.set_cons_succ, List.getElem_toArray, List.getElem_cons_zero, List.getElem_cons_succ]
    refine' wpAnyH_take (i := 2) (v := _) rfl (by kernel_rfl) (by kernel_rfl) (by kernel_rfl) (fun _ _ _ h => h) (Or.inl ⟨by rfl, ?hyr4_2⟩) hS0 ?restr4_2
    case hyr4_2 => (intro w hSw; (try dsimp only at hSw); go_simp; try with_reducible rfl)
    simp only [Act.put, List.setIfInBounds_toArray, List.set_cons_zero, List.set_cons_succ, List.getElem_toArray, List.getElem_cons_zero, List.getElem_cons_succ]
    refine' wpAnyH_take (i := 3) (v := _) rfl (by kernel_rfl) (by kernel_rfl) (by kernel_rfl) (fun _ _ _ h => h) (Or.inl ⟨by rfl, ?hyr4_3⟩) hS0 ?restr4_3
    case hyr4_3 => (intro w hSw; (try dsimp only at hSw); go_simp; try with_reducible rfl)
    simp only [Act.put, List.setIfInBounds_toArray, List.set_cons_zero, List.set_cons_succ, List.getElem_toArray, List.getElem_cons_zero, List.getElem_cons_succ]
    refine' wpAnyH_take (i := 4) (v := _) rfl (by kernel_rfl) (by kernel_rfl) (by kernel_rfl) (fun _ _ _ h => h) (Or.inl ⟨by rfl, ?hyr4_4⟩) hS0 ?restr4_4
    case hyr4_4 => (intro w hSw; (try dsimp only at hSw); go_simp; try with_reducible rfl)
    simp only [Act.put, List.setIfInBounds_toArray, List.set_cons_zero, List.set_cons_succ, List.getElem_toArray, List.getElem_cons_zero, List.getElem_cons_succ]
    refine' wpAnyH_take (i := 5) (v := _) rfl (by kernel_rfl) (by kernel_rfl) (by kernel_rfl) (fun _ _ _ h => h) (Or.inl ⟨by rfl, ?hyr4_5⟩) hS0 ?restr4_5
    case hyr4_5 => (intro w hSw; (try dsimp only at hSw); go_simp; try with_reducible rfl)
    simp only [Act.put, List.setIfInBounds_toArray, List.set_cons_zero, List.set_cons_succ, List.getElem_toArray, List.getElem_cons_zero, List.getElem_cons_succ]
    refine' wpAnyH_take (i := 6) (v := _) rfl (by kernel_rfl) (by kernel_rfl) (by kernel_rfl) (fun _ _ _ h => h) (Or.inl ⟨by rfl, ?hyr4_6⟩) hS0 ?restr4_6
    case hyr4_6 => (intro w hSw; (try dsimp only at hSw); go_simp; try with_reducible rfl)
    simp only [Act.put, List.setIfInBounds_toArray, List.set_cons_zero, List.set_cons_succ, List.getElem_toArray, List.getElem_cons_zero, List.getElem_cons_succ]
    refine' wpAnyH_take (i := 7) (v := _) rfl (by kernel_rfl) (by kernel_rfl) (by kernel_rfl) (fun _ _ _ h => h) (Or.inl ⟨by rfl, ?hyr4_7⟩) hS0 ?restr4_7
    case hyr4_7 => (intro w hSw; (try dsimp only at hSw); go_simp; try with_reducible rfl)
    simp only [Act.put, List.setIfInBounds_toArray, List.set_cons_zero, List.set_cons_succ, List.getElem_toArray, List.getElem_cons_zero, List.getElem_cons_succ]
    refine' wpAnyH_take (i := 8) (v := _) rfl (by kernel_rfl) (by kernel_rfl) (by kernel_rfl) (fun _ _ _ h => h) (Or.inl ⟨by rfl, ?hyr4_8⟩) hS0 ?restr4_8
    case hyr4_8 => (intro w hSw; (try dsimp only at hSw); go_simp; try with_reducible rfl)
    simp only [Act.put, List.setIfInBounds_toArray, List.set_cons_zero, List.set_cons_succ, List.getElem_toArray, List.getElem_cons_zero, List.getElem_cons_succ]
    refine' wpAnyH_take (i := 9) (v := _) rfl (by kernel_rfl) (by kernel_rfl) (by kernel_rfl) (fun _ _ _ h => h) (Or.inl ⟨by rfl, ?hyr4_9⟩) hS0 ?restr4_9
    case hyr4_9 => (intro w hSw; (try dsimp only at hSw); go_simp; try with_reducible rfl)
    simp only [Act.put, List.setIfInBounds_toArray, List.set_cons_zero, List.set_cons_succ, List.getElem_toArray, List.getElem_cons_zero, List.getElem_cons_succ]
    refine' wpAnyH_take (i := 10) (v := _) rfl (by kernel_rfl) (by kernel_rfl) (by kernel_rfl) (fun _ _ _ h => h) (Or.inl ⟨by rfl, ?hyr4_10⟩) hS0 ?restr4_10
    case hyr4_10 => (intro w hSw; (try dsimp only at hSw); go_simp; try with_reducible rfl)
    simp only [Act.put, List.setIfInBounds_toArray, List.set_cons_zero, List.set_cons_succ, List.getElem_toArray, List.getElem_cons_zero, List.getElem_cons_succ]
    refine' wpAnyH_take (i := 11) (v := _) rfl (by kernel_rfl) (by kernel_rfl) (by kernel_rfl) (fun _ _ _ h => h) (Or.inl ⟨by rfl, ?hyr4_11⟩) hS0 ?restr4_11
    case hyr4_11 => (intro w hSw; (try dsimp only at hSw); go_simp; try with_reducible rfl)
    simp only [Act.put, List.setIfInBounds_toArray, List.set_cons_zero, List.set_cons_succ, List.getElem_toArray, List.getElem_cons_zero, List.getElem_cons_succ]
    refine' wpAnyH_take (i := 12) (v := _) rfl (by kernel_rfl) (by kernel_rfl) (by kernel_rfl) (fun _ _ _ h => h) (Or.inl ⟨by rfl, ?hyr4_12⟩) hS0 ?restr4_12
    case hyr4_12 => (intro w hSw; (try dsimp only at hSw); go_simp; try with_reducible rfl)
    simp only [Act.put, List.setIfInBounds_toArray, List.set_cons_zero, List.set_cons_succ, List.getElem_toArray, List.getElem_cons_zero, List.getElem_cons_succ]
    refine' wpAnyH_take (i := 13) (v := _) rfl (by kernel_rfl) (by kernel_rfl) (by kernel_rfl) (fun _ _ _ h => h) (Or.inl ⟨by rfl, ?hyr4_13⟩) hS0 ?restr4_13
    case hyr4_13 => (intro w hSw; (try dsimp only at hSw); go_simp; try with_reducible rfl)
    simp only [Act.put, List.setIfInBounds_toArray, List.set_cons_zero, List.set_cons_succ, List.getElem_toArray, List.getElem_cons_zero, List.getElem_cons_succ]
    refine' wpAnyH_take (i := 14) (v := _) rfl (by kernel_rfl) (by kernel_rfl) (by kernel_rfl) (fun _ _ _ h => h) (Or.inl ⟨by rfl, ?hyr4_14⟩) hS0 ?restr4_14
    case hyr4_14 => (intro w hSw; (try dsimp only at hSw); go_simp; try with_reducible rfl)
    simp only [Act.put, List.setIfInBounds_toArray, List.set_cons_zero, List.set_cons_succ, List.getElem_toArray, List.getElem_cons_zero, List.getElem_cons_succ]
    refine' wpAnyH_take (i := 15) (v := _) rfl (by kernel_rfl) (by kernel_rfl) (by kernel_rfl) (fun _ _ _ h => h) (Or.inl ⟨by rfl, ?hyr4_15⟩) hS0 ?restr4_15
    case hyr4_15 => (intro w hSw; (try dsimp only at hSw); go_simp; try with_reducible rfl)
    simp only [Act.put, List.setIfInBounds_toArray, List.set_cons_zero, List.set_cons_succ, List.getElem_toArray, List.getElem_cons_zero, List.getElem_cons_succ]
    refine' wpAnyH_take (i := 16) (v := _) rfl (by kernel_rfl) (by kernel_rfl) (by kernel_rfl) (fun _ _ _ h => h) (Or.inl ⟨by rfl, ?hyr4_16⟩) hS0 ?restr4_16
    case hyr4_16 => (intro w hSw; (try dsimp only at hSw); go_simp; try with_reducible rfl)
    simp only [Act.put, List.setIfInBounds_toArray, List.set_cons_zero, List.set_cons_succ, List.getElem_toArray, List.getElem_cons_zero, List.getElem_cons_succ]
    refine' wpAnyH_take (i := 17) (v := _) rfl (by kernel_rfl) (by kernel_rfl) (by kernel_rfl) (fun _ _ _ h => h) (Or.inl ⟨by rfl, ?hyr4_17⟩) hS0 ?restr4_17
    case hyr4_17 => (intro w hSw; (try dsimp only at hSw); go_simp; try with_reducible rfl)
    simp only [Act.put, List.setIfInBounds_toArray, List.set_cons_zero, List.set_cons_succ, List.getElem_toArray, List.getElem_cons_zero, List.getElem_cons_succ]
    refine' wpAnyH_take (i := 18) (v := _) rfl (by kernel_rfl) (by kernel_rfl) (by kernel_rfl) (fun _ _ _ h => h) (Or.inl ⟨by rfl, ?hyr4_18⟩) hS0 ?restr4_18
    case hyr4_18 => (intro w hSw; (try dsimp only at hSw); go_simp; try with_reducible rfl)
    simp only [Act.put, List.setIfInBounds_toArray, List.set_cons_zero, List.set_cons_succ, List.getElem_toArray, List.getElem_cons_zero, List.getElem_cons_succ]
    refine wpAnyH_ready (rs := [19]) (by kernel_rfl) (by simp) ?_
    refine AllReadyH.cons rfl (fun K hK => ?_) AllReadyH.nil
    go_simp
    refine (KB2.out _).mono ?_
    rintro e wb1 ⟨rfl, hb⟩
    have HY1 := Lib.hid (HY0.out.trans (hb.mono HY0.out.size))
    clear hb
    refine hK.out _ _ (HSS.out _ HY1.out) (fun hS1 => ?_)
    clear hK K
    refine' wpAnyH_take (i := 20) (v := _) rfl (by kernel_rfl) (by kernel_rfl) (by kernel_rfl) (fun _ _ _ h => h) (Or.inl ⟨by rfl, ?hyr4_20⟩) hS1 ?restr4_20
    case hyr4_20 => (intro w hSw; (try dsimp only at hSw); go_simp; try with_reducible rfl)
    simp only [Act.put, List.setIfInBounds_toArray, List.set_cons_zero, List.set_cons_succ, List.getElem_toArray, List.getElem_cons_zero, List.getElem_cons_succ]
    refine' wpAnyH_take (i := 21) (v := _) rfl (by kernel_rfl) (by kernel_rfl) (by kernel_rfl) (fun _ _ _ h => h) (Or.inl ⟨by rfl, ?hyr4_21⟩) hS1 ?restr4_21
    case hyr4_21 => (intro w hSw; (try dsimp only at hSw); go_simp; try with_reducible rfl)
    simp only [Act.put, List.setIfInBounds_toArray, List.set_cons_zero, List.set_cons_succ, List.getElem_toArray, List.getElem_cons_zero, List.getElem_cons_succ]
    refine wpAnyH_done (by kernel_rfl) ?_ _
    go_wp2
    go_ret
    exact ⟨by rw [HF.out]; simp, HBE.out.trans (HY1.out.mono HBE.out.size)⟩
  have d4 : decide (B < num) = false := decide_eq_false c4
  have HE2 : Hid (E = (SA && ((ns : Int) == cols))) := Lib.hid (by rw [HE.out, HO.out, d1, d2, d3, d4]; rfl)
  clear c1 c2 c3 c4
  refine wp_region_held_drew (S := (fun W => W.cell? ⟨w.heap.size, 0, none⟩ = some (.int .i64 k) ∧ W.cell? ⟨w.heap.size, 1, none⟩ = some (.int .i64 cl) ∧ W.cell? ⟨w.heap.size, 2, none⟩ = some (.int .i64 b) ∧ W.cell? ⟨w.heap.size, 3, none⟩ = some (.int .i64 tt) ∧ W.cell? ⟨w.heap.size, 4, none⟩ = some (.int .i64 d) ∧ W.cell? ⟨w.heap.size, 5, none⟩ = some (.int .i64 l) ∧ W.cell? ⟨w.heap.size, 6, none⟩ = some (.int .i64 p) ∧ W.cell? ⟨w.heap.size, 7, none⟩ = some (.int .i64 cols) ∧ W.cell? ⟨w.heap.size, 8, none⟩ = some (.int .u64 (seed : Int)) ∧ W.cell? ⟨w.heap.size, 9, none⟩ = some (.slice Ae ne ce) ∧ W.cell? ⟨w.heap.size, 10, none⟩ = some (.slice At nt ct) ∧ W.cell? ⟨w.heap.size, 11, none⟩ = some (.int .i64 num) ∧ W.cell? ⟨w.heap.size, 12, none⟩ = some (.int .i64 den) ∧ W.cell? ⟨w.heap.size, 13, none⟩ = some (.slice As ns cs))) (by kernel_rfl) ?_ (fun hS0 => ?_)
  · exact (HSS.out _ HY0.out)
  refine' wpAnyH_take (i := 0) (v := _) rfl (by kernel_rfl) (by kernel_rfl) (by kernel_rfl) (fun _ _ _ h => h) (Or.inl ⟨by rfl, ?hyr5_0⟩) hS0 ?restr5_0
  case hyr5_0 => (intro w hSw; (try dsimp only at hSw); go_simp; try with_reducible rfl)
  simp only [Act.put, List.setIfInBounds_toArray, List.set_cons_zero, List.set_cons_succ, List.getElem_toArray, List.getElem_cons_zero, List.getElem_cons_succ]
  refine' wpAnyH_take (i := 1) (v := _) rfl (by kernel_rfl) (by kernel_rfl) (by kernel_rfl) (fun _ _ _ h => h) (Or.inl ⟨by rfl, ?hyr5_1⟩) hS0 ?restr5_1
  case hyr5_1 => (intro w hSw; (try dsimp only at hSw); go_simp; try with_reducible rfl)
  simp only [Act.put, List.setIfInBounds_toArray, List.set_cons_zero, List.set_cons_succ, List.getElem_toArray, List.getElem_cons_zero, List.getElem_cons_succ]
  refine' wpAnyH_take (i := 2) (v := _) rfl (by kernel_rfl) (by kernel_rfl) (by kernel_rfl) (fun _ _ _ h => h) (Or.inl ⟨by rfl, ?hyr5_2⟩) hS0 ?restr5_2
  case hyr5_2 => (intro w hSw; (try dsimp only at hSw); go_simp; try with_reducible rfl)
  simp only [Act.put, List.setIfInBounds_toArray, List.set_cons_zero, List.set_cons_succ, List.getElem_toArray, List.getElem_cons_zero, List.getElem_cons_succ]
  refine' wpAnyH_take (i := 3) (v := _) rfl (by kernel_rfl) (by kernel_rfl) (by kernel_rfl) (fun _ _ _ h => h) (Or.inl ⟨by rfl, ?hyr5_3⟩) hS0 ?restr5_3
  case hyr5_3 => (intro w hSw; (try dsimp only at hSw); go_simp; try with_reducible rfl)
  simp only [Act.put, List.setIfInBounds_toArray, List.set_cons_zero, List.set_cons_succ, List.getElem_toArray, List.getElem_cons_zero, List.getElem_cons_succ]
  refine' wpAnyH_take (i := 4) (v := _) rfl (by kernel_rfl) (by kernel_rfl) (by kernel_rfl) (fun _ _ _ h => h) (Or.inl ⟨by rfl, ?hyr5_4⟩) hS0 ?restr5_4
  case hyr5_4 => (intro w hSw; (try dsimp only at hSw); go_simp; try with_reducible rfl)
  simp only [Act.put, List.setIfInBounds_toArray, List.set_cons_zero, List.set_cons_succ, List.getElem_toArray, List.getElem_cons_zero, List.getElem_cons_succ]
  refine' wpAnyH_take (i := 5) (v := _) rfl (by kernel_rfl) (by kernel_rfl) (by kernel_rfl) (fun _ _ _ h => h) (Or.inl ⟨by rfl, ?hyr5_5⟩) hS0 ?restr5_5
  case hyr5_5 => (intro w hSw; (try dsimp only at hSw); go_simp; try with_reducible rfl)
  simp only [Act.put, List.setIfInBounds_toArray, List.set_cons_zero, List.set_cons_succ, List.getElem_toArray, List.getElem_cons_zero, List.getElem_cons_succ]
  refine' wpAnyH_take (i := 6) (v := _) rfl (by kernel_rfl) (by kernel_rfl) (by kernel_rfl) (fun _ _ _ h => h) (Or.inl ⟨by rfl, ?hyr5_6⟩) hS0 ?restr5_6
  case hyr5_6 => (intro w hSw; (try dsimp only at hSw); go_simp; try with_reducible rfl)
  simp only [Act.put, List.setIfInBounds_toArray, List.set_cons_zero, List.set_cons_succ, List.getElem_toArray, List.getElem_cons_zero, List.getElem_cons_succ]
  refine' wpAnyH_take (i := 7) (v := _) rfl (by kernel_rfl) (by kernel_rfl) (by kernel_rfl) (fun _ _ _ h => h) (Or.inl ⟨by rfl, ?hyr5_7⟩) hS0 ?restr5_7
  case hyr5_7 => (intro w hSw; (try dsimp only at hSw); go_simp; try with_reducible rfl)
  simp only [Act.put, List.setIfInBounds_toArray, List.set_cons_zero, List.set_cons_succ, List.getElem_toArray, List.getElem_cons_zero, List.getElem_cons_succ]
  refine' wpAnyH_take (i := 8) (v := _) rfl (by kernel_rfl) (by kernel_rfl) (by kernel_rfl) (fun _ _ _ h => h) (Or.inl ⟨by rfl, ?hyr5_8⟩) hS0 ?restr5_8
  case hyr5_8 => (intro w hSw; (try dsimp only at hSw); go_simp; try with_reducible rfl)
  simp only [Act.put, List.setIfInBounds_toArray, List.set_cons_zero, List.set_cons_succ, List.getElem_toArray, List.getElem_cons_zero, List.getElem_cons_succ]
  refine' wpAnyH_take (i := 9) (v := _) rfl (by kernel_rfl) (by kernel_rfl) (by kernel_rfl) (fun _ _ _ h => h) (Or.inl ⟨by rfl, ?hyr5_9⟩) hS0 ?restr5_9
  case hyr5_9 => (intro w hSw; (try dsimp only at hSw); go_simp; try with_reducible rfl)
  simp only [Act.put, List.setIfInBounds_toArray, List.set_cons_zero, List.set_cons_succ, List.getElem_toArray, List.getElem_cons_zero, List.getElem_cons_succ]
  refine' wpAnyH_take (i := 10) (v := _) rfl (by kernel_rfl) (by kernel_rfl) (by kernel_rfl) (fun _ _ _ h => h) (Or.inl ⟨by rfl, ?hyr5_10⟩) hS0 ?restr5_10
  case hyr5_10 => (intro w hSw; (try dsimp only at hSw); go_simp; try with_reducible rfl)
  simp only [Act.put, List.setIfInBounds_toArray, List.set_cons_zero, List.set_cons_succ, List.getElem_toArray, List.getElem_cons_zero, List.getElem_cons_succ]
  refine' wpAnyH_take (i := 11) (v := _) rfl (by kernel_rfl) (by kernel_rfl) (by kernel_rfl) (fun _ _ _ h => h) (Or.inl ⟨by rfl, ?hyr5_11⟩) hS0 ?restr5_11
  case hyr5_11 => (intro w hSw; (try dsimp only at hSw); go_simp; try with_reducible rfl)
  simp only [Act.put, List.setIfInBounds_toArray, List.set_cons_zero, List.set_cons_succ, List.getElem_toArray, List.getElem_cons_zero, List.getElem_cons_succ]
  refine' wpAnyH_take (i := 12) (v := _) rfl (by kernel_rfl) (by kernel_rfl) (by kernel_rfl) (fun _ _ _ h => h) (Or.inl ⟨by rfl, ?hyr5_12⟩) hS0 ?restr5_12
  case hyr5_12 => (intro w hSw; (try dsimp only at hSw); go_simp; try with_reducible rfl)
  simp only [Act.put, List.setIfInBounds_toArray, List.set_cons_zero, List.set_cons_succ, List.getElem_toArray, List.getElem_cons_zero, List.getElem_cons_succ]
  refine' wpAnyH_take (i := 13) (v := _) rfl (by kernel_rfl) (by kernel_rfl) (by kernel_rfl) (fun _ _ _ h => h) (Or.inl ⟨by rfl, ?hyr5_13⟩) hS0 ?restr5_13
  case hyr5_13 => (intro w hSw; (try dsimp only at hSw); go_simp; try with_reducible rfl)
  simp only [Act.put, List.setIfInBounds_toArray, List.set_cons_zero, List.set_cons_succ, List.getElem_toArray, List.getElem_cons_zero, List.getElem_cons_succ]
  refine' wpAnyH_take (i := 14) (v := _) rfl (by kernel_rfl) (by kernel_rfl) (by kernel_rfl) (fun _ _ _ h => h) (Or.inl ⟨by rfl, ?hyr5_14⟩) hS0 ?restr5_14
  case hyr5_14 => (intro w hSw; (try dsimp only at hSw); go_simp; try with_reducible rfl)
  simp only [Act.put, List.setIfInBounds_toArray, List.set_cons_zero, List.set_cons_succ, List.getElem_toArray, List.getElem_cons_zero, List.getElem_cons_succ]
  refine' wpAnyH_take (i := 15) (v := _) rfl (by kernel_rfl) (by kernel_rfl) (by kernel_rfl) (fun _ _ _ h => h) (Or.inl ⟨by rfl, ?hyr5_15⟩) hS0 ?restr5_15
  case hyr5_15 => (intro w hSw; (try dsimp only at hSw); go_simp; try with_reducible rfl)
  simp only [Act.put, List.setIfInBounds_toArray, List.set_cons_zero, List.set_cons_succ, List.getElem_toArray, List.getElem_cons_zero, List.getElem_cons_succ]
  refine' wpAnyH_take (i := 16) (v := _) rfl (by kernel_rfl) (by kernel_rfl) (by kernel_rfl) (fun _ _ _ h => h) (Or.inl ⟨by rfl, ?hyr5_16⟩) hS0 ?restr5_16
  case hyr5_16 => (intro w hSw; (try dsimp only at hSw); go_simp; try with_reducible rfl)
  simp only [Act.put, List.setIfInBounds_toArray, List.set_cons_zero, List.set_cons_succ, List.getElem_toArray, List.getElem_cons_zero, List.getElem_cons_succ]
  refine' wpAnyH_take (i := 17) (v := _) rfl (by kernel_rfl) (by kernel_rfl) (by kernel_rfl) (fun _ _ _ h => h) (Or.inl ⟨by rfl, ?hyr5_17⟩) hS0 ?restr5_17
  case hyr5_17 => (intro w hSw; (try dsimp only at hSw); go_simp; try with_reducible rfl)
  simp only [Act.put, List.setIfInBounds_toArray, List.set_cons_zero, List.set_cons_succ, List.getElem_toArray, List.getElem_cons_zero, List.getElem_cons_succ]
  refine' wpAnyH_take (i := 18) (v := _) rfl (by kernel_rfl) (by kernel_rfl) (by kernel_rfl) (fun _ _ _ h => h) (Or.inl ⟨by rfl, ?hyr5_18⟩) hS0 ?restr5_18
  case hyr5_18 => (intro w hSw; (try dsimp only at hSw); go_simp; try with_reducible rfl)
  simp only [Act.put, List.setIfInBounds_toArray, List.set_cons_zero, List.set_cons_succ, List.getElem_toArray, List.getElem_cons_zero, List.getElem_cons_succ]
  refine wpAnyH_ready (rs := [19]) (by kernel_rfl) (by simp) ?_
  refine AllReadyH.cons rfl (fun K hK => ?_) AllReadyH.nil
  go_simp
  refine (KB2.out _).mono ?_
  rintro e wb1 ⟨rfl, hb⟩
  have HY1 := Lib.hid (HY0.out.trans (hb.mono HY0.out.size))
  clear hb
  refine hK.out _ _ (HSS.out _ HY1.out) (fun hS1 => ?_)
  clear hK K
  refine' wpAnyH_take (i := 20) (v := _) rfl (by kernel_rfl) (by kernel_rfl) (by kernel_rfl) (fun _ _ _ h => h) (Or.inl ⟨by rfl, ?hyr5_20⟩) hS1 ?restr5_20
  case hyr5_20 => (intro w hSw; (try dsimp only at hSw); go_simp; try with_reducible rfl)
  simp only [Act.put, List.setIfInBounds_toArray, List.set_cons_zero, List.set_cons_succ, List.getElem_toArray, List.getElem_cons_zero, List.getElem_cons_succ]
  refine' wpAnyH_take (i := 21) (v := _) rfl (by kernel_rfl) (by kernel_rfl) (by kernel_rfl) (fun _ _ _ h => h) (Or.inl ⟨by rfl, ?hyr5_21⟩) hS1 ?restr5_21
  case hyr5_21 => (intro w hSw; (try dsimp only at hSw); go_simp; try with_reducible rfl)
  simp only [Act.put, List.setIfInBounds_toArray, List.set_cons_zero, List.set_cons_succ, List.getElem_toArray, List.getElem_cons_zero, List.getElem_cons_succ]
  refine wpAnyH_done (by kernel_rfl) ?_ _
  go_wp2_with fail
  have q13 : wb1.cell? ⟨w.heap.size, 13, none⟩ = some (.slice As ns cs) := (HSS.out _ HY1.out).2.2.2.2.2.2.2.2.2.2.2.2.2
  go_upto_region 5 with (fail)
  clear q13
  go_loopw [34] (fun iv wr => ∃ i : Nat, i ≤ ns ∧ iv = .int .i64 i ∧ Hid ((shake.drop i).all SE = SA) ∧ Hid (Below wb1.heap.size wb1 wr)) (fun iv _ => ns - (intOf iv).toNat)
  case atStart => exact ⟨0, Nat.zero_le _, rfl, HSA0, Lib.hid (Below.refl _ _)⟩
  case round =>
    obtain ⟨i, hi, rfl, HI, HBW⟩ := hrel
    have HYW := Lib.hid (HY1.out.trans (HBW.out.mono HY1.out.size))
    have HBX := Lib.hid (HBE.out.trans (HYW.out.mono HBE.out.size))
    by_cases hlt : i < ns
    · have hlt' : (i : Int) < ns := by omega
      obtain ⟨ad, rfl, ⟨xn, xd⟩, hx, _, _, p0, p1⟩ := (HRS.out.below HBX.out).at (i := i) (by rw [HNS.out]; exact hlt)
      simp only at p0 p1
      have HA := Lib.hid (all_at (p := SE) hx)
      have HSX := Lib.hid (HS.out (xn, xd))
      clear hx
      go_upto_region 7 with (fail)
      have kX := Blk.new wr #[.int .i64 xn, .int .i64 xd] 49
      have bX : Below wr.heap.size wr (wr.alloc (.cells #[.int .i64 xn, .int .i64 xd] 49)) := (Below.refl _ _).alloc (Nat.le_refl _) _
      obtain ⟨W1, hW1⟩ : ∃ W, wr.alloc (.cells #[.int .i64 xn, .int .i64 xd] 49) = W := ⟨_, rfl⟩
      rw [hW1] at kX bX ⊢
      have HBX1 := Lib.hid (HBX.out.trans (bX.mono HBX.out.size))
      have HBW1 := Lib.hid (HBW.out.trans (bX.mono HBW.out.size))
      have HYW1 := Lib.hid (HYW.out.trans (bX.mono HYW.out.size))
      have HSS7 := Lib.hid (fun (W : World) (hb : Below W1.heap.size W1 W) => And.intro (And.intro ((kX.below hb).cell 0) ((kX.below hb).cell 1)) (HSS.out W (HYW1.out.trans (hb.mono HYW1.out.size))))
      simp only [List.getElem?_toArray, List.getElem?_cons_zero, List.getElem?_cons_succ] at HSS7
      have HZ0 := Lib.hid ((Below.refl W1.heap.size W1).drew)
      clear p0 p1 kX bX hW1
      by_cases c1 : xd = den
      · have e1 : (xd != den) = false := bne_eq_false_iff_eq.2 c1
        by_cases c2 : B < xn
        · have e2 : decide (B < xn) = true := decide_eq_true c2
          have HF : Hid (E = false) := Lib.hid (by rw [HE2.out, ← HI.out, HA.out, HSX.out, e1, e2]; rfl)
          clear c1 c2
          refine wp_region_held_drew (S := (fun W => (W.cell? ⟨wr.heap.size, 0, none⟩ = some (.int .i64 xn) ∧ W.cell? ⟨wr.heap.size, 1, none⟩ = some (.int .i64 xd)) ∧ W.cell? ⟨w.heap.size, 0, none⟩ = some (.int .i64 k) ∧ W.cell? ⟨w.heap.size, 1, none⟩ = some (.int .i64 cl) ∧ W.cell? ⟨w.heap.size, 2, none⟩ = some (.int .i64 b) ∧ W.cell? ⟨w.heap.size, 3, none⟩ = some (.int .i64 tt) ∧ W.cell? ⟨w.heap.size, 4, none⟩ = some (.int .i64 d) ∧ W.cell? ⟨w.heap.size, 5, none⟩ = some (.int .i64 l) ∧ W.cell? ⟨w.heap.size, 6, none⟩ = some (.int .i64 p) ∧ W.cell? ⟨w.heap.size, 7, none⟩ = some (.int .i64 cols) ∧ W.cell? ⟨w.heap.size, 8, none⟩ = some (.int .u64 (seed : Int)) ∧ W.cell? ⟨w.heap.size, 9, none⟩ = some (.slice Ae ne ce) ∧ W.cell? ⟨w.heap.size, 10, none⟩ = some (.slice At nt ct) ∧ W.cell? ⟨w.heap.size, 11, none⟩ = some (.int .i64 num) ∧ W.cell? ⟨w.heap.size, 12, none⟩ = some (.int .i64 den) ∧ W.cell? ⟨w.heap.size, 13, none⟩ = some (.slice (some ad) ns cs))) (by kernel_rfl) ?_ (fun hS0 => ?_)
          · exact (HSS7.out _ HZ0.out)
          refine' wpAnyH_take (i := 0) (v := _) rfl (by kernel_rfl) (by kernel_rfl) (by kernel_rfl) (fun _ _ _ h => h) (Or.inl ⟨by rfl, ?hyr7_0⟩) hS0 ?restr7_0
          case hyr7_0 => (intro w hSw; (try dsimp only at hSw); go_simp; try with_reducible rfl)
          simp only [Act.put, List.setIfInBounds_toArray, List.set_cons_zero, List.set_cons_succ, List.getElem_toArray, List.getElem_cons_zero, List.getElem_cons_succ]
          refine' wpAnyH_take (i := 1) (v := _) rfl (by kernel_rfl) (by kernel_rfl) (by kernel_rfl) (fun _ _ _ h => h) (Or.inl ⟨by rfl, ?hyr7_1⟩) hS0 ?restr7_1
          case hyr7_1 => (intro w hSw; (try dsimp only at hSw); go_simp; try with_reducible rfl)
          simp only [Act.put, List.setIfInBounds_toArray, List.set_cons_zero, List.set_cons_succ, List.getElem_toArray, List.getElem_cons_zero, List.getElem_cons_succ]
          refine' wpAnyH_take (i := 2) (v := _) rfl (by kernel_rfl) (by kernel_rfl) (by kernel_rfl) (fun _ _ _ h => h) (Or.inl ⟨by rfl, ?hyr7_2⟩) hS0 ?restr7_2
          case hyr7_2 => (intro w hSw; (try dsimp only at hSw); go_simp; try with_reducible rfl)
          simp only [Act.put, List.setIfInBounds_toArray, List.set_cons_zero, List.set_cons_succ, List.getElem_toArray, List.getElem_cons_zero, List.getElem_cons_succ]
          refine' wpAnyH_take (i := 3) (v := _) rfl (by kernel_rfl) (by kernel_rfl) (by kernel_rfl) (fun _ _ _ h => h) (Or.inl ⟨by rfl, ?hyr7_3⟩) hS0 ?restr7_3
          case hyr7_3 => (intro w hSw; (try dsimp only at hSw); go_simp; try with_reducible rfl)
          simp only [Act.put, List.setIfInBounds_toArray, List.set_cons_zero, List.set_cons_succ, List.getElem_toArray, List.getElem_cons_zero, List.getElem_cons_succ]
          refine' wpAnyH_take (i := 4) (v := _) rfl (by kernel_rfl) (by kernel_rfl) (by kernel_rfl) (fun _ _ _ h => h) (Or.inl ⟨by rfl, ?hyr7_4⟩) hS0 ?restr7_4
          case hyr7_4 => (intro w hSw; (try dsimp only at hSw); go_simp; try with_reducible rfl)
          simp only [Act.put, List.setIfInBounds_toArray, List.set_cons_zero, List.set_cons_succ, List.getElem_toArray, List.getElem_cons_zero, List.getElem_cons_succ]
          refine' wpAnyH_take (i := 5) (v := _) rfl (by kernel_rfl) (by kernel_rfl) (by kernel_rfl) (fun _ _ _ h => h) (Or.inl ⟨by rfl, ?hyr7_5⟩) hS0 ?restr7_5
          case hyr7_5 => (intro w hSw; (try dsimp only at hSw); go_simp; try with_reducible rfl)
          simp only [Act.put, List.setIfInBounds_toArray, List.set_cons_zero, List.set_cons_succ, List.getElem_toArray, List.getElem_cons_zero, List.getElem_cons_succ]
          refine' wpAnyH_take (i := 6) (v := _) rfl (by kernel_rfl) (by kernel_rfl) (by kernel_rfl) (fun _ _ _ h => h) (Or.inl ⟨by rfl, ?hyr7_6⟩) hS0 ?restr7_6
          case hyr7_6 => (intro w hSw; (try dsimp only at hSw); go_simp; try with_reducible rfl)
          simp only [Act.put, List.setIfInBounds_toArray, List.set_cons_zero, List.set_cons_succ, List.getElem_toArray, List.getElem_cons_zero, List.getElem_cons_succ]
          refine' wpAnyH_take (i := 7) (v := _) rfl (by kernel_rfl) (by kernel_rfl) (by kernel_rfl) (fun _ _ _ h => h) (Or.inl ⟨by rfl, ?hyr7_7⟩) hS0 ?restr7_7
          case hyr7_7 => (intro w hSw; (try dsimp only at hSw); go_simp; try with_reducible rfl)
          simp only [Act.put, List.setIfInBounds_toArray, List.set_cons_zero, List.set_cons_succ, List.getElem_toArray, List.getElem_cons_zero, List.getElem_cons_succ]
          refine' wpAnyH_take (i := 8) (v := _) rfl (by kernel_rfl) (by kernel_rfl) (by kernel_rfl) (fun _ _ _ h => h) (Or.inl ⟨by rfl, ?hyr7_8⟩) hS0 ?restr7_8
          case hyr7_8 => (intro w hSw; (try dsimp only at hSw); go_simp; try with_reducible rfl)
          simp only [Act.put, List.setIfInBounds_toArray, List.set_cons_zero, List.set_cons_succ, List.getElem_toArray, List.getElem_cons_zero, List.getElem_cons_succ]
          refine' wpAnyH_take (i := 9) (v := _) rfl (by kernel_rfl) (by kernel_rfl) (by kernel_rfl) (fun _ _ _ h => h) (Or.inl ⟨by rfl, ?hyr7_9⟩) hS0 ?restr7_9
          case hyr7_9 => (intro w hSw; (try dsimp only at hSw); go_simp; try with_reducible rfl)
          simp only [Act.put, List.setIfInBounds_toArray, List.set_cons_zero, List.set_cons_succ, List.getElem_toArray, List.getElem_cons_zero, List.getElem_cons_succ]
          refine wpAnyH_ready (rs := [10]) (by kernel_rfl) (by simp) ?_
          refine AllReadyH.cons rfl (fun K hK => ?_) AllReadyH.nil
          go_simp
          refine (KB2.out _).mono ?_
          rintro e wc1 ⟨rfl, hb⟩
          have HZ1 := Lib.hid (HZ0.out.trans (hb.mono HZ0.out.size))
          clear hb
          refine hK.out _ _ (HSS7.out _ HZ1.out) (fun hS1 => ?_)
          clear hK K
          refine' wpAnyH_take (i := 11) (v := _) rfl (by kernel_rfl) (by kernel_rfl) (by kernel_rfl) (fun _ _ _ h => h) (Or.inl ⟨by rfl, ?hyr7_11⟩) hS1 ?restr7_11
          case hyr7_11 => (intro w hSw; (try dsimp only at hSw); go_simp; try with_reducible rfl)
          simp only [Act.put, List.setIfInBounds_toArray, List.set_cons_zero, List.set_cons_succ, List.getElem_toArray, List.getElem_cons_zero, List.getElem_cons_succ]
          refine' wpAnyH_take (i := 12) (v := _) rfl (by kernel_rfl) (by kernel_rfl) (by kernel_rfl) (fun _ _ _ h => h) (Or.inl ⟨by rfl, ?hyr7_12⟩) hS1 ?restr7_12
          case hyr7_12 => (intro w hSw; (try dsimp only at hSw); go_simp; try with_reducible rfl)
          simp only [Act.put, List.setIfInBounds_toArray, List.set_cons_zero, List.set_cons_succ, List.getElem_toArray, List.getElem_cons_zero, List.getElem_cons_succ]
          refine' wpAnyH_take (i := 13) (v := _) rfl (by kernel_rfl) (by kernel_rfl) (by kernel_rfl) (fun _ _ _ h => h) (Or.inl ⟨by rfl, ?hyr7_13⟩) hS1 ?restr7_13
          case hyr7_13 => (intro w hSw; (try dsimp only at hSw); go_simp; try with_reducible rfl)
          simp only [Act.put, List.setIfInBounds_toArray, List.set_cons_zero, List.set_cons_succ, List.getElem_toArray, List.getElem_cons_zero, List.getElem_cons_succ]
          refine' wpAnyH_take (i := 14) (v := _) rfl (by kernel_rfl) (by kernel_rfl) (by kernel_rfl) (fun _ _ _ h => h) (Or.inr ⟨by rfl, rfl⟩) hS1 ?restr7_14
          simp only [Act.put, List.setIfInBounds_toArray, List.set_cons_zero, List.set_cons_succ, List.getElem_toArray, List.getElem_cons_zero, List.getElem_cons_succ]
          refine' wpAnyH_take (i := 15) (v := _) rfl (by kernel_rfl) (by kernel_rfl) (by kernel_rfl) (fun _ _ _ h => h) (Or.inr ⟨by rfl, rfl⟩) hS1 ?restr7_15
          simp only [Act.put, List.setIfInBounds_toArray, List.set_cons_zero, List.set_cons_succ, List.getElem_toArray, List.getElem_cons_zero, List.getElem_cons_succ]
          refine' wpAnyH_take (i := 16) (v := _) rfl (by kernel_rfl) (by kernel_rfl) (by kernel_rfl) (fun _ _ _ h => h) (Or.inr ⟨by rfl, rfl⟩) hS1 ?restr7_16
          simp only [Act.put, List.setIfInBounds_toArray, List.set_cons_zero, List.set_cons_succ, List.getElem_toArray, List.getElem_cons_zero, List.getElem_cons_succ]
          refine' wpAnyH_take (i := 17) (v := _) rfl (by kernel_rfl) (by kernel_rfl) (by kernel_rfl) (fun _ _ _ h => h) (Or.inr ⟨by rfl, rfl⟩) hS1 ?restr7_17
          simp only [Act.put, List.setIfInBounds_toArray, List.set_cons_zero, List.set_cons_succ, List.getElem_toArray, List.getElem_cons_zero, List.getElem_cons_succ]
          refine' wpAnyH_take (i := 18) (v := _) rfl (by kernel_rfl) (by kernel_rfl) (by kernel_rfl) (fun _ _ _ h => h) (Or.inr ⟨by rfl, rfl⟩) hS1 ?restr7_18
          simp only [Act.put, List.setIfInBounds_toArray, List.set_cons_zero, List.set_cons_succ, List.getElem_toArray, List.getElem_cons_zero, List.getElem_cons_succ]
          refine' wpAnyH_take (i := 19) (v := _) rfl (by kernel_rfl) (by kernel_rfl) (by kernel_rfl) (fun _ _ _ h => h) (Or.inr ⟨by rfl, rfl⟩) hS1 ?restr7_19
          simp only [Act.put, List.setIfInBounds_toArray, List.set_cons_zero, List.set_cons_succ, List.getElem_toArray, List.getElem_cons_zero, List.getElem_cons_succ]
          refine' wpAnyH_take (i := 20) (v := _) rfl (by kernel_rfl) (by kernel_rfl) (by kernel_rfl) (fun _ _ _ h => h) (Or.inr ⟨by rfl, rfl⟩) hS1 ?restr7_20
          simp only [Act.put, List.setIfInBounds_toArray, List.set_cons_zero, List.set_cons_succ, List.getElem_toArray, List.getElem_cons_zero, List.getElem_cons_succ]
          refine' wpAnyH_take (i := 21) (v := _) rfl (by kernel_rfl) (by kernel_rfl) (by kernel_rfl) (fun _ _ _ h => h) (Or.inr ⟨by rfl, rfl⟩) hS1 ?restr7_21
          simp only [Act.put, List.setIfInBounds_toArray, List.set_cons_zero, List.set_cons_succ, List.getElem_toArray, List.getElem_cons_zero, List.getElem_cons_succ]
          refine' wpAnyH_take (i := 22) (v := _) rfl (by kernel_rfl) (by kernel_rfl) (by kernel_rfl) (fun _ _ _ h => h) (Or.inl ⟨by rfl, ?hyr7_22⟩) hS1 ?restr7_22
          case hyr7_22 => (intro w hSw; (try dsimp only at hSw); go_simp; try with_reducible rfl)
          simp only [Act.put, List.setIfInBounds_toArray, List.set_cons_zero, List.set_cons_succ, List.getElem_toArray, List.getElem_cons_zero, List.getElem_cons_succ]
          refine wpAnyH_done (by kernel_rfl) ?_ _
          go_wp2
          go_ret
          exact ⟨by rw [HF.out]; simp, HBX1.out.trans (HZ1.out.mono HBX1.out.size)⟩
        · have e2 : decide (B < xn) = false := decide_eq_false c2
          obtain ⟨NB, hNB⟩ : ∃ z, IntKind.i64.wrap (-B) = z := ⟨_, rfl⟩
          have n1 := HNEG.out B
          rw [hNB] at n1 HSX
          have n2 : wrap64 (0 - B) = NB := n1.symm
          have n3 : wrap64 (-B) = NB := by rw [← n2]; congr 1; omega
          have n4 : IntKind.i64.wrap (0 - B) = NB := by rw [wrapI_fst]; exact n2
          by_cases c3 : xn < NB
          · have e3 : decide (xn < NB) = true := decide_eq_true c3
            have HF : Hid (E = false) := Lib.hid (by rw [HE2.out, ← HI.out, HA.out, HSX.out, e1, e2, e3]; rfl)
            clear c1 c2 c3 n1
            refine wp_region_held_drew (S := (fun W => (W.cell? ⟨wr.heap.size, 0, none⟩ = some (.int .i64 xn) ∧ W.cell? ⟨wr.heap.size, 1, none⟩ = some (.int .i64 xd)) ∧ W.cell? ⟨w.heap.size, 0, none⟩ = some (.int .i64 k) ∧ W.cell? ⟨w.heap.size, 1, none⟩ = some (.int .i64 cl) ∧ W.cell? ⟨w.heap.size, 2, none⟩ = some (.int .i64 b) ∧ W.cell? ⟨w.heap.size, 3, none⟩ = some (.int .i64 tt) ∧ W.cell? ⟨w.heap.size, 4, none⟩ = some (.int .i64 d) ∧ W.cell? ⟨w.heap.size, 5, none⟩ = some (.int .i64 l) ∧ W.cell? ⟨w.heap.size, 6, none⟩ = some (.int .i64 p) ∧ W.cell? ⟨w.heap.size, 7, none⟩ = some (.int .i64 cols) ∧ W.cell? ⟨w.heap.size, 8, none⟩ = some (.int .u64 (seed : Int)) ∧ W.cell? ⟨w.heap.size, 9, none⟩ = some (.slice Ae ne ce) ∧ W.cell? ⟨w.heap.size, 10, none⟩ = some (.slice At nt ct) ∧ W.cell? ⟨w.heap.size, 11, none⟩ = some (.int .i64 num) ∧ W.cell? ⟨w.heap.size, 12, none⟩ = some (.int .i64 den) ∧ W.cell? ⟨w.heap.size, 13, none⟩ = some (.slice (some ad) ns cs))) (by kernel_rfl) ?_ (fun hS0 => ?_)
            · exact (HSS7.out _ HZ0.out)
            refine' wpAnyH_take (i := 0) (v := _) rfl (by kernel_rfl) (by kernel_rfl) (by kernel_rfl) (fun _ _ _ h => h) (Or.inl ⟨by rfl, ?hyr8_0⟩) hS0 ?restr8_0
            case hyr8_0 => (intro w hSw; (try dsimp only at hSw); go_simp; try with_reducible rfl)
            simp only [Act.put, List.setIfInBounds_toArray, List.set_cons_zero, List.set_cons_succ, List.getElem_toArray, List.getElem_cons_zero, List.getElem_cons_succ]
            refine' wpAnyH_take (i := 1) (v := _) rfl (by kernel_rfl) (by kernel_rfl) (by kernel_rfl) (fun _ _ _ h => h) (Or.inl ⟨by rfl, ?hyr8_1⟩) hS0 ?restr8_1
            case hyr8_1 => (intro w hSw; (try dsimp only at hSw); go_simp; try with_reducible rfl)
            simp only [Act.put, List.setIfInBounds_toArray, List.set_cons_zero, List.set_cons_succ, List.getElem_toArray, List.getElem_cons_zero, List.getElem_cons_succ]
            refine' wpAnyH_take (i := 2) (v := _) rfl (by kernel_rfl) (by kernel_rfl) (by kernel_rfl) (fun _ _ _ h => h) (Or.inl ⟨by rfl, ?hyr8_2⟩) hS0 ?restr8_2
            case hyr8_2 => (intro w hSw; (try dsimp only at hSw); go_simp; try with_reducible rfl)
            simp only [Act.put, List.setIfInBounds_toArray, List.set_cons_zero, List.set_cons_succ, List.getElem_toArray, List.getElem_cons_zero, List.getElem_cons_succ]
            refine' wpAnyH_take (i := 3) (v := _) rfl (by kernel_rfl) (by kernel_rfl) (by kernel_rfl) (fun _ _ _ h => h) (Or.inl ⟨by rfl, ?hyr8_3⟩) hS0 ?restr8_3
            case hyr8_3 => (intro w hSw; (try dsimp only at hSw); go_simp; try with_reducible rfl)
            simp only [Act.put, List.setIfInBounds_toArray, List.set_cons_zero, List.set_cons_succ, List.getElem_toArray, List.getElem_cons_zero, List.getElem_cons_succ]
            refine' wpAnyH_take (i := 4) (v := _) rfl (by kernel_rfl) (by kernel_rfl) (by kernel_rfl) (fun _ _ _ h => h) (Or.inl ⟨by rfl, ?hyr8_4⟩) hS0 ?restr8_4
            case hyr8_4 => (intro w hSw; (try dsimp only at hSw); go_simp; try with_reducible rfl)
            simp only [Act.put, List.setIfInBounds_toArray, List.set_cons_zero, List.set_cons_succ, List.getElem_toArray, List.getElem_cons_zero, List.getElem_cons_succ]
            refine' wpAnyH_take (i := 5) (v := _) rfl (by kernel_rfl) (by kernel_rfl) (by kernel_rfl) (fun _ _ _ h => h) (Or.inl ⟨by rfl, ?hyr8_5⟩) hS0 ?restr8_5
            case hyr8_5 => (intro w hSw; (try dsimp only at hSw); go_simp; try with_reducible rfl)
            simp only [Act.put, List.setIfInBounds_toArray, List.set_cons_zero, List.set_cons_succ, List.getElem_toArray, List.getElem_cons_zero, List.getElem_cons_succ]
            refine' wpAnyH_take (i := 6) (v := _) rfl (by kernel_rfl) (by kernel_rfl) (by kernel_rfl) (fun _ _ _ h => h) (Or.inl ⟨by rfl, ?hyr8_6⟩) hS0 ?restr8_6
            case hyr8_6 => (intro w hSw; (try dsimp only at hSw); go_simp; try with_reducible rfl)
            simp only [Act.put, List.setIfInBounds_toArray, List.set_cons_zero, List.set_cons_succ, List.getElem_toArray, List.getElem_cons_zero, List.getElem_cons_succ]
            refine' wpAnyH_take (i := 7) (v := _) rfl (by kernel_rfl) (by kernel_rfl) (by kernel_rfl) (fun _ _ _ h => h) (Or.inl ⟨by rfl, ?hyr8_7⟩) hS0 ?restr8_7
            case hyr8_7 => (intro w hSw; (try dsimp only at hSw); go_simp; try with_reducible rfl)
            simp only [Act.put, List.setIfInBounds_toArray, List.set_cons_zero, List.set_cons_succ, List.getElem_toArray, List.getElem_cons_zero, List.getElem_cons_succ]
            refine' wpAnyH_take (i := 8) (v := _) rfl (by kernel_rfl) (by kernel_rfl) (by kernel_rfl) (fun _ _ _ h => h) (Or.inl ⟨by rfl, ?hyr8_8⟩) hS0 ?restr8_8
            case hyr8_8 => (intro w hSw; (try dsimp only at hSw); go_simp; try with_reducible rfl)
            simp only [Act.put, List.setIfInBounds_toArray, List.set_cons_zero, List.set_cons_succ, List.getElem_toArray, List.getElem_cons_zero, List.getElem_cons_succ]
            refine' wpAnyH_take (i := 9) (v := _) rfl (by kernel_rfl) (by kernel_rfl) (by kernel_rfl) (fun _ _ _ h => h) (Or.inl ⟨by rfl, ?hyr8_9⟩) hS0 ?restr8_9
            case hyr8_9 => (intro w hSw; (try dsimp only at hSw); go_simp; try with_reducible rfl)
            simp only [Act.put, List.setIfInBounds_toArray, List.set_cons_zero, List.set_cons_succ, List.getElem_toArray, List.getElem_cons_zero, List.getElem_cons_succ]
            refine wpAnyH_ready (rs := [10]) (by kernel_rfl) (by simp) ?_
            refine AllReadyH.cons rfl (fun K hK => ?_) AllReadyH.nil
            go_simp
            refine (KB2.out _).mono ?_
            rintro e wc1 ⟨rfl, hb⟩
            have HZ1 := Lib.hid (HZ0.out.trans (hb.mono HZ0.out.size))
            clear hb
            refine hK.out _ _ (HSS7.out _ HZ1.out) (fun hS1 => ?_)
            clear hK K
            refine' wpAnyH_take (i := 11) (v := _) rfl (by kernel_rfl) (by kernel_rfl) (by kernel_rfl) (fun _ _ _ h => h) (Or.inl ⟨by rfl, ?hyr8_11⟩) hS1 ?restr8_11
            case hyr8_11 => (intro w hSw; (try dsimp only at hSw); go_simp; try with_reducible rfl)
            simp only [Act.put, List.setIfInBounds_toArray, List.set_cons_zero, List.set_cons_succ, List.getElem_toArray, List.getElem_cons_zero, List.getElem_cons_succ]
            refine' wpAnyH_take (i := 12) (v := _) rfl (by kernel_rfl) (by kernel_rfl) (by kernel_rfl) (fun _ _ _ h => h) (Or.inl ⟨by rfl, ?hyr8_12⟩) hS1 ?restr8_12
            case hyr8_12 => (intro w hSw; (try dsimp only at hSw); go_simp; try with_reducible rfl)
            simp only [Act.put, List.setIfInBounds_toArray, List.set_cons_zero, List.set_cons_succ, List.getElem_toArray, List.getElem_cons_zero, List.getElem_cons_succ]
            refine' wpAnyH_take (i := 13) (v := _) rfl (by kernel_rfl) (by kernel_rfl) (by kernel_rfl) (fun _ _ _ h => h) (Or.inl ⟨by rfl, ?hyr8_13⟩) hS1 ?restr8_13
            case hyr8_13 => (intro w hSw; (try dsimp only at hSw); go_simp; try with_reducible rfl)
            simp only [Act.put, List.setIfInBounds_toArray, List.set_cons_zero, List.set_cons_succ, List.getElem_toArray, List.getElem_cons_zero, List.getElem_cons_succ]
            refine' wpAnyH_take (i := 14) (v := _) rfl (by kernel_rfl) (by kernel_rfl) (by kernel_rfl) (fun _ _ _ h => h) (Or.inl ⟨by rfl, ?hyr8_14⟩) hS1 ?restr8_14
            case hyr8_14 => (intro w hSw; (try dsimp only at hSw); go_simp; try with_reducible rfl)
            simp only [Act.put, List.setIfInBounds_toArray, List.set_cons_zero, List.set_cons_succ, List.getElem_toArray, List.getElem_cons_zero, List.getElem_cons_succ]
            refine' wpAnyH_take (i := 15) (v := _) rfl (by kernel_rfl) (by kernel_rfl) (by kernel_rfl) (fun _ _ _ h => h) (Or.inl ⟨by rfl, ?hyr8_15⟩) hS1 ?restr8_15
            case hyr8_15 => (intro w hSw; (try dsimp only at hSw); go_simp; try with_reducible rfl)
            simp only [Act.put, List.setIfInBounds_toArray, List.set_cons_zero, List.set_cons_succ, List.getElem_toArray, List.getElem_cons_zero, List.getElem_cons_succ]
            refine' wpAnyH_take (i := 16) (v := _) rfl (by kernel_rfl) (by kernel_rfl) (by kernel_rfl) (fun _ _ _ h => h) (Or.inl ⟨by rfl, ?hyr8_16⟩) hS1 ?restr8_16
            case hyr8_16 => (intro w hSw; (try dsimp only at hSw); go_simp; try with_reducible rfl)
            simp only [Act.put, List.setIfInBounds_toArray, List.set_cons_zero, List.set_cons_succ, List.getElem_toArray, List.getElem_cons_zero, List.getElem_cons_succ]
            refine' wpAnyH_take (i := 17) (v := _) rfl (by kernel_rfl) (by kernel_rfl) (by kernel_rfl) (fun _ _ _ h => h) (Or.inl ⟨by rfl, ?hyr8_17⟩) hS1 ?restr8_17
            case hyr8_17 => (intro w hSw; (try dsimp only at hSw); go_simp; try with_reducible rfl)
            simp only [Act.put, List.setIfInBounds_toArray, List.set_cons_zero, List.set_cons_succ, List.getElem_toArray, List.getElem_cons_zero, List.getElem_cons_succ]
            refine' wpAnyH_take (i := 18) (v := _) rfl (by kernel_rfl) (by kernel_rfl) (by kernel_rfl) (fun _ _ _ h => h) (Or.inl ⟨by rfl, ?hyr8_18⟩) hS1 ?restr8_18
            case hyr8_18 => (intro w hSw; (try dsimp only at hSw); go_simp; try with_reducible rfl)
            simp only [Act.put, List.setIfInBounds_toArray, List.set_cons_zero, List.set_cons_succ, List.getElem_toArray, List.getElem_cons_zero, List.getElem_cons_succ]
            refine wpAnyH_ready (rs := [19]) (by kernel_rfl) (by simp) ?_
            refine AllReadyH.cons rfl (fun K hK => ?_) AllReadyH.nil
            go_simp
            refine (KB2.out _).mono ?_
            rintro e wc2 ⟨rfl, hb⟩
            have HZ2 := Lib.hid (HZ1.out.trans (hb.mono HZ1.out.size))
            clear hb
            refine hK.out _ _ (HSS7.out _ HZ2.out) (fun hS2 => ?_)
            clear hK K
            refine' wpAnyH_take (i := 20) (v := _) rfl (by kernel_rfl) (by kernel_rfl) (by kernel_rfl) (fun _ _ _ h => h) (Or.inl ⟨by rfl, ?hyr8_20⟩) hS2 ?restr8_20
            case hyr8_20 => (intro w hSw; (try dsimp only at hSw); go_simp; try with_reducible rfl)
            simp only [Act.put, List.setIfInBounds_toArray, List.set_cons_zero, List.set_cons_succ, List.getElem_toArray, List.getElem_cons_zero, List.getElem_cons_succ]
            refine' wpAnyH_take (i := 21) (v := _) rfl (by kernel_rfl) (by kernel_rfl) (by kernel_rfl) (fun _ _ _ h => h) (Or.inl ⟨by rfl, ?hyr8_21⟩) hS2 ?restr8_21
            case hyr8_21 => (intro w hSw; (try dsimp only at hSw); go_simp; try with_reducible rfl)
            simp only [Act.put, List.setIfInBounds_toArray, List.set_cons_zero, List.set_cons_succ, List.getElem_toArray, List.getElem_cons_zero, List.getElem_cons_succ]
            refine' wpAnyH_take (i := 22) (v := _) rfl (by kernel_rfl) (by kernel_rfl) (by kernel_rfl) (fun _ _ _ h => h) (Or.inl ⟨by rfl, ?hyr8_22⟩) hS2 ?restr8_22
            case hyr8_22 => (intro w hSw; (try dsimp only at hSw); go_simp; try with_reducible rfl)
            simp only [Act.put, List.setIfInBounds_toArray, List.set_cons_zero, List.set_cons_succ, List.getElem_toArray, List.getElem_cons_zero, List.getElem_cons_succ]
            refine wpAnyH_done (by kernel_rfl) ?_ _
            go_wp2
            go_ret
            exact ⟨by rw [HF.out]; simp, HBX1.out.trans (HZ2.out.mono HBX1.out.size)⟩
          · have e3 : decide (xn < NB) = false := decide_eq_false c3
            have HN : Hid ((shake.drop (i + 1)).all SE = SA) := Lib.hid (by have h := HI.out; rw [HA.out, HSX.out, e1, e2, e3] at h; simpa using h)
            clear c1 c2 c3 n1
            refine wp_region_held_drew (S := (fun W => (W.cell? ⟨wr.heap.size, 0, none⟩ = some (.int .i64 xn) ∧ W.cell? ⟨wr.heap.size, 1, none⟩ = some (.int .i64 xd)) ∧ W.cell? ⟨w.heap.size, 0, none⟩ = some (.int .i64 k) ∧ W.cell? ⟨w.heap.size, 1, none⟩ = some (.int .i64 cl) ∧ W.cell? ⟨w.heap.size, 2, none⟩ = some (.int .i64 b) ∧ W.cell? ⟨w.heap.size, 3, none⟩ = some (.int .i64 tt) ∧ W.cell? ⟨w.heap.size, 4, none⟩ = some (.int .i64 d) ∧ W.cell? ⟨w.heap.size, 5, none⟩ = some (.int .i64 l) ∧ W.cell? ⟨w.heap.size, 6, none⟩ = some (.int .i64 p) ∧ W.cell? ⟨w.heap.size, 7, none⟩ = some (.int .i64 cols) ∧ W.cell? ⟨w.heap.size, 8, none⟩ = some (.int .u64 (seed : Int)) ∧ W.cell? ⟨w.heap.size, 9, none⟩ = some (.slice Ae ne ce) ∧ W.cell? ⟨w.heap.size, 10, none⟩ = some (.slice At nt ct) ∧ W.cell? ⟨w.heap.size, 11, none⟩ = some (.int .i64 num) ∧ W.cell? ⟨w.heap.size, 12, none⟩ = some (.int .i64 den) ∧ W.cell? ⟨w.heap.size, 13, none⟩ = some (.slice (some ad) ns cs))) (by kernel_rfl) ?_ (fun hS0 => ?_)
            · exact (HSS7.out _ HZ0.out)
            refine' wpAnyH_take (i := 0) (v := _) rfl (by kernel_rfl) (by kernel_rfl) (by kernel_rfl) (fun _ _ _ h => h) (Or.inl ⟨by rfl, ?hyr9_0⟩) hS0 ?restr9_0
            case hyr9_0 => (intro w hSw; (try dsimp only at hSw); go_simp; try with_reducible rfl)
            simp only [Act.put, List.setIfInBounds_toArray, List.set_cons_zero, List.set_cons_succ, List.getElem_toArray, List.getElem_cons_zero, List.getElem_cons_succ]
            refine' wpAnyH_take (i := 1) (v := _) rfl (by kernel_rfl) (by kernel_rfl) (by kernel_rfl) (fun _ _ _ h => h) (Or.inl ⟨by rfl, ?hyr9_1⟩) hS0 ?restr9_1
            case hyr9_1 => (intro w hSw; (try dsimp only at hSw); go_simp; try with_reducible rfl)
            simp only [Act.put, List.setIfInBounds_toArray, List.set_cons_zero, List.set_cons_succ, List.getElem_toArray, List.getElem_cons_zero, List.getElem_cons_succ]
            refine' wpAnyH_take (i := 2) (v := _) rfl (by kernel_rfl) (by kernel_rfl) (by kernel_rfl) (fun _ _ _ h => h) (Or.inl ⟨by rfl, ?hyr9_2⟩) hS0 ?restr9_2
            case hyr9_2 => (intro w hSw; (try dsimp only at hSw); go_simp; try with_reducible rfl)
            simp only [Act.put, List.setIfInBounds_toArray, List.set_cons_zero, List.set_cons_succ, List.getElem_toArray, List.getElem_cons_zero, List.getElem_cons_succ]
            refine' wpAnyH_take (i := 3) (v := _) rfl (by kernel_rfl) (by kernel_rfl) (by kernel_rfl) (fun _ _ _ h => h) (Or.inl ⟨by rfl, ?hyr9_3⟩) hS0 ?restr9_3
            case hyr9_3 => (intro w hSw; (try dsimp only at hSw); go_simp; try with_reducible rfl)
            simp only [Act.put, List.setIfInBounds_toArray, List.set_cons_zero, List.set_cons_succ, List.getElem_toArray, List.getElem_cons_zero, List.getElem_cons_succ]
            refine' wpAnyH_take (i := 4) (v := _) rfl (by kernel_rfl) (by kernel_rfl) (by kernel_rfl) (fun _ _ _ h => h) (Or.inl ⟨by rfl, ?hyr9_4⟩) hS0 ?restr9_4
            case hyr9_4 => (intro w hSw; (try dsimp only at hSw); go_simp; try with_reducible rfl)
            simp only [Act.put, List.setIfInBounds_toArray, List.set_cons_zero, List.set_cons_succ, List.getElem_toArray, List.getElem_cons_zero, List.getElem_cons_succ]
            refine' wpAnyH_take (i := 5) (v := _) rfl (by kernel_rfl) (by kernel_rfl) (by kernel_rfl) (fun _ _ _ h => h) (Or.inl ⟨by rfl, ?hyr9_5⟩) hS0 ?restr9_5
            case hyr9_5 => (intro w hSw; (try dsimp only at hSw); go_simp; try with_reducible rfl)
            simp only [Act.put, List.setIfInBounds_toArray, List.set_cons_zero, List.set_cons_succ, List.getElem_toArray, List.getElem_cons_zero, List.getElem_cons_succ]
            refine' wpAnyH_take (i := 6) (v := _) rfl (by kernel_rfl) (by kernel_rfl) (by kernel_rfl) (fun _ _ _ h => h) (Or.inl ⟨by rfl, ?hyr9_6⟩) hS0 ?restr9_6
            case hyr9_6 => (intro w hSw; (try dsimp only at hSw); go_simp; try with_reducible rfl)
            simp only [Act.put, List.setIfInBounds_toArray, List.set_cons_zero, List.set_cons_succ, List.getElem_toArray, List.getElem_cons_zero, List.getElem_cons_succ]
            refine' wpAnyH_take (i := 7) (v := _) rfl (by kernel_rfl) (by kernel_rfl) (by kernel_rfl) (fun _ _ _ h => h) (Or.inl ⟨by rfl, ?hyr9_7⟩) hS0 ?restr9_7
            case hyr9_7 => (intro w hSw; (try dsimp only at hSw); go_simp; try with_reducible rfl)
            simp only [Act.put, List.setIfInBounds_toArray, List.set_cons_zero, List.set_cons_succ, List.getElem_toArray, List.getElem_cons_zero, List.getElem_cons_succ]
            refine' wpAnyH_take (i := 8) (v := _) rfl (by kernel_rfl) (by kernel_rfl) (by kernel_rfl) (fun _ _ _ h => h) (Or.inl ⟨by rfl, ?hyr9_8⟩) hS0 ?restr9_8
            case hyr9_8 => (intro w hSw; (try dsimp only at hSw); go_simp; try with_reducible rfl)
            simp only [Act.put, List.setIfInBounds_toArray, List.set_cons_zero, List.set_cons_succ, List.getElem_toArray, List.getElem_cons_zero, List.getElem_cons_succ]
            refine' wpAnyH_take (i := 9) (v := _) rfl (by kernel_rfl) (by kernel_rfl) (by kernel_rfl) (fun _ _ _ h => h) (Or.inl ⟨by rfl, ?hyr9_9⟩) hS0 ?restr9_9
            case hyr9_9 => (intro w hSw; (try dsimp only at hSw); go_simp; try with_reducible rfl)
            simp only [Act.put, List.setIfInBounds_toArray, List.set_cons_zero, List.set_cons_succ, List.getElem_toArray, List.getElem_cons_zero, List.getElem_cons_succ]
            refine wpAnyH_ready (rs := [10]) (by kernel_rfl) (by simp) ?_
            refine AllReadyH.cons rfl (fun K hK => ?_) AllReadyH.nil
            go_simp
            refine (KB2.out _).mono ?_
            rintro e wc1 ⟨rfl, hb⟩
            have HZ1 := Lib.hid (HZ0.out.trans (hb.mono HZ0.out.size))
            clear hb
            refine hK.out _ _ (HSS7.out _ HZ1.out) (fun hS1 => ?_)
            clear hK K
            refine' wpAnyH_take (i := 11) (v := _) rfl (by kernel_rfl) (by kernel_rfl) (by kernel_rfl) (fun _ _ _ h => h) (Or.inl ⟨by rfl, ?hyr9_11⟩) hS1 ?restr9_11
            case hyr9_11 => (intro w hSw; (try dsimp only at hSw); go_simp; try with_reducible rfl)
            simp only [Act.put, List.setIfInBounds_toArray, List.set_cons_zero, List.set_cons_succ, List.getElem_toArray, List.getElem_cons_zero, List.getElem_cons_succ]
            refine' wpAnyH_take (i := 12) (v := _) rfl (by kernel_rfl) (by kernel_rfl) (by kernel_rfl) (fun _ _ _ h => h) (Or.inl ⟨by rfl, ?hyr9_12⟩) hS1 ?restr9_12
            case hyr9_12 => (intro w hSw; (try dsimp only at hSw); go_simp; try with_reducible rfl)
            simp only [Act.put, List.setIfInBounds_toArray, List.set_cons_zero, List.set_cons_succ, List.getElem_toArray, List.getElem_cons_zero, List.getElem_cons_succ]
            refine' wpAnyH_take (i := 13) (v := _) rfl (by kernel_rfl) (by kernel_rfl) (by kernel_rfl) (fun _ _ _ h => h) (Or.inl ⟨by rfl, ?hyr9_13⟩) hS1 ?restr9_13
            case hyr9_13 => (intro w hSw; (try dsimp only at hSw); go_simp; try with_reducible rfl)
            simp only [Act.put, List.setIfInBounds_toArray, List.set_cons_zero, List.set_cons_succ, List.getElem_toArray, List.getElem_cons_zero, List.getElem_cons_succ]
            refine' wpAnyH_take (i := 14) (v := _) rfl (by kernel_rfl) (by kernel_rfl) (by kernel_rfl) (fun _ _ _ h => h) (Or.inl ⟨by rfl, ?hyr9_14⟩) hS1 ?restr9_14
            case hyr9_14 => (intro w hSw; (try dsimp only at hSw); go_simp; try with_reducible rfl)
            simp only [Act.put, List.setIfInBounds_toArray, List.set_cons_zero, List.set_cons_succ, List.getElem_toArray, List.getElem_cons_zero, List.getElem_cons_succ]
            refine' wpAnyH_take (i := 15) (v := _) rfl (by kernel_rfl) (by kernel_rfl) (by kernel_rfl) (fun _ _ _ h => h) (Or.inl ⟨by rfl, ?hyr9_15⟩) hS1 ?restr9_15
            case hyr9_15 => (intro w hSw; (try dsimp only at hSw); go_simp; try with_reducible rfl)
            simp only [Act.put, List.setIfInBounds_toArray, List.set_cons_zero, List.set_cons_succ, List.getElem_toArray, List.getElem_cons_zero, List.getElem_cons_succ]
            refine' wpAnyH_take (i := 16) (v := _) rfl (by kernel_rfl) (by kernel_rfl) (by kernel_rfl) (fun _ _ _ h => h) (Or.inl ⟨by rfl, ?hyr9_16⟩) hS1 ?restr9_16
            case hyr9_16 => (intro w hSw; (try dsimp only at hSw); go_simp; try with_reducible rfl)
            simp only [Act.put, List.setIfInBounds_toArray, List.set_cons_zero, List.set_cons_succ, List.getElem_toArray, List.getElem_cons_zero, List.getElem_cons_succ]
            refine' wpAnyH_take (i := 17) (v := _) rfl (by kernel_rfl) (by kernel_rfl) (by kernel_rfl) (fun _ _ _ h => h) (Or.inl ⟨by rfl, ?hyr9_17⟩) hS1 ?restr9_17
            case hyr9_17 => (intro w hSw; (try dsimp only at hSw); go_simp; try with_reducible rfl)
            simp only [Act.put, List.setIfInBounds_toArray, List.set_cons_zero, List.set_cons_succ, List.getElem_toArray, List.getElem_cons_zero, List.getElem_cons_succ]
            refine' wpAnyH_take (i := 18) (v := _) rfl (by kernel_rfl) (by kernel_rfl) (by kernel_rfl) (fun _ _ _ h => h) (Or.inl ⟨by rfl, ?hyr9_18⟩) hS1 ?restr9_18
            case hyr9_18 => (intro w hSw; (try dsimp only at hSw); go_simp; try with_reducible rfl)
            simp only [Act.put, List.setIfInBounds_toArray, List.set_cons_zero, List.set_cons_succ, List.getElem_toArray, List.getElem_cons_zero, List.getElem_cons_succ]
            refine wpAnyH_ready (rs := [19]) (by kernel_rfl) (by simp) ?_
            refine AllReadyH.cons rfl (fun K hK => ?_) AllReadyH.nil
            go_simp
            refine (KB2.out _).mono ?_
            rintro e wc2 ⟨rfl, hb⟩
            have HZ2 := Lib.hid (HZ1.out.trans (hb.mono HZ1.out.size))
            clear hb
            refine hK.out _ _ (HSS7.out _ HZ2.out) (fun hS2 => ?_)
            clear hK K
            refine' wpAnyH_take (i := 20) (v := _) rfl (by kernel_rfl) (by kernel_rfl) (by kernel_rfl) (fun _ _ _ h => h) (Or.inl ⟨by rfl, ?hyr9_20⟩) hS2 ?restr9_20
            case hyr9_20 => (intro w hSw; (try dsimp only at hSw); go_simp; try with_reducible rfl)
            simp only [Act.put, List.setIfInBounds_toArray, List.set_cons_zero, List.set_cons_succ, List.getElem_toArray, List.getElem_cons_zero, List.getElem_cons_succ]
            refine' wpAnyH_take (i := 21) (v := _) rfl (by kernel_rfl) (by kernel_rfl) (by kernel_rfl) (fun _ _ _ h => h) (Or.inl ⟨by rfl, ?hyr9_21⟩) hS2 ?restr9_21
            case hyr9_21 => (intro w hSw; (try dsimp only at hSw); go_simp; try with_reducible rfl)
            simp only [Act.put, List.setIfInBounds_toArray, List.set_cons_zero, List.set_cons_succ, List.getElem_toArray, List.getElem_cons_zero, List.getElem_cons_succ]
            refine' wpAnyH_take (i := 22) (v := _) rfl (by kernel_rfl) (by kernel_rfl) (by kernel_rfl) (fun _ _ _ h => h) (Or.inl ⟨by rfl, ?hyr9_22⟩) hS2 ?restr9_22
            case hyr9_22 => (intro w hSw; (try dsimp only at hSw); go_simp; try with_reducible rfl)
            simp only [Act.put, List.setIfInBounds_toArray, List.set_cons_zero, List.set_cons_succ, List.getElem_toArray, List.getElem_cons_zero, List.getElem_cons_succ]
            refine wpAnyH_done (by kernel_rfl) ?_ _
            go_wp2
            go_roundw
            case rel => exact ⟨i + 1, hlt, by go_num, HN, Lib.hid (HBW1.out.trans (HZ2.out.mono HBW1.out.size))⟩
            case measure => simp [intOf]; omega
      · have e1 : (xd != den) = true := bne_iff_ne.2 c1
        have HF : Hid (E = false) := Lib.hid (by rw [HE2.out, ← HI.out, HA.out, HSX.out, e1]; rfl)
        clear c1
        refine wp_region_held_drew (S := (fun W => (W.cell? ⟨wr.heap.size, 0, none⟩ = some (.int .i64 xn) ∧ W.cell? ⟨wr.heap.size, 1, none⟩ = some (.int .i64 xd)) ∧ W.cell? ⟨w.heap.size, 0, none⟩ = some (.int .i64 k) ∧ W.cell? ⟨w.heap.size, 1, none⟩ = some (.int .i64 cl) ∧ W.cell? ⟨w.heap.size, 2, none⟩ = some (.int .i64 b) ∧ W.cell? ⟨w.heap.size, 3, none⟩ = some (.int .i64 tt) ∧ W.cell? ⟨w.heap.size, 4, none⟩ = some (.int .i64 d) ∧ W.cell? ⟨w.heap.size, 5, none⟩ = some (.int .i64 l) ∧ W.cell? ⟨w.heap.size, 6, none⟩ = some (.int .i64 p) ∧ W.cell? ⟨w.heap.size, 7, none⟩ = some (.int .i64 cols) ∧ W.cell? ⟨w.heap.size, 8, none⟩ = some (.int .u64 (seed : Int)) ∧ W.cell? ⟨w.heap.size, 9, none⟩ = some (.slice Ae ne ce) ∧ W.cell? ⟨w.heap.size, 10, none⟩ = some (.slice At nt ct) ∧ W.cell? ⟨w.heap.size, 11, none⟩ = some (.int .i64 num) ∧ W.cell? ⟨w.heap.size, 12, none⟩ = some (.int .i64 den) ∧ W.cell? ⟨w.heap.size, 13, none⟩ = some (.slice (some ad) ns cs))) (by kernel_rfl) ?_ (fun hS0 => ?_)
        · exact (HSS7.out _ HZ0.out)
        refine' wpAnyH_take (i := 0) (v := _) rfl (by kernel_rfl) (by kernel_rfl) (by kernel_rfl) (fun _ _ _ h => h) (Or.inl ⟨by rfl, ?hyr6_0⟩) hS0 ?restr6_0
        case hyr6_0 => (intro w hSw; (try dsimp only at hSw); go_simp; try with_reducible rfl)
        simp only [Act.put, List.setIfInBounds_toArray, List.set_cons_zero, List.set_cons_succ, List.getElem_toArray, List.getElem_cons_zero, List.getElem_cons_succ]
        refine' wpAnyH_take (i := 1) (v := _) rfl (by kernel_rfl) (by kernel_rfl) (by kernel_rfl) (fun _ _ _ h => h) (Or.inl ⟨by rfl, ?hyr6_1⟩) hS0 ?restr6_1
        case hyr6_1 => (intro w hSw; (try dsimp only at hSw); go_simp; try with_reducible rfl)
        simp only [Act.put, List.setIfInBounds_toArray, List.set_cons_zero, List.set_cons_succ, List.getElem_toArray, List.getElem_cons_zero, List.getElem_cons_succ]
        refine' wpAnyH_take (i := 2) (v := _) rfl (by kernel_rfl) (by kernel_rfl) (by kernel_rfl) (fun _ _ _ h => h) (Or.inl ⟨by rfl, ?hyr6_2⟩) hS0 ?restr6_2
        case hyr6_2 => (intro w hSw; (try dsimp only at hSw); go_simp; try with_reducible rfl)
        simp only [Act.put, List.setIfInBounds_toArray, List.set_cons_zero, List.set_cons_succ, List.getElem_toArray, List.getElem_cons_zero, List.getElem_cons_succ]
        refine' wpAnyH_take (i := 3) (v := _) rfl (by kernel_rfl) (by kernel_rfl) (by kernel_rfl) (fun _ _ _ h => h) (Or.inl ⟨by rfl, ?hyr6_3⟩) hS0 ?restr6_3
        case hyr6_3 => (intro w hSw; (try dsimp only at hSw); go_simp; try with_reducible rfl)
        simp only [Act.put, List.setIfInBounds_toArray, List.set_cons_zero, List.set_cons_succ, List.getElem_toArray, List.getElem_cons_zero, List.getElem_cons_succ]
        refine' wpAnyH_take (i := 4) (v := _) rfl (by kernel_rfl) (by kernel_rfl) (by kernel_rfl) (fun _ _ _ h => h) (Or.inl ⟨by rfl, ?hyr6_4⟩) hS0 ?restr6_4
        case hyr6_4 => (intro w hSw; (try dsimp only at hSw); go_simp; try with_reducible rfl)
        simp only [Act.put, List.setIfInBounds_toArray, List.set_cons_zero, List.set_cons_succ, List.getElem_toArray, List.getElem_cons_zero, List.getElem_cons_succ]
        refine' wpAnyH_take (i := 5) (v := _) rfl (by kernel_rfl) (by kernel_rfl) (by kernel_rfl) (fun _ _ _ h => h) (Or.inr ⟨by rfl, rfl⟩) hS0 ?restr6_5
        simp only [Act.put, List.setIfInBounds_toArray, List.set_cons_zero, List.set_cons_succ, List.getElem_toArray, List.getElem_cons_zero, List.getElem_cons_succ]
        refine' wpAnyH_take (i := 6) (v := _) rfl (by kernel_rfl) (by kernel_rfl) (by kernel_rfl) (fun _ _ _ h => h) (Or.inr ⟨by rfl, rfl⟩) hS0 ?restr6_6
        simp only [Act.put, List.setIfInBounds_toArray, List.set_cons_zero, List.set_cons_succ, List.getElem_toArray, List.getElem_cons_zero, List.getElem_cons_succ]
        refine' wpAnyH_take (i := 7) (v := _) rfl (by kernel_rfl) (by kernel_rfl) (by kernel_rfl) (fun _ _ _ h => h) (Or.inr ⟨by rfl, rfl⟩) hS0 ?restr6_7
        simp only [Act.put, List.setIfInBounds_toArray, List.set_cons_zero, List.set_cons_succ, List.getElem_toArray, List.getElem_cons_zero, List.getElem_cons_succ]
        refine' wpAnyH_take (i := 8) (v := _) rfl (by kernel_rfl) (by kernel_rfl) (by kernel_rfl) (fun _ _ _ h => h) (Or.inr ⟨by rfl, rfl⟩) hS0 ?restr6_8
        simp only [Act.put, List.setIfInBounds_toArray, List.set_cons_zero, List.set_cons_succ, List.getElem_toArray, List.getElem_cons_zero, List.getElem_cons_succ]
        refine' wpAnyH_take (i := 9) (v := _) rfl (by kernel_rfl) (by kernel_rfl) (by kernel_rfl) (fun _ _ _ h => h) (Or.inr ⟨by rfl, rfl⟩) hS0 ?restr6_9
        simp only [Act.put, List.setIfInBounds_toArray, List.set_cons_zero, List.set_cons_succ, List.getElem_toArray, List.getElem_cons_zero, List.getElem_cons_succ]
        refine' wpAnyH_take (i := 10) (v := _) rfl (by kernel_rfl) (by kernel_rfl) (by kernel_rfl) (fun _ _ _ h => h) (Or.inr ⟨by rfl, rfl⟩) hS0 ?restr6_10
        simp only [Act.put, List.setIfInBounds_toArray, List.set_cons_zero, List.set_cons_succ, List.getElem_toArray, List.getElem_cons_zero, List.getElem_cons_succ]
        refine' wpAnyH_take (i := 11) (v := _) rfl (by kernel_rfl) (by kernel_rfl) (by kernel_rfl) (fun _ _ _ h => h) (Or.inr ⟨by rfl, rfl⟩) hS0 ?restr6_11
        simp only [Act.put, List.setIfInBounds_toArray, List.set_cons_zero, List.set_cons_succ, List.getElem_toArray, List.getElem_cons_zero, List.getElem_cons_succ]
        refine' wpAnyH_take (i := 12) (v := _) rfl (by kernel_rfl) (by kernel_rfl) (by kernel_rfl) (fun _ _ _ h => h) (Or.inl ⟨by rfl, ?hyr6_12⟩) hS0 ?restr6_12
        case hyr6_12 => (intro w hSw; (try dsimp only at hSw); go_simp; try with_reducible rfl)
        simp only [Act.put, List.setIfInBounds_toArray, List.set_cons_zero, List.set_cons_succ, List.getElem_toArray, List.getElem_cons_zero, List.getElem_cons_succ]
        refine' wpAnyH_take (i := 13) (v := _) rfl (by kernel_rfl) (by kernel_rfl) (by kernel_rfl) (fun _ _ _ h => h) (Or.inl ⟨by rfl, ?hyr6_13⟩) hS0 ?restr6_13
        case hyr6_13 => (intro w hSw; (try dsimp only at hSw); go_simp; try with_reducible rfl)
        simp only [Act.put, List.setIfInBounds_toArray, List.set_cons_zero, List.set_cons_succ, List.getElem_toArray, List.getElem_cons_zero, List.getElem_cons_succ]
        refine' wpAnyH_take (i := 14) (v := _) rfl (by kernel_rfl) (by kernel_rfl) (by kernel_rfl) (fun _ _ _ h => h) (Or.inr ⟨by rfl, rfl⟩) hS0 ?restr6_14
        simp only [Act.put, List.setIfInBounds_toArray, List.set_cons_zero, List.set_cons_succ, List.getElem_toArray, List.getElem_cons_zero, List.getElem_cons_succ]
        refine' wpAnyH_take (i := 15) (v := _) rfl (by kernel_rfl) (by kernel_rfl) (by kernel_rfl) (fun _ _ _ h => h) (Or.inr ⟨by rfl, rfl⟩) hS0 ?restr6_15
        simp only [Act.put, List.setIfInBounds_toArray, List.set_cons_zero, List.set_cons_succ, List.getElem_toArray, List.getElem_cons_zero, List.getElem_cons_succ]
        refine' wpAnyH_take (i := 16) (v := _) rfl (by kernel_rfl) (by kernel_rfl) (by kernel_rfl) (fun _ _ _ h => h) (Or.inr ⟨by rfl, rfl⟩) hS0 ?restr6_16
        simp only [Act.put, List.setIfInBounds_toArray, List.set_cons_zero, List.set_cons_succ, List.getElem_toArray, List.getElem_cons_zero, List.getElem_cons_succ]
        refine' wpAnyH_take (i := 17) (v := _) rfl (by kernel_rfl) (by kernel_rfl) (by kernel_rfl) (fun _ _ _ h => h) (Or.inr ⟨by rfl, rfl⟩) hS0 ?restr6_17
        simp only [Act.put, List.setIfInBounds_toArray, List.set_cons_zero, List.set_cons_succ, List.getElem_toArray, List.getElem_cons_zero, List.getElem_cons_succ]
        refine' wpAnyH_take (i := 18) (v := _) rfl (by kernel_rfl) (by kernel_rfl) (by kernel_rfl) (fun _ _ _ h => h) (Or.inr ⟨by rfl, rfl⟩) hS0 ?restr6_18
        simp only [Act.put, List.setIfInBounds_toArray, List.set_cons_zero, List.set_cons_succ, List.getElem_toArray, List.getElem_cons_zero, List.getElem_cons_succ]
        refine' wpAnyH_take (i := 19) (v := _) rfl (by kernel_rfl) (by kernel_rfl) (by kernel_rfl) (fun _ _ _ h => h) (Or.inr ⟨by rfl, rfl⟩) hS0 ?restr6_19
        simp only [Act.put, List.setIfInBounds_toArray, List.set_cons_zero, List.set_cons_succ, List.getElem_toArray, List.getElem_cons_zero, List.getElem_cons_succ]
        refine' wpAnyH_take (i := 20) (v := _) rfl (by kernel_rfl) (by kernel_rfl) (by kernel_rfl) (fun _ _ _ h => h) (Or.inr ⟨by rfl, rfl⟩) hS0 ?restr6_20
        simp only [Act.put, List.setIfInBounds_toArray, List.set_cons_zero, List.set_cons_succ, List.getElem_toArray, List.getElem_cons_zero, List.getElem_cons_succ]
        refine' wpAnyH_take (i := 21) (v := _) rfl (by kernel_rfl) (by kernel_rfl) (by kernel_rfl) (fun _ _ _ h => h) (Or.inr ⟨by rfl, rfl⟩) hS0 ?restr6_21
        simp only [Act.put, List.setIfInBounds_toArray, List.set_cons_zero, List.set_cons_succ, List.getElem_toArray, List.getElem_cons_zero, List.getElem_cons_succ]
        refine' wpAnyH_take (i := 22) (v := _) rfl (by kernel_rfl) (by kernel_rfl) (by kernel_rfl) (fun _ _ _ h => h) (Or.inl ⟨by rfl, ?hyr6_22⟩) hS0 ?restr6_22
        case hyr6_22 => (intro w hSw; (try dsimp only at hSw); go_simp; try with_reducible rfl)
        simp only [Act.put, List.setIfInBounds_toArray, List.set_cons_zero, List.set_cons_succ, List.getElem_toArray, List.getElem_cons_zero, List.getElem_cons_succ]
        refine wpAnyH_done (by kernel_rfl) ?_ _
        go_wp2
        go_ret
        exact ⟨by rw [HF.out]; simp, HBX1.out.trans (HZ0.out.mono HBX1.out.size)⟩
    · obtain rfl : ns = i := by omega
      have HT : Hid (SA = true) := Lib.hid (by rw [← HI.out, List.drop_of_length_le (by rw [HNS.out]; exact Nat.le_refl _)]; rfl)
      have hc := HSS.out _ HYW.out
      have q7 := hc.2.2.2.2.2.2.2.1
      have q13 := hc.2.2.2.2.2.2.2.2.2.2.2.2.2
      clear hc
      go_wp2_with fail
      go_ret
      exact ⟨by rw [HE2.out, HT.out]; simp, HBX.out⟩
end Go.Proofs.Ytpekofpiodaadaa.Hb
end

section
/- The walk of model.May. -/
namespace Go.Proofs.Ytpekofpiodaadaa.Hb
set_option linter.unusedVariables false
set_option linter.unusedSimpArgs false
open Go.RowKit

theorem forest_size : (Try.prog.info? 59).map (·.size) = some 14 := by kernel_rfl
theorem wpList_load_row_g {P : Program} {ops : Array Oper} {rest : List Oper} {o : Oper} {a : Act} {w : World} {Q : Exit → Act → World → Prop} (hw : Region.wanted o (yielded ops a.tmps) = true) (ty : TypeId) (x : Operand) (ho : o.op = .load ty x)
    (g : Nat) (hx : a.eval x = .pointer (some ⟨g, 0, none⟩)) (t : TypeId) (cs : Array Value) (fr : Nat × Nat) (d : TypeDesc) (hg : w.heap[g]? = some (.cells cs t fr))
    (hu : P.underlying ty = some d) (hd : (match d with | .struct _ | .array _ _ => true | _ => false) = true) (hi : (P.info? ty).map (·.size) = some cs.size)
    (h : wpList P ops Q rest (a.put o.dst (.agg cs)) w) : wpList P ops Q (o :: rest) a w := by
  unfold wpList
  rw [if_pos hw]
  exact .inl (wp_load_row ty x ho g hx t cs fr d hg hu hd hi h)
set_option maxRecDepth 100000 in
set_option maxHeartbeats 16000000 in
theorem mayf_any (f : Fst) (Ae At As : Option Addr) (ce ct cs : Nat) (w : World) (hok : OkF f) (hr : RFo w f Ae At As) :
    Calls Try.prog 34 #[.agg (forA f Ae At As ce ct cs)] w fun e w' => e = .returned (.bool (mayF f)) ∧ Below w.heap.size w w' := by
  have KC := Lib.hid (fun w => check_any f.k f.cl f.b f.t f.d f.l f.p w)
  have KE := Lib.hid (fun w hr => errs_any f Ae At As ce ct cs w hr hok.ls)
  have KU := Lib.hid (fun (es : List Nat) (A : Option Addr) (cap : Nat) w hr hl => cuts_any f.k f.cl f.b f.t f.d f.l f.p es A cap w hr hl)
  unfold cfgF at KU
  have KT := Lib.hid (fun (t : List Nd) (A : Option Addr) (cap : Nat) w hr hl => mtree_any f Ae At As ce ct cs t A cap w hr hl)
  have HM : Hid (mayF f = (((checkO f.k f.cl f.b f.t f.d f.l f.p == 0) && (decide (1 ≤ f.cols ∧ f.cols ≤ 1024 ∧ (f.edges.length : Int) = f.cols ∧ (f.trees.length : Int) = f.t) && errsE f)) && (f.edges.all (cutsE f.b) && f.trees.all (treeE f)))) := Lib.hid rfl
  have HEE := Lib.hid hok.ee
  have HTT := Lib.hid hok.tt
  obtain ⟨M, hM⟩ : ∃ M, mayF f = M := ⟨_, rfl⟩
  obtain ⟨ck, hck⟩ : ∃ M, checkO f.k f.cl f.b f.t f.d f.l f.p = M := ⟨_, rfl⟩
  obtain ⟨er, her⟩ : ∃ M, errsE f = M := ⟨_, rfl⟩
  obtain ⟨CU, hCU⟩ : ∃ M, cutsE f.b = M := ⟨_, rfl⟩
  obtain ⟨TR, hTR⟩ : ∃ M, treeE f = M := ⟨_, rfl⟩
  obtain ⟨EA, hEA⟩ : ∃ M, f.edges.all CU = M := ⟨_, rfl⟩
  obtain ⟨TA, hTA⟩ : ∃ M, f.trees.all TR = M := ⟨_, rfl⟩
  have HEA : Hid ((f.edges.drop 0).all CU = EA) := Lib.hid (by rw [List.drop_zero]; exact hEA)
  have HTA : Hid ((f.trees.drop 0).all TR = TA) := Lib.hid (by rw [List.drop_zero]; exact hTA)
  rw [hM, hck, her, hCU, hTR, hEA, hTA] at HM
  rw [hck] at KC
  rw [her] at KE
  rw [hCU] at KU
  rw [hTR] at KT
  rw [hM]
  have HRE := Lib.hid hr
  unfold forA at KE KT ⊢
  obtain ⟨ne, hne⟩ : ∃ n, f.edges.length = n := ⟨_, rfl⟩
  obtain ⟨nt, hnt⟩ : ∃ n, f.trees.length = n := ⟨_, rfl⟩
  obtain ⟨ns, hns⟩ : ∃ n, f.shake.length = n := ⟨_, rfl⟩
  obtain ⟨k, cl, b, tt, d, l, p, cols, seed, edges, trees, num, den, shake⟩ := f
  simp only at KC KE KU KT HM HEE HTT HEA HTA hne hnt hns ⊢
  rw [hne, hnt, hns] at KE KT ⊢
  rw [hne, hnt] at HM
  have lne : ne ≤ 9223372036854775807 := by have := hok.le; simp only at this; omega
  have lnt : nt ≤ 9223372036854775807 := by have := hok.lt; simp only at this; omega
  have HNE := Lib.hid hne
  have HNT := Lib.hid hnt
  clear hM hck her hCU hTR hEA hTA hok hr hne hnt hns
  go_enter Try.func34, Try.ntmps34
  go_upto_region 1 with (fail)
  have kB := Blk.new w #[.int .i64 k, .int .i64 cl, .int .i64 b, .int .i64 tt, .int .i64 d, .int .i64 l, .int .i64 p, .int .i64 cols, .int .u64 (seed : Int), .slice Ae ne ce, .slice At nt ct, .int .i64 num, .int .i64 den, .slice As ns cs] 59
  have HBE := Lib.hid ((Below.refl w.heap.size w).alloc (Nat.le_refl _) (.cells #[.int .i64 k, .int .i64 cl, .int .i64 b, .int .i64 tt, .int .i64 d, .int .i64 l, .int .i64 p, .int .i64 cols, .int .u64 (seed : Int), .slice Ae ne ce, .slice At nt ct, .int .i64 num, .int .i64 den, .slice As ns cs] 59))
  obtain ⟨w0, hw0⟩ : ∃ W, w.alloc (.cells #[.int .i64 k, .int .i64 cl, .int .i64 b, .int .i64 tt, .int .i64 d, .int .i64 l, .int .i64 p, .int .i64 cols, .int .u64 (seed : Int), .slice Ae ne ce, .slice At nt ct, .int .i64 num, .int .i64 den, .slice As ns cs] 59) = W := ⟨_, rfl⟩
  rw [hw0] at kB HBE ⊢
  obtain ⟨q0, q1, q2, q3, q4, q5, q6, q7, q8, q9, q10, q11, q12, q13⟩ := kB.cells14
  have hlB := kB.lt
  have KB0 := Lib.hid kB
  clear hw0 kB
  go_wp2_with fail
  refine (KC.out _).mono ?_
  rintro e w1 ⟨rfl, hb⟩
  have KB1 := Lib.hid (KB0.out.below hb)
  have HB1 := Lib.hid (HBE.out.trans (hb.mono HBE.out.size))
  clear hb q0 q1 q2 q3 q4 q5 q6 q7 q8 q9 q10 q11 q12 q13 hlB KB0 HBE
  obtain ⟨q0, q1, q2, q3, q4, q5, q6, q7, q8, q9, q10, q11, q12, q13⟩ := KB1.out.cells14
  have hlB := KB1.out.lt
  by_cases c0 : ck = 0
  · have e0 : (ck != 0) = false := bne_eq_false_iff_eq.2 c0
    have e0' : (ck == 0) = true := beq_iff_eq.2 c0
    by_cases c1 : cols < 1
    · have e1 : decide (cols < 1) = true := decide_eq_true c1
      have HF : Hid (M = false) := Lib.hid (by rw [HM.out, decide_eq_false (show ¬ (1 ≤ cols ∧ cols ≤ 1024 ∧ (ne : Int) = cols ∧ (nt : Int) = tt) by omega)]; simp)
      clear c0 c1
      go_wp2_with fail
      go_ret
      exact ⟨by rw [HF.out]; first | rfl | simp, HB1.out⟩
    have e1 : decide (cols < 1) = false := decide_eq_false c1
    by_cases c2 : 1024 < cols
    · have e2 : decide (1024 < cols) = true := decide_eq_true c2
      have HF : Hid (M = false) := Lib.hid (by rw [HM.out, decide_eq_false (show ¬ (1 ≤ cols ∧ cols ≤ 1024 ∧ (ne : Int) = cols ∧ (nt : Int) = tt) by omega)]; simp)
      clear c0 c1 c2
      go_wp2_with fail
      go_ret
      exact ⟨by rw [HF.out]; first | rfl | simp, HB1.out⟩
    have e2 : decide (1024 < cols) = false := decide_eq_false c2
    by_cases c3 : (ne : Int) = cols
    · have e3 : ((ne : Int) != cols) = false := bne_eq_false_iff_eq.2 c3
      by_cases c4 : (nt : Int) = tt
      · have e4 : ((nt : Int) != tt) = false := bne_eq_false_iff_eq.2 c4
        have HM2 : Hid (M = (er && (EA && TA))) := Lib.hid (by rw [HM.out, decide_eq_true (show (1 ≤ cols ∧ cols ≤ 1024 ∧ (ne : Int) = cols ∧ (nt : Int) = tt) by omega), e0']; simp)
        have HC3 := Lib.hid c3
        clear c0 c1 c2 c3 c4 q0 q1 q2 q3 q4 q5 q6 q7 q8 q9 q10 q11 q12 q13
        obtain ⟨q0, q1, q2, q3, q4, q5, q6, q7, q8, q9, q10, q11, q12, q13⟩ := KB1.out.cells14
        have KBX := KB1.out
        go_wp2_with (refine wpList_load_row_g rfl 59 (.tmp 1) rfl w.heap.size rfl 59 _ (0, 0) _ KBX Try.underlying59 rfl forest_size ?_)
        refine (KE.out _ (HRE.out.rs.below HB1.out)).mono ?_
        rintro e w2 ⟨rfl, hb⟩
        have KB2 := Lib.hid (KB1.out.below hb)
        have HB2 := Lib.hid (HB1.out.trans (hb.mono HB1.out.size))
        clear hb KBX KB1 HB1 q0 q1 q2 q3 q4 q5 q6 q7 q8 q9 q10 q11 q12 q13 hlB
        have hlB := KB2.out.lt
        cases er with
        | false =>
          have HF : Hid (M = false) := Lib.hid HM2.out
          go_wp2_with fail
          go_ret
          exact ⟨by rw [HF.out]; first | rfl | simp, HB2.out⟩
        | true =>
          have HM3 : Hid (M = (EA && TA)) := Lib.hid HM2.out
          have q9 : w2.cell? ⟨w.heap.size, 9, none⟩ = some (.slice Ae ne ce) := KB2.out.cell 9
          go_upto_region 4 with (fail)
          clear q9 hlB
          go_loopw [46] (fun iv wr => ∃ i : Nat, i ≤ ne ∧ iv = .int .i64 i ∧ Hid ((edges.drop i).all CU = EA) ∧ Hid (Below w2.heap.size w2 wr)) (fun iv _ => ne - (intOf iv).toNat)
          case atStart => exact ⟨0, Nat.zero_le _, rfl, HEA, Lib.hid (Below.refl _ _)⟩
          case round =>
            obtain ⟨i, hi, rfl, HI, HBW⟩ := hrel
            have HBX := Lib.hid (HB2.out.trans (HBW.out.mono HB2.out.size))
            have KB3 := Lib.hid (KB2.out.below HBW.out)
            obtain ⟨w3, hw3⟩ : ∃ x, x = wr := ⟨_, rfl⟩
            subst hw3
            by_cases hlt : i < ne
            · have hlt' : (i : Int) < ne := by omega
              obtain ⟨ad, rfl, es, Be, ce2, hx, he1, he2, he3, he4⟩ := (HRE.out.re.below HBX.out).at (i := i) (by rw [HNE.out]; exact hlt)
              have HA := Lib.hid (all_at (p := CU) hx)
              have KU2 := Lib.hid (KU.out es Be ce2 w3 he4 (by have := HEE.out es (List.mem_of_getElem? hx); omega))
              obtain ⟨r, hre⟩ : ∃ r, CU es = r := ⟨_, rfl⟩
              rw [hre] at KU2 HA
              obtain ⟨m, hm⟩ : ∃ m, es.length = m := ⟨_, rfl⟩
              rw [hm] at KU2 he1
              obtain ⟨q0, q1, q2, q3, q4, q5, q6, q7, q8, q9, q10, q11, q12, q13⟩ := KB3.out.cells14
              have hlB := KB3.out.lt
              clear hx he4 hre hm he2 he3 q9 q10 q11 q12 q13
              go_wp2_with fail
              refine KU2.out.mono ?_
              rintro e w4 ⟨rfl, hb⟩
              have HB4 := Lib.hid (HBX.out.trans (hb.mono HBX.out.size))
              have HBW4 := Lib.hid (HBW.out.trans (hb.mono HBW.out.size))
              clear hb q0 q1 q2 q3 q4 q5 q6 q7 q8 hlB
              cases r with
              | false =>
                have HF : Hid (M = false) := Lib.hid (by rw [HM3.out, ← HI.out, HA.out]; rfl)
                go_wp2_with fail
                go_ret
                exact ⟨by rw [HF.out]; rfl, HB4.out⟩
              | true =>
                have HN : Hid ((edges.drop (i + 1)).all CU = EA) := Lib.hid (by rw [← HI.out, HA.out, Bool.true_and])
                go_wp2_with fail
                go_roundw
                case rel => exact ⟨i + 1, hlt, by go_num, HN, HBW4⟩
                case measure => simp [intOf]; omega
            · obtain rfl : ne = i := by omega
              have HM4 : Hid (M = TA) := Lib.hid (by rw [HM3.out, ← HI.out, List.drop_of_length_le (by rw [HNE.out]; exact Nat.le_refl _)]; rfl)
              have q10 : w3.cell? ⟨w.heap.size, 10, none⟩ = some (.slice At nt ct) := KB3.out.cell 10
              have hlB := KB3.out.lt
              go_upto_region 10 with (fail)
              clear q10 hlB
              go_loopw [59] (fun iv wr => ∃ i : Nat, i ≤ nt ∧ iv = .int .i64 i ∧ Hid ((trees.drop i).all TR = TA) ∧ Hid (Below w3.heap.size w3 wr)) (fun iv _ => nt - (intOf iv).toNat)
              case atStart => exact ⟨0, Nat.zero_le _, rfl, HTA, Lib.hid (Below.refl _ _)⟩
              case round =>
                obtain ⟨j, hj, rfl, HJ, HBJ⟩ := hrel
                have HBY := Lib.hid (HBX.out.trans (HBJ.out.mono HBX.out.size))
                have KB5 := Lib.hid (KB3.out.below HBJ.out)
                obtain ⟨w5, hw5⟩ : ∃ x, x = wr := ⟨_, rfl⟩
                subst hw5
                by_cases hjt : j < nt
                · have hjt' : (j : Int) < nt := by omega
                  obtain ⟨ad, rfl, ts, Bt, ct2, hx, ht1, ht2, ht3, ht4⟩ := (HRE.out.rt.below HBY.out).at (i := j) (by rw [HNT.out]; exact hjt)
                  have HA := Lib.hid (all_at (p := TR) hx)
                  have KT2 := Lib.hid (KT.out ts Bt ct2 w5 ht4 (by have := HTT.out ts (List.mem_of_getElem? hx); omega))
                  obtain ⟨r, hre⟩ : ∃ r, TR ts = r := ⟨_, rfl⟩
                  rw [hre] at KT2 HA
                  obtain ⟨m, hm⟩ : ∃ m, ts.length = m := ⟨_, rfl⟩
                  rw [hm] at KT2 ht1
                  have KBX := KB5.out
                  clear hx ht4 hre hm ht2 ht3
                  go_wp2_with (refine wpList_load_row rfl 59 (.tmp 1) rfl w.heap.size rfl 59 _ (0, 0) _ KBX Try.underlying59 rfl forest_size ?_)
                  refine KT2.out.mono ?_
                  rintro e w6 ⟨rfl, hb⟩
                  have HB6 := Lib.hid (HBY.out.trans (hb.mono HBY.out.size))
                  have HBJ6 := Lib.hid (HBJ.out.trans (hb.mono HBJ.out.size))
                  clear hb KBX
                  cases r with
                  | false =>
                    have HF : Hid (M = false) := Lib.hid (by rw [HM4.out, ← HJ.out, HA.out]; rfl)
                    go_wp2_with fail
                    go_ret
                    exact ⟨by rw [HF.out]; rfl, HB6.out⟩
                  | true =>
                    have HN : Hid ((trees.drop (j + 1)).all TR = TA) := Lib.hid (by rw [← HJ.out, HA.out, Bool.true_and])
                    go_wp2_with fail
                    go_roundw
                    case rel => exact ⟨j + 1, hjt, by go_num, HN, HBJ6⟩
                    case measure => simp [intOf]; omega
                · obtain rfl : nt = j := by omega
                  have HF : Hid (M = true) := Lib.hid (by rw [HM4.out, ← HJ.out, List.drop_of_length_le (by rw [HNT.out]; exact Nat.le_refl _)]; rfl)
                  go_wp2_with fail
                  go_ret
                  exact ⟨by rw [HF.out]; rfl, HBY.out⟩
      · have e4 : ((nt : Int) != tt) = true := bne_iff_ne.2 c4
        have HF : Hid (M = false) := Lib.hid (by rw [HM.out, decide_eq_false (show ¬ (1 ≤ cols ∧ cols ≤ 1024 ∧ (ne : Int) = cols ∧ (nt : Int) = tt) by omega)]; simp)
        clear c0 c1 c2 c3 c4
        go_wp2_with fail
        go_ret
        exact ⟨by rw [HF.out]; first | rfl | simp, HB1.out⟩
    · have e3 : ((ne : Int) != cols) = true := bne_iff_ne.2 c3
      have HF : Hid (M = false) := Lib.hid (by rw [HM.out, decide_eq_false (show ¬ (1 ≤ cols ∧ cols ≤ 1024 ∧ (ne : Int) = cols ∧ (nt : Int) = tt) by omega)]; simp)
      clear c0 c1 c2 c3
      go_wp2_with fail
      go_ret
      exact ⟨by rw [HF.out]; first | rfl | simp, HB1.out⟩
  · have e0 : (ck != 0) = true := bne_iff_ne.2 c0
    have HF : Hid (M = false) := Lib.hid (by rw [HM.out, beq_eq_false_iff_ne.2 c0]; rfl)
    clear c0
    go_wp2_with fail
    go_ret
    exact ⟨by rw [HF.out]; first | rfl | simp, HB1.out⟩
end Go.Proofs.Ytpekofpiodaadaa.Hb
end

section
/- The walk of printer.head. -/
namespace Go.Proofs.Ytpekofpiodaadaa.Hb
set_option linter.unusedVariables false
set_option linter.unusedSimpArgs false
open Go.RowKit

/-- A printer as it lies. -/
def priA (S : Nat) (f : Fst) (Ae At As : Option Addr) (ce ct cs : Nat) : Array Value :=
  #[.pointer (some ⟨S, 0, none⟩), .int .i64 f.k, .int .i64 f.cl, .int .i64 f.b, .int .i64 f.t, .int .i64 f.d, .int .i64 f.l, .int .i64 f.p, .int .i64 f.cols, .int .u64 (f.seed : Int), .slice Ae f.edges.length ce, .slice At f.trees.length ct, .int .i64 f.num, .int .i64 f.den, .slice As f.shake.length cs]
theorem Blk.cells15 {w : World} {g0 : Nat} {a b c d e f g h i j k l m n o : Value} {t : TypeId} (x : Blk w g0 #[a, b, c, d, e, f, g, h, i, j, k, l, m, n, o] t) :
    w.cell? ⟨g0, 0, none⟩ = some a ∧ w.cell? ⟨g0, 1, none⟩ = some b ∧ w.cell? ⟨g0, 2, none⟩ = some c ∧ w.cell? ⟨g0, 3, none⟩ = some d ∧ w.cell? ⟨g0, 4, none⟩ = some e ∧ w.cell? ⟨g0, 5, none⟩ = some f ∧ w.cell? ⟨g0, 6, none⟩ = some g ∧ w.cell? ⟨g0, 7, none⟩ = some h ∧ w.cell? ⟨g0, 8, none⟩ = some i ∧ w.cell? ⟨g0, 9, none⟩ = some j ∧ w.cell? ⟨g0, 10, none⟩ = some k ∧ w.cell? ⟨g0, 11, none⟩ = some l ∧ w.cell? ⟨g0, 12, none⟩ = some m ∧ w.cell? ⟨g0, 13, none⟩ = some n ∧ w.cell? ⟨g0, 14, none⟩ = some o :=
  ⟨x.cell 0, x.cell 1, x.cell 2, x.cell 3, x.cell 4, x.cell 5, x.cell 6, x.cell 7, x.cell 8, x.cell 9, x.cell 10, x.cell 11, x.cell 12, x.cell 13, x.cell 14⟩
/-- The bytes ahead of columns and trees. -/
def fstB (f : Fst) : List Nat := beN 1414677829 4 ++ (cfgB f.k f.cl f.b f.t f.d f.l f.p ++ (beN (u64N f.cols) 2 ++ (beN f.seed 8 ++ (beN (u64N f.num) 8 ++ beN (u64N f.den) 4))))
theorem Sht.read {w : World} {B S : Nat} {a : Option Addr} {n c : Nat} {s : List Nat} (h : Sht w B S (.slice a n c) s) : RB w a s := RB.own h.own h.ins
/-- A sheet is laid anew. -/
theorem sht_put {w w1 : World} {B S : Nat} {v r : Value} {s s' : List Nat} (h : Sht w B S v s) (hb : Below w.heap.size w w1) (hown : w1.ownsRow w.heap.size 5 1 r s'.length (u8s s')) (hB : B ≤ w.heap.size) (hi : ∀ x ∈ s', x < 256) :
    Sht (w1.setCell ⟨S, 0, none⟩ r) B S r s' ∧ Stp w S v (w1.setCell ⟨S, 0, none⟩ r) r := by
  have hlt := h.kS.lt
  have hne : r.ownBlock ≠ some S := fun e => by have := (World.ownsRow.lt hown S e).1; omega
  refine ⟨⟨?_, (h.kS.below hb).set 0 r, ?_, hne, hi⟩, ?_⟩
  · obtain ⟨a', c', rfl⟩ := own_slice hown
    exact ⟨a', c', rfl⟩
  · exact (own_base_le hown hB).kept (row := some S) ⟨rfl, rfl, rfl, by simp, fun k _ hk => Below.heap_setCell w1 ⟨S, 0, none⟩ r k (fun e => hk (by rw [e]))⟩ (.inr hne)
  · exact ⟨hb.os, hb.tape, hb.output, by simp; exact hb.size, fun k hk hs hv => (Below.heap_setCell w1 ⟨S, 0, none⟩ r k (fun e => hs e)).trans (hb.block k hk), fun g hg => .inr (World.ownsRow.lt hown g hg).1⟩
set_option maxRecDepth 100000 in
set_option maxHeartbeats 16000000 in
theorem head_any (f : Fst) (Ae At As : Option Addr) (ce ct cs B S : Nat) (v : Value) (s : List Nat) (w : World) (h : Sht w B S v s) (hB : B ≤ w.heap.size) (hn : s.length ≤ 1099511600000) (hc : checkO f.k f.cl f.b f.t f.d f.l f.p = 0) :
    Calls Try.prog 60 #[.agg (priA S f Ae At As ce ct cs)] w fun e w' => (∃ r, e = .returned r) ∧ ∃ v', Sht w' B S v' (s ++ fstB f) ∧ Stp w S v w' v' := by
  have KP := Lib.hid (fun x k v s w h hB hk hn => sput_any B S x k v s w h hB hk hn)
  have KCP := Lib.hid (fun (s : List Nat) (A : Option Addr) (cap : Nat) w hr hn hs => cput_any s A cap f.k f.cl f.b f.t f.d f.l f.p w hr hn hs hc)
  have HH : Hid (s ++ fstB f = (((((s ++ beN 1414677829 4) ++ cfgB f.k f.cl f.b f.t f.d f.l f.p) ++ beN (u64N f.cols) 2) ++ beN f.seed 8) ++ beN (u64N f.num) 8) ++ beN (u64N f.den) 4) := Lib.hid (by simp only [fstB, List.append_assoc])
  have HCI := Lib.hid (cfgB_in f.k f.cl f.b f.t f.d f.l f.p)
  have HCL := Lib.hid (cfgB_len f.k f.cl f.b f.t f.d f.l f.p)
  have HB := Lib.hid hB
  have HN := Lib.hid hn
  unfold priA
  obtain ⟨ne, hne⟩ : ∃ n, f.edges.length = n := ⟨_, rfl⟩
  obtain ⟨nt, hnt⟩ : ∃ n, f.trees.length = n := ⟨_, rfl⟩
  obtain ⟨ns, hns⟩ : ∃ n, f.shake.length = n := ⟨_, rfl⟩
  rw [hne, hnt, hns]
  obtain ⟨HD, hHD⟩ : ∃ HD, fstB f = HD := ⟨_, rfl⟩
  rw [hHD] at HH ⊢
  obtain ⟨k, cl, b, tt, d, l, p, cols, seed, edges, trees, num, den, shake⟩ := f
  simp only at KCP HH HCI HCL ⊢
  obtain ⟨CB, hCB⟩ : ∃ CB, cfgB k cl b tt d l p = CB := ⟨_, rfl⟩
  rw [hCB] at KCP HH HCI HCL
  have H := Lib.hid h
  have hlS := h.kS.lt
  clear hne hnt hns hHD hCB h hc hn
  go_enter Try.func60, Try.ntmps60
  go_upto_region 1 with (fail)
  have kQ := Blk.new w #[.pointer (some ⟨S, 0, none⟩), .int .i64 k, .int .i64 cl, .int .i64 b, .int .i64 tt, .int .i64 d, .int .i64 l, .int .i64 p, .int .i64 cols, .int .u64 (seed : Int), .slice Ae ne ce, .slice At nt ct, .int .i64 num, .int .i64 den, .slice As ns cs] 129
  have HBE := Lib.hid ((Below.refl w.heap.size w).alloc (Nat.le_refl _) (.cells #[.pointer (some ⟨S, 0, none⟩), .int .i64 k, .int .i64 cl, .int .i64 b, .int .i64 tt, .int .i64 d, .int .i64 l, .int .i64 p, .int .i64 cols, .int .u64 (seed : Int), .slice Ae ne ce, .slice At nt ct, .int .i64 num, .int .i64 den, .slice As ns cs] 129))
  obtain ⟨W0, hW0⟩ : ∃ W, w.alloc (.cells #[.pointer (some ⟨S, 0, none⟩), .int .i64 k, .int .i64 cl, .int .i64 b, .int .i64 tt, .int .i64 d, .int .i64 l, .int .i64 p, .int .i64 cols, .int .u64 (seed : Int), .slice Ae ne ce, .slice At nt ct, .int .i64 num, .int .i64 den, .slice As ns cs] 129) = W := ⟨_, rfl⟩
  rw [hW0] at kQ HBE ⊢
  have HS0 := Lib.hid (H.out.below HBE.out)
  have HT0 := Lib.hid (Stp.of_below (S := S) (v := v) (Below.refl W0.heap.size W0))
  have hvQ : v.ownBlock ≠ some w.heap.size := fun e => by have := (World.ownsRow.lt H.out.own _ e).2; omega
  have HQ := Lib.hid (fun (W : World) (vi : Value) (ht : Stp W0 S v W vi) => (ht.blk kQ (by omega) hvQ).cells15)
  have HLE := Lib.hid (fun (W : World) (vi : Value) (ht : Stp W0 S v W vi) => Nat.le_trans HB.out (Nat.le_trans HBE.out.size ht.size))
  obtain ⟨q0, q1, q2, q3, q4, q5, q6, q7, q8, q9, q10, q11, q12, q13, q14⟩ := kQ.cells15
  have c1 := u64N_wrap cols
  have c2 := u64N_mod cols
  have c3 := u64N_wrap num
  have c4 := u64N_mod num
  have c5 := u64N_wrap den
  have c6 := u64N_mod den
  obtain ⟨uc, huc⟩ : ∃ z, u64N cols = z := ⟨_, rfl⟩
  obtain ⟨un, hun⟩ : ∃ z, u64N num = z := ⟨_, rfl⟩
  obtain ⟨ud, hud⟩ : ∃ z, u64N den = z := ⟨_, rfl⟩
  rw [huc] at HH c1 c2
  rw [hun] at HH c3 c4
  rw [hud] at HH c5 c6
  have KL := Lib.hid (KP.out 1414677829 4 v s W0 HS0.out (HLE.out _ _ HT0.out) (by omega) (by have := HN.out; omega))
  rw [show ((1414677829 : Nat) : Int) = 1414677829 from rfl] at KL
  clear hW0 kQ huc hun hud hvQ
  go_wp2_with fail
  refine (KL.out).mono ?_
  rintro e W1 ⟨⟨r1, rfl⟩, v1, hs, ht⟩
  have HS1 := Lib.hid hs
  have HT1 := Lib.hid (HT0.out.trans ht)
  clear hs ht q0 q1 q2 q3 q4 q5 q6 q7 q8 q9 q10 q11 q12 q13 q14
  obtain ⟨a1, cc1, rfl⟩ := HS1.out.form
  have HL1 : Hid ((s ++ beN 1414677829 4).length = s.length + 4) := Lib.hid (by rw [List.length_append, be_len])
  have KC1 := Lib.hid (fun W (hb : Below W1.heap.size W1 W) => KCP.out (s ++ beN 1414677829 4) a1 cc1 W (HS1.out.read.below hb) (by have := HN.out; rw [HL1.out]; omega) HS1.out.ins)
  obtain ⟨n1, hn1⟩ : ∃ n, (s ++ beN 1414677829 4).length = n := ⟨_, rfl⟩
  rw [hn1] at KC1 HS1 HT1
  obtain ⟨q0, q1, q2, q3, q4, q5, q6, q7, q8, q9, q10, q11, q12, q13, q14⟩ := HQ.out _ _ HT1.out
  have o0 : W1.cell? ⟨S, 0, none⟩ = some (.slice a1 n1 cc1) := HS1.out.kS.cell 0
  have o1 := fun i => HS1.out.kS.frozen i
  have hlS1 := HS1.out.kS.lt
  have HX0 := Lib.hid ((Below.refl W1.heap.size W1).drew)
  have HN1 := Lib.hid hn1
  clear hn1
  go_upto_region 2 with (fail)
  go_region_law (go_simp; go_at_call 120; refine (KC1.out _ HX0.out).mono ?_; rintro e w5 ⟨r5, rfl, ho, hb⟩; obtain ⟨a5, c5', rfl⟩ := own_slice ho; have HX1 := Lib.hid (HX0.out.trans (hb.mono HX0.out.size)); have kS5 := HS1.out.kS.below HX1.out; have o0 : w5.cell? ⟨S, 0, none⟩ = some (.slice a1 n1 cc1) := kS5.cell 0; have o1 := fun i => kS5.frozen i; have hlS5 := kS5.lt; have HNX := Lib.hid (sht_put (s' := (s ++ beN 1414677829 4) ++ CB) HS1.out HX1.out (by rw [List.length_append, HN1.out, HCL.out]; exact ho) (HLE.out _ _ HT1.out) (fun x hx => by rcases List.mem_append.1 hx with h | h; exact HS1.out.ins x h; exact HCI.out x h)); have q0 := ((HQ.out _ _ (HT1.out.trans (Stp.of_below HX1.out)))).1; clear ho hb kS5)
  all_goals
    have HS2 := Lib.hid HNX.out.1
    have HT2 := Lib.hid (HT1.out.trans HNX.out.2)
    obtain ⟨W2, hW2⟩ : ∃ W, w5.setCell ⟨S, 0, none⟩ (.slice a5 (n1 + 14) c5') = W := ⟨_, rfl⟩
    rw [hW2] at HS2 HT2 ⊢
    obtain ⟨v2, hv2⟩ : ∃ v, (Value.slice a5 (n1 + 14) c5') = v := ⟨_, rfl⟩
    rw [hv2] at HS2 HT2
    clear hW2 hv2 HNX q0 q1 q2 q3 q4 q5 q6 q7 q8 q9 q10 q11 q12 q13 q14 o0 o1 hlS1 hlS5
    have K2 := Lib.hid (KP.out uc 2 v2 ((s ++ beN 1414677829 4) ++ CB) W2 HS2.out (HLE.out _ _ HT2.out) (by omega) (by have h0 := HN.out; have h1 := HCL.out; simp only [List.length_append, be_len]; omega))
    obtain ⟨q0, q1, q2, q3, q4, q5, q6, q7, q8, q9, q10, q11, q12, q13, q14⟩ := HQ.out _ _ HT2.out
    go_wp2_with fail
    refine K2.out.mono ?_
    rintro e W3 ⟨⟨r3, rfl⟩, v3, hs, ht⟩
    have HS3 := Lib.hid hs
    have HT3 := Lib.hid (HT2.out.trans ht)
    clear hs ht q0 q1 q2 q3 q4 q5 q6 q7 q8 q9 q10 q11 q12 q13 q14
    have K3 := Lib.hid (KP.out seed 8 v3 (((s ++ beN 1414677829 4) ++ CB) ++ beN uc 2) W3 HS3.out (HLE.out _ _ HT3.out) (by omega) (by have h0 := HN.out; have h1 := HCL.out; simp only [List.length_append, be_len]; omega))
    obtain ⟨q0, q1, q2, q3, q4, q5, q6, q7, q8, q9, q10, q11, q12, q13, q14⟩ := HQ.out _ _ HT3.out
    go_wp2_with fail
    refine K3.out.mono ?_
    rintro e W4 ⟨⟨r4, rfl⟩, v4, hs, ht⟩
    have HS4 := Lib.hid hs
    have HT4 := Lib.hid (HT3.out.trans ht)
    clear hs ht q0 q1 q2 q3 q4 q5 q6 q7 q8 q9 q10 q11 q12 q13 q14
    have K4 := Lib.hid (KP.out un 8 v4 ((((s ++ beN 1414677829 4) ++ CB) ++ beN uc 2) ++ beN seed 8) W4 HS4.out (HLE.out _ _ HT4.out) (by omega) (by have h0 := HN.out; have h1 := HCL.out; simp only [List.length_append, be_len]; omega))
    obtain ⟨q0, q1, q2, q3, q4, q5, q6, q7, q8, q9, q10, q11, q12, q13, q14⟩ := HQ.out _ _ HT4.out
    go_wp2_with fail
    refine K4.out.mono ?_
    rintro e W5 ⟨⟨r5, rfl⟩, v5, hs, ht⟩
    have HS5 := Lib.hid hs
    have HT5 := Lib.hid (HT4.out.trans ht)
    clear hs ht q0 q1 q2 q3 q4 q5 q6 q7 q8 q9 q10 q11 q12 q13 q14
    have K5 := Lib.hid (KP.out ud 4 v5 (((((s ++ beN 1414677829 4) ++ CB) ++ beN uc 2) ++ beN seed 8) ++ beN un 8) W5 HS5.out (HLE.out _ _ HT5.out) (by omega) (by have h0 := HN.out; have h1 := HCL.out; simp only [List.length_append, be_len]; omega))
    obtain ⟨q0, q1, q2, q3, q4, q5, q6, q7, q8, q9, q10, q11, q12, q13, q14⟩ := HQ.out _ _ HT5.out
    go_wp2_with fail
    refine K5.out.mono ?_
    rintro e W6 ⟨⟨r6, rfl⟩, v6, hs, ht⟩
    have HS6 := Lib.hid hs
    have HT6 := Lib.hid (HT5.out.trans ht)
    clear hs ht q0 q1 q2 q3 q4 q5 q6 q7 q8 q9 q10 q11 q12 q13 q14
    go_wp2_with fail
    refine bodyPost_end (results_none rfl _ _ _) rfl ⟨⟨_, rfl⟩, v6, ?_, (Stp.of_below HBE.out).trans HT6.out⟩
    rw [HH.out]
    exact HS6.out
end Go.Proofs.Ytpekofpiodaadaa.Hb
end

section
/- The walk of printer.column. -/
namespace Go.Proofs.Ytpekofpiodaadaa.Hb
set_option linter.unusedVariables false
set_option linter.unusedSimpArgs false
open Go.RowKit

def valB (x : Nat) : List Nat := beN x 8
/-- A column's bytes. -/
def colB (es : List Nat) (x : Int) : List Nat := beN es.length 1 ++ (es.flatMap valB ++ beN (u64N x) 8)
theorem pval_any (x : Nat) (w : World) : Calls Try.prog 121 #[.slice none 0 0, .float .f64 x] w fun e w' => ∃ r, e = .returned r ∧ w'.ownsRow w.heap.size 5 1 r 8 (u8s (beN x 8)) ∧ Below w.heap.size w w' := by
  have h := putv_any [] none 0 x w (RB.nil _ _) (by simp)
  simp only [List.length_nil, Nat.zero_add, List.nil_append] at h
  exact h
theorem val_len (es : List Nat) : (es.flatMap valB).length = 8 * es.length := by
  induction es with
  | nil => rfl
  | cons x r ih => simp only [List.flatMap_cons, List.length_append, List.length_cons, ih, valB, be_len]; omega
theorem val_snoc {es : List Nat} {i : Nat} (h : i < es.length) : (es.take (i + 1)).flatMap valB = (es.take i).flatMap valB ++ beN (es.getD i 0) 8 := by
  have e : es.getD i 0 = es[i] := by rw [List.getD_eq_getElem?_getD, List.getElem?_eq_getElem h]; rfl
  rw [List.take_succ_eq_append_getElem h, List.flatMap_append, e]
  simp [valB]
set_option maxRecDepth 100000 in
set_option maxHeartbeats 16000000 in
theorem col_any (f : Fst) (Ae At As : Option Addr) (ce ct cs B S j : Nat) (es : List Nat) (xn xd : Int) (v : Value) (s : List Nat) (w we : World) (hre : RFo we f Ae At As) (hbe : Below we.heap.size we w) (hBe : we.heap.size ≤ B) (hSe : we.heap.size ≤ S)
    (h : Sht w B S v s) (hB : B ≤ w.heap.size) (hn : s.length ≤ 1099511600000) (hes : f.edges[j]? = some es) (hm : es.length ≤ 255) (hsx : f.shake[j]? = some (xn, xd)) (hne63 : f.edges.length ≤ 1099511627776) (hns63 : f.shake.length ≤ 1099511627776) :
    Calls Try.prog 61 #[.agg (priA S f Ae At As ce ct cs), .int .i64 (j : Int)] w fun e w' => (∃ r, e = .returned r) ∧ ∃ v', Sht w' B S v' (s ++ colB es xn) ∧ Stp w S v w' v' := by
  have KP := Lib.hid (fun x k v s w h hB hk hn => sput_any B S x k v s w h hB hk hn)
  have KV := Lib.hid (fun x w => pval_any x w)
  have HH : Hid (s ++ colB es xn = ((s ++ beN es.length 1) ++ es.flatMap valB) ++ beN (u64N xn) 8) := Lib.hid (by simp only [colB, List.append_assoc])
  have HVS := Lib.hid (fun i (hi : i < es.length) => val_snoc hi)
  have HVL := Lib.hid (fun i => val_len (es.take i))
  have HVI : Hid (∀ i, ∀ x ∈ (es.take i).flatMap valB, x < 256) := Lib.hid (fun i x hx => by
    obtain ⟨y, _, h⟩ := List.mem_flatMap.1 hx
    exact be_in _ _ _ h)
  have HB := Lib.hid hB
  have HN := Lib.hid hn
  have HES := Lib.hid hes
  have HSX := Lib.hid hsx
  have hje := (List.getElem?_eq_some_iff.1 hes).1
  have hjs := (List.getElem?_eq_some_iff.1 hsx).1
  unfold priA
  obtain ⟨CD, hCD⟩ : ∃ CD, colB es xn = CD := ⟨_, rfl⟩
  rw [hCD] at HH ⊢
  obtain ⟨m, hmm⟩ : ∃ m, es.length = m := ⟨_, rfl⟩
  rw [hmm] at hm HH HVS
  have HM := Lib.hid hmm
  obtain ⟨ne, hne⟩ : ∃ n, f.edges.length = n := ⟨_, rfl⟩
  obtain ⟨nt, hnt⟩ : ∃ n, f.trees.length = n := ⟨_, rfl⟩
  obtain ⟨ns, hns⟩ : ∃ n, f.shake.length = n := ⟨_, rfl⟩
  rw [hne] at hje hne63
  rw [hns] at hjs hns63
  rw [hne, hnt, hns]
  have HLEN := Lib.hid (And.intro hne hns)
  have H := Lib.hid h
  have hlS := h.kS.lt
  have HRE := Lib.hid hre
  have HBW := Lib.hid hbe
  have HBS := Lib.hid (And.intro hBe hSe)
  obtain ⟨k, cl, b, tt, d, l, p, cols, seed, edges, trees, num, den, shake⟩ := f
  simp only at HES HSX HLEN ⊢
  obtain ⟨i0, hi0, hz0, hz1, hz2⟩ := info_parts info_u8
  clear hne hnt hns hCD hmm h hn hes hsx hre hbe hBe hSe
  go_enter Try.func61, Try.ntmps61
  go_upto_region 1 with (fail)
  have kQ := Blk.new w #[.pointer (some ⟨S, 0, none⟩), .int .i64 k, .int .i64 cl, .int .i64 b, .int .i64 tt, .int .i64 d, .int .i64 l, .int .i64 p, .int .i64 cols, .int .u64 (seed : Int), .slice Ae ne ce, .slice At nt ct, .int .i64 num, .int .i64 den, .slice As ns cs] 129
  have HBE := Lib.hid ((Below.refl w.heap.size w).alloc (Nat.le_refl _) (.cells #[.pointer (some ⟨S, 0, none⟩), .int .i64 k, .int .i64 cl, .int .i64 b, .int .i64 tt, .int .i64 d, .int .i64 l, .int .i64 p, .int .i64 cols, .int .u64 (seed : Int), .slice Ae ne ce, .slice At nt ct, .int .i64 num, .int .i64 den, .slice As ns cs] 129))
  obtain ⟨W0, hW0⟩ : ∃ W, w.alloc (.cells #[.pointer (some ⟨S, 0, none⟩), .int .i64 k, .int .i64 cl, .int .i64 b, .int .i64 tt, .int .i64 d, .int .i64 l, .int .i64 p, .int .i64 cols, .int .u64 (seed : Int), .slice Ae ne ce, .slice At nt ct, .int .i64 num, .int .i64 den, .slice As ns cs] 129) = W := ⟨_, rfl⟩
  rw [hW0] at kQ HBE ⊢
  have HS0 := Lib.hid (H.out.below HBE.out)
  have HT0 := Lib.hid (Stp.of_below (S := S) (v := v) (Below.refl W0.heap.size W0))
  have hvQ : v.ownBlock ≠ some w.heap.size := fun e => by have := (World.ownsRow.lt H.out.own _ e).2; omega
  have HQ := Lib.hid (fun (W : World) (vi : Value) (ht : Stp W0 S v W vi) => (ht.blk kQ (by omega) hvQ).cells15)
  have HKQ := Lib.hid (fun (W : World) (vi : Value) (ht : Stp W0 S v W vi) => ht.blk kQ (by omega) hvQ)
  have HVQ := Lib.hid (fun (W : World) (vi : Value) (ht : Stp W0 S v W vi) (e : vi.ownBlock = some w.heap.size) => (ht.row _ e).elim hvQ (fun e => by have := kQ.lt; omega))
  have HLE := Lib.hid (fun (W : World) (vi : Value) (ht : Stp W0 S v W vi) => Nat.le_trans HB.out (Nat.le_trans HBE.out.size ht.size))
  have HBW0 := Lib.hid (HBW.out.trans (HBE.out.mono HBW.out.size))
  have HBL := Lib.hid (fun (W : World) (vi : Value) (ht : Stp W0 S v W vi) => HBW0.out.trans (ht.low HBW0.out.size HBS.out.2 (fun g e => Nat.le_trans HBS.out.1 (World.ownsRow.lt H.out.own g e).1)))
  obtain ⟨ad, rfl, t1, Be, cap, h1, h2, _, _, h5⟩ := HRE.out.re.at (i := j) (by rw [HLEN.out.1]; exact hje)
  rw [HES.out] at h1
  cases h1
  rw [HM.out] at h2
  have HEX : Hid (∀ (W : World), Below we.heap.size we W → W.cell? (ad.add j) = some (.slice Be m cap) ∧ RF W Be es) := Lib.hid (fun W hb => ⟨(hb.cell (World.block_lt_of_cell? we _ h2)).trans h2, h5.below hb⟩)
  obtain ⟨ads, rfl, t2, h1', _, _, h2', _⟩ := HRE.out.rs.at (i := j) (by rw [HLEN.out.2]; exact hjs)
  rw [HSX.out] at h1'
  cases h1'
  have HSH : Hid (∀ (W : World), Below we.heap.size we W → W.cell? (ads.add (j * 2)) = some (.int .i64 xn)) := Lib.hid (fun W hb => (hb.cell (World.block_lt_of_cell? we _ h2')).trans h2')
  obtain ⟨q0, q1, q2, q3, q4, q5, q6, q7, q8, q9, q10, q11, q12, q13, q14⟩ := kQ.cells15
  have x0 := (HEX.out _ (HBL.out _ _ HT0.out)).1
  have hw1 : IntKind.u64.wrap (m : Int) = (m : Int) := by rw [IntKind.wrap_u64]; omega
  have hw2 : (m : Int) % 18446744073709551616 = (m : Int) := by omega
  have hje' : (j : Int) < ne := by omega
  have hjs' : (j : Int) < ns := by omega
  have KL := Lib.hid (fun W (hb : Below W0.heap.size W0 W) => KP.out m 1 v s W (HS0.out.below hb) (Nat.le_trans (HLE.out _ _ HT0.out) hb.size) (by omega) (by have := HN.out; omega))
  have HX0 := Lib.hid ((Below.refl W0.heap.size W0).drew)
  clear hW0 kQ hvQ h2 h5 h2'
  go_cut [] (fun wc => Hid (∃ v1, Sht wc B S v1 (s ++ beN m 1) ∧ Stp W0 S v wc v1))
  case first =>
   go_region_law (go_simp; go_at_call 119; refine (KL.out _ HX0.out).mono ?_; rintro e W1 ⟨⟨r1, rfl⟩, v1, hs, ht⟩; have HS1 := Lib.hid hs; have HT1 := Lib.hid ((Stp.of_below (S := S) (v := v) HX0.out).trans ht); clear hs ht)
   all_goals
    go_wp2
    go_meet
    case rel => exact Lib.hid ⟨_, HS1.out, HT1.out⟩
  case rest =>
    obtain ⟨v1, hs, ht⟩ := hcut.out
    have HS1 := Lib.hid hs
    have HT1 := Lib.hid ht
    clear hs ht hcut
    clear q0 q1 q2 q3 q4 q5 q6 q7 q8 q9 q10 q11 q12 q13 q14 x0
    obtain ⟨q0, q1, q2, q3, q4, q5, q6, q7, q8, q9, q10, q11, q12, q13, q14⟩ := HQ.out _ _ HT1.out
    have x0 := (HEX.out _ (HBL.out _ _ HT1.out)).1
    go_wp2_with fail
    clear q0 q1 q2 q3 q4 q5 q6 q7 q8 q9 q10 q11 q12 q13 q14 x0
    go_loopw [24] (fun iv wr => ∃ i : Nat, i ≤ m ∧ iv = .int .i64 i ∧ Hid (∃ vi, Sht wr B S vi ((s ++ beN m 1) ++ (es.take i).flatMap valB) ∧ Stp W0 S v wr vi)) (fun iv _ => m - (intOf iv).toNat)
    case atStart => exact ⟨0, Nat.zero_le _, rfl, Lib.hid ⟨v1, by simpa using HS1.out, HT1.out⟩⟩
    case round =>
      obtain ⟨i, hi, rfl, HI⟩ := hrel
      obtain ⟨vi, hs, ht⟩ := HI.out
      have HT2 := Lib.hid ht
      obtain ⟨q0, q1, q2, q3, q4, q5, q6, q7, q8, q9, q10, q11, q12, q13, q14⟩ := HQ.out _ _ HT2.out
      by_cases hlt : i < m
      · have hlt' : (i : Int) < m := by omega
        obtain ⟨adv, rfl, hx, _⟩ := (HEX.out _ (HBL.out _ _ HT2.out)).2.at (i := i) (by rw [HM.out]; exact hlt)
        have HVS2 := Lib.hid (HVS.out i hlt)
        obtain ⟨x, hxx⟩ : ∃ x, es.getD i 0 = x := ⟨_, rfl⟩
        rw [hxx] at hx HVS2
        have KVX := Lib.hid (fun w => KV.out x w)
        obtain ⟨S2, hS2⟩ : ∃ S2, (s ++ beN m 1) ++ (es.take i).flatMap valB = S2 := ⟨_, rfl⟩
        have HNX0 : Hid ((s ++ beN m 1) ++ (es.take (i + 1)).flatMap valB = S2 ++ beN x 8) := Lib.hid (by rw [HVS2.out, ← List.append_assoc, hS2])
        have hl2 : S2.length ≤ 1099511610000 := by
          have h0 := HN.out
          have h1 := HVL.out i
          have h3 : (es.take i).length ≤ i := List.length_take_le _ _
          rw [← hS2]
          simp only [List.length_append, be_len]
          omega
        rw [hS2] at hs
        obtain ⟨a1, cc1, rfl⟩ := hs.form
        obtain ⟨n1, hn1⟩ : ∃ n, S2.length = n := ⟨_, rfl⟩
        rw [hn1] at hs hl2 HT2
        have HS2 := Lib.hid hs
        have HN1 := Lib.hid hn1.symm
        have o0 : wr.cell? ⟨S, 0, none⟩ = some (.slice a1 n1 cc1) := hs.kS.cell 0
        have o1 := fun i => hs.kS.frozen i
        have hlS1 := hs.kS.lt
        have HX2 := Lib.hid ((Below.refl wr.heap.size wr).drew)
        have hB2 := HLE.out _ _ HT2.out
        clear hxx hS2 hn1 hs ht HI
        go_upto_region 5 with (fail)
        go_region_law (first | (go_simp; go_at_call 121; refine (KVX.out _).mono ?_; rintro e w5 ⟨r5, rfl, ho, hb⟩; obtain ⟨a5, c5, rfl⟩ := own_slice ho; have HX3 := Lib.hid (HX2.out.trans (hb.mono HX2.out.size)); have HR5 : Hid (RB w5 a5 (beN x 8)) := Lib.hid (RB.own (by rw [be_len]; exact ho) (be_in x 8)); have HS3 := Lib.hid (HS2.out.below HX3.out); have hsz3 := HX3.out.size; have o0 : w5.cell? ⟨S, 0, none⟩ = some (.slice a1 n1 cc1) := HS3.out.kS.cell 0; have q0 := (HQ.out _ _ (HT2.out.trans (Stp.of_below HX3.out))).1; clear ho hb) | (refine step_append_two _ (by rfl) _ _ 127 54 (by rfl) B 5 5 i0 (.int .u8 0) 1 1 Try.underlying127 Try.underlying54 hi0 hz0 hz1 hz2 rfl (by decide) (.slice a1 n1 cc1) n1 (u8s S2) (by rfl) (by have h := HS3.out.own; rw [← HN1.out] at h; exact h) a5 8 c5 (u8s (beN x 8)) (by rfl) (by rw [u8s_len, be_len, Nat.mul_one]) (by have h := HR5.out.news; rw [be_len] at h; exact h) (u8s_one _) (by unfold maxLen; omega) (by omega) (by omega) ?_; intro v3 w3 hown3 hg3 hat3; obtain ⟨a3, c3, rfl⟩ := own_slice hown3; have HNX := Lib.hid (sht_next HS3.out HN1.out (by rw [be_len]; exact hown3) hg3 hat3 (be_in x 8)); have kS3 := own_blk HS3.out.kS hg3 HS3.out.ne; have f0 : w3.cell? ⟨S, 0, none⟩ = some (.slice a1 n1 cc1) := kS3.cell 0; have q0 := (own_blk (HKQ.out _ _ (HT2.out.trans (Stp.of_below HX3.out))) hg3 (HVQ.out _ _ (HT2.out.trans (Stp.of_below HX3.out)))).cells15.1; have f1 := fun i => kS3.frozen i; have f2 := kS3.lt; clear hown3 hg3 hat3 kS3))
        all_goals
          go_wp2
          go_roundw
          case rel => exact ⟨i + 1, hlt, by go_num, Lib.hid ⟨_, by rw [HNX0.out]; exact HNX.out.1, (HT2.out.trans (Stp.of_below HX3.out)).trans HNX.out.2⟩⟩
          case measure => simp [intOf]; omega
      · obtain rfl : m = i := by omega
        have hfl : es.take m = es := List.take_of_length_le (by rw [HM.out]; exact Nat.le_refl _)
        have HVL2 := HVL.out m
        rw [hfl] at hs HVL2
        rw [HM.out] at HVL2
        have HS2 := Lib.hid hs
        have y0 := HSH.out _ (HBL.out _ _ HT2.out)
        have e1 := u64N_wrap xn
        have e2 := u64N_mod xn
        obtain ⟨un, hun⟩ : ∃ z, u64N xn = z := ⟨_, rfl⟩
        rw [hun] at HH e1 e2
        have HX2 := Lib.hid ((Below.refl wr.heap.size wr).drew)
        have KL2 := Lib.hid (fun W (hb : Below wr.heap.size wr W) => KP.out un 8 vi _ W (HS2.out.below hb) (Nat.le_trans (HLE.out _ _ HT2.out) hb.size) (by omega) (by have h0 := HN.out; simp only [List.length_append, be_len]; omega))
        clear hs ht HI hfl hun
        go_upto_region 7 with (fail)
        go_region_law (go_simp; go_at_call 119; refine (KL2.out _ HX2.out).mono ?_; rintro e W4 ⟨⟨r4, rfl⟩, v4, hs, ht⟩; have HS4 := Lib.hid hs; have HT4 := Lib.hid ((HT2.out.trans (Stp.of_below (S := S) (v := vi) HX2.out)).trans ht); clear hs ht)
        all_goals
          go_wp2_with fail
          refine bodyPost_end (results_none rfl _ _ _) rfl ⟨⟨_, rfl⟩, v4, ?_, (Stp.of_below HBE.out).trans HT4.out⟩
          rw [HH.out]
          exact HS4.out
end Go.Proofs.Ytpekofpiodaadaa.Hb
end

section
/- A forest's bytes: unlike forests have unlike ones; pure. -/
namespace Go.Proofs.Ytpekofpiodaadaa.Hb
set_option linter.unusedVariables false
set_option linter.unusedSimpArgs false
open Go.RowKit

theorem printer_size : (Try.prog.info? 129).map (·.size) = some 15 := by kernel_rfl
def colX (x : List Nat × (Int × Int)) : List Nat := colB x.1 x.2.1
/-- A forest's bytes. -/
def putF (f : Fst) : List Nat := fstB f ++ ((f.edges.zip f.shake).flatMap colX ++ f.trees.flatMap (treeB f.k))
/-- Of a forest that may be. -/
structure MayIs (f : Fst) : Prop where
  ck : checkO f.k f.cl f.b f.t f.d f.l f.p = 0
  c0 : 1 ≤ f.cols
  c1 : f.cols ≤ 1024
  ne : (f.edges.length : Int) = f.cols
  nt : (f.trees.length : Int) = f.t
  ns : (f.shake.length : Int) = f.cols
  ee : ∀ l ∈ f.edges, l.length ≤ 255
  tt : ∀ t ∈ f.trees, rightT f.cols f.b f.k f.cl t = true
theorem mayF_is {f : Fst} (h : mayF f = true) : MayIs f := by
  unfold mayF headE errsE at h
  simp only [Bool.and_eq_true, beq_iff_eq, decide_eq_true_eq, List.all_eq_true] at h
  obtain ⟨⟨h1, ⟨h2, h3, h4, h5⟩, _, _, h6⟩, h7, h8⟩ := h
  refine ⟨h1, h2, h3, h4, h5, h6, fun l hl => ?_, fun t ht => ?_⟩
  · have := h7 l hl
    unfold cutsE rightE at this
    simp only [Bool.and_eq_true, decide_eq_true_eq] at this
    omega
  · have := h8 t ht
    unfold treeE at this
    simp only [Bool.and_eq_true] at this
    exact this.1
theorem zip_at {f : Fst} {j : Nat} {es : List Nat} {x : Int × Int} (h1 : f.edges[j]? = some es) (h2 : f.shake[j]? = some x) : (f.edges.zip f.shake)[j]? = some (es, x) := by
  rw [List.getElem?_zip_eq_some]
  exact ⟨h1, h2⟩
theorem flat_next {α : Type} {g : α → List Nat} {l : List α} {j : Nat} {x : α} (h : l[j]? = some x) : (l.take (j + 1)).flatMap g = (l.take j).flatMap g ++ g x := by
  obtain ⟨hh, he⟩ := List.getElem?_eq_some_iff.1 h
  rw [List.take_succ_eq_append_getElem hh, he, List.flatMap_append]
  simp
theorem cols_len {f : Fst} (h : ∀ l ∈ f.edges, l.length ≤ 255) (j : Nat) : (((f.edges.zip f.shake).take j).flatMap colX).length ≤ 2049 * j := by
  have key : ∀ (l : List (List Nat × (Int × Int))), (∀ x ∈ l, x.1.length ≤ 255) → (l.flatMap colX).length ≤ 2049 * l.length := by
    intro l
    induction l with
    | nil => simp
    | cons x r ih =>
      intro hx
      have h1 := ih (fun y hy => hx y (List.mem_cons_of_mem _ hy))
      have h2 := hx x (List.mem_cons_self ..)
      simp only [List.flatMap_cons, List.length_append, List.length_cons, colX, colB, be_len, val_len] at h1 ⊢
      omega
  have h1 := key ((f.edges.zip f.shake).take j) (fun x hx => h x.1 (List.of_mem_zip (List.mem_of_mem_take hx)).1)
  have h2 : ((f.edges.zip f.shake).take j).length ≤ j := List.length_take_le _ _
  omega
theorem fstB_len (f : Fst) : (fstB f).length = 40 := by simp [fstB, be_len, cfgB_len]
/- Unlike numbers have unlike bytes. -/
theorem be_mod {x y : Nat} : ∀ (k : Nat), beN x k = beN y k → x % 256 ^ k = y % 256 ^ k
  | 0, _ => by simp [Nat.mod_one]
  | k + 1, h => by
    rw [beN, beN] at h
    obtain ⟨h1, h2⟩ := List.cons.inj h
    rw [Nat.pow_succ, Nat.mod_mul, Nat.mod_mul, h1, be_mod k h2]
theorem be_inj {x y k : Nat} {r s : List Nat} (h : beN x k ++ r = beN y k ++ s) (hx : x < 256 ^ k) (hy : y < 256 ^ k) : x = y ∧ r = s := by
  obtain ⟨h1, h2⟩ := List.append_inj h (by rw [be_len, be_len])
  have := be_mod k h1
  rw [Nat.mod_eq_of_lt hx, Nat.mod_eq_of_lt hy] at this
  exact ⟨this, h2⟩
theorem be_whole {x y : Int} {r s : List Nat} (h : beN (u64N x) 8 ++ r = beN (u64N y) 8 ++ s) (hx : in64 x) (hy : in64 y) : x = y ∧ r = s := by
  unfold in64 at hx hy
  obtain ⟨h1, h2⟩ := be_inj h (by unfold u64N; omega) (by unfold u64N; omega)
  unfold u64N at h1
  exact ⟨by omega, h2⟩
theorem be_small {x y M : Int} {k : Nat} {r s : List Nat} (h : beN (u64N x) k ++ r = beN (u64N y) k ++ s) (hM : M ≤ ((256 ^ k : Nat) : Int)) (hM2 : M ≤ 18446744073709551616) (hx : 0 ≤ x ∧ x < M) (hy : 0 ≤ y ∧ y < M) : x = y ∧ r = s := by
  obtain ⟨K, hK⟩ : ∃ K, 256 ^ k = K := ⟨_, rfl⟩
  rw [hK] at hM
  obtain ⟨h1, h2⟩ := be_inj h (by rw [hK]; unfold u64N; omega) (by rw [hK]; unfold u64N; omega)
  unfold u64N at h1
  exact ⟨by omega, h2⟩
structure ChkIs (k cl b t d l p : Int) : Prop where
  k : 0 ≤ k ∧ k < 2
  cl : 0 ≤ cl ∧ cl < 257
  b : 0 ≤ b ∧ b < 257
  t : 0 ≤ t ∧ t < 4097
  d : 0 ≤ d ∧ d < 33
  l : 0 ≤ l ∧ l < 1048577
  p : 0 ≤ p ∧ p < 1025
theorem chk_is {k cl b t d l p : Int} (h : checkO k cl b t d l p = 0) : ChkIs k cl b t d l p := by
  have : (0 ≤ k ∧ k < 2) ∧ (0 ≤ cl ∧ cl < 257) ∧ (0 ≤ b ∧ b < 257) ∧ (0 ≤ t ∧ t < 4097) ∧ (0 ≤ d ∧ d < 33) ∧ (0 ≤ l ∧ l < 1048577) ∧ (0 ≤ p ∧ p < 1025) := by
    unfold checkO lowC stepC at h
    repeat' split at h
    all_goals omega
  exact ⟨this.1, this.2.1, this.2.2.1, this.2.2.2.1, this.2.2.2.2.1, this.2.2.2.2.2.1, this.2.2.2.2.2.2⟩
theorem nd_inj {cols bins kind classes : Int} {n m : Nd} {r s : List Nat} (hs : mayS cols bins kind classes) (hn : oneP cols bins kind classes n) (hm : oneP cols bins kind classes m) (h : ndB kind n ++ r = ndB kind m ++ s) :
    (n.f = m.f ∧ n.b = m.b ∧ n.c = m.c ∧ n.s = m.s ∧ n.k = m.k ∧ (n.f = -1 → n.l = m.l)) ∧ r = s := by
  unfold mayS at hs
  unfold oneP at hn hm
  by_cases h1 : n.f = -1 <;> by_cases h2 : m.f = -1
  · rw [if_pos h1] at hn
    rw [if_pos h2] at hm
    by_cases hk : kind = 0
    · rw [if_pos hk] at hn hm
      rw [ndB_leaf0 h1 hk, ndB_leaf0 h2 hk] at h
      simp only [List.cons_append, List.nil_append, List.cons.injEq, true_and] at h
      have h3 := h.1
      unfold u64N at h3
      exact ⟨⟨by omega, by omega, by omega, by omega, by omega, fun _ => by omega⟩, h.2⟩
    · rw [if_neg hk] at hn hm
      rw [ndB_leaf1 h1 hk, ndB_leaf1 h2 hk] at h
      simp only [List.cons_append, List.nil_append, List.append_assoc, List.cons.injEq, true_and] at h
      have hh := be_whole h (by unfold in64; omega) (by unfold in64; omega)
      clear h
      obtain ⟨e1, h⟩ := hh
      have hh := be_small (M := 1048577) h (by decide) (by decide) (by omega) (by omega)
      clear h
      obtain ⟨e2, h⟩ := hh
      exact ⟨⟨by omega, by omega, by omega, by omega, by omega, fun _ => by omega⟩, h⟩
  · exfalso
    by_cases hk : kind = 0
    · rw [ndB_leaf0 h1 hk, ndB_split h2] at h
      simp at h
    · rw [ndB_leaf1 h1 hk, ndB_split h2] at h
      simp at h
  · exfalso
    by_cases hk : kind = 0
    · rw [ndB_leaf0 h2 hk, ndB_split h1] at h
      simp at h
    · rw [ndB_leaf1 h2 hk, ndB_split h1] at h
      simp at h
  · rw [if_neg h1] at hn
    rw [if_neg h2] at hm
    rw [ndB_split h1, ndB_split h2] at h
    simp only [List.cons_append, List.nil_append, List.append_assoc, List.cons.injEq, true_and] at h
    have hh := be_small (M := 1024) h (by decide) (by decide) (by omega) (by omega)
    clear h
    obtain ⟨e1, h⟩ := hh
    have hh := be_small (M := 256) h (by decide) (by decide) (by omega) (by omega)
    clear h
    obtain ⟨e2, h⟩ := hh
    exact ⟨⟨by omega, by omega, by omega, by omega, by omega, fun e => by omega⟩, h⟩
theorem nodes_inj {cols bins kind classes : Int} (hs : mayS cols bins kind classes) {L : Nat} : ∀ (a b : List Nd) (i : Nat) (out : List Int) (r s : List Nat), a.length = b.length → (∀ n ∈ a, oneP cols bins kind classes n) → (∀ n ∈ b, oneP cols bins kind classes n) →
    (depGo L a i out).isSome → (depGo L b i out).isSome → a.flatMap (ndB kind) ++ r = b.flatMap (ndB kind) ++ s → a = b ∧ r = s
  | [], [], i, out, r, s, _, _, _, _, _, h => ⟨rfl, by simpa using h⟩
  | [], _ :: _, _, _, _, _, hl, _, _, _, _, _ => by simp at hl
  | _ :: _, [], _, _, _, _, hl, _, _, _, _, _ => by simp at hl
  | n :: a, m :: b, i, out, r, s, hl, ha, hb, h1, h2, h => by
    rw [List.flatMap_cons, List.flatMap_cons, List.append_assoc, List.append_assoc] at h
    obtain ⟨⟨e1, e2, e3, e4, e5, e6⟩, h⟩ := nd_inj hs (ha n (List.mem_cons_self ..)) (hb m (List.mem_cons_self ..)) h
    have hl' : a.length = b.length := by simpa using hl
    have ha' := fun x hx => ha x (List.mem_cons_of_mem n hx)
    have hb' := fun x hx => hb x (List.mem_cons_of_mem m hx)
    unfold depGo at h1 h2
    by_cases g1 : out.length ≤ i
    · rw [if_pos g1] at h1; simp at h1
    · rw [if_neg g1] at h1 h2
      by_cases g2 : n.f = -1
      · rw [if_pos g2] at h1
        rw [if_pos (e1 ▸ g2)] at h2
        obtain ⟨e7, e8⟩ := nodes_inj hs a b (i + 1) out r s hl' ha' hb' h1 h2 h
        refine ⟨?_, e8⟩
        have e9 := e6 g2
        cases n; cases m
        simp only at e1 e2 e3 e4 e5 e9
        subst e1 e2 e3 e4 e5 e9 e7
        rfl
      · rw [if_neg g2] at h1
        rw [if_neg (fun e => g2 (e1.trans e))] at h2
        by_cases g3 : n.l ≠ (out.length : Int) ∨ L < out.length + 2
        · rw [if_pos g3] at h1; simp at h1
        · by_cases g4 : m.l ≠ (out.length : Int) ∨ L < out.length + 2
          · rw [if_pos g4] at h2; simp at h2
          · rw [if_neg g3] at h1
            rw [if_neg g4] at h2
            obtain ⟨e7, e8⟩ := nodes_inj hs a b (i + 1) _ r s hl' ha' hb' h1 h2 h
            refine ⟨?_, e8⟩
            have e9 : n.l = m.l := by omega
            cases n; cases m
            simp only at e1 e2 e3 e4 e5 e9
            subst e1 e2 e3 e4 e5 e9 e7
            rfl
theorem tree_inj {cols bins kind classes : Int} {a b : List Nd} {r s : List Nat} (ha : rightT cols bins kind classes a = true) (hb : rightT cols bins kind classes b = true) (la : a.length < 4294967296) (lb : b.length < 4294967296) (h : treeB kind a ++ r = treeB kind b ++ s) : a = b ∧ r = s := by
  unfold treeB at h
  rw [List.append_assoc, List.append_assoc] at h
  have hh := be_inj h (by omega) (by omega)
  clear h
  obtain ⟨e, h⟩ := hh
  obtain ⟨hs, _, ⟨ds, hd, _⟩, _, ho⟩ := rightT_is ha
  obtain ⟨_, _, ⟨ds', hd', _⟩, _, ho'⟩ := rightT_is hb
  refine nodes_inj hs (L := a.length) a b 0 [0] r s e ho ho' (by rw [hd]; rfl) (by rw [e, hd']; rfl) h
theorem trees_inj {cols bins kind classes : Int} : ∀ (a b : List (List Nd)) (r s : List Nat), a.length = b.length → (∀ t ∈ a, rightT cols bins kind classes t = true ∧ t.length < 4294967296) → (∀ t ∈ b, rightT cols bins kind classes t = true ∧ t.length < 4294967296) →
    a.flatMap (treeB kind) ++ r = b.flatMap (treeB kind) ++ s → a = b ∧ r = s
  | [], [], r, s, _, _, _, h => ⟨rfl, by simpa using h⟩
  | [], _ :: _, _, _, hl, _, _, _ => by simp at hl
  | _ :: _, [], _, _, hl, _, _, _ => by simp at hl
  | x :: a, y :: b, r, s, hl, ha, hb, h => by
    rw [List.flatMap_cons, List.flatMap_cons, List.append_assoc, List.append_assoc] at h
    have hx := ha x (List.mem_cons_self ..)
    have hy := hb y (List.mem_cons_self ..)
    have hh := tree_inj hx.1 hy.1 hx.2 hy.2 h
    clear h
    obtain ⟨e_1, h⟩ := hh
    subst e_1
    have hh := trees_inj a b r s (by simpa using hl) (fun t ht => ha t (List.mem_cons_of_mem _ ht)) (fun t ht => hb t (List.mem_cons_of_mem _ ht)) h
    clear h
    obtain ⟨e_2, h⟩ := hh
    subst e_2
    exact ⟨rfl, h⟩
theorem vals_inj : ∀ (a b : List Nat) (r s : List Nat), a.length = b.length → (∀ x ∈ a, x < 18446744073709551616) → (∀ x ∈ b, x < 18446744073709551616) → a.flatMap valB ++ r = b.flatMap valB ++ s → a = b ∧ r = s
  | [], [], r, s, _, _, _, h => ⟨rfl, by simpa using h⟩
  | [], _ :: _, _, _, hl, _, _, _ => by simp at hl
  | _ :: _, [], _, _, hl, _, _, _ => by simp at hl
  | x :: a, y :: b, r, s, hl, ha, hb, h => by
    rw [List.flatMap_cons, List.flatMap_cons, List.append_assoc, List.append_assoc] at h
    rw [show valB x = beN x 8 from rfl, show valB y = beN y 8 from rfl] at h
    have hh := be_inj h (ha x (List.mem_cons_self ..)) (hb y (List.mem_cons_self ..))
    clear h
    obtain ⟨e_3, h⟩ := hh
    subst e_3
    have hh := vals_inj a b r s (by simpa using hl) (fun t ht => ha t (List.mem_cons_of_mem _ ht)) (fun t ht => hb t (List.mem_cons_of_mem _ ht)) h
    clear h
    obtain ⟨e_4, h⟩ := hh
    subst e_4
    exact ⟨rfl, h⟩
def OkX (den : Int) (x : List Nat × (Int × Int)) : Prop := x.1.length ≤ 255 ∧ (∀ y ∈ x.1, y < 18446744073709551616) ∧ in64 x.2.1 ∧ x.2.2 = den
theorem cols_inj {den : Int} : ∀ (a b : List (List Nat × (Int × Int))) (r s : List Nat), a.length = b.length → (∀ x ∈ a, OkX den x) → (∀ x ∈ b, OkX den x) → a.flatMap colX ++ r = b.flatMap colX ++ s → a = b ∧ r = s
  | [], [], r, s, _, _, _, h => ⟨rfl, by simpa using h⟩
  | [], _ :: _, _, _, hl, _, _, _ => by simp at hl
  | _ :: _, [], _, _, hl, _, _, _ => by simp at hl
  | ⟨ex, x, dx⟩ :: a, ⟨ey, y, dy⟩ :: b, r, s, hl, ha, hb, h => by
    rw [List.flatMap_cons, List.flatMap_cons, List.append_assoc, List.append_assoc] at h
    obtain ⟨x1, x2, x3, x4⟩ := ha _ (List.mem_cons_self ..)
    obtain ⟨y1, y2, y3, y4⟩ := hb _ (List.mem_cons_self ..)
    simp only at x1 x2 x3 x4 y1 y2 y3 y4
    rw [show colX (ex, x, dx) = beN ex.length 1 ++ (ex.flatMap valB ++ beN (u64N x) 8) from rfl, show colX (ey, y, dy) = beN ey.length 1 ++ (ey.flatMap valB ++ beN (u64N y) 8) from rfl] at h
    simp only [List.append_assoc] at h
    have hh := be_inj h (by omega) (by omega)
    clear h
    obtain ⟨e1, h⟩ := hh
    have hh := vals_inj ex ey _ _ e1 x2 y2 h
    clear h
    obtain ⟨e_5, h⟩ := hh
    subst e_5
    have hh := be_whole h x3 y3
    clear h
    obtain ⟨e_6, h⟩ := hh
    subst e_6
    subst x4 y4
    have hh := cols_inj a b r s (by simpa using hl) (fun t ht => ha t (List.mem_cons_of_mem _ ht)) (fun t ht => hb t (List.mem_cons_of_mem _ ht)) h
    clear h
    obtain ⟨e_7, h⟩ := hh
    subst e_7
    exact ⟨rfl, h⟩
structure MayBe (f : Fst) : Prop where
  den : 0 ≤ f.den ∧ f.den < 1048577
  num : 0 ≤ f.num ∧ f.num < 9223372036854775808
  sh : ∀ x ∈ f.shake, in64 x.1 ∧ x.2 = f.den
theorem mayF_be {f : Fst} (h : mayF f = true) (hk : 0 ≤ f.k ∧ f.k < 2) : MayBe f := by
  unfold mayF headE errsE outE shkE at h
  simp only [Bool.and_eq_true, beq_iff_eq, decide_eq_true_eq, List.all_eq_true, Bool.not_eq_true', Bool.or_eq_false_iff, decide_eq_false_iff_not, bne_eq_false_iff_eq] at h
  obtain ⟨⟨_, _, ⟨h1, h2, h3, h4⟩, h5, _⟩, _⟩ := h
  have hb : bndO f.k f.den ≤ 4611686018427387904 ∧ 0 ≤ bndO f.k f.den := by
    unfold bndO
    split
    · rw [wrapI_fst]; unfold wrap64; omega
    · omega
  refine ⟨by omega, by omega, fun x hx => ?_⟩
  obtain ⟨h6, h7, h8⟩ := h5 x hx
  rw [wrapI_fst] at h8
  unfold wrap64 at h8
  exact ⟨by unfold in64; omega, h6⟩
structure OkB (f : Fst) : Prop where
  seed : f.seed < 18446744073709551616
  ee : ∀ l ∈ f.edges, ∀ x ∈ l, x < 18446744073709551616
  tt : ∀ t ∈ f.trees, t.length < 4294967296
theorem putF_inj {f g : Fst} (hf : mayF f = true) (hg : mayF g = true) (of : OkB f) (og : OkB g) (h : putF f = putF g) : f = g := by
  have mf := mayF_is hf
  have mg := mayF_is hg
  have cf := chk_is mf.ck
  have cg := chk_is mg.ck
  have bf := mayF_be hf cf.k
  have bg := mayF_be hg cg.k
  obtain ⟨fk, fcl, fb, ft, fd, fl, fp, fcols, fseed, fedges, ftrees, fnum, fden, fshake⟩ := f
  obtain ⟨gk, gcl, gb, gt, gd, gl, gp, gcols, gseed, gedges, gtrees, gnum, gden, gshake⟩ := g
  have fc0 := mf.c0
  have fc1 := mf.c1
  have gc0 := mg.c0
  have gc1 := mg.c1
  obtain ⟨ok, ocl, ob, ot, od, ol, op⟩ := cf
  obtain ⟨pk, pcl, pb, pt, pd, pl, pp⟩ := cg
  unfold putF fstB cfgB cfgL fldB at h
  simp only [List.flatMap_cons, List.flatMap_nil, List.append_nil, List.append_assoc] at h
  simp only at *
  have hh := be_inj h (by decide) (by decide)
  clear h
  obtain ⟨_, h⟩ := hh
  have hh := be_small (M := 256) h (by decide) (by decide) (by omega) (by omega)
  clear h
  obtain ⟨e_8, h⟩ := hh
  subst e_8
  have hh := be_small (M := 65536) h (by decide) (by decide) (by omega) (by omega)
  clear h
  obtain ⟨e_9, h⟩ := hh
  subst e_9
  have hh := be_small (M := 65536) h (by decide) (by decide) (by omega) (by omega)
  clear h
  obtain ⟨e_10, h⟩ := hh
  subst e_10
  have hh := be_small (M := 65536) h (by decide) (by decide) (by omega) (by omega)
  clear h
  obtain ⟨e_11, h⟩ := hh
  subst e_11
  have hh := be_small (M := 256) h (by decide) (by decide) (by omega) (by omega)
  clear h
  obtain ⟨e_12, h⟩ := hh
  subst e_12
  have hh := be_small (M := 4294967296) h (by decide) (by decide) (by omega) (by omega)
  clear h
  obtain ⟨e_13, h⟩ := hh
  subst e_13
  have hh := be_small (M := 65536) h (by decide) (by decide) (by omega) (by omega)
  clear h
  obtain ⟨e_14, h⟩ := hh
  subst e_14
  have hh := be_small (M := 65536) h (by decide) (by decide) (by omega) (by omega)
  clear h
  obtain ⟨e_15, h⟩ := hh
  subst e_15
  have hh := be_inj h of.seed og.seed
  clear h
  obtain ⟨e_16, h⟩ := hh
  subst e_16
  have hh := be_whole h (by have := bf.num; unfold in64; simp only at this; omega) (by have := bg.num; unfold in64; simp only at this; omega)
  clear h
  obtain ⟨e_17, h⟩ := hh
  subst e_17
  have hh := be_small (M := 4294967296) h (by decide) (by decide) (by have := bf.den; simp only at this; omega) (by have := bg.den; simp only at this; omega)
  clear h
  obtain ⟨e_18, h⟩ := hh
  subst e_18
  have l1 : fedges.length = gedges.length := by have h1 := mf.ne; have h2 := mg.ne; simp only at h1 h2; omega
  have l2 : ftrees.length = gtrees.length := by have h1 := mf.nt; have h2 := mg.nt; simp only at h1 h2; omega
  have l3 : fshake.length = fedges.length := by have h1 := mf.ne; have h2 := mf.ns; simp only at h1 h2; omega
  have l4 : gshake.length = gedges.length := by have h1 := mg.ne; have h2 := mg.ns; simp only at h1 h2; omega
  have hh := cols_inj (den := fden) _ _ _ _ (by rw [List.length_zip, List.length_zip]; omega) (fun x hx => by
    have hm := List.of_mem_zip hx
    have := bf.sh _ hm.2
    exact ⟨mf.ee _ hm.1, of.ee _ hm.1, this.1, this.2⟩) (fun x hx => by
    have hm := List.of_mem_zip hx
    have := bg.sh _ hm.2
    exact ⟨mg.ee _ hm.1, og.ee _ hm.1, this.1, this.2⟩) h
  clear h
  obtain ⟨hz, h⟩ := hh
  have e1 : fedges = gedges := by
    rw [← List.map_fst_zip (l₁ := fedges) (l₂ := fshake) (by omega), hz, List.map_fst_zip (by omega)]
  have e2 : fshake = gshake := by
    rw [← List.map_snd_zip (l₁ := fedges) (l₂ := fshake) (by omega), hz, List.map_snd_zip (by omega)]
  obtain ⟨rfl, _⟩ := trees_inj (cols := fcols) (bins := fb) (kind := fk) (classes := fcl) ftrees gtrees [] [] l2 (fun t ht => ⟨mf.tt t ht, of.tt t ht⟩) (fun t ht => ⟨mg.tt t ht, og.tt t ht⟩) (by simpa using h)
  subst e1 e2
  rfl
end Go.Proofs.Ytpekofpiodaadaa.Hb
end

section
/- The walk of model.Put. -/
namespace Go.Proofs.Ytpekofpiodaadaa.Hb
set_option linter.unusedVariables false
set_option linter.unusedSimpArgs false
open Go.RowKit

theorem trees_len {k : Int} {trees : List (List Nd)} (h : ∀ t ∈ trees, t.length ≤ 1048576) (j : Nat) : ((trees.take j).flatMap (treeB k)).length ≤ 13631492 * j := by
  have key : ∀ (l : List (List Nd)), (∀ x ∈ l, x.length ≤ 1048576) → (l.flatMap (treeB k)).length ≤ 13631492 * l.length := by
    intro l
    induction l with
    | nil => simp
    | cons x r ih =>
      intro hx
      have h1 := ih (fun y hy => hx y (List.mem_cons_of_mem _ hy))
      have h2 := hx x (List.mem_cons_self ..)
      have h3 := flat_len (t := x) (kind := k)
      have h4 : (treeB k x).length ≤ 13631492 := by unfold treeB; rw [List.length_append, be_len]; omega
      simp only [List.flatMap_cons, List.length_append, List.length_cons] at h1 ⊢
      omega
  have h1 := key (trees.take j) (fun x hx => h x (List.mem_of_mem_take hx))
  have h2 : (trees.take j).length ≤ j := List.length_take_le _ _
  omega
set_option maxRecDepth 100000 in
set_option maxHeartbeats 16000000 in
theorem mput_any (f : Fst) (Ae At As : Option Addr) (ce ct cs : Nat) (w : World) (hok : OkF f) (hr : RFo w f Ae At As) (hmay : mayF f = true) (htl : ∀ t ∈ f.trees, t.length ≤ 1048576) :
    Calls Try.prog 30 #[.agg (forA f Ae At As ce ct cs)] w fun e w' => ∃ a c, e = .returned (.tuple #[.slice a (putF f).length c, .int .i64 0]) ∧ w'.ownsRow w.heap.size 5 1 (.slice a (putF f).length c) (putF f).length (u8s (putF f)) ∧ Below w.heap.size w w' := by
  have KM := Lib.hid (fun w hr => mayf_any f Ae At As ce ct cs w hok hr)
  rw [hmay] at KM
  have HM := Lib.hid (mayF_is hmay)
  have KH := Lib.hid (fun B S v s w h hB hn => head_any f Ae At As ce ct cs B S v s w h hB hn HM.out.ck)
  have KC := Lib.hid (fun B S j es xn xd v s w we hre hbe hBe hSe h hB hn hes hm hsx hne hns => col_any f Ae At As ce ct cs B S j es xn xd v s w we hre hbe hBe hSe h hB hn hes hm hsx hne hns)
  have KS := Lib.hid (fun w => shape_any f Ae At As ce ct cs w)
  have KN := Lib.hid (fun (t : List Nd) (A : Option Addr) (cap : Nat) w hr hl hright => nput_any f.cols f.b f.k f.cl t A cap w hr hl hright)
  have HRF := Lib.hid hr
  have HTL := Lib.hid htl
  have HCL := Lib.hid (fun j => cols_len HM.out.ee j)
  have HFL := Lib.hid (fstB_len f)
  have HPF : Hid (putF f = fstB f ++ ((f.edges.zip f.shake).flatMap colX ++ f.trees.flatMap (treeB f.k))) := Lib.hid rfl
  have HZN := Lib.hid (fun j es x h1 h2 => flat_next (g := colX) (zip_at (f := f) (j := j) (es := es) (x := x) h1 h2))
  have hne0 := HM.out.ne
  have hns0 := HM.out.ns
  have hcc := HM.out.c1
  have hc0 := HM.out.c0
  unfold priA at KH KC
  unfold forA at KM KS ⊢
  obtain ⟨PF, hPF⟩ : ∃ PF, putF f = PF := ⟨_, rfl⟩
  rw [hPF] at HPF ⊢
  obtain ⟨ne, hne⟩ : ∃ n, f.edges.length = n := ⟨_, rfl⟩
  obtain ⟨nt, hnt⟩ : ∃ n, f.trees.length = n := ⟨_, rfl⟩
  obtain ⟨ns, hns⟩ : ∃ n, f.shake.length = n := ⟨_, rfl⟩
  have lnt : nt ≤ 4096 := by
    have h1 := HM.out.nt
    have h2 := HM.out.ck
    rw [hnt] at h1
    have : f.t ≤ 4096 := by
      unfold checkO lowC stepC at h2
      repeat' split at h2
      all_goals omega
    omega
  rw [hne, hnt, hns] at KM KH KC KS ⊢
  rw [hne] at hne0
  rw [hns] at hns0
  have HLN := Lib.hid (And.intro hne (And.intro hnt hns))
  obtain ⟨k, cl, b, tt, d, l, p, cols, seed, edges, trees, num, den, shake⟩ := f
  simp only at KM KH KC KS KN HCL HFL HPF HZN HTL HLN hne0 hns0 hcc hc0 ⊢
  obtain ⟨FB, hFB⟩ : ∃ FB, fstB ⟨k, cl, b, tt, d, l, p, cols, seed, edges, trees, num, den, shake⟩ = FB := ⟨_, rfl⟩
  rw [hFB] at KH HFL HPF
  clear hok hr hmay htl hPF hne hnt hns hFB
  go_enter Try.func30, Try.ntmps30
  go_upto_region 1 with (fail)
  have kB := Blk.new w #[.int .i64 k, .int .i64 cl, .int .i64 b, .int .i64 tt, .int .i64 d, .int .i64 l, .int .i64 p, .int .i64 cols, .int .u64 (seed : Int), .slice Ae ne ce, .slice At nt ct, .int .i64 num, .int .i64 den, .slice As ns cs] 59
  have HBE := Lib.hid ((Below.refl w.heap.size w).alloc (Nat.le_refl _) (.cells #[.int .i64 k, .int .i64 cl, .int .i64 b, .int .i64 tt, .int .i64 d, .int .i64 l, .int .i64 p, .int .i64 cols, .int .u64 (seed : Int), .slice Ae ne ce, .slice At nt ct, .int .i64 num, .int .i64 den, .slice As ns cs] 59))
  obtain ⟨w0, hw0⟩ : ∃ W, w.alloc (.cells #[.int .i64 k, .int .i64 cl, .int .i64 b, .int .i64 tt, .int .i64 d, .int .i64 l, .int .i64 p, .int .i64 cols, .int .u64 (seed : Int), .slice Ae ne ce, .slice At nt ct, .int .i64 num, .int .i64 den, .slice As ns cs] 59) = W := ⟨_, rfl⟩
  rw [hw0] at kB HBE ⊢
  have KBX := kB
  clear hw0
  go_wp2_with (refine wpList_load_row rfl 59 (.tmp 1) rfl w.heap.size rfl 59 _ (0, 0) _ KBX Try.underlying59 rfl forest_size ?_)
  refine (KM.out _ (HRF.out.below HBE.out)).mono ?_
  rintro e w1 ⟨rfl, hb⟩
  have kB1 := kB.below hb
  have HB1 := Lib.hid (HBE.out.trans (hb.mono HBE.out.size))
  have hsz1 : w.heap.size + 1 ≤ w1.heap.size := kB1.lt
  clear hb kB KBX HBE
  have bb1 : Below w1.heap.size w1 ((w1.alloc (.cells #[] 5)).alloc (.cells #[.slice (some ⟨w1.heap.size, 0, none⟩) 0 0] 127)) := ((Below.refl _ _).alloc (Nat.le_refl _) _).alloc (by simp) _
  have KBX := kB1.below bb1
  go_upto_region 4 with (refine wpList_load_row rfl 59 (.tmp 1) rfl w.heap.size rfl 59 _ (0, 0) _ KBX Try.underlying59 rfl forest_size ?_)
  have kS3 := Blk.new (w1.alloc (.cells #[] 5)) #[.slice (some ⟨w1.heap.size, 0, none⟩) 0 0] 127
  rw [World.size_alloc] at kS3
  have ho3 : ((w1.alloc (.cells #[] 5)).alloc (.cells #[.slice (some ⟨w1.heap.size, 0, none⟩) 0 0] 127)).ownsRow w1.heap.size 5 1 (.slice (some ⟨w1.heap.size, 0, none⟩) 0 0) 0 [] := (World.ownsRow_made w1 #[] 0 (Nat.le_refl _) (Nat.zero_le _) rfl).alloc _
  obtain ⟨w2, hw2⟩ : ∃ W, (w1.alloc (.cells #[] 5)).alloc (.cells #[.slice (some ⟨w1.heap.size, 0, none⟩) 0 0] 127) = W := ⟨_, rfl⟩
  have hsz2 : w2.heap.size = w1.heap.size + 1 + 1 := by rw [← hw2]; simp
  rw [hw2] at kS3 ho3 KBX bb1 ⊢
  obtain ⟨Bq, hBq⟩ : ∃ B, w1.heap.size = B := ⟨_, rfl⟩
  obtain ⟨S, hS⟩ : ∃ S, Bq + 1 = S := ⟨_, rfl⟩
  rw [hBq] at kS3 ho3 hsz1 hsz2
  rw [hBq, hS]
  rw [hS] at kS3 hsz2
  have kQ2 := Blk.new w2 #[.pointer (some ⟨S, 0, none⟩), .int .i64 k, .int .i64 cl, .int .i64 b, .int .i64 tt, .int .i64 d, .int .i64 l, .int .i64 p, .int .i64 cols, .int .u64 (seed : Int), .slice Ae ne ce, .slice At nt ct, .int .i64 num, .int .i64 den, .slice As ns cs] 129
  have b2 : Below w2.heap.size w2 (w2.alloc (.cells #[.pointer (some ⟨S, 0, none⟩), .int .i64 k, .int .i64 cl, .int .i64 b, .int .i64 tt, .int .i64 d, .int .i64 l, .int .i64 p, .int .i64 cols, .int .u64 (seed : Int), .slice Ae ne ce, .slice At nt ct, .int .i64 num, .int .i64 den, .slice As ns cs] 129)) := (Below.refl _ _).alloc (Nat.le_refl _) _
  obtain ⟨W3, hW3⟩ : ∃ W, w2.alloc (.cells #[.pointer (some ⟨S, 0, none⟩), .int .i64 k, .int .i64 cl, .int .i64 b, .int .i64 tt, .int .i64 d, .int .i64 l, .int .i64 p, .int .i64 cols, .int .u64 (seed : Int), .slice Ae ne ce, .slice At nt ct, .int .i64 num, .int .i64 den, .slice As ns cs] 129) = W := ⟨_, rfl⟩
  rw [hW3] at kQ2 b2 ⊢
  rw [hsz2] at kQ2
  have kF3 := KBX.below b2
  have HB3 := Lib.hid ((HB1.out.trans (bb1.mono HB1.out.size)).trans (b2.mono (Nat.le_trans HB1.out.size bb1.size)))
  have HS0 : Hid (Sht W3 Bq S (.slice (some ⟨Bq, 0, none⟩) 0 0) []) := Lib.hid ⟨⟨_, _, rfl⟩, kS3.below b2, own_below ho3 b2, by simp [Value.ownBlock]; omega, by simp⟩
  have hv0 : (Value.slice (some ⟨Bq, 0, none⟩) 0 0).ownBlock = some Bq := rfl
  obtain ⟨v0, hvv⟩ : ∃ v, (Value.slice (some ⟨Bq, 0, none⟩) 0 0) = v := ⟨_, rfl⟩
  rw [hvv] at HS0 hv0
  have HT0 := Lib.hid (Stp.of_below (S := S) (v := v0) (Below.refl W3.heap.size W3))
  have HKF := Lib.hid (fun (W : World) (vi : Value) (ht : Stp W3 S v0 W vi) => ht.blk kF3 (by omega) (by rw [hv0]; intro e; cases e; omega))
  have HKQ := Lib.hid (fun (W : World) (vi : Value) (ht : Stp W3 S v0 W vi) => ht.blk kQ2 (by omega) (by rw [hv0]; intro e; cases e; omega))
  have HVQ := Lib.hid (fun (W : World) (vi : Value) (ht : Stp W3 S v0 W vi) (e : vi.ownBlock = some (S + 1)) => (show False from (ht.row _ e).elim (fun e => by rw [hv0] at e; cases e; omega) (fun e => by have := kQ2.lt; omega)))
  have HVF0 := Lib.hid (fun (W : World) (vi : Value) (ht : Stp W3 S v0 W vi) (e : vi.ownBlock = some w.heap.size) => (show False from (ht.row _ e).elim (fun e => by rw [hv0] at e; cases e; omega) (fun e => by have := kF3.lt; omega)))
  have HBW := Lib.hid (fun (W : World) (vi : Value) (ht : Stp W3 S v0 W vi) => HB3.out.trans (ht.low (N := w.heap.size) HB3.out.size (by omega) (fun g e => by rw [hv0] at e; cases e; omega)))
  have HLE := Lib.hid (fun (W : World) (vi : Value) (ht : Stp W3 S v0 W vi) => Nat.le_trans (show Bq ≤ W3.heap.size by have := kQ2.lt; omega) ht.size)
  have HSB := Lib.hid (show w.heap.size ≤ Bq ∧ w.heap.size ≤ S by omega)
  subst hne0
  have HNSN := Lib.hid (show ns = ne by omega)
  clear hns0
  have KH2 := Lib.hid (KH.out Bq S v0 [] W3 HS0.out (HLE.out _ _ HT0.out) (by simp))
  simp only [List.nil_append] at KH2
  have KQX := kQ2
  obtain ⟨i0, hi0, hz0, hz1, hz2⟩ := info_parts info_u8
  clear hBq hS hw2 hW3 kS3 ho3 b2 bb1 KBX kB1 HB1 hsz1 hsz2 kF3 hv0 hvv
  go_wp2_with (refine wpList_load_row rfl 129 (.tmp 4) rfl (S + 1) rfl 129 _ (0, 0) _ KQX Try.underlying129 rfl printer_size ?_)
  refine KH2.out.mono ?_
  rintro e W4 ⟨⟨r4, rfl⟩, v4, hs, ht⟩
  have HS4 := Lib.hid hs
  have HT4 := Lib.hid ht
  have q7 : W4.cell? ⟨w.heap.size, 7, none⟩ = some (.int .i64 (ne : Int)) := (HKF.out _ _ ht).cell 7
  clear hs ht KQX kQ2 KH2
  go_upto_region 6 with (fail)
  clear q7
  go_loopw [19] (fun iv wr => ∃ j : Nat, j ≤ ne ∧ iv = .int .i64 j ∧ Hid (∃ vi, Sht wr Bq S vi (FB ++ ((edges.zip shake).take j).flatMap colX) ∧ Stp W3 S v0 wr vi)) (fun iv _ => ne - (intOf iv).toNat)
  case atStart => exact ⟨0, Nat.zero_le _, rfl, Lib.hid ⟨v4, by simpa using HS4.out, HT4.out⟩⟩
  case round =>
    obtain ⟨j, hj, rfl, HI⟩ := hrel
    obtain ⟨vi, hs, ht⟩ := HI.out
    have HS5 := Lib.hid hs
    have HT5 := Lib.hid ht
    have hcl := HCL.out j
    by_cases hlt : j < ne
    · have hlt' : (j : Int) < ne := by omega
      have h1 : edges[j]? = some (edges[j]'(by rw [HLN.out.1]; exact hlt)) := List.getElem?_eq_getElem _
      have h2 : shake[j]? = some (shake[j]'(by have := HNSN.out; rw [HLN.out.2.2]; omega)) := List.getElem?_eq_getElem _
      have HZ := Lib.hid (HZN.out j _ _ h1 h2)
      obtain ⟨es, hes⟩ : ∃ es, edges[j]'(by rw [HLN.out.1]; exact hlt) = es := ⟨_, rfl⟩
      obtain ⟨⟨xn, xd⟩, hsx⟩ : ∃ x, shake[j]'(by have := HNSN.out; rw [HLN.out.2.2]; omega) = x := ⟨_, rfl⟩
      rw [hes] at h1 HZ
      rw [hsx] at h2 HZ
      have KC2 := Lib.hid (KC.out Bq S j es xn xd vi _ wr w HRF.out (HBW.out _ _ ht) HSB.out.1 HSB.out.2 hs (HLE.out _ _ ht) (by rw [List.length_append, HFL.out]; omega) h1 (HM.out.ee es (List.mem_of_getElem? h1)) h2 (by omega) (by have := HNSN.out; omega))
      have KQX := HKQ.out _ _ ht
      clear hs ht h1 h2 hes hsx HI
      go_wp2_with (refine wpList_load_row rfl 129 (.tmp 4) rfl (S + 1) rfl 129 _ (0, 0) _ KQX Try.underlying129 rfl printer_size ?_)
      refine KC2.out.mono ?_
      rintro e W6 ⟨⟨r6, rfl⟩, v6, hs, ht⟩
      have HS6 := Lib.hid hs
      have HT6 := Lib.hid (HT5.out.trans ht)
      clear hs ht KQX
      go_wp2_with fail
      go_roundw
      case rel => exact ⟨j + 1, hlt, by go_num, Lib.hid ⟨v6, by rw [HZ.out, ← List.append_assoc]; exact HS6.out, HT6.out⟩⟩
      case measure => simp [intOf]; omega
    · obtain rfl : ne = j := by omega
      have hzt : (edges.zip shake).take ne = edges.zip shake := List.take_of_length_le (by have := HNSN.out; rw [List.length_zip, HLN.out.1, HLN.out.2.2]; omega)
      rw [hzt] at hs hcl
      have HS6 := Lib.hid hs
      have q10 : wr.cell? ⟨w.heap.size, 10, none⟩ = some (.slice At nt ct) := (HKF.out _ _ HT5.out).cell 10
      clear hs ht HI HS5 hzt
      go_upto_region 11 with (fail)
      clear q10
      have HVF := Lib.hid (fun (W : World) (vi : Value) (ht : Stp W3 S v0 W vi) (e : vi.ownBlock = some w.heap.size) => HVF0.out W vi ht e)
      have HTLB : Hid (∀ j, ((trees.take j).flatMap (treeB k)).length ≤ 13631492 * j) := Lib.hid (fun j => trees_len HTL.out j)
      clear HCL
      go_loopw [29] (fun iv wr => ∃ j : Nat, j ≤ nt ∧ iv = .int .i64 j ∧ Hid (∃ vi, Sht wr Bq S vi ((FB ++ (edges.zip shake).flatMap colX) ++ (trees.take j).flatMap (treeB k)) ∧ Stp W3 S v0 wr vi)) (fun iv _ => nt - (intOf iv).toNat)
      case atStart => exact ⟨0, Nat.zero_le _, rfl, Lib.hid ⟨vi, by simpa using HS6.out, HT5.out⟩⟩
      case round =>
        obtain ⟨j, hj, rfl, HI2⟩ := hrel
        clear HS6 HT5
        obtain ⟨vi, hs, ht⟩ := HI2.out
        have HT2 := Lib.hid ht
        have htl := HTLB.out j
        by_cases hlt : j < nt
        · have hlt' : (j : Int) < nt := by omega
          obtain ⟨adt, rfl, tr, Bt, capt, ht1, ht2, _, _, ht5⟩ := HRF.out.rt.at (i := j) (by have h := HLN.out.2.1; simp only; omega)
          simp only at ht1
          have x0 : wr.cell? (adt.add j) = some (.slice Bt tr.length capt) := ((HBW.out _ _ ht).cell (World.block_lt_of_cell? w _ ht2)).trans ht2
          have HRT := Lib.hid (fun W (hb : Below wr.heap.size wr W) => ht5.below ((HBW.out _ _ ht).trans (hb.mono (HBW.out _ _ ht).size)))
          have hmem := List.mem_of_getElem? ht1
          have KNX := Lib.hid (fun W (hb : Below wr.heap.size wr W) => KN.out tr Bt capt W (HRT.out W hb) (by have := HTL.out tr hmem; omega) (HM.out.tt tr hmem))
          have HZ2 := Lib.hid (flat_next (g := treeB k) ht1)
          obtain ⟨TB, hTB⟩ : ∃ z, treeB k tr = z := ⟨_, rfl⟩
          have HTI : Hid (∀ x ∈ TB, x < 256) := Lib.hid (hTB ▸ treeB_in k tr)
          have hmt0 : TB.length ≤ 13631492 := by have h := HTL.out tr hmem; have h2 := flat_len (t := tr) (kind := k); rw [← hTB]; unfold treeB; rw [List.length_append, be_len]; omega
          rw [hTB] at KNX HZ2
          obtain ⟨mt, hmt⟩ : ∃ n, TB.length = n := ⟨_, rfl⟩
          rw [hmt] at KNX hmt0
          have HMT := Lib.hid hmt
          obtain ⟨m, hm⟩ : ∃ n, tr.length = n := ⟨_, rfl⟩
          rw [hm] at x0 KNX
          obtain ⟨S2, hS2⟩ : ∃ S2, (FB ++ (edges.zip shake).flatMap colX) ++ (trees.take j).flatMap (treeB k) = S2 := ⟨_, rfl⟩
          have HS2E := Lib.hid hS2
          have hl2 : S2.length ≤ 137434759168 := by have h1 := HFL.out; have h2 := hcl; rw [← hS2]; simp only [List.length_append]; omega
          rw [hS2] at hs
          obtain ⟨a1, cc1, rfl⟩ := hs.form
          obtain ⟨n1, hn1⟩ : ∃ n, S2.length = n := ⟨_, rfl⟩
          rw [hn1] at hs hl2 HT2
          have HS2 := Lib.hid hs
          have HN1 := Lib.hid hn1.symm
          have hB2 := HLE.out _ _ HT2.out
          have HX0 := Lib.hid ((Below.refl wr.heap.size wr).drew)
          have hlS1 := hs.kS.lt
          have HSS : Hid (∀ {vi : Value} (W : World), Stp W3 S v0 W vi → (fun W => W.cell? ⟨S + 1, 0, none⟩ = some (.pointer (some ⟨S, 0, none⟩)) ∧ W.cell? ⟨w.heap.size, 0, none⟩ = some (.int .i64 k) ∧ W.cell? ⟨w.heap.size, 1, none⟩ = some (.int .i64 cl) ∧ W.cell? ⟨w.heap.size, 2, none⟩ = some (.int .i64 b) ∧ W.cell? ⟨w.heap.size, 3, none⟩ = some (.int .i64 tt) ∧ W.cell? ⟨w.heap.size, 4, none⟩ = some (.int .i64 d) ∧ W.cell? ⟨w.heap.size, 5, none⟩ = some (.int .i64 l) ∧ W.cell? ⟨w.heap.size, 6, none⟩ = some (.int .i64 p) ∧ W.cell? ⟨w.heap.size, 7, none⟩ = some (.int .i64 (ne : Int)) ∧ W.cell? ⟨w.heap.size, 8, none⟩ = some (.int .u64 (seed : Int)) ∧ W.cell? ⟨w.heap.size, 9, none⟩ = some (.slice Ae ne ce) ∧ W.cell? ⟨w.heap.size, 10, none⟩ = some (.slice (some adt) nt ct) ∧ W.cell? ⟨w.heap.size, 11, none⟩ = some (.int .i64 num) ∧ W.cell? ⟨w.heap.size, 12, none⟩ = some (.int .i64 den) ∧ W.cell? ⟨w.heap.size, 13, none⟩ = some (.slice As ns cs)) W) := Lib.hid (fun W ht => ⟨(HKQ.out W _ ht).cell 0, (HKF.out W _ ht).cells14⟩)
          clear hs ht ht1 ht2 ht5 hmem hTB hmt hm hS2 hn1 HI2 htl hcl
          go_upto_region 13 with (fail)
          refine wp_region_held_drew (S := (fun W => W.cell? ⟨S + 1, 0, none⟩ = some (.pointer (some ⟨S, 0, none⟩)) ∧ W.cell? ⟨w.heap.size, 0, none⟩ = some (.int .i64 k) ∧ W.cell? ⟨w.heap.size, 1, none⟩ = some (.int .i64 cl) ∧ W.cell? ⟨w.heap.size, 2, none⟩ = some (.int .i64 b) ∧ W.cell? ⟨w.heap.size, 3, none⟩ = some (.int .i64 tt) ∧ W.cell? ⟨w.heap.size, 4, none⟩ = some (.int .i64 d) ∧ W.cell? ⟨w.heap.size, 5, none⟩ = some (.int .i64 l) ∧ W.cell? ⟨w.heap.size, 6, none⟩ = some (.int .i64 p) ∧ W.cell? ⟨w.heap.size, 7, none⟩ = some (.int .i64 (ne : Int)) ∧ W.cell? ⟨w.heap.size, 8, none⟩ = some (.int .u64 (seed : Int)) ∧ W.cell? ⟨w.heap.size, 9, none⟩ = some (.slice Ae ne ce) ∧ W.cell? ⟨w.heap.size, 10, none⟩ = some (.slice (some adt) nt ct) ∧ W.cell? ⟨w.heap.size, 11, none⟩ = some (.int .i64 num) ∧ W.cell? ⟨w.heap.size, 12, none⟩ = some (.int .i64 den) ∧ W.cell? ⟨w.heap.size, 13, none⟩ = some (.slice As ns cs))) (by kernel_rfl) ?_ (fun hS0 => ?_)
          · exact HSS.out _ (HT2.out.trans (Stp.of_below HX0.out))
          refine' wpAnyH_take (i := 0) (v := _) rfl (by kernel_rfl) (by kernel_rfl) (by kernel_rfl) (fun _ _ _ h => h) (Or.inl ⟨by rfl, ?hym1⟩) hS0 ?restm1
          case hym1 => (intro w hSw; (try dsimp only at hSw); go_simp; try with_reducible rfl)
          simp only [Act.put, List.setIfInBounds_toArray, List.set_cons_zero, List.set_cons_succ, List.getElem_toArray, List.getElem_cons_zero, List.getElem_cons_succ]
          refine' wpAnyH_take (i := 1) (v := _) rfl (by kernel_rfl) (by kernel_rfl) (by kernel_rfl) (fun _ _ _ h => h) (Or.inl ⟨by rfl, ?hym2⟩) hS0 ?restm2
          case hym2 => (intro w hSw; (try dsimp only at hSw); go_simp; try with_reducible rfl)
          simp only [Act.put, List.setIfInBounds_toArray, List.set_cons_zero, List.set_cons_succ, List.getElem_toArray, List.getElem_cons_zero, List.getElem_cons_succ]
          refine' wpAnyH_take (i := 2) (v := _) rfl (by kernel_rfl) (by kernel_rfl) (by kernel_rfl) (fun _ _ _ h => h) (Or.inl ⟨by rfl, ?hym3⟩) hS0 ?restm3
          case hym3 => (intro w hSw; (try dsimp only at hSw); go_simp; try with_reducible rfl)
          simp only [Act.put, List.setIfInBounds_toArray, List.set_cons_zero, List.set_cons_succ, List.getElem_toArray, List.getElem_cons_zero, List.getElem_cons_succ]
          refine' wpAnyH_take (i := 3) (v := _) rfl (by kernel_rfl) (by kernel_rfl) (by kernel_rfl) (fun _ _ _ h => h) (Or.inl ⟨by rfl, ?hym4⟩) hS0 ?restm4
          case hym4 => (intro w hSw; (try dsimp only at hSw); go_simp; try with_reducible rfl)
          simp only [Act.put, List.setIfInBounds_toArray, List.set_cons_zero, List.set_cons_succ, List.getElem_toArray, List.getElem_cons_zero, List.getElem_cons_succ]
          refine' wpAnyH_take (i := 4) (v := _) rfl (by kernel_rfl) (by kernel_rfl) (by kernel_rfl) (fun _ _ _ h => h) (Or.inl ⟨by rfl, ?hym5⟩) hS0 ?restm5
          case hym5 => (intro w hSw; (try dsimp only at hSw); go_simp; try with_reducible rfl)
          simp only [Act.put, List.setIfInBounds_toArray, List.set_cons_zero, List.set_cons_succ, List.getElem_toArray, List.getElem_cons_zero, List.getElem_cons_succ]
          refine' wpAnyH_take (i := 6) (v := _) rfl (by kernel_rfl) (by kernel_rfl) (by kernel_rfl) (fun _ _ _ h => h) (Or.inl ⟨by rfl, ?hym6⟩) hS0 ?restm6
          case hym6 => (intro w hSw; (try dsimp only at hSw); go_simp; try with_reducible rfl)
          simp only [Act.put, List.setIfInBounds_toArray, List.set_cons_zero, List.set_cons_succ, List.getElem_toArray, List.getElem_cons_zero, List.getElem_cons_succ]
          refine' wpAnyH_take (i := 7) (v := _) rfl (by kernel_rfl) (by kernel_rfl) (by kernel_rfl) (fun _ _ _ h => h) (Or.inl ⟨by rfl, ?hym7⟩) hS0 ?restm7
          case hym7 => (intro w hSw; (try dsimp only at hSw); go_simp; try with_reducible rfl)
          simp only [Act.put, List.setIfInBounds_toArray, List.set_cons_zero, List.set_cons_succ, List.getElem_toArray, List.getElem_cons_zero, List.getElem_cons_succ]
          refine wpAnyH_ready (rs := [5, 8]) (by kernel_rfl) (by simp) ?_
          refine AllReadyH.cons rfl (fun K hK => ?_) (AllReadyH.cons rfl (fun K hK => ?_) AllReadyH.nil)
          · have o0 := (HS2.out.below HX0.out).kS.cell 0
            have o1 := fun i => (HS2.out.below HX0.out).kS.frozen i
            go_simp
            clear o0 o1
            refine hK.out _ _ (HSS.out _ (HT2.out.trans (Stp.of_below HX0.out))) (fun hS1 => ?_)
            clear hK K
            refine wpAnyH_ready (rs := [8]) (by kernel_rfl) (by simp) ?_
            refine AllReadyH.cons rfl (fun K hK => ?_) AllReadyH.nil
            go_simp
            refine (KS.out _).mono ?_
            rintro e wS2 ⟨rfl, hb⟩
            have HX1 := Lib.hid (HX0.out.trans (hb.mono HX0.out.size))
            clear hb
            refine hK.out _ _ (HSS.out _ (HT2.out.trans (Stp.of_below HX1.out))) (fun hS2 => ?_)
            clear hK K
            refine wpAnyH_ready (rs := [9]) (by kernel_rfl) (by simp) ?_
            refine AllReadyH.cons rfl (fun K hK => ?_) AllReadyH.nil
            go_simp
            refine (KNX.out _ HX1.out).mono ?_
            rintro e wP3 ⟨r5, rfl, ho, hb⟩
            obtain ⟨a5, c5, rfl⟩ := own_slice ho
            have HR5 : Hid (RB wP3 a5 TB) := Lib.hid (RB.own (by rw [HMT.out]; exact ho) HTI.out)
            have HX2 := Lib.hid (HX1.out.trans (hb.mono HX1.out.size))
            clear ho hb
            refine hK.out _ _ (HSS.out _ (HT2.out.trans (Stp.of_below HX2.out))) (fun hS3 => ?_)
            clear hK K
            refine wpAnyH_ready (rs := [10]) (by kernel_rfl) (by simp) ?_
            refine AllReadyH.cons rfl (fun K hK => ?_) AllReadyH.nil
            have HR6 := Lib.hid (HR5.out)
            have HS3 := Lib.hid (HS2.out.below HX2.out)
            have hsz3 := HX2.out.size
            refine step_append_two _ (by rfl) _ _ 127 54 (by rfl) Bq 5 5 i0 (.int .u8 0) 1 1 Try.underlying127 Try.underlying54 hi0 hz0 hz1 hz2 rfl (by decide) (.slice a1 n1 cc1) n1 (u8s S2) (by rfl) (by have h := HS3.out.own; rw [← HN1.out] at h; exact h) a5 mt c5 (u8s TB) (by rfl) (by rw [u8s_len, HMT.out, Nat.mul_one]) (by have h := HR6.out.news; rw [HMT.out] at h; exact h) (u8s_one _) (by unfold maxLen; omega) (by omega) (by omega) ?_
            intro v3 w3 hown3 hg3 hat3
            obtain ⟨a3, c3, rfl⟩ := own_slice hown3
            have HNX := Lib.hid (sht_next HS3.out HN1.out (by rw [HMT.out]; exact hown3) hg3 hat3 HTI.out)
            have kS3 := own_blk HS3.out.kS hg3 HS3.out.ne
            refine hK.out _ _ ⟨(own_blk (HKQ.out _ _ (HT2.out.trans (Stp.of_below HX2.out))) hg3 (HVQ.out _ _ (HT2.out.trans (Stp.of_below HX2.out)))).cell 0, (own_blk (HKF.out _ _ (HT2.out.trans (Stp.of_below HX2.out))) hg3 (HVF.out _ _ (HT2.out.trans (Stp.of_below HX2.out)))).cells14⟩ (fun hS4 => ?_)
            clear hK K hown3 hg3 hat3
            refine' wpAnyH_take (i := 11) (v := _) rfl (by kernel_rfl) (by kernel_rfl) (by kernel_rfl) (fun _ _ _ h => h) (Or.inl ⟨by rfl, ?hym8⟩) hS4 ?restm8
            case hym8 => (intro w hSw; (try dsimp only at hSw); go_simp; try with_reducible rfl)
            simp only [Act.put, List.setIfInBounds_toArray, List.set_cons_zero, List.set_cons_succ, List.getElem_toArray, List.getElem_cons_zero, List.getElem_cons_succ]
            refine wpAnyH_ready (rs := [12]) (by kernel_rfl) (by simp) ?_
            refine AllReadyH.cons rfl (fun K hK => ?_) AllReadyH.nil
            have f0 := kS3.cell 0
            have f1 := fun i => kS3.frozen i
            have f2 := kS3.lt
            clear kS3
            go_simp
            clear f0 f1 f2
            refine hK.out _ _ (HSS.out _ ((HT2.out.trans (Stp.of_below HX2.out)).trans HNX.out.2)) (fun hS5 => ?_)
            clear hK K
            refine wpAnyH_done (by kernel_rfl) ?_ _
            go_wp2_with fail
            go_roundw
            case rel => exact ⟨j + 1, hlt, by go_num, Lib.hid ⟨_, by rw [HZ2.out, ← List.append_assoc, HS2E.out]; exact HNX.out.1, (HT2.out.trans (Stp.of_below HX2.out)).trans HNX.out.2⟩⟩
            case measure => simp [intOf]; omega
          · go_simp
            refine (KS.out _).mono ?_
            rintro e wS1 ⟨rfl, hb⟩
            have HX1 := Lib.hid (HX0.out.trans (hb.mono HX0.out.size))
            clear hb
            refine hK.out _ _ (HSS.out _ (HT2.out.trans (Stp.of_below HX1.out))) (fun hS1 => ?_)
            clear hK K
            refine wpAnyH_ready (rs := [5, 9]) (by kernel_rfl) (by simp) ?_
            refine AllReadyH.cons rfl (fun K hK => ?_) (AllReadyH.cons rfl (fun K hK => ?_) AllReadyH.nil)
            · have o0 := (HS2.out.below HX1.out).kS.cell 0
              have o1 := fun i => (HS2.out.below HX1.out).kS.frozen i
              go_simp
              clear o0 o1
              refine hK.out _ _ (HSS.out _ (HT2.out.trans (Stp.of_below HX1.out))) (fun hS2 => ?_)
              clear hK K
              refine wpAnyH_ready (rs := [9]) (by kernel_rfl) (by simp) ?_
              refine AllReadyH.cons rfl (fun K hK => ?_) AllReadyH.nil
              go_simp
              refine (KNX.out _ HX1.out).mono ?_
              rintro e wP3 ⟨r5, rfl, ho, hb⟩
              obtain ⟨a5, c5, rfl⟩ := own_slice ho
              have HR5 : Hid (RB wP3 a5 TB) := Lib.hid (RB.own (by rw [HMT.out]; exact ho) HTI.out)
              have HX2 := Lib.hid (HX1.out.trans (hb.mono HX1.out.size))
              clear ho hb
              refine hK.out _ _ (HSS.out _ (HT2.out.trans (Stp.of_below HX2.out))) (fun hS3 => ?_)
              clear hK K
              refine wpAnyH_ready (rs := [10]) (by kernel_rfl) (by simp) ?_
              refine AllReadyH.cons rfl (fun K hK => ?_) AllReadyH.nil
              have HR6 := Lib.hid (HR5.out)
              have HS3 := Lib.hid (HS2.out.below HX2.out)
              have hsz3 := HX2.out.size
              refine step_append_two _ (by rfl) _ _ 127 54 (by rfl) Bq 5 5 i0 (.int .u8 0) 1 1 Try.underlying127 Try.underlying54 hi0 hz0 hz1 hz2 rfl (by decide) (.slice a1 n1 cc1) n1 (u8s S2) (by rfl) (by have h := HS3.out.own; rw [← HN1.out] at h; exact h) a5 mt c5 (u8s TB) (by rfl) (by rw [u8s_len, HMT.out, Nat.mul_one]) (by have h := HR6.out.news; rw [HMT.out] at h; exact h) (u8s_one _) (by unfold maxLen; omega) (by omega) (by omega) ?_
              intro v3 w3 hown3 hg3 hat3
              obtain ⟨a3, c3, rfl⟩ := own_slice hown3
              have HNX := Lib.hid (sht_next HS3.out HN1.out (by rw [HMT.out]; exact hown3) hg3 hat3 HTI.out)
              have kS3 := own_blk HS3.out.kS hg3 HS3.out.ne
              refine hK.out _ _ ⟨(own_blk (HKQ.out _ _ (HT2.out.trans (Stp.of_below HX2.out))) hg3 (HVQ.out _ _ (HT2.out.trans (Stp.of_below HX2.out)))).cell 0, (own_blk (HKF.out _ _ (HT2.out.trans (Stp.of_below HX2.out))) hg3 (HVF.out _ _ (HT2.out.trans (Stp.of_below HX2.out)))).cells14⟩ (fun hS4 => ?_)
              clear hK K hown3 hg3 hat3
              refine' wpAnyH_take (i := 11) (v := _) rfl (by kernel_rfl) (by kernel_rfl) (by kernel_rfl) (fun _ _ _ h => h) (Or.inl ⟨by rfl, ?hym9⟩) hS4 ?restm9
              case hym9 => (intro w hSw; (try dsimp only at hSw); go_simp; try with_reducible rfl)
              simp only [Act.put, List.setIfInBounds_toArray, List.set_cons_zero, List.set_cons_succ, List.getElem_toArray, List.getElem_cons_zero, List.getElem_cons_succ]
              refine wpAnyH_ready (rs := [12]) (by kernel_rfl) (by simp) ?_
              refine AllReadyH.cons rfl (fun K hK => ?_) AllReadyH.nil
              have f0 := kS3.cell 0
              have f1 := fun i => kS3.frozen i
              have f2 := kS3.lt
              clear kS3
              go_simp
              clear f0 f1 f2
              refine hK.out _ _ (HSS.out _ ((HT2.out.trans (Stp.of_below HX2.out)).trans HNX.out.2)) (fun hS5 => ?_)
              clear hK K
              refine wpAnyH_done (by kernel_rfl) ?_ _
              go_wp2_with fail
              go_roundw
              case rel => exact ⟨j + 1, hlt, by go_num, Lib.hid ⟨_, by rw [HZ2.out, ← List.append_assoc, HS2E.out]; exact HNX.out.1, (HT2.out.trans (Stp.of_below HX2.out)).trans HNX.out.2⟩⟩
              case measure => simp [intOf]; omega
            · go_simp
              refine (KNX.out _ HX1.out).mono ?_
              rintro e wP2 ⟨r5, rfl, ho, hb⟩
              obtain ⟨a5, c5, rfl⟩ := own_slice ho
              have HR5 : Hid (RB wP2 a5 TB) := Lib.hid (RB.own (by rw [HMT.out]; exact ho) HTI.out)
              have HX2 := Lib.hid (HX1.out.trans (hb.mono HX1.out.size))
              clear ho hb
              refine hK.out _ _ (HSS.out _ (HT2.out.trans (Stp.of_below HX2.out))) (fun hS2 => ?_)
              clear hK K
              refine wpAnyH_ready (rs := [5]) (by kernel_rfl) (by simp) ?_
              refine AllReadyH.cons rfl (fun K hK => ?_) AllReadyH.nil
              have o0 := (HS2.out.below HX2.out).kS.cell 0
              have o1 := fun i => (HS2.out.below HX2.out).kS.frozen i
              go_simp
              clear o0 o1
              refine hK.out _ _ (HSS.out _ (HT2.out.trans (Stp.of_below HX2.out))) (fun hS3 => ?_)
              clear hK K
              refine wpAnyH_ready (rs := [10]) (by kernel_rfl) (by simp) ?_
              refine AllReadyH.cons rfl (fun K hK => ?_) AllReadyH.nil
              have HR6 := Lib.hid (HR5.out)
              have HS3 := Lib.hid (HS2.out.below HX2.out)
              have hsz3 := HX2.out.size
              refine step_append_two _ (by rfl) _ _ 127 54 (by rfl) Bq 5 5 i0 (.int .u8 0) 1 1 Try.underlying127 Try.underlying54 hi0 hz0 hz1 hz2 rfl (by decide) (.slice a1 n1 cc1) n1 (u8s S2) (by rfl) (by have h := HS3.out.own; rw [← HN1.out] at h; exact h) a5 mt c5 (u8s TB) (by rfl) (by rw [u8s_len, HMT.out, Nat.mul_one]) (by have h := HR6.out.news; rw [HMT.out] at h; exact h) (u8s_one _) (by unfold maxLen; omega) (by omega) (by omega) ?_
              intro v3 w3 hown3 hg3 hat3
              obtain ⟨a3, c3, rfl⟩ := own_slice hown3
              have HNX := Lib.hid (sht_next HS3.out HN1.out (by rw [HMT.out]; exact hown3) hg3 hat3 HTI.out)
              have kS3 := own_blk HS3.out.kS hg3 HS3.out.ne
              refine hK.out _ _ ⟨(own_blk (HKQ.out _ _ (HT2.out.trans (Stp.of_below HX2.out))) hg3 (HVQ.out _ _ (HT2.out.trans (Stp.of_below HX2.out)))).cell 0, (own_blk (HKF.out _ _ (HT2.out.trans (Stp.of_below HX2.out))) hg3 (HVF.out _ _ (HT2.out.trans (Stp.of_below HX2.out)))).cells14⟩ (fun hS4 => ?_)
              clear hK K hown3 hg3 hat3
              refine' wpAnyH_take (i := 11) (v := _) rfl (by kernel_rfl) (by kernel_rfl) (by kernel_rfl) (fun _ _ _ h => h) (Or.inl ⟨by rfl, ?hym10⟩) hS4 ?restm10
              case hym10 => (intro w hSw; (try dsimp only at hSw); go_simp; try with_reducible rfl)
              simp only [Act.put, List.setIfInBounds_toArray, List.set_cons_zero, List.set_cons_succ, List.getElem_toArray, List.getElem_cons_zero, List.getElem_cons_succ]
              refine wpAnyH_ready (rs := [12]) (by kernel_rfl) (by simp) ?_
              refine AllReadyH.cons rfl (fun K hK => ?_) AllReadyH.nil
              have f0 := kS3.cell 0
              have f1 := fun i => kS3.frozen i
              have f2 := kS3.lt
              clear kS3
              go_simp
              clear f0 f1 f2
              refine hK.out _ _ (HSS.out _ ((HT2.out.trans (Stp.of_below HX2.out)).trans HNX.out.2)) (fun hS5 => ?_)
              clear hK K
              refine wpAnyH_done (by kernel_rfl) ?_ _
              go_wp2_with fail
              go_roundw
              case rel => exact ⟨j + 1, hlt, by go_num, Lib.hid ⟨_, by rw [HZ2.out, ← List.append_assoc, HS2E.out]; exact HNX.out.1, (HT2.out.trans (Stp.of_below HX2.out)).trans HNX.out.2⟩⟩
              case measure => simp [intOf]; omega
        · obtain rfl : nt = j := by omega
          have htt : trees.take nt = trees := List.take_of_length_le (by have := HLN.out.2.1; omega)
          rw [htt, List.append_assoc, ← HPF.out] at hs
          obtain ⟨a1, cc1, rfl⟩ := hs.form
          have HS7 := Lib.hid hs
          have HT7 := Lib.hid ht
          have o0 := hs.kS.cell 0
          have q0 := (HKQ.out _ _ ht).cell 0
          obtain ⟨nf, hnf⟩ : ∃ n, PF.length = n := ⟨_, rfl⟩
          rw [hnf] at o0 HT7
          have HNF := Lib.hid hnf
          clear hs ht HI2 htt htl hcl hnf
          go_wp2_with fail
          go_ret2
          have h7 := own_base_le HS7.out.own HSB.out.1
          rw [HNF.out] at h7 ⊢
          first | exact ⟨_, _, rfl, h7, HBW.out _ _ HT7.out⟩ | exact ⟨⟨_, _, rfl, h7⟩, HBW.out _ _ HT7.out⟩ | exact ⟨_, ⟨_, rfl, h7⟩, HBW.out _ _ HT7.out⟩
end Go.Proofs.Ytpekofpiodaadaa.Hb
end

section
/- model.Put of any forest; bytes as a text; the chapter's example. -/
namespace Go.Proofs.Ytpekofpiodaadaa.Hb
set_option linter.unusedVariables false
set_option linter.unusedSimpArgs false
open Go.RowKit

def True0 (w : World) (e : Ending) (w' : World) : Prop := e = .returned (.bool true) ∧ Below w.heap.size w w'
theorem rowAt_one {w : World} {sz : Nat} {α : Type} {R : α → List Value → Prop} {g : Nat} {x : α} {c : List Value} (hl : c.length = sz) (hR : R x c) (hc : ∀ j u, c[j]? = some u → w.cell? ⟨g, j, none⟩ = some u) : RowAt w sz R (some ⟨g, 0, none⟩) [x] := by
  intro _
  refine ⟨_, rfl, fun i y hy => ?_⟩
  rcases i with _ | i
  · simp at hy; subst hy
    refine ⟨c, hl, hR, fun j u hj => ?_⟩
    rw [Nat.zero_mul, Nat.zero_add, show (⟨g, 0, none⟩ : Addr).add j = ⟨g, j, none⟩ from by unfold Addr.add; split <;> simp_all]
    exact hc j u hj
  · simp at hy
theorem blk_list {w : World} {g : Nat} {cs : Array Value} {t : TypeId} (h : Blk w g cs t) : ∀ j u, cs.toList[j]? = some u → w.cell? ⟨g, j, none⟩ = some u := fun j u hj => by rw [h.cell j]; simpa using hj
theorem colX_in (x : List Nat × (Int × Int)) : ∀ b ∈ colX x, b < 256 := by
  intro b hb
  unfold colX colB at hb
  rcases List.mem_append.1 hb with h | h
  · exact be_in _ _ _ h
  · rcases List.mem_append.1 h with h | h
    · obtain ⟨n, _, h⟩ := List.mem_flatMap.1 h
      exact be_in _ _ _ h
    · exact be_in _ _ _ h
theorem putF_in (f : Fst) : ∀ b ∈ putF f, b < 256 := by
  intro b hb
  unfold putF fstB at hb
  simp only [List.mem_append] at hb
  rcases hb with (h | h | h | h | h | h) | h | h
  · exact be_in _ _ _ h
  · exact cfgB_in _ _ _ _ _ _ _ _ h
  · exact be_in _ _ _ h
  · exact be_in _ _ _ h
  · exact be_in _ _ _ h
  · exact be_in _ _ _ h
  · obtain ⟨n, _, h⟩ := List.mem_flatMap.1 h
    exact colX_in _ _ h
  · obtain ⟨n, _, h⟩ := List.mem_flatMap.1 h
    exact treeB_in _ _ _ h
theorem putF_pos (f : Fst) : 0 < (putF f).length := by
  unfold putF
  rw [List.length_append, fstB_len]
  omega
theorem conv_str (l : List Nat) (A : Option Addr) (cap : Nat) (w : World) (hr : RB w A l) (h0 : 0 < l.length) : (convert 54 9 (.slice A l.length cap)).run Try.prog w = .ok (.string ⟨(l.map UInt8.ofNat).toArray⟩) w := by
  obtain ⟨ad, rfl, _, _⟩ := hr.at h0
  have h := run_convert_bytes_back (P := Try.prog) w 54 9 5 ad cap (l.map UInt8.ofNat) Try.underlying54 Try.underlying5 Try.underlying9 (fun j hj => by
    have hj' : j < l.length := by simpa using hj
    obtain ⟨ad2, e, hc, hlt⟩ := hr.at hj'
    cases e
    rw [hc]
    congr 2
    rw [List.getElem_map, UInt8.toNat_ofNat', List.getD_eq_getElem?_getD, List.getElem?_eq_getElem hj'] at *
    simp only [Option.getD_some] at hlt ⊢
    omega)
  rw [List.length_map] at h
  exact h
theorem ofNat_inj : ∀ (l m : List Nat), (∀ x ∈ l, x < 256) → (∀ x ∈ m, x < 256) → l.map UInt8.ofNat = m.map UInt8.ofNat → l = m
  | [], [], _, _, _ => rfl
  | [], _ :: _, _, _, h => by simp at h
  | _ :: _, [], _, _, h => by simp at h
  | x :: l, y :: m, hl, hm, h => by
    simp only [List.map_cons, List.cons.injEq] at h
    have h1 := congrArg UInt8.toNat h.1
    rw [UInt8.toNat_ofNat', UInt8.toNat_ofNat'] at h1
    have hx := hl x (List.mem_cons_self ..)
    have hy := hm y (List.mem_cons_self ..)
    have : x = y := by omega
    rw [this, ofNat_inj l m (fun z hz => hl z (List.mem_cons_of_mem _ hz)) (fun z hz => hm z (List.mem_cons_of_mem _ hz)) h.2]
theorem str_eq (l m : List Nat) (hl : ∀ x ∈ l, x < 256) (hm : ∀ x ∈ m, x < 256) : ((ByteArray.mk (l.map UInt8.ofNat).toArray).toList == (ByteArray.mk (m.map UInt8.ofNat).toArray).toList) = decide (l = m) := by
  rw [ByteArray.toList_eq, ByteArray.toList_eq, Bool.eq_iff_iff]
  simp only [beq_iff_eq, decide_eq_true_eq]
  exact ⟨fun h => ofNat_inj l m hl hm h, fun h => by rw [h]⟩
set_option maxRecDepth 100000 in
set_option maxHeartbeats 4000000 in
theorem mput_no (f : Fst) (Ae At As : Option Addr) (ce ct cs : Nat) (w : World) (hok : OkF f) (hr : RFo w f Ae At As) (hmay : mayF f = false) :
    Calls Try.prog 30 #[.agg (forA f Ae At As ce ct cs)] w fun e w' => e = .returned (.tuple #[.slice none 0 0, .int .i64 8]) ∧ Below w.heap.size w w' := by
  have KM := Lib.hid (fun w hr => mayf_any f Ae At As ce ct cs w hok hr)
  rw [hmay] at KM
  have HR := Lib.hid hr
  obtain ⟨V, hV⟩ : ∃ V, forA f Ae At As ce ct cs = V := ⟨_, rfl⟩
  have hsz : (Try.prog.info? 59).map (·.size) = some V.size := by rw [← hV]; kernel_rfl
  rw [hV] at KM ⊢
  clear hV hr hmay hok
  go_enter Try.func30, Try.ntmps30
  go_upto_region 1 with (fail)
  have kB := Blk.new w V 59
  have HBE := Lib.hid ((Below.refl w.heap.size w).alloc (Nat.le_refl _) (.cells V 59))
  go_wp2_with (refine wpList_load_row rfl 59 (.tmp 1) rfl w.heap.size rfl 59 V (0, 0) _ kB Try.underlying59 rfl hsz ?_)
  refine (KM.out _ (HR.out.below HBE.out)).mono ?_
  rintro e w1 ⟨rfl, hb⟩
  have HB1 := Lib.hid (HBE.out.trans (hb.mono HBE.out.size))
  clear hb kB
  go_wp2_with fail
  go_ret2
  exact ⟨rfl, HB1.out⟩
/-- What model.Put answers of a forest. -/
def PutAns (f : Fst) (w : World) (e : Ending) (w' : World) : Prop :=
  ∃ (a : Option Addr) (n c : Nat) (err : Int), e = .returned (.tuple #[.slice a n c, .int .i64 err]) ∧ ((err = 0 ∧ mayF f = true ∧ n = (putF f).length ∧ RB w' a (putF f) ∧ w'.ownsRow w.heap.size 5 1 (.slice a n c) n (u8s (putF f))) ∨ (err = 8 ∧ mayF f = false)) ∧ Below w.heap.size w w'
theorem putans_any (f : Fst) (Ae At As : Option Addr) (ce ct cs : Nat) (w : World) (hok : OkF f) (hr : RFo w f Ae At As) (htl : ∀ t ∈ f.trees, t.length ≤ 1048576) :
    Calls Try.prog 30 #[.agg (forA f Ae At As ce ct cs)] w (PutAns f w) := by
  cases hm : mayF f with
  | true =>
    refine (mput_any f Ae At As ce ct cs w hok hr hm htl).mono ?_
    rintro e w' ⟨a, c, rfl, ho, hb⟩
    exact ⟨a, _, c, 0, rfl, .inl ⟨rfl, hm, rfl, RB.own ho (putF_in f), ho⟩, hb⟩
  | false =>
    refine (mput_no f Ae At As ce ct cs w hok hr hm).mono ?_
    rintro e w' ⟨rfl, hb⟩
    exact ⟨none, 0, 0, 8, rfl, .inr ⟨rfl, hm⟩, hb⟩
def F0 : Fst := ⟨0, 2, 2, 1, 0, 1, 1, 1, 0, [[]], [[⟨-1, 0, 0, 1, 0, 0⟩]], 0, 0, [(0, 0)]⟩
theorem may0 : mayF F0 = true := by decide +kernel
theorem len0 : (putF F0).length = 55 := by decide +kernel
theorem four0 : (putF F0).take 4 = [84, 82, 69, 69] := by decide +kernel
theorem put0_any (E T S : Option Addr) (w : World) (hr : RFo w F0 E T S) :
    Calls Try.prog 30 #[.agg #[.int .i64 0, .int .i64 2, .int .i64 2, .int .i64 1, .int .i64 0, .int .i64 1, .int .i64 1, .int .i64 1, .int .u64 0, .slice E 1 1, .slice T 1 1, .int .i64 0, .int .i64 0, .slice S 1 1]] w
      fun e w' => ∃ g c, e = .returned (.tuple #[.slice (some ⟨g, 0, none⟩) 55 c, .int .i64 0]) ∧ 55 ≤ c ∧ (convert 54 9 (.slice (some ⟨g, 0, none⟩) 4 c)).run Try.prog w' = .ok (.string ⟨#[84, 82, 69, 69]⟩) w' ∧ Below w.heap.size w w' := by
  have h := mput_any F0 E T S 1 1 1 w ⟨by decide, by decide, by decide, by decide, by decide⟩ hr may0 (by decide)
  rw [len0] at h
  refine Calls.mono h ?_
  rintro e w' ⟨a, c, rfl, ho, hb⟩
  obtain ⟨g, cap, hv, hcap, _, _, hc⟩ := own_open ho (by decide)
  simp only [Value.slice.injEq, true_and] at hv
  obtain ⟨rfl, rfl⟩ := hv
  refine ⟨g, c, rfl, hcap, ?_, hb⟩
  have hrb : RB w' (some ⟨g, 0, none⟩) [84, 82, 69, 69] := by
    intro _
    refine ⟨_, rfl, fun i y hy => ⟨[.int .u8 (y : Int)], rfl, ⟨rfl, ?_⟩, fun j u hj => ?_⟩⟩
    · have := List.mem_of_getElem? hy; simp at this; omega
    · obtain rfl : j = 0 := by have := (List.getElem?_eq_some_iff.1 hj).1; simp at this; omega
      simp only [List.getElem?_cons_zero, Option.some.injEq] at hj
      subst hj
      rw [Nat.mul_one, Nat.add_zero, show (⟨g, 0, none⟩ : Addr).add i = ⟨g, i, none⟩ from by unfold Addr.add; split <;> simp_all]
      refine hc i _ ?_
      have hi : i < 4 := by have := (List.getElem?_eq_some_iff.1 hy).1; simpa using this
      have h4 : (putF F0)[i]? = some y := by rw [← four0, List.getElem?_take_of_lt hi] at hy; exact hy
      unfold u8s
      rw [List.getElem?_map, h4]
      rfl
  exact conv_str [84, 82, 69, 69] _ c w' hrb (by decide)
theorem boxesF (w : World) (X0 X1 X2 X3 : Array Value) (t0 t1 t2 t3 : TypeId) (W : World) (h : W = ((((w.alloc (.cells X0 t0)).alloc (.cells X1 t1)).alloc (.cells X2 t2)).alloc (.cells X3 t3))) :
    Blk W w.heap.size X0 t0 ∧ Blk W (w.heap.size + 1) X1 t1 ∧ Blk W (w.heap.size + 1 + 1) X2 t2 ∧ Blk W (w.heap.size + 1 + 1 + 1) X3 t3 ∧ Below w.heap.size w W := by
  subst h
  refine ⟨?_, ?_, ?_, ?_, ?_⟩
  case refine_5 => exact ((((Below.refl _ w).alloc (Nat.le_refl _) _).alloc (by simp) _).alloc (by simp; omega) _).alloc (by simp; omega) _
  all_goals
    unfold Blk World.alloc
    rw [Array.getElem?_eq_getElem (by simp <;> omega)]
    simp only [Array.getElem_push, Array.size_push]
    congr 1
    simp (disch := omega) only [dif_pos, dif_neg]
set_option maxRecDepth 100000 in
set_option maxHeartbeats 4000000 in
theorem fixed28_any (w : World) : Calls Try.prog 29 #[] w (True0 w) := by
  have KP := Lib.hid (fun E T S w hr => put0_any E T S w hr)
  go_enter Try.func29, Try.ntmps29
  go_wp2_with fail
  obtain ⟨k0, k1, k2, k3, hbe⟩ := boxesF w #[.slice none 0 0] #[.int .i64 (-1), .int .i64 0, .int .i64 0, .int .i64 1, .int .i64 0, .int .i64 0] #[.slice (some ⟨w.heap.size + 1, 0, none⟩) 1 1] #[.int .i64 0, .int .i64 0] 94 90 88 49 _ rfl
  have HBE := Lib.hid hbe
  refine (KP.out _ _ _ _ ⟨rowAt_one (c := [.slice none 0 0]) rfl ⟨none, 0, rfl, Nat.le_refl _, by omega, fun h => by simp at h⟩ (blk_list k0), rowAt_one (c := [.slice (some ⟨w.heap.size + 1, 0, none⟩) 1 1]) rfl ⟨_, 1, rfl, Nat.le_refl _, by decide, rowAt_one rfl ⟨rfl, by simp [in64], by simp [in64], by simp [in64], by simp [in64], by simp [in64], by simp [in64]⟩ (blk_list k1)⟩ (blk_list k2), rowAt_one rfl ⟨rfl, by simp [in64], by simp [in64]⟩ (blk_list k3)⟩).mono ?_
  rintro e w1 ⟨g, c, rfl, hc, hcv, hb⟩
  have HB1 := Lib.hid (HBE.out.trans (hb.mono HBE.out.size))
  clear hb k0 k1 k2 k3 hbe HBE
  have hc4 : (4 : Int) ≤ c := by omega
  have hc5 : 4 ≤ c := by omega
  go_wp2_with fail
  go_ret
  exact ⟨ret_bool (by first | rfl | decide | simp), HB1.out⟩
end Go.Proofs.Ytpekofpiodaadaa.Hb
end

section
/- The walk of ref07.Put: a number's bytes as a text. -/
namespace Go.Proofs.Ytpekofpiodaadaa.Hb
set_option linter.unusedVariables false
set_option linter.unusedSimpArgs false
open Go.RowKit

def strB (l : List Nat) : ByteArray := ⟨(l.map UInt8.ofNat).toArray⟩
theorem rcount7_any (k : Nat) (hk : k ≤ 8) (w : World) : Calls Try.prog 127 #[.int .i64 (k : Int)] w (Says (.int .i64 (k : Int)) w) := by
  have d1 : decide ((k : Int) < 0) = false := decide_eq_false (by omega)
  have d2 : decide ((8 : Int) < (k : Int)) = false := decide_eq_false (by omega)
  have d3 : decide (8 < k) = false := decide_eq_false (by omega)
  go_enter Try.func127, Try.ntmps127
  go_wp2_with fail
  go_ret
  exact ⟨rfl, rfl⟩
theorem add_strB (l m : List Nat) (w : World) (hl : l.length ≤ 8388608) (hm : m.length ≤ 8388608) : (Op.stringOp .add (strB l) (strB m)).run Try.prog w = .ok (.string (strB (l ++ m))) w := by
  unfold strB
  rw [List.map_append]
  exact run_string_add_lists w _ _ (by rw [List.length_map]; omega) (by rw [List.length_map]; omega)
set_option maxRecDepth 100000 in
set_option maxHeartbeats 4000000 in
theorem rput7_any (x k : Nat) (hk : k ≤ 8) (hx : x < 18446744073709551616) (w : World) : Calls Try.prog 67 #[.int .u64 (x : Int), .int .i64 (k : Int)] w fun e w' => e = .returned (.string (strB (beN x k))) ∧ Below w.heap.size w w' := by
  have KC := Lib.hid (fun w => rcount7_any k hk w)
  go_enter Try.func67, Try.ntmps67
  go_wp2_with fail
  go_loopw [0, 5, 6] (fun nv sv iv wr => ∃ i : Nat, i ≤ k ∧ iv = .int .i64 i ∧ nv = .int .u64 ((x / 256 ^ i : Nat) : Int) ∧ sv = .string (strB (beN x i)) ∧ Hid (Below w.heap.size w wr)) (fun _ _ iv _ => k - (intOf iv).toNat)
  case atStart => exact ⟨0, Nat.zero_le _, rfl, by simp, rfl, Lib.hid (Below.refl _ _)⟩
  case round =>
    obtain ⟨i, hi, rfl, rfl, rfl, HB⟩ := hrel
    by_cases hlt : i < k
    · have hlt' : (i : Int) < k := by omega
      have HD : Hid (x / 256 ^ (i + 1) = x / 256 ^ i / 256) := Lib.hid (by rw [Nat.pow_succ, Nat.div_div_eq_div_mul])
      have HS : Hid (beN x (i + 1) = [x / 256 ^ i % 256] ++ beN x i) := Lib.hid rfl
      have hq : x / 256 ^ i < 18446744073709551616 := Nat.lt_of_le_of_lt (Nat.div_le_self _ _) hx
      have hsl : (beN x i).length ≤ 8 := by rw [be_len]; omega
      obtain ⟨q, eq⟩ : ∃ q, x / 256 ^ i = q := ⟨_, rfl⟩
      obtain ⟨s, es⟩ : ∃ s, beN x i = s := ⟨_, rfl⟩
      rw [eq] at HD HS hq ⊢
      rw [es] at HS hsl ⊢
      obtain ⟨y, ey⟩ : ∃ y, q % 256 = y := ⟨_, rfl⟩
      rw [ey] at HS
      have hy : y < 256 := by omega
      have hrem : (q : Int).tmod 256 = (y : Int) := by rw [Int.tmod_eq_emod_of_nonneg (by omega)]; omega
      have hdiv : (q : Int).tdiv 256 = ((q / 256 : Nat) : Int) := by rw [Int.tdiv_eq_ediv_of_nonneg (by omega)]; rfl
      have hw8 : IntKind.u8.wrap (y : Int) = (y : Int) := by rw [IntKind.wrap_u8]; omega
      have hcv : (convert 54 9 (.slice (some ⟨wr.heap.size, 0, none⟩) 1 1)).run Try.prog (wr.alloc (.cells #[.int .u8 (y : Int)] 5)) = .ok (.string (strB [y])) (wr.alloc (.cells #[.int .u8 (y : Int)] 5)) :=
        conv_str [y] _ 1 _ (rowAt_one rfl ⟨rfl, hy⟩ (blk_list (Blk.new wr #[.int .u8 (y : Int)] 5))) (by simp)
      have hadd := fun w => add_strB [y] s w (by simp) (by omega)
      have hsz := HB.out.size
      clear eq es ey
      go_wp2_with (refine KC.out _ |>.mono ?_; rintro e w1 ⟨rfl, rfl⟩)
      go_roundw
      case rel => exact ⟨i + 1, hlt, by go_num, by rw [HD.out]; first | rfl | simp, by rw [HS.out]; rfl, Lib.hid (HB.out.alloc hsz _)⟩
      case measure => simp [intOf]; omega
    · obtain rfl : k = i := by omega
      go_wp2_with (refine KC.out _ |>.mono ?_; rintro e w1 ⟨rfl, rfl⟩)
      go_ret
      exact ⟨rfl, HB.out⟩
end Go.Proofs.Ytpekofpiodaadaa.Hb
end

section
/- The document's answer on a config. -/
namespace Go.Proofs.Ytpekofpiodaadaa.Hb
set_option linter.unusedVariables false
set_option linter.unusedSimpArgs false
open Go.RowKit

set_option maxRecDepth 100000 in
set_option maxHeartbeats 8000000 in
theorem rcheck_any (k cl b t d l p : Int) (w : World) : Calls Try.prog 74 #[.agg #[.int .i64 k, .int .i64 cl, .int .i64 b, .int .i64 t, .int .i64 d, .int .i64 l, .int .i64 p]] w fun e w' => e = .returned (.int .i64 (checkO k cl b t d l p)) ∧ Below w.heap.size w w' := by
  obtain ⟨R, hR⟩ : ∃ R, checkO k cl b t d l p = R := ⟨_, rfl⟩
  rw [hR]
  have HR := Lib.hid hR
  clear hR
  obtain ⟨K, hK⟩ : ∃ K, K = k := ⟨_, rfl⟩
  obtain ⟨C, hC⟩ : ∃ C, C = cl := ⟨_, rfl⟩
  have HK := Lib.hid hK
  have HC := Lib.hid hC
  have b1 : (k == 0) = decide (K = 0) := by rw [hK, Bool.eq_iff_iff, beq_iff_eq, decide_eq_true_iff]
  have b2 : (k == 1) = decide (K = 1) := by rw [hK, Bool.eq_iff_iff, beq_iff_eq, decide_eq_true_iff]
  have b3 : (k != 0) = !decide (K = 0) := by rw [bne, b1]
  have b4 : (k != 1) = !decide (K = 1) := by rw [bne, b2]
  have b5 : (cl != 0) = !decide (C = 0) := by rw [bne, hC]; congr 1
  have leaf : ∀ x, (checkO K C b t d l p = x) → R = x := fun x e => by rw [← HR.out, ← hK, ← hC]; exact e
  have HL := Lib.hid leaf
  clear leaf hK hC
  by_cases c0 : K = 0
  · have a0 : decide (K = 0) = true := decide_eq_true c0
    have a1 : decide (K = 1) = false := decide_eq_false (by omega)
    have HX := Lib.hid c0
    rw [a0] at b1 b3
    rw [a1] at b2 b4
    simp only [Bool.not_true, Bool.not_false] at b3 b4
    clear a0 a1 c0 b5
    have HY : Hid (cl = C) := Lib.hid HC.out.symm
    go_enter Try.func74, Try.ntmps74
    go_wp2
    all_goals
      go_ret
      refine ⟨ret_i64 (HL.out _ ?_).symm, (Below.refl _ _).alloc (Nat.le_refl _) _⟩
      have e1 := HX.out
      have e2 := HY.out
      unfold checkO lowC stepC
      simp (disch := omega) only [if_pos, if_neg] <;> (split <;> rfl)
  · by_cases c1 : K = 1
    · have a0 : decide (K = 0) = false := decide_eq_false c0
      have a1 : decide (K = 1) = true := decide_eq_true c1
      have HX := Lib.hid c1
      rw [a0] at b1 b3
      rw [a1] at b2 b4
      simp only [Bool.not_true, Bool.not_false] at b3 b4
      have HY : Hid (cl = C) := Lib.hid HC.out.symm
      by_cases c2 : C = 0
      · have a2 : decide (C = 0) = true := decide_eq_true c2
        have HZ := Lib.hid c2
        rw [a2] at b5
        simp only [Bool.not_true] at b5
        have b6 : decide (256 < cl) = false := decide_eq_false (by have := HY.out; omega)
        clear a0 a1 a2 c0 c1 c2
        go_enter Try.func74, Try.ntmps74
        go_wp2
        all_goals
          go_ret
          refine ⟨ret_i64 (HL.out _ ?_).symm, (Below.refl _ _).alloc (Nat.le_refl _) _⟩
          have e1 := HX.out
          have e2 := HY.out
          have e3 := HZ.out
          unfold checkO lowC stepC
          simp (disch := omega) only [if_pos, if_neg] <;> (split <;> rfl)
      · have a2 : decide (C = 0) = false := decide_eq_false c2
        have HZ := Lib.hid c2
        rw [a2] at b5
        simp only [Bool.not_false] at b5
        clear a0 a1 a2 c0 c1 c2
        go_enter Try.func74, Try.ntmps74
        go_wp2
        all_goals
          go_ret
          refine ⟨ret_i64 (HL.out _ ?_).symm, (Below.refl _ _).alloc (Nat.le_refl _) _⟩
          have e1 := HX.out
          have e2 := HY.out
          have e3 := HZ.out
          unfold checkO lowC stepC
          simp (disch := omega) only [if_pos, if_neg] <;> (split <;> rfl)
    · have a0 : decide (K = 0) = false := decide_eq_false c0
      have a1 : decide (K = 1) = false := decide_eq_false c1
      have HX := Lib.hid c0
      have HY := Lib.hid c1
      rw [a0] at b1 b3
      rw [a1] at b2 b4
      simp only [Bool.not_true, Bool.not_false] at b3 b4
      clear a0 a1 c0 c1 b5
      go_enter Try.func74, Try.ntmps74
      go_wp2
      all_goals
        go_ret
        refine ⟨ret_i64 (HL.out _ ?_).symm, (Below.refl _ _).alloc (Nat.le_refl _) _⟩
        have e1 := HX.out
        have e2 := HY.out
        unfold checkO lowC stepC
        simp (disch := omega) only [if_pos, if_neg] <;> (split <;> rfl)
end Go.Proofs.Ytpekofpiodaadaa.Hb
end

section
/- The walk of ref08.Put. -/
namespace Go.Proofs.Ytpekofpiodaadaa.Hb
set_option linter.unusedVariables false
set_option linter.unusedSimpArgs false
open Go.RowKit

theorem add_strN (l m : List Nat) (hl : l.length ≤ 8388608) (hm : m.length ≤ 8388608) : ∀ w, (Op.stringOp .add (strB l) (strB m)).run Try.prog w = .ok (.string (strB (l ++ m))) w := fun w => add_strB l m w hl hm
theorem rput7c {x k : Nat} {X K : Int} (hX : (x : Int) = X) (hK : (k : Int) = K) (hk : k ≤ 8) (hx : x < 18446744073709551616) (w : World) : Calls Try.prog 67 #[.int .u64 X, .int .i64 K] w fun e w' => e = .returned (.string (strB (beN x k))) ∧ Below w.heap.size w w' := by
  subst hX hK
  exact rput7_any x k hk hx w
theorem wrap_nat {x : Nat} (h : x < 18446744073709551616) : IntKind.u64.wrap (x : Int) = (x : Int) := by rw [IntKind.wrap_u64]; omega
theorem u64N_ofN {x : Nat} (h : x < 18446744073709551616) : u64N (x : Int) = x := by unfold u64N; omega
set_option maxRecDepth 100000 in
set_option maxHeartbeats 8000000 in
theorem rput8_any (k cl b t d l p : Int) (h : checkO k cl b t d l p = 0) (w : World) :
    Calls Try.prog 66 #[.agg #[.int .i64 k, .int .i64 cl, .int .i64 b, .int .i64 t, .int .i64 d, .int .i64 l, .int .i64 p]] w fun e w' => e = .returned (.string (strB (cfgB k cl b t d l p))) ∧ Below w.heap.size w w' := by
  obtain ⟨⟨k0, k1⟩, ⟨cl0, cl1⟩, ⟨b0, b1⟩, ⟨t0, t1⟩, ⟨d0, d1⟩, ⟨l0, l1⟩, ⟨p0, p1⟩⟩ := chk_is h
  have KCK := Lib.hid (fun w => rcheck_any k cl b t d l p w)
  rw [h] at KCK
  clear h
  obtain ⟨x0, rfl⟩ : ∃ n : Nat, k = n := ⟨k.toNat, by omega⟩
  obtain ⟨x1, rfl⟩ : ∃ n : Nat, cl = n := ⟨cl.toNat, by omega⟩
  obtain ⟨x2, rfl⟩ : ∃ n : Nat, b = n := ⟨b.toNat, by omega⟩
  obtain ⟨x3, rfl⟩ : ∃ n : Nat, t = n := ⟨t.toNat, by omega⟩
  obtain ⟨x4, rfl⟩ : ∃ n : Nat, d = n := ⟨d.toNat, by omega⟩
  obtain ⟨x5, rfl⟩ : ∃ n : Nat, l = n := ⟨l.toNat, by omega⟩
  obtain ⟨x6, rfl⟩ : ∃ n : Nat, p = n := ⟨p.toNat, by omega⟩
  have hw0 : IntKind.u64.wrap (x0 : Int) = (x0 : Int) := wrap_nat (by omega)
  have K0 := Lib.hid (fun w => rput7c (x := x0) (k := 1) (X := (x0 : Int)) (K := 1) rfl rfl (by omega) (by omega) w)
  have hw1 : IntKind.u64.wrap (x1 : Int) = (x1 : Int) := wrap_nat (by omega)
  have K1 := Lib.hid (fun w => rput7c (x := x1) (k := 2) (X := (x1 : Int)) (K := 2) rfl rfl (by omega) (by omega) w)
  have hw2 : IntKind.u64.wrap (x2 : Int) = (x2 : Int) := wrap_nat (by omega)
  have K2 := Lib.hid (fun w => rput7c (x := x2) (k := 2) (X := (x2 : Int)) (K := 2) rfl rfl (by omega) (by omega) w)
  have hw3 : IntKind.u64.wrap (x3 : Int) = (x3 : Int) := wrap_nat (by omega)
  have K3 := Lib.hid (fun w => rput7c (x := x3) (k := 2) (X := (x3 : Int)) (K := 2) rfl rfl (by omega) (by omega) w)
  have hw4 : IntKind.u64.wrap (x4 : Int) = (x4 : Int) := wrap_nat (by omega)
  have K4 := Lib.hid (fun w => rput7c (x := x4) (k := 1) (X := (x4 : Int)) (K := 1) rfl rfl (by omega) (by omega) w)
  have hw5 : IntKind.u64.wrap (x5 : Int) = (x5 : Int) := wrap_nat (by omega)
  have K5 := Lib.hid (fun w => rput7c (x := x5) (k := 4) (X := (x5 : Int)) (K := 4) rfl rfl (by omega) (by omega) w)
  have hw6 : IntKind.u64.wrap (x6 : Int) = (x6 : Int) := wrap_nat (by omega)
  have K6 := Lib.hid (fun w => rput7c (x := x6) (k := 2) (X := (x6 : Int)) (K := 2) rfl rfl (by omega) (by omega) w)
  have HC : Hid (cfgB x0 x1 x2 x3 x4 x5 x6 = ((((((beN x0 1 ++ beN x1 2) ++ beN x2 2) ++ beN x3 2) ++ beN x4 1) ++ beN x5 4) ++ beN x6 2)) := Lib.hid (by
    simp only [cfgB, cfgL, fldB, List.flatMap_cons, List.flatMap_nil, List.append_nil, List.append_assoc]
    rw [u64N_ofN (show x0 < 18446744073709551616 by omega), u64N_ofN (show x1 < 18446744073709551616 by omega), u64N_ofN (show x2 < 18446744073709551616 by omega), u64N_ofN (show x3 < 18446744073709551616 by omega), u64N_ofN (show x4 < 18446744073709551616 by omega), u64N_ofN (show x5 < 18446744073709551616 by omega), u64N_ofN (show x6 < 18446744073709551616 by omega)])
  obtain ⟨C, hC⟩ : ∃ C, cfgB x0 x1 x2 x3 x4 x5 x6 = C := ⟨_, rfl⟩
  rw [hC] at HC ⊢
  clear hC
  obtain ⟨L0, hL0⟩ : ∃ L, beN x0 1 = L := ⟨_, rfl⟩
  have n0 : L0.length = 1 := by rw [← hL0, be_len]
  rw [hL0] at K0 HC
  obtain ⟨L1, hL1⟩ : ∃ L, beN x1 2 = L := ⟨_, rfl⟩
  have n1 : L1.length = 2 := by rw [← hL1, be_len]
  rw [hL1] at K1 HC
  obtain ⟨L2, hL2⟩ : ∃ L, beN x2 2 = L := ⟨_, rfl⟩
  have n2 : L2.length = 2 := by rw [← hL2, be_len]
  rw [hL2] at K2 HC
  obtain ⟨L3, hL3⟩ : ∃ L, beN x3 2 = L := ⟨_, rfl⟩
  have n3 : L3.length = 2 := by rw [← hL3, be_len]
  rw [hL3] at K3 HC
  obtain ⟨L4, hL4⟩ : ∃ L, beN x4 1 = L := ⟨_, rfl⟩
  have n4 : L4.length = 1 := by rw [← hL4, be_len]
  rw [hL4] at K4 HC
  obtain ⟨L5, hL5⟩ : ∃ L, beN x5 4 = L := ⟨_, rfl⟩
  have n5 : L5.length = 4 := by rw [← hL5, be_len]
  rw [hL5] at K5 HC
  obtain ⟨L6, hL6⟩ : ∃ L, beN x6 2 = L := ⟨_, rfl⟩
  have n6 : L6.length = 2 := by rw [← hL6, be_len]
  rw [hL6] at K6 HC
  have a1 := add_strN L0 L1 (by omega) (by omega)
  obtain ⟨F1, hF1⟩ : ∃ F, L0 ++ L1 = F := ⟨_, rfl⟩
  have m1 : F1.length ≤ 16 := by rw [← hF1, List.length_append]; omega
  rw [hF1] at a1 HC
  have a2 := add_strN F1 L2 (by omega) (by omega)
  obtain ⟨F2, hF2⟩ : ∃ F, F1 ++ L2 = F := ⟨_, rfl⟩
  have m2 : F2.length ≤ 24 := by rw [← hF2, List.length_append]; omega
  rw [hF2] at a2 HC
  have a3 := add_strN F2 L3 (by omega) (by omega)
  obtain ⟨F3, hF3⟩ : ∃ F, F2 ++ L3 = F := ⟨_, rfl⟩
  have m3 : F3.length ≤ 32 := by rw [← hF3, List.length_append]; omega
  rw [hF3] at a3 HC
  have a4 := add_strN F3 L4 (by omega) (by omega)
  obtain ⟨F4, hF4⟩ : ∃ F, F3 ++ L4 = F := ⟨_, rfl⟩
  have m4 : F4.length ≤ 40 := by rw [← hF4, List.length_append]; omega
  rw [hF4] at a4 HC
  have a5 := add_strN F4 L5 (by omega) (by omega)
  obtain ⟨F5, hF5⟩ : ∃ F, F4 ++ L5 = F := ⟨_, rfl⟩
  have m5 : F5.length ≤ 48 := by rw [← hF5, List.length_append]; omega
  rw [hF5] at a5 HC
  have a6 := add_strN F5 L6 (by omega) (by omega)
  obtain ⟨F6, hF6⟩ : ∃ F, F5 ++ L6 = F := ⟨_, rfl⟩
  have m6 : F6.length ≤ 56 := by rw [← hF6, List.length_append]; omega
  rw [hF6] at a6 HC
  clear hL0 n0 hL1 n1 hL2 n2 hL3 n3 hL4 n4 hL5 n5 hL6 n6 hF1 m1 hF2 m2 hF3 m3 hF4 m4 hF5 m5 hF6 m6 k0 k1 cl0 cl1 b0 b1 t0 t1 d0 d1 l0 l1 p0 p1
  go_enter Try.func66, Try.ntmps66
  go_upto_region 1 with (fail)
  have kC := Blk.new w #[.int .i64 (x0 : Int), .int .i64 (x1 : Int), .int .i64 (x2 : Int), .int .i64 (x3 : Int), .int .i64 (x4 : Int), .int .i64 (x5 : Int), .int .i64 (x6 : Int)] 45
  have HBE := Lib.hid ((Below.refl w.heap.size w).alloc (Nat.le_refl _) (.cells #[.int .i64 (x0 : Int), .int .i64 (x1 : Int), .int .i64 (x2 : Int), .int .i64 (x3 : Int), .int .i64 (x4 : Int), .int .i64 (x5 : Int), .int .i64 (x6 : Int)] 45))
  obtain ⟨W, hW⟩ : ∃ W, w.alloc (.cells #[.int .i64 (x0 : Int), .int .i64 (x1 : Int), .int .i64 (x2 : Int), .int .i64 (x3 : Int), .int .i64 (x4 : Int), .int .i64 (x5 : Int), .int .i64 (x6 : Int)] 45) = W := ⟨_, rfl⟩
  rw [hW] at kC HBE ⊢
  have HKC := Lib.hid (fun W' (hb : Below W.heap.size W W') => (show W'.cell? ⟨w.heap.size, 0, none⟩ = some (.int .i64 (x0 : Int)) ∧ W'.cell? ⟨w.heap.size, 1, none⟩ = some (.int .i64 (x1 : Int)) ∧ W'.cell? ⟨w.heap.size, 2, none⟩ = some (.int .i64 (x2 : Int)) ∧ W'.cell? ⟨w.heap.size, 3, none⟩ = some (.int .i64 (x3 : Int)) ∧ W'.cell? ⟨w.heap.size, 4, none⟩ = some (.int .i64 (x4 : Int)) ∧ W'.cell? ⟨w.heap.size, 5, none⟩ = some (.int .i64 (x5 : Int)) ∧ W'.cell? ⟨w.heap.size, 6, none⟩ = some (.int .i64 (x6 : Int)) from ⟨(kC.below hb).cell 0, (kC.below hb).cell 1, (kC.below hb).cell 2, (kC.below hb).cell 3, (kC.below hb).cell 4, (kC.below hb).cell 5, (kC.below hb).cell 6⟩))
  have HX0 := Lib.hid (Below.refl W.heap.size W)
  obtain ⟨c0, c1, c2, c3, c4, c5, c6⟩ := HKC.out _ HX0.out
  clear hW kC
  go_wp2_with fail
  refine (KCK.out _).mono ?_
  rintro e w1 ⟨rfl, hb⟩
  have HX1 := Lib.hid (HX0.out.trans (hb.mono HX0.out.size))
  clear hb c0 c1 c2 c3 c4 c5 c6
  go_upto_region 3 with (fail)
  have HY0 := Lib.hid (HX1.out.trans ((Below.refl w1.heap.size w1).drew.mono HX1.out.size))
  have HSS := HKC
  refine wp_region_held_drew (S := (fun W' => W'.cell? ⟨w.heap.size, 0, none⟩ = some (.int .i64 (x0 : Int)) ∧ W'.cell? ⟨w.heap.size, 1, none⟩ = some (.int .i64 (x1 : Int)) ∧ W'.cell? ⟨w.heap.size, 2, none⟩ = some (.int .i64 (x2 : Int)) ∧ W'.cell? ⟨w.heap.size, 3, none⟩ = some (.int .i64 (x3 : Int)) ∧ W'.cell? ⟨w.heap.size, 4, none⟩ = some (.int .i64 (x4 : Int)) ∧ W'.cell? ⟨w.heap.size, 5, none⟩ = some (.int .i64 (x5 : Int)) ∧ W'.cell? ⟨w.heap.size, 6, none⟩ = some (.int .i64 (x6 : Int)))) (by kernel_rfl) ?_ (fun hS0 => ?_)
  · exact HSS.out _ HY0.out
  refine' wpAnyH_take (i := 0) (v := _) rfl (by kernel_rfl) (by kernel_rfl) (by kernel_rfl) (fun _ _ _ h => h) (Or.inl ⟨by rfl, ?hym1⟩) hS0 ?restm1
  case hym1 => (intro w hSw; (try dsimp only at hSw); go_simp; try with_reducible rfl)
  simp only [Act.put, List.setIfInBounds_toArray, List.set_cons_zero, List.set_cons_succ, List.getElem_toArray, List.getElem_cons_zero, List.getElem_cons_succ]
  refine' wpAnyH_take (i := 1) (v := _) rfl (by kernel_rfl) (by kernel_rfl) (by kernel_rfl) (fun _ _ _ h => h) (Or.inl ⟨by rfl, ?hym2⟩) hS0 ?restm2
  case hym2 => (intro w hSw; (try dsimp only at hSw); go_simp; try with_reducible rfl)
  simp only [Act.put, List.setIfInBounds_toArray, List.set_cons_zero, List.set_cons_succ, List.getElem_toArray, List.getElem_cons_zero, List.getElem_cons_succ]
  refine' wpAnyH_take (i := 2) (v := _) rfl (by kernel_rfl) (by kernel_rfl) (by kernel_rfl) (fun _ _ _ h => h) (Or.inl ⟨by rfl, ?hym3⟩) hS0 ?restm3
  case hym3 => (intro w hSw; (try dsimp only at hSw); go_simp; try with_reducible rfl)
  simp only [Act.put, List.setIfInBounds_toArray, List.set_cons_zero, List.set_cons_succ, List.getElem_toArray, List.getElem_cons_zero, List.getElem_cons_succ]
  refine' wpAnyH_take (i := 4) (v := _) rfl (by kernel_rfl) (by kernel_rfl) (by kernel_rfl) (fun _ _ _ h => h) (Or.inl ⟨by rfl, ?hym4⟩) hS0 ?restm4
  case hym4 => (intro w hSw; (try dsimp only at hSw); go_simp; try with_reducible rfl)
  simp only [Act.put, List.setIfInBounds_toArray, List.set_cons_zero, List.set_cons_succ, List.getElem_toArray, List.getElem_cons_zero, List.getElem_cons_succ]
  refine' wpAnyH_take (i := 5) (v := _) rfl (by kernel_rfl) (by kernel_rfl) (by kernel_rfl) (fun _ _ _ h => h) (Or.inl ⟨by rfl, ?hym5⟩) hS0 ?restm5
  case hym5 => (intro w hSw; (try dsimp only at hSw); go_simp; try with_reducible rfl)
  simp only [Act.put, List.setIfInBounds_toArray, List.set_cons_zero, List.set_cons_succ, List.getElem_toArray, List.getElem_cons_zero, List.getElem_cons_succ]
  refine' wpAnyH_take (i := 6) (v := _) rfl (by kernel_rfl) (by kernel_rfl) (by kernel_rfl) (fun _ _ _ h => h) (Or.inl ⟨by rfl, ?hym6⟩) hS0 ?restm6
  case hym6 => (intro w hSw; (try dsimp only at hSw); go_simp; try with_reducible rfl)
  simp only [Act.put, List.setIfInBounds_toArray, List.set_cons_zero, List.set_cons_succ, List.getElem_toArray, List.getElem_cons_zero, List.getElem_cons_succ]
  refine' wpAnyH_take (i := 9) (v := _) rfl (by kernel_rfl) (by kernel_rfl) (by kernel_rfl) (fun _ _ _ h => h) (Or.inl ⟨by rfl, ?hym7⟩) hS0 ?restm7
  case hym7 => (intro w hSw; (try dsimp only at hSw); go_simp; try with_reducible rfl)
  simp only [Act.put, List.setIfInBounds_toArray, List.set_cons_zero, List.set_cons_succ, List.getElem_toArray, List.getElem_cons_zero, List.getElem_cons_succ]
  refine' wpAnyH_take (i := 10) (v := _) rfl (by kernel_rfl) (by kernel_rfl) (by kernel_rfl) (fun _ _ _ h => h) (Or.inl ⟨by rfl, ?hym8⟩) hS0 ?restm8
  case hym8 => (intro w hSw; (try dsimp only at hSw); go_simp; try with_reducible rfl)
  simp only [Act.put, List.setIfInBounds_toArray, List.set_cons_zero, List.set_cons_succ, List.getElem_toArray, List.getElem_cons_zero, List.getElem_cons_succ]
  refine' wpAnyH_take (i := 11) (v := _) rfl (by kernel_rfl) (by kernel_rfl) (by kernel_rfl) (fun _ _ _ h => h) (Or.inl ⟨by rfl, ?hym9⟩) hS0 ?restm9
  case hym9 => (intro w hSw; (try dsimp only at hSw); go_simp; try with_reducible rfl)
  simp only [Act.put, List.setIfInBounds_toArray, List.set_cons_zero, List.set_cons_succ, List.getElem_toArray, List.getElem_cons_zero, List.getElem_cons_succ]
  refine' wpAnyH_take (i := 14) (v := _) rfl (by kernel_rfl) (by kernel_rfl) (by kernel_rfl) (fun _ _ _ h => h) (Or.inl ⟨by rfl, ?hym10⟩) hS0 ?restm10
  case hym10 => (intro w hSw; (try dsimp only at hSw); go_simp; try with_reducible rfl)
  simp only [Act.put, List.setIfInBounds_toArray, List.set_cons_zero, List.set_cons_succ, List.getElem_toArray, List.getElem_cons_zero, List.getElem_cons_succ]
  refine' wpAnyH_take (i := 15) (v := _) rfl (by kernel_rfl) (by kernel_rfl) (by kernel_rfl) (fun _ _ _ h => h) (Or.inl ⟨by rfl, ?hym11⟩) hS0 ?restm11
  case hym11 => (intro w hSw; (try dsimp only at hSw); go_simp; try with_reducible rfl)
  simp only [Act.put, List.setIfInBounds_toArray, List.set_cons_zero, List.set_cons_succ, List.getElem_toArray, List.getElem_cons_zero, List.getElem_cons_succ]
  refine' wpAnyH_take (i := 16) (v := _) rfl (by kernel_rfl) (by kernel_rfl) (by kernel_rfl) (fun _ _ _ h => h) (Or.inl ⟨by rfl, ?hym12⟩) hS0 ?restm12
  case hym12 => (intro w hSw; (try dsimp only at hSw); go_simp; try with_reducible rfl)
  simp only [Act.put, List.setIfInBounds_toArray, List.set_cons_zero, List.set_cons_succ, List.getElem_toArray, List.getElem_cons_zero, List.getElem_cons_succ]
  refine' wpAnyH_take (i := 19) (v := _) rfl (by kernel_rfl) (by kernel_rfl) (by kernel_rfl) (fun _ _ _ h => h) (Or.inl ⟨by rfl, ?hym13⟩) hS0 ?restm13
  case hym13 => (intro w hSw; (try dsimp only at hSw); go_simp; try with_reducible rfl)
  simp only [Act.put, List.setIfInBounds_toArray, List.set_cons_zero, List.set_cons_succ, List.getElem_toArray, List.getElem_cons_zero, List.getElem_cons_succ]
  refine' wpAnyH_take (i := 20) (v := _) rfl (by kernel_rfl) (by kernel_rfl) (by kernel_rfl) (fun _ _ _ h => h) (Or.inl ⟨by rfl, ?hym14⟩) hS0 ?restm14
  case hym14 => (intro w hSw; (try dsimp only at hSw); go_simp; try with_reducible rfl)
  simp only [Act.put, List.setIfInBounds_toArray, List.set_cons_zero, List.set_cons_succ, List.getElem_toArray, List.getElem_cons_zero, List.getElem_cons_succ]
  refine' wpAnyH_take (i := 21) (v := _) rfl (by kernel_rfl) (by kernel_rfl) (by kernel_rfl) (fun _ _ _ h => h) (Or.inl ⟨by rfl, ?hym15⟩) hS0 ?restm15
  case hym15 => (intro w hSw; (try dsimp only at hSw); go_simp; try with_reducible rfl)
  simp only [Act.put, List.setIfInBounds_toArray, List.set_cons_zero, List.set_cons_succ, List.getElem_toArray, List.getElem_cons_zero, List.getElem_cons_succ]
  refine' wpAnyH_take (i := 24) (v := _) rfl (by kernel_rfl) (by kernel_rfl) (by kernel_rfl) (fun _ _ _ h => h) (Or.inl ⟨by rfl, ?hym16⟩) hS0 ?restm16
  case hym16 => (intro w hSw; (try dsimp only at hSw); go_simp; try with_reducible rfl)
  simp only [Act.put, List.setIfInBounds_toArray, List.set_cons_zero, List.set_cons_succ, List.getElem_toArray, List.getElem_cons_zero, List.getElem_cons_succ]
  refine' wpAnyH_take (i := 25) (v := _) rfl (by kernel_rfl) (by kernel_rfl) (by kernel_rfl) (fun _ _ _ h => h) (Or.inl ⟨by rfl, ?hym17⟩) hS0 ?restm17
  case hym17 => (intro w hSw; (try dsimp only at hSw); go_simp; try with_reducible rfl)
  simp only [Act.put, List.setIfInBounds_toArray, List.set_cons_zero, List.set_cons_succ, List.getElem_toArray, List.getElem_cons_zero, List.getElem_cons_succ]
  refine' wpAnyH_take (i := 26) (v := _) rfl (by kernel_rfl) (by kernel_rfl) (by kernel_rfl) (fun _ _ _ h => h) (Or.inl ⟨by rfl, ?hym18⟩) hS0 ?restm18
  case hym18 => (intro w hSw; (try dsimp only at hSw); go_simp; try with_reducible rfl)
  simp only [Act.put, List.setIfInBounds_toArray, List.set_cons_zero, List.set_cons_succ, List.getElem_toArray, List.getElem_cons_zero, List.getElem_cons_succ]
  refine' wpAnyH_take (i := 29) (v := _) rfl (by kernel_rfl) (by kernel_rfl) (by kernel_rfl) (fun _ _ _ h => h) (Or.inl ⟨by rfl, ?hym19⟩) hS0 ?restm19
  case hym19 => (intro w hSw; (try dsimp only at hSw); go_simp; try with_reducible rfl)
  simp only [Act.put, List.setIfInBounds_toArray, List.set_cons_zero, List.set_cons_succ, List.getElem_toArray, List.getElem_cons_zero, List.getElem_cons_succ]
  refine' wpAnyH_take (i := 30) (v := _) rfl (by kernel_rfl) (by kernel_rfl) (by kernel_rfl) (fun _ _ _ h => h) (Or.inl ⟨by rfl, ?hym20⟩) hS0 ?restm20
  case hym20 => (intro w hSw; (try dsimp only at hSw); go_simp; try with_reducible rfl)
  simp only [Act.put, List.setIfInBounds_toArray, List.set_cons_zero, List.set_cons_succ, List.getElem_toArray, List.getElem_cons_zero, List.getElem_cons_succ]
  refine' wpAnyH_take (i := 31) (v := _) rfl (by kernel_rfl) (by kernel_rfl) (by kernel_rfl) (fun _ _ _ h => h) (Or.inl ⟨by rfl, ?hym21⟩) hS0 ?restm21
  case hym21 => (intro w hSw; (try dsimp only at hSw); go_simp; try with_reducible rfl)
  simp only [Act.put, List.setIfInBounds_toArray, List.set_cons_zero, List.set_cons_succ, List.getElem_toArray, List.getElem_cons_zero, List.getElem_cons_succ]
  refine wpAnyH_ready (rs := [3]) (by kernel_rfl) (by simp) ?_
  refine AllReadyH.cons rfl (fun K hK => ?_) AllReadyH.nil
  go_simp
  refine (K0.out _).mono ?_
  rintro e wq1 ⟨rfl, hb⟩
  have HY1 := Lib.hid (HY0.out.trans (hb.mono HY0.out.size))
  clear hb
  refine hK.out _ _ (HSS.out _ HY1.out) (fun hS1 => ?_)
  clear hK K
  refine wpAnyH_ready (rs := [7]) (by kernel_rfl) (by simp) ?_
  refine AllReadyH.cons rfl (fun K hK => ?_) AllReadyH.nil
  go_simp
  refine (K1.out _).mono ?_
  rintro e wq2 ⟨rfl, hb⟩
  have HY2 := Lib.hid (HY1.out.trans (hb.mono HY1.out.size))
  clear hb
  refine hK.out _ _ (HSS.out _ HY2.out) (fun hS2 => ?_)
  clear hK K
  refine' wpAnyH_take (i := 8) (v := _) rfl (by kernel_rfl) (by kernel_rfl) (by kernel_rfl) (fun _ _ _ h => h) (Or.inl ⟨by rfl, ?hym22⟩) hS2 ?restm22
  case hym22 => (intro w hSw; (try dsimp only at hSw); go_simp; try with_reducible rfl)
  simp only [Act.put, List.setIfInBounds_toArray, List.set_cons_zero, List.set_cons_succ, List.getElem_toArray, List.getElem_cons_zero, List.getElem_cons_succ]
  refine wpAnyH_ready (rs := [12]) (by kernel_rfl) (by simp) ?_
  refine AllReadyH.cons rfl (fun K hK => ?_) AllReadyH.nil
  go_simp
  refine (K2.out _).mono ?_
  rintro e wq3 ⟨rfl, hb⟩
  have HY3 := Lib.hid (HY2.out.trans (hb.mono HY2.out.size))
  clear hb
  refine hK.out _ _ (HSS.out _ HY3.out) (fun hS3 => ?_)
  clear hK K
  refine' wpAnyH_take (i := 13) (v := _) rfl (by kernel_rfl) (by kernel_rfl) (by kernel_rfl) (fun _ _ _ h => h) (Or.inl ⟨by rfl, ?hym23⟩) hS3 ?restm23
  case hym23 => (intro w hSw; (try dsimp only at hSw); go_simp; try with_reducible rfl)
  simp only [Act.put, List.setIfInBounds_toArray, List.set_cons_zero, List.set_cons_succ, List.getElem_toArray, List.getElem_cons_zero, List.getElem_cons_succ]
  refine wpAnyH_ready (rs := [17]) (by kernel_rfl) (by simp) ?_
  refine AllReadyH.cons rfl (fun K hK => ?_) AllReadyH.nil
  go_simp
  refine (K3.out _).mono ?_
  rintro e wq4 ⟨rfl, hb⟩
  have HY4 := Lib.hid (HY3.out.trans (hb.mono HY3.out.size))
  clear hb
  refine hK.out _ _ (HSS.out _ HY4.out) (fun hS4 => ?_)
  clear hK K
  refine' wpAnyH_take (i := 18) (v := _) rfl (by kernel_rfl) (by kernel_rfl) (by kernel_rfl) (fun _ _ _ h => h) (Or.inl ⟨by rfl, ?hym24⟩) hS4 ?restm24
  case hym24 => (intro w hSw; (try dsimp only at hSw); go_simp; try with_reducible rfl)
  simp only [Act.put, List.setIfInBounds_toArray, List.set_cons_zero, List.set_cons_succ, List.getElem_toArray, List.getElem_cons_zero, List.getElem_cons_succ]
  refine wpAnyH_ready (rs := [22]) (by kernel_rfl) (by simp) ?_
  refine AllReadyH.cons rfl (fun K hK => ?_) AllReadyH.nil
  go_simp
  refine (K4.out _).mono ?_
  rintro e wq5 ⟨rfl, hb⟩
  have HY5 := Lib.hid (HY4.out.trans (hb.mono HY4.out.size))
  clear hb
  refine hK.out _ _ (HSS.out _ HY5.out) (fun hS5 => ?_)
  clear hK K
  refine' wpAnyH_take (i := 23) (v := _) rfl (by kernel_rfl) (by kernel_rfl) (by kernel_rfl) (fun _ _ _ h => h) (Or.inl ⟨by rfl, ?hym25⟩) hS5 ?restm25
  case hym25 => (intro w hSw; (try dsimp only at hSw); go_simp; try with_reducible rfl)
  simp only [Act.put, List.setIfInBounds_toArray, List.set_cons_zero, List.set_cons_succ, List.getElem_toArray, List.getElem_cons_zero, List.getElem_cons_succ]
  refine wpAnyH_ready (rs := [27]) (by kernel_rfl) (by simp) ?_
  refine AllReadyH.cons rfl (fun K hK => ?_) AllReadyH.nil
  go_simp
  refine (K5.out _).mono ?_
  rintro e wq6 ⟨rfl, hb⟩
  have HY6 := Lib.hid (HY5.out.trans (hb.mono HY5.out.size))
  clear hb
  refine hK.out _ _ (HSS.out _ HY6.out) (fun hS6 => ?_)
  clear hK K
  refine' wpAnyH_take (i := 28) (v := _) rfl (by kernel_rfl) (by kernel_rfl) (by kernel_rfl) (fun _ _ _ h => h) (Or.inl ⟨by rfl, ?hym26⟩) hS6 ?restm26
  case hym26 => (intro w hSw; (try dsimp only at hSw); go_simp; try with_reducible rfl)
  simp only [Act.put, List.setIfInBounds_toArray, List.set_cons_zero, List.set_cons_succ, List.getElem_toArray, List.getElem_cons_zero, List.getElem_cons_succ]
  refine wpAnyH_ready (rs := [32]) (by kernel_rfl) (by simp) ?_
  refine AllReadyH.cons rfl (fun K hK => ?_) AllReadyH.nil
  go_simp
  refine (K6.out _).mono ?_
  rintro e wq7 ⟨rfl, hb⟩
  have HY7 := Lib.hid (HY6.out.trans (hb.mono HY6.out.size))
  clear hb
  refine hK.out _ _ (HSS.out _ HY7.out) (fun hS7 => ?_)
  clear hK K
  refine' wpAnyH_take (i := 33) (v := _) rfl (by kernel_rfl) (by kernel_rfl) (by kernel_rfl) (fun _ _ _ h => h) (Or.inl ⟨by rfl, ?hym27⟩) hS7 ?restm27
  case hym27 => (intro w hSw; (try dsimp only at hSw); go_simp; try with_reducible rfl)
  simp only [Act.put, List.setIfInBounds_toArray, List.set_cons_zero, List.set_cons_succ, List.getElem_toArray, List.getElem_cons_zero, List.getElem_cons_succ]
  refine' wpAnyH_take (i := 34) (v := _) rfl (by kernel_rfl) (by kernel_rfl) (by kernel_rfl) (fun _ _ _ h => h) (Or.inl ⟨by rfl, ?hym28⟩) hS7 ?restm28
  case hym28 => (intro w hSw; (try dsimp only at hSw); go_simp; try with_reducible rfl)
  simp only [Act.put, List.setIfInBounds_toArray, List.set_cons_zero, List.set_cons_succ, List.getElem_toArray, List.getElem_cons_zero, List.getElem_cons_succ]
  refine wpAnyH_done (by kernel_rfl) ?_ _
  go_wp2_with fail
  go_ret
  exact ⟨by rw [HC.out]; rfl, HBE.out.trans (HY7.out.mono HBE.out.size)⟩
end Go.Proofs.Ytpekofpiodaadaa.Hb
end

section
/- How a forest is read of bytes: pure: the readers, and that they read what was put. -/
namespace Go.Proofs.Ytpekofpiodaadaa.Hb
set_option linter.unusedVariables false
set_option linter.unusedSimpArgs false
open Go.RowKit

def numB (l : List Nat) : Nat := l.foldl (fun a b => 256 * a + b) 0
theorem numB_snoc (l : List Nat) (x : Nat) : numB (l ++ [x]) = 256 * numB l + x := by unfold numB; rw [List.foldl_append]; rfl
theorem numB_lt {l : List Nat} (h : ∀ b ∈ l, b < 256) : numB l < 256 ^ l.length := by
  have key : ∀ (l : List Nat) (a : Nat), (∀ b ∈ l, b < 256) → l.foldl (fun a b => 256 * a + b) a < 256 ^ l.length * (a + 1) := by
    intro l
    induction l with
    | nil => intro a _; simp
    | cons x r ih =>
      intro a hx
      have h1 := ih (256 * a + x) (fun b hb => hx b (List.mem_cons_of_mem _ hb))
      have h2 := hx x (List.mem_cons_self ..)
      simp only [List.foldl_cons, List.length_cons, Nat.pow_succ]
      refine Nat.lt_of_lt_of_le h1 ?_
      rw [Nat.mul_assoc]
      exact Nat.mul_le_mul_left _ (by omega)
  have := key l 0 h
  simpa [numB] using this
theorem numB_be (x : Nat) : ∀ k, numB (beN x k) = x % 256 ^ k
  | 0 => by simp [numB, beN, Nat.mod_one]
  | k + 1 => by
    have key : ∀ (l : List Nat) (a : Nat), l.foldl (fun a b => 256 * a + b) a = 256 ^ l.length * a + numB l := by
      intro l
      induction l with
      | nil => intro a; simp [numB]
      | cons y r ih =>
        intro a
        simp only [numB, List.foldl_cons, List.length_cons] at ih ⊢
        rw [ih (256 * a + y), ih (256 * 0 + y), Nat.pow_succ, Nat.mul_add, Nat.mul_add, Nat.mul_assoc]
        simp [Nat.add_assoc]
    have h2 : numB (beN x (k + 1)) = 256 ^ k * (x / 256 ^ k % 256) + numB (beN x k) := by
      show (x / 256 ^ k % 256 :: beN x k).foldl (fun a b => 256 * a + b) 0 = _
      rw [List.foldl_cons, key, be_len, Nat.mul_zero, Nat.zero_add]
    rw [h2, numB_be x k, Nat.pow_succ, Nat.mod_mul, Nat.add_comm]
abbrev Prs (α : Type) := List Nat → Except Int (α × List Nat)
def pureP {α : Type} (x : α) : Prs α := fun l => .ok (x, l)
def failP {α : Type} (e : Int) : Prs α := fun _ => .error e
def bindP {α β : Type} (p : Prs α) (f : α → Prs β) : Prs β := fun l => match p l with
  | .ok (x, r) => f x r
  | .error e => .error e
theorem bind_ok {α β : Type} {p : Prs α} {f : α → Prs β} {l r : List Nat} {x : α} (h : p l = .ok (x, r)) : bindP p f l = f x r := by unfold bindP; rw [h]
theorem bind_err {α β : Type} {p : Prs α} {f : α → Prs β} {l : List Nat} {e : Int} (h : p l = .error e) : bindP p f l = .error e := by unfold bindP; rw [h]
def numP (k : Nat) : Prs Nat := fun l => if l.length < k then .error 2 else .ok (numB (l.take k), l.drop k)
theorem num_short {k : Nat} {l : List Nat} (h : l.length < k) : numP k l = .error 2 := if_pos h
theorem num_some {k : Nat} {l : List Nat} (h : k ≤ l.length) : numP k l = .ok (numB (l.take k), l.drop k) := if_neg (by omega)
def sI (x : Nat) : Int := IntKind.i64.wrap (x : Int)
/-- A config's fields. -/
def fieldsA : List Nat → List Int → Prs (List Int)
  | [], acc => pureP acc
  | k :: ks, acc => bindP (numP k) fun x => fieldsA ks (acc ++ [(x : Int)])
def szs : List Nat := [1, 2, 2, 2, 1, 4, 2]
def chkL (c : List Int) : Int := checkO (c.getD 0 0) (c.getD 1 0) (c.getD 2 0) (c.getD 3 0) (c.getD 4 0) (c.getD 5 0) (c.getD 6 0)
def cfgP : Prs (List Int) := bindP (fieldsA szs []) fun c => if chkL c = 0 then pureP c else failP (chkL c)
def oneN (kind left : Int) : Prs Nd :=
  bindP (numP 1) fun x => if x = 0 then (if kind = 0 then bindP (numP 1) fun c => pureP ⟨-1, 0, 0, c, 0, 0⟩ else bindP (numP 8) fun s => bindP (numP 4) fun k => pureP ⟨-1, 0, 0, 0, sI s, k⟩)
    else if x = 1 then bindP (numP 2) fun f => bindP (numP 2) fun b => pureP ⟨f, b, left, 0, 0, 0⟩ else failP 3
def nodesA (kind : Int) : Nat → Int → List Nd → Prs (List Nd)
  | 0, _, out => pureP out
  | n + 1, left, out => bindP (oneN kind left) fun x => nodesA kind n (if x.f = -1 then left else left + 2) (out ++ [x])
def treeP (cols bins kind classes : Int) : Prs (List Nd) :=
  bindP (numP 4) fun n => if 4194304 < n then failP 4 else bindP (nodesA kind n 1 []) fun t => if rightT cols bins kind classes t then pureP t else failP 3
def valsA : Nat → List Nat → Prs (List Nat)
  | 0, out => pureP out
  | n + 1, out => bindP (numP 8) fun x => valsA n (out ++ [x])
def colsA (b den : Int) : Nat → List (List Nat) → List (Int × Int) → Prs (List (List Nat) × List (Int × Int))
  | 0, E, S => pureP (E, S)
  | n + 1, E, S => bindP (numP 1) fun m => bindP (valsA m []) fun es => if cutsE b es then bindP (numP 8) fun x => colsA b den n (E ++ [es]) (S ++ [(sI x, den)]) else failP 3
def treesA (f : Fst) : Nat → List (List Nd) → Prs (List (List Nd))
  | 0, T => pureP T
  | n + 1, T => bindP (treeP f.cols f.b f.k f.cl) fun t => if treeE f t then treesA f n (T ++ [t]) else failP 3
def Fst.head (c : List Int) (cols : Int) (seed : Nat) (num den : Int) : Fst := ⟨c.getD 0 0, c.getD 1 0, c.getD 2 0, c.getD 3 0, c.getD 4 0, c.getD 5 0, c.getD 6 0, cols, seed, [], [], num, den, []⟩
def getP : Prs Fst :=
  bindP (numP 4) fun m => if m ≠ 1414677829 then failP 3 else bindP cfgP fun c => bindP (numP 2) fun cols => if cols = 0 then failP 3 else if 1024 < cols then failP 4 else
    bindP (numP 8) fun seed => bindP (numP 8) fun num => bindP (numP 4) fun den => bindP (colsA (c.getD 2 0) den cols [] []) fun es =>
      bindP (treesA (Fst.head c cols seed (sI num) den) (c.getD 3 0).toNat []) fun T =>
        if mayF { Fst.head c cols seed (sI num) den with edges := es.1, trees := T, shake := es.2 } then pureP { Fst.head c cols seed (sI num) den with edges := es.1, trees := T, shake := es.2 } else failP 3
/-- .. and nothing is left. -/
def getF (l : List Nat) : Except Int Fst := match getP l with
  | .ok (f, r) => if r = [] then .ok f else .error 3
  | .error e => .error e

/- A reader that asks for more wherever its bytes are cut off. -/
def PreP {α : Type} (p : Prs α) : Prop := ∀ l x r, p l = .ok (x, r) → ∃ c, l = c ++ r ∧ (∀ r', p (c ++ r') = .ok (x, r')) ∧ ∀ c' s, c = c' ++ s → s ≠ [] → p c' = .error 2
theorem pre_pure {α : Type} (x : α) : PreP (pureP x) := by
  intro l y r h
  unfold pureP at h
  simp only [Except.ok.injEq, Prod.mk.injEq] at h
  obtain ⟨rfl, rfl⟩ := h
  refine ⟨[], rfl, fun r' => rfl, fun c' s hc hs => ?_⟩
  have := congrArg List.length hc
  simp only [List.length_nil, List.length_append] at this
  exact absurd (List.length_eq_zero_iff.1 (by omega)) hs
theorem pre_fail {α : Type} (e : Int) : PreP (failP e : Prs α) := fun l x r h => by cases h
theorem pre_if {α : Type} {c : Prop} [Decidable c] {p q : Prs α} (hp : PreP p) (hq : PreP q) : PreP (if c then p else q) := by
  split
  · exact hp
  · exact hq
theorem pre_num (k : Nat) : PreP (numP k) := by
  intro l x r h
  unfold numP at h
  split at h
  · cases h
  · rename_i hl
    simp only [Except.ok.injEq, Prod.mk.injEq] at h
    obtain ⟨rfl, rfl⟩ := h
    have hk : (l.take k).length = k := by rw [List.length_take]; omega
    refine ⟨l.take k, (List.take_append_drop k l).symm, fun r' => ?_, fun c' s hc hs => ?_⟩
    · rw [num_some (by rw [List.length_append, hk]; omega), List.take_append_of_le_length (by omega), List.drop_append_of_le_length (by omega), List.take_of_length_le (by omega), List.drop_of_length_le (by omega), List.nil_append]
    · have h1 := congrArg List.length hc
      rw [hk, List.length_append] at h1
      have : 0 < s.length := List.length_pos_iff.2 hs
      exact num_short (by omega)
theorem pre_bind {α β : Type} {p : Prs α} {f : α → Prs β} (hp : PreP p) (hf : ∀ x, PreP (f x)) : PreP (bindP p f) := by
  intro l y r h
  unfold bindP at h
  cases hpl : p l with
  | error e => rw [hpl] at h; cases h
  | ok z =>
    obtain ⟨x, r1⟩ := z
    rw [hpl] at h
    simp only at h
    obtain ⟨c1, e1, a1, b1⟩ := hp l x r1 hpl
    obtain ⟨c2, e2, a2, b2⟩ := hf x r1 y r h
    refine ⟨c1 ++ c2, by rw [e1, e2, List.append_assoc], fun r' => ?_, fun c' s hc hs => ?_⟩
    · rw [List.append_assoc, bind_ok (a1 _), a2]
    · rcases List.append_eq_append_iff.1 hc with ⟨d, h1, h2⟩ | ⟨d, h1, h2⟩
      · rw [h1, bind_ok (a1 d)]
        exact b2 d s h2 hs
      · by_cases hd : d = []
        · subst hd
          simp only [List.append_nil, List.nil_append] at h1 h2
          have := a1 []
          rw [List.append_nil] at this
          rw [← h1, bind_ok this]
          have h3 := b2 [] s (by simp [h2]) hs
          exact h3
        · exact bind_err (b1 c' d h1 hd)
theorem pre_fields : ∀ (ks : List Nat) (acc : List Int), PreP (fieldsA ks acc)
  | [], acc => pre_pure acc
  | k :: ks, acc => pre_bind (pre_num k) fun x => pre_fields ks _
theorem pre_cfg : PreP cfgP := pre_bind (pre_fields _ _) fun c => pre_if (pre_pure _) (pre_fail _)
theorem pre_one (kind left : Int) : PreP (oneN kind left) :=
  pre_bind (pre_num 1) fun x => pre_if (pre_if (pre_bind (pre_num 1) fun c => pre_pure _) (pre_bind (pre_num 8) fun s => pre_bind (pre_num 4) fun k => pre_pure _)) (pre_if (pre_bind (pre_num 2) fun f => pre_bind (pre_num 2) fun b => pre_pure _) (pre_fail _))
theorem pre_nodes (kind : Int) : ∀ (n : Nat) (left : Int) (out : List Nd), PreP (nodesA kind n left out)
  | 0, _, out => pre_pure out
  | n + 1, left, out => pre_bind (pre_one kind left) fun x => pre_nodes kind n _ _
theorem pre_tree (cols bins kind classes : Int) : PreP (treeP cols bins kind classes) :=
  pre_bind (pre_num 4) fun n => pre_if (pre_fail _) (pre_bind (pre_nodes _ _ _ _) fun t => pre_if (pre_pure _) (pre_fail _))
theorem pre_vals : ∀ (n : Nat) (out : List Nat), PreP (valsA n out)
  | 0, out => pre_pure out
  | n + 1, out => pre_bind (pre_num 8) fun x => pre_vals n _
theorem pre_cols (b den : Int) : ∀ (n : Nat) (E : List (List Nat)) (S : List (Int × Int)), PreP (colsA b den n E S)
  | 0, E, S => pre_pure _
  | n + 1, E, S => pre_bind (pre_num 1) fun m => pre_bind (pre_vals _ _) fun es => pre_if (pre_bind (pre_num 8) fun x => pre_cols b den n _ _) (pre_fail _)
theorem pre_trees (f : Fst) : ∀ (n : Nat) (T : List (List Nd)), PreP (treesA f n T)
  | 0, T => pre_pure T
  | n + 1, T => pre_bind (pre_tree _ _ _ _) fun t => pre_if (pre_trees f n _) (pre_fail _)
theorem pre_get : PreP getP :=
  pre_bind (pre_num 4) fun m => pre_if (pre_fail _) (pre_bind pre_cfg fun c => pre_bind (pre_num 2) fun cols => pre_if (pre_fail _) (pre_if (pre_fail _)
    (pre_bind (pre_num 8) fun seed => pre_bind (pre_num 8) fun num => pre_bind (pre_num 4) fun den => pre_bind (pre_cols _ _ _ _ _) fun es => pre_bind (pre_trees _ _ _) fun T => pre_if (pre_pure _) (pre_fail _))))
/-- What is cut off, or has more behind it. -/
theorem getF_cut {l : List Nat} {f : Fst} (h : getP l = .ok (f, [])) : (∀ n, n < l.length → getF (l.take n) = .error 2) ∧ ∀ x, getF (l ++ [x]) = .error 3 := by
  obtain ⟨c, e, a, b⟩ := pre_get l f [] h
  rw [List.append_nil] at e
  subst e
  refine ⟨fun n hn => ?_, fun x => ?_⟩
  · have := b (l.take n) (l.drop n) (List.take_append_drop n l).symm (fun e => by have := congrArg List.length e; simp at this; omega)
    unfold getF
    rw [this]
  · unfold getF
    rw [a [x]]
    simp
end Go.Proofs.Ytpekofpiodaadaa.Hb
end

section
/- The walk of ref07.Get: a number of a text's bytes at a place. -/
namespace Go.Proofs.Ytpekofpiodaadaa.Hb
set_option linter.unusedVariables false
set_option linter.unusedSimpArgs false
open Go.RowKit

theorem strB_size (l : List Nat) : (strB l).size = l.length := by
  unfold strB
  rw [ByteArray.size]
  simp
theorem strB_get {l : List Nat} (hb : ∀ x ∈ l, x < 256) {i : Nat} (hi : i < l.length) (w : World) : (Instr.index 9 (.string (strB l)) (.int .i64 (i : Int))).run Try.prog w = .ok (.int .u8 (l.getD i 0 : Nat)) w := by
  rw [run_index_string w 9 (strB l) .i64 (i : Int) Try.underlying9, dif_pos ⟨by omega, by rw [strB_size]; omega⟩]
  have e : (strB l)[i]'(by rw [strB_size]; exact hi) = UInt8.ofNat l[i] := by
    unfold strB
    show (ByteArray.mk _).data[i]'_ = _
    simp
  have h2 := hb _ (List.getElem_mem hi)
  have e3 : ∀ (h : ((i : Int)).toNat < (strB l).size), (strB l)[((i : Int)).toNat]'h = (strB l)[i]'(by rw [strB_size]; exact hi) := fun h => by congr 1
  rw [e3, e, UInt8.toNat_ofNat', List.getD_eq_getElem?_getD, List.getElem?_eq_getElem hi]
  simp only [Option.getD_some]
  congr 3
  omega
theorem drop_take_snoc {l : List Nat} {a i : Nat} (h : a + i < l.length) : (l.drop a).take (i + 1) = (l.drop a).take i ++ [l.getD (a + i) 0] := by
  rw [List.take_succ_eq_append_getElem (by rw [List.length_drop]; omega), List.getElem_drop, List.getD_eq_getElem?_getD, List.getElem?_eq_getElem h]
  rfl
set_option maxRecDepth 100000 in
theorem rget7_no (l : List Nat) (a k : Nat) (A K : Int) (hA : (a : Int) = A) (hK : (k : Int) = K) (ha : a ≤ l.length) (hk : k ≤ 8) (hn : l.length ≤ 1073741824) (h : l.length < a + k) (w : World) :
    Calls Try.prog 84 #[.string (strB l), .int .i64 A, .int .i64 K] w (Says (.tuple #[.int .u64 0, .int .i64 A, .bool false]) w) := by
  subst hA hK
  have KC := Lib.hid (fun w => rcount7_any k hk w)
  have hs := strB_size l
  obtain ⟨X, hX⟩ : ∃ X, strB l = X := ⟨_, rfl⟩
  obtain ⟨n, hnn⟩ : ∃ n, l.length = n := ⟨_, rfl⟩
  rw [hX] at hs ⊢
  rw [hnn] at hs ha hn h
  clear hX hnn
  have u1 : IntKind.i64.wrap ((n : Int) - (a : Int)) = ((n - a : Nat) : Int) := by rw [IntKind.wrap_i64]; omega
  have u2 : wrap64 ((n : Int) - (a : Int)) = ((n - a : Nat) : Int) := by unfold wrap64; omega
  have d1 : decide (((n - a : Nat) : Int) < (k : Int)) = true := decide_eq_true (by omega)
  have d2 : decide (n - a < k) = true := decide_eq_true (by omega)
  obtain ⟨z, hz⟩ : ∃ z, n - a = z := ⟨_, rfl⟩
  rw [hz] at u1 u2 d1 d2
  clear hz h
  go_enter Try.func84, Try.ntmps84
  go_wp2_with (refine (KC.out _).mono ?_; rintro e w1 ⟨rfl, rfl⟩)
  go_ret3
  exact ⟨rfl, rfl⟩
set_option maxRecDepth 100000 in
set_option maxHeartbeats 4000000 in
theorem rget7_yes (l : List Nat) (a k : Nat) (A K : Int) (hA : (a : Int) = A) (hK : (k : Int) = K) (hb : ∀ x ∈ l, x < 256) (hk : k ≤ 8) (hn : l.length ≤ 1073741824) (h : a + k ≤ l.length) (w : World) :
    Calls Try.prog 84 #[.string (strB l), .int .i64 A, .int .i64 K] w (Says (.tuple #[.int .u64 (numB ((l.drop a).take k) : Nat), .int .i64 ((a + k : Nat) : Int), .bool true]) w) := by
  subst hA hK
  have KC := Lib.hid (fun w => rcount7_any k hk w)
  have HIX := Lib.hid (fun i (hi : i < l.length) w => strB_get hb hi w)
  have HSN := Lib.hid (fun i (hi : a + i < l.length) => drop_take_snoc hi)
  have HLT : Hid (∀ i, i ≤ k → numB ((l.drop a).take i) < 256 ^ i) := Lib.hid (fun i hi => by
    have h1 := numB_lt (l := (l.drop a).take i) (fun b hm => hb b (List.mem_of_mem_drop (List.mem_of_mem_take hm)))
    rw [List.length_take, List.length_drop, Nat.min_eq_left (by omega)] at h1
    exact h1)
  have HB8 : Hid (∀ i, i < l.length → l.getD i 0 < 256) := Lib.hid (fun i hi => by
    rw [List.getD_eq_getElem?_getD, List.getElem?_eq_getElem hi]
    exact hb _ (List.getElem_mem hi))
  have hs := strB_size l
  obtain ⟨X, hX⟩ : ∃ X, strB l = X := ⟨_, rfl⟩
  obtain ⟨n, hnn⟩ : ∃ n, l.length = n := ⟨_, rfl⟩
  rw [hX] at hs HIX ⊢
  rw [hnn] at hs hn h HIX HSN HB8
  clear hX hnn hb
  have u1 : IntKind.i64.wrap ((n : Int) - (a : Int)) = ((n - a : Nat) : Int) := by rw [IntKind.wrap_i64]; omega
  have u2 : wrap64 ((n : Int) - (a : Int)) = ((n - a : Nat) : Int) := by unfold wrap64; omega
  have d1 : decide (((n - a : Nat) : Int) < (k : Int)) = false := decide_eq_false (by omega)
  have d2 : decide (n - a < k) = false := decide_eq_false (by omega)
  obtain ⟨z, hz⟩ : ∃ z, n - a = z := ⟨_, rfl⟩
  rw [hz] at u1 u2 d1 d2
  clear hz
  go_enter Try.func84, Try.ntmps84
  go_wp2_with (refine (KC.out _).mono ?_; rintro e w1 ⟨rfl, rfl⟩)
  clear u1 u2 d1 d2
  go_loopw [10, 11] (fun nv iv wr => ∃ i : Nat, i ≤ k ∧ iv = .int .i64 i ∧ nv = .int .u64 (numB ((l.drop a).take i) : Nat) ∧ wr = w1) (fun _ iv _ => k - (intOf iv).toNat)
  case atStart => exact ⟨0, Nat.zero_le _, rfl, rfl, by first | rfl | trivial⟩
  case round =>
    obtain ⟨i, hi, rfl, rfl, rfl⟩ := hrel
    by_cases hlt : i < k
    · have hlt' : (i : Int) < k := by omega
      have hq := HLT.out i hi
      have hq8 : numB ((l.drop a).take i) < 256 ^ 7 := Nat.lt_of_lt_of_le hq (Nat.pow_le_pow_right (by decide) (by omega))
      have HS : Hid (numB ((l.drop a).take (i + 1)) = 256 * numB ((l.drop a).take i) + l.getD (a + i) 0) := Lib.hid (by rw [HSN.out i (by omega), numB_snoc])
      have hy := HB8.out (a + i) (by omega)
      have hix := HIX.out (a + i) (by omega)
      obtain ⟨q, eq⟩ : ∃ q, numB ((l.drop a).take i) = q := ⟨_, rfl⟩
      obtain ⟨y, ey⟩ : ∃ y, l.getD (a + i) 0 = y := ⟨_, rfl⟩
      rw [eq] at HS hq8 ⊢
      rw [ey] at HS hy hix
      have hp : (256 : Nat) ^ 7 = 72057594037927936 := by decide
      rw [hp] at hq8
      have w3 : IntKind.u64.wrap (256 * (q : Int)) = 256 * (q : Int) := by rw [IntKind.wrap_u64]; omega
      have w4 : IntKind.u64.wrap (256 * (q : Int) + (y : Int)) = ((256 * q + y : Nat) : Int) := by rw [IntKind.wrap_u64]; omega
      have w5 : IntKind.i64.wrap ((a : Int) + (i : Int)) = ((a + i : Nat) : Int) := by rw [IntKind.wrap_i64]; omega
      have w6 : wrap64 ((a : Int) + (i : Int)) = ((a + i : Nat) : Int) := by unfold wrap64; omega
      have w7 : IntKind.u64.wrap (y : Int) = (y : Int) := wrap_nat (by omega)
      obtain ⟨p, hpp⟩ : ∃ p, a + i = p := ⟨_, rfl⟩
      rw [hpp] at hix w5 w6
      obtain ⟨q2, hq2⟩ : ∃ q2, 256 * q + y = q2 := ⟨_, rfl⟩
      rw [hq2] at w4 HS
      clear eq ey hp hq hpp hq2
      go_wp2_with fail
      go_roundw
      case rel => exact ⟨i + 1, hlt, by go_num, by rw [HS.out], by first | rfl | trivial⟩
      case measure => simp [intOf]; omega
    · obtain rfl : k = i := by omega
      have w5 : IntKind.i64.wrap ((a : Int) + (k : Int)) = ((a + k : Nat) : Int) := by rw [IntKind.wrap_i64]; omega
      have w6 : wrap64 ((a : Int) + (k : Int)) = ((a + k : Nat) : Int) := by unfold wrap64; omega
      obtain ⟨p, hpp⟩ : ∃ p, a + k = p := ⟨_, rfl⟩
      rw [hpp] at w5 w6
      have HPP := Lib.hid hpp
      clear hpp
      go_wp2_with fail
      go_ret3
      exact ⟨by rw [HPP.out]; rfl, rfl⟩
end Go.Proofs.Ytpekofpiodaadaa.Hb
end

section
/- The walks of take.Reader: Fail, Number, Whole, Value, Left. -/
namespace Go.Proofs.Ytpekofpiodaadaa.Hb
set_option linter.unusedVariables false
set_option linter.unusedSimpArgs false
open Go.RowKit

theorem add_blk (ad : Addr) (k : Nat) : (ad.add k).block = ad.block := by unfold Addr.add; split <;> rfl
/-- A reader: a variable at g that holds the bytes that are left; it and they are older than N. -/
structure RdB (w : World) (N g : Nat) (l : List Nat) : Prop where
  ex : ∃ (A : Option Addr) (c : Nat), Blk w g #[.slice A l.length c] 212 ∧ RB w A l ∧ l.length ≤ c ∧ c ≤ 9223372036854775807 ∧ ∀ ad, A = some ad → ad.block ≠ g ∧ ad.block < N
  gN : g < N
  Nw : N ≤ w.heap.size
theorem RB.grown {w w1 : World} {A : Option Addr} {l : List Nat} {row : Option Nat} (h : RB w A l) (hg : w.grownBy w1 row) (hn : ∀ ad, A = some ad → some ad.block ≠ row ∧ ad.block < w.heap.size) : RB w1 A l := by
  intro h0
  obtain ⟨ad, rfl, ha⟩ := h h0
  obtain ⟨hne, hlt⟩ := hn ad rfl
  refine ⟨ad, rfl, fun i y hy => ?_⟩
  obtain ⟨c, h1, h2, h3⟩ := ha i y hy
  exact ⟨c, h1, h2, fun j u hj => hg.cell (h3 j u hj) (by rw [add_blk]; exact hne)⟩
theorem RdB.below {w w1 : World} {N g : Nat} {l : List Nat} (h : RdB w N g l) (hb : Below w.heap.size w w1) : RdB w1 N g l := by
  obtain ⟨A, c, h1, h2, h3, h4, h5⟩ := h.ex
  exact ⟨⟨A, c, h1.below hb, h2.below hb, h3, h4, h5⟩, h.gN, Nat.le_trans h.Nw hb.size⟩
/-- A write elsewhere. -/
theorem RdB.kept {w w1 : World} {N g q : Nat} {l : List Nat} (h : RdB w N g l) (hg : w.grownBy w1 (some q)) (hq : N ≤ q) : RdB w1 N g l := by
  obtain ⟨A, c, h1, h2, h3, h4, h5⟩ := h.ex
  have hN := h.gN
  have hW := h.Nw
  exact ⟨⟨A, c, own_blk h1 hg (fun e => by simp only [Option.some.injEq] at e; omega), h2.grown hg (fun ad e => ⟨fun e2 => by have := (h5 ad e).2; simp only [Option.some.injEq] at e2; omega, by have := (h5 ad e).2; omega⟩), h3, h4, h5⟩, hN, Nat.le_trans hW hg.size⟩
theorem RdB.lt {w : World} {N g : Nat} {l : List Nat} (h : RdB w N g l) : g < w.heap.size := Nat.lt_of_lt_of_le h.gN h.Nw
theorem gr_new {w w1 : World} {q i : Nat} {row : Option Nat} (h : w.grownBy w1 row) (v : Value) (hq : w.heap.size ≤ q) : w.grownBy (w1.setCell ⟨q, i, none⟩ v) row :=
  ⟨h.os, h.tape, h.output, by simp; exact h.size, fun k hk hr => (Below.heap_setCell w1 ⟨q, i, none⟩ v k (fun e => by simp only at e; omega)).trans (h.block k hk hr)⟩
theorem gr_newrow {w w1 : World} {q : Nat} {row : Option Nat} (h : w.grownBy w1 row) (cs : Array Value) (hq : w.heap.size ≤ q) : w.grownBy (w1.setRow q cs) row :=
  ⟨h.os, h.tape, h.output, by rw [size_setRow]; exact h.size, fun k hk hr => (row_other (by omega)).trans (h.block k hk hr)⟩
theorem gr_cell (w : World) (q i : Nat) (v : Value) : w.grownBy (w.setCell ⟨q, i, none⟩ v) (some q) := ⟨rfl, rfl, rfl, by simp, fun k _ hk => Below.heap_setCell w ⟨q, i, none⟩ v k (fun e => hk (by rw [e]))⟩
theorem gr_row (w : World) (q : Nat) (cs : Array Value) : w.grownBy (w.setRow q cs) (some q) := ⟨rfl, rfl, rfl, by rw [size_setRow]; exact Nat.le_refl _, fun k _ hk => row_other (fun e => hk (by rw [e]))⟩
theorem gr_below {w w1 : World} {row : Option Nat} (hb : Below w.heap.size w w1) : w.grownBy w1 row := ⟨hb.os, hb.tape, hb.output, hb.size, fun k hk _ => hb.block k hk⟩
theorem gr_trans {w w1 w2 : World} {row : Option Nat} (h : w.grownBy w1 row) (k : w1.grownBy w2 row) : w.grownBy w2 row :=
  ⟨k.os.trans h.os, k.tape.trans h.tape, k.output.trans h.output, Nat.le_trans h.size k.size, fun i hi hr => (k.block i (Nat.lt_of_lt_of_le hi h.size) hr).trans (h.block i hi hr)⟩
def Flt (e : Int) : Ending := .panicked [{ v := .iface 214 (.agg #[.int .i64 e]), recovered := false }]
/-- What a reading function answers. -/
def Reads {α : Type} (p : Except Int (α × List Nat)) (V : World → α → Value → Prop) (N g : Nat) (w : World) (e : Ending) (w' : World) : Prop :=
  w.grownBy w' (some g) ∧ ((∃ x r v, p = .ok (x, r) ∧ e = .returned v ∧ V w' x v ∧ RdB w' N g r) ∨ ∃ k, p = .error k ∧ e = Flt k)
theorem or_byte (x y : Nat) (hx : x < 72057594037927936) (hy : y < 256) : bits .or .u64 ((x : Int) * 256) (y : Int) = ((256 * x + y : Nat) : Int) := by
  rw [show (x : Int) * 256 = ((x * 256 : Nat) : Int) from by omega, u64_or_nat (x * 256) y (by omega) (by omega)]
  have h := Nat.shiftLeft_add_eq_or_of_lt (i := 8) (b := y) (by omega) x
  rw [Nat.shiftLeft_eq] at h
  rw [← show x * 2 ^ 8 = x * 256 from rfl, ← h]
  congr 1
  omega
theorem rb_drop {w : World} {ad : Addr} {l : List Nat} {k c : Nat} (h : RB w (some ad) l) (hc : l.length ≤ c) (hk : k ≤ l.length) : RB w (some (if c = k then ad else ad.add k)) (l.drop k) := by
  intro h0
  rw [List.length_drop] at h0
  rw [if_neg (by omega)]
  obtain ⟨ad', e, ha⟩ := h (by omega)
  cases e
  refine ⟨_, rfl, fun i y hy => ?_⟩
  rw [List.getElem?_drop] at hy
  obtain ⟨c2, h1, h2, h3⟩ := ha _ y hy
  refine ⟨c2, h1, h2, fun j u hj => ?_⟩
  have h4 := h3 j u hj
  rw [Nat.mul_one] at h4 ⊢
  rw [Addr.add_add, show k + (i + j) = k + i + j from by omega]
  exact h4
theorem fail_any (g : Nat) (e : Int) (he : ¬ e = 0) (w : World) : Calls Try.prog 139 #[.pointer (some ⟨g, 0, none⟩), .int .i64 e] w fun e' w' => e' = Flt e ∧ w' = w := by
  have e1 : (e == 0) = false := beq_eq_false_iff_ne.2 he
  unfold Flt
  go_enter Try.func139, Try.ntmps139
  go_wp2_with fail
  exact ⟨rfl, rfl, rfl⟩
set_option maxRecDepth 100000 in
set_option maxHeartbeats 4000000 in
theorem number_any (N g k : Nat) (l : List Nat) (w : World) (h : RdB w N g l) (hk1 : 1 ≤ k) (hk : k ≤ 8) :
    Calls Try.prog 138 #[.pointer (some ⟨g, 0, none⟩), .int .i64 (k : Int)] w (Reads (numP k l) (fun _ x v => v = .int .u64 (x : Int) ∧ x < 256 ^ k) N g w) := by
  have KC := Lib.hid (fun w => tcount_any k hk w)
  obtain ⟨A, c, hblk, hrb, hlc, hc63, hA⟩ := h.ex
  have HNN := Lib.hid (And.intro h.gN h.Nw)
  obtain ⟨n, hn⟩ : ∃ n, l.length = n := ⟨_, rfl⟩
  have HN := Lib.hid hn
  rw [hn] at hblk hlc
  have HB := Lib.hid hblk
  have q0 := hblk.cell 0
  have q1 := hblk.frozen 0
  by_cases hkn : k ≤ n
  · obtain ⟨ad, rfl, _⟩ := hrb.at (i := 0) (by omega)
    have HR := Lib.hid hrb
    have HA := Lib.hid (hA ad rfl)
    have HP : Hid (numP k l = .ok (numB (l.take k), l.drop k)) := Lib.hid (num_some (by omega))
    have hle : (k : Int) ≤ n := by omega
    have hgt : decide ((n : Int) < k) = false := decide_eq_false (by omega)
    have hkc : (k : Int) ≤ c := by omega
    have hnc : (n : Int) ≤ c := by omega
    clear hA hrb hn hblk h
    go_enter Try.func138, Try.ntmps138
    go_wp2_with fail
    refine (KC.out _).mono ?_
    rintro e w1 ⟨rfl, rfl⟩
    go_wp2_with fail
    go_loop [6, 27] (fun x iv => ∃ i : Nat, i ≤ k ∧ iv = .int .i64 i ∧ x = .int .u64 ((numB (l.take i) : Nat) : Int)) (fun _ iv => k - (intOf iv).toNat)
    case atStart => exact ⟨0, Nat.zero_le _, rfl, rfl⟩
    case round =>
      obtain ⟨i, hi, rfl, rfl⟩ := hrel
      by_cases hlt : i < k
      · have hlt' : (i : Int) < k := by omega
        obtain ⟨ad2, e2, hx, hxl⟩ := HR.out.at (i := i) (by rw [HN.out]; omega)
        cases e2
        have HS : Hid (numB (l.take (i + 1)) = 256 * numB (l.take i) + l.getD i 0) := Lib.hid (by
          rw [List.take_succ_eq_append_getElem (by rw [HN.out]; omega), numB_snoc, List.getD_eq_getElem?_getD, List.getElem?_eq_getElem (by rw [HN.out]; omega)]
          rfl)
        have hb : numB (l.take i) < 72057594037927936 := by
          have h1 := numB_lt (l := l.take i) (fun b hb => by
            obtain ⟨j, hj, rfl⟩ := List.getElem_of_mem (List.mem_of_mem_take hb)
            obtain ⟨_, _, _, h4⟩ := HR.out.at hj
            rwa [List.getD_eq_getElem?_getD, List.getElem?_eq_getElem hj] at h4)
          refine Nat.lt_of_lt_of_le h1 ?_
          have h2 : (l.take i).length ≤ 7 := by rw [List.length_take]; omega
          exact Nat.le_trans (Nat.pow_le_pow_right (by decide) h2) (by decide)
        obtain ⟨x, ex⟩ : ∃ x, numB (l.take i) = x := ⟨_, rfl⟩
        obtain ⟨y, ey⟩ : ∃ y, l.getD i 0 = y := ⟨_, rfl⟩
        rw [ex] at hb HS ⊢
        rw [ey] at hx hxl HS
        have ho := or_byte x y hb hxl
        have hw : IntKind.u64.wrap ((x : Int) * 256) = (x : Int) * 256 := by rw [IntKind.wrap_u64]; omega
        have hw2 : IntKind.u64.wrap (y : Int) = (y : Int) := by rw [IntKind.wrap_u64]; omega
        clear ex ey
        go_wp2_with fail
        go_round
        case rel => exact ⟨i + 1, hlt, by go_num, by rw [HS.out]; first | rfl | (congr 1; omega) | congr 1⟩
        case measure => simp [intOf]; omega
      · obtain rfl : k = i := by omega
        have hX := numB_lt (l := l.take k) (fun b hb => by
          obtain ⟨j, hj, rfl⟩ := List.getElem_of_mem (List.mem_of_mem_take hb)
          obtain ⟨_, _, _, h4⟩ := HR.out.at hj
          rwa [List.getD_eq_getElem?_getD, List.getElem?_eq_getElem hj] at h4)
        have hl2 : (l.take k).length = k := by rw [List.length_take, HN.out]; omega
        rw [hl2] at hX
        have HX := Lib.hid hX
        have HD : Hid (RdB (w1.setCell ⟨g, 0, none⟩ (.slice (some (if c = k then ad else ad.add k)) (n - k) (c - k))) N g (l.drop k)) := Lib.hid (by
          have hln : (l.drop k).length = n - k := by rw [List.length_drop, HN.out]
          refine ⟨⟨some (if c = k then ad else ad.add k), c - k, ?_, ?_, by omega, by omega, fun ad' e => ?_⟩, HNN.out.1, by simp; exact HNN.out.2⟩
          · rw [hln]
            exact HB.out.set 0 _
          · refine RB.grown (rb_drop HR.out (by rw [HN.out]; exact hlc) (by rw [HN.out]; exact hkn)) (grown_set ⟨rfl, rfl, rfl, Nat.le_refl _, fun _ _ _ => rfl⟩ 0 _) (fun ad' e => ?_)
            cases e
            have := HA.out
            split
            · exact ⟨fun e => this.1 (by injection e), Nat.lt_of_lt_of_le this.2 HNN.out.2⟩
            · rw [add_blk]; exact ⟨fun e => this.1 (by injection e), Nat.lt_of_lt_of_le this.2 HNN.out.2⟩
          · cases e
            have := HA.out
            split
            · exact this
            · rw [add_blk]; exact this)
        clear hX hl2
        by_cases hck : c = k
        · have HK : Hid ((if c = k then ad else ad.add k) = ad) := Lib.hid (if_pos hck)
          go_wp2_with fail
          go_ret
          refine ⟨grown_set ⟨rfl, rfl, rfl, Nat.le_refl _, fun _ _ _ => rfl⟩ 0 _, .inl ⟨_, _, _, HP.out, rfl, ⟨rfl, HX.out⟩, ?_⟩⟩
          have := HD.out
          rw [HK.out, show c - k = 0 from by omega] at this
          exact this
        · have HK : Hid ((if c = k then ad else ad.add k) = ad.add k) := Lib.hid (if_neg hck)
          go_wp2_with fail
          go_ret
          refine ⟨grown_set ⟨rfl, rfl, rfl, Nat.le_refl _, fun _ _ _ => rfl⟩ 0 _, .inl ⟨_, _, _, HP.out, rfl, ⟨rfl, HX.out⟩, ?_⟩⟩
          have := HD.out
          rw [HK.out] at this
          exact this
  · have HP : Hid (numP k l = .error 2) := Lib.hid (num_short (by omega))
    have hgt : decide ((n : Int) < k) = true := decide_eq_true (by omega)
    have KF := Lib.hid (fun w => fail_any g 2 (by decide) w)
    clear hA hrb hn hblk h
    go_enter Try.func138, Try.ntmps138
    go_wp2_with fail
    refine (KC.out _).mono ?_
    rintro e w1 ⟨rfl, rfl⟩
    go_wp2_with fail
    refine (KF.out _).mono ?_
    rintro e w1 ⟨rfl, rfl⟩
    unfold Flt
    go_wp2_with fail
    exact ⟨rfl, ⟨rfl, rfl, rfl, Nat.le_refl _, fun _ _ _ => rfl⟩, .inr ⟨2, HP.out, rfl⟩⟩
theorem whole_any (N g : Nat) (l : List Nat) (w : World) (h : RdB w N g l) :
    Calls Try.prog 141 #[.pointer (some ⟨g, 0, none⟩)] w (Reads (numP 8 l) (fun _ x v => v = .int .i64 (sI x)) N g w) := by
  have KN := Lib.hid (number_any N g 8 l w h (by decide) (by decide))
  clear h
  go_enter Try.func141, Try.ntmps141
  go_wp2_with fail
  refine KN.out.mono ?_
  rintro e w1 ⟨hg, ⟨x, r, v, hp, rfl, ⟨rfl, hx⟩, hr⟩ | ⟨er, hp, rfl⟩⟩
  · have HX := Lib.hid (And.intro hg (And.intro hp hr))
    have hw : IntKind.i64.wrap (x : Int) = sI x := rfl
    clear hg hp hr hx
    go_wp2_with fail
    go_ret
    exact ⟨HX.out.1, .inl ⟨x, r, _, HX.out.2.1, rfl, by first | rfl | (unfold sI; rw [wrapI_fst]), HX.out.2.2⟩⟩
  · unfold Flt
    go_wp2_with fail
    exact ⟨rfl, hg, .inr ⟨er, hp, rfl⟩⟩
theorem value_any (N g : Nat) (l : List Nat) (w : World) (h : RdB w N g l) :
    Calls Try.prog 142 #[.pointer (some ⟨g, 0, none⟩)] w (Reads (numP 8 l) (fun _ x v => v = .float .f64 x ∧ x < 18446744073709551616) N g w) := by
  have KN := Lib.hid (number_any N g 8 l w h (by decide) (by decide))
  clear h
  go_enter Try.func142, Try.ntmps142
  go_wp2_with fail
  refine KN.out.mono ?_
  rintro e w1 ⟨hg, ⟨x, r, v, hp, rfl, ⟨rfl, hx⟩, hr⟩ | ⟨er, hp, rfl⟩⟩
  · have HX := Lib.hid (And.intro hg (And.intro hp hr))
    have HXL := Lib.hid (show x < 18446744073709551616 from hx)
    have hf := f64from_run x
    clear hg hp hr hx
    go_wp2_with fail
    go_ret
    exact ⟨HX.out.1, .inl ⟨x, r, _, HX.out.2.1, rfl, ⟨rfl, HXL.out⟩, HX.out.2.2⟩⟩
  · unfold Flt
    go_wp2_with fail
    exact ⟨rfl, hg, .inr ⟨er, hp, rfl⟩⟩
theorem left_any (N g : Nat) (l : List Nat) (w : World) (h : RdB w N g l) :
    Calls Try.prog 137 #[.pointer (some ⟨g, 0, none⟩)] w (Says (.int .i64 (l.length : Int)) w) := by
  obtain ⟨A, c, hblk, _⟩ := h.ex
  obtain ⟨n, hn⟩ : ∃ n, l.length = n := ⟨_, rfl⟩
  rw [hn] at hblk ⊢
  have q0 := hblk.cell 0
  clear hblk hn h
  go_enter Try.func137, Try.ntmps137
  go_wp2_with fail
  go_ret
  exact ⟨rfl, rfl⟩
end Go.Proofs.Ytpekofpiodaadaa.Hb
end

section
/- The walk of node.one. -/
namespace Go.Proofs.Ytpekofpiodaadaa.Hb
set_option linter.unusedVariables false
set_option linter.unusedSimpArgs false
open Go.RowKit

theorem node_size1 : (Try.prog.info? 90).map (·.size) = some 6 := by kernel_rfl
theorem sI_in (x : Nat) : in64 (sI x) := by unfold sI in64; rw [wrapI_fst]; unfold wrap64; omega
theorem i64_small {x : Nat} (h : x < 9223372036854775808) : IntKind.i64.wrap (x : Int) = (x : Int) := by rw [wrapI_fst]; unfold wrap64; omega
set_option maxRecDepth 100000 in
set_option maxHeartbeats 8000000 in
theorem none_any (N g : Nat) (l : List Nat) (cols bins kind classes left : Int) (w : World) (h : RdB w N g l) (hleft : in64 left) :
    Calls Try.prog 183 #[.pointer (some ⟨g, 0, none⟩), .agg #[.int .i64 cols, .int .i64 bins, .int .i64 kind, .int .i64 classes], .int .i64 left] w (Reads (oneN kind left l) (fun _ x v => v = ndV x ∧ x.ok) N g w) := by
  have KN := Lib.hid (fun k l w h h1 h2 => number_any N g k l w h h1 h2)
  have KW := Lib.hid (fun l w h => whole_any N g l w h)
  have KF := Lib.hid (fun w => fail_any g 3 (by decide) w)
  have HLF := Lib.hid hleft
  have hgN := h.gN
  have hNw := h.Nw
  have hbw : Below w.heap.size w ((w.alloc (.cells #[.int .i64 cols, .int .i64 bins, .int .i64 kind, .int .i64 classes] 132)).alloc (.cells #[.int .i64 0, .int .i64 0, .int .i64 0, .int .i64 0, .int .i64 0, .int .i64 0] 90)) := ((Below.refl w.heap.size w).alloc (Nat.le_refl _) _).alloc (by simp) _
  have HR0 := Lib.hid (h.below hbw)
  have kN := Blk.new (w.alloc (.cells #[.int .i64 cols, .int .i64 bins, .int .i64 kind, .int .i64 classes] 132)) #[.int .i64 0, .int .i64 0, .int .i64 0, .int .i64 0, .int .i64 0, .int .i64 0] 90
  rw [World.size_alloc] at kN
  have kS := (Blk.new w #[.int .i64 cols, .int .i64 bins, .int .i64 kind, .int .i64 classes] 132).below ((Below.refl _ (w.alloc (.cells #[.int .i64 cols, .int .i64 bins, .int .i64 kind, .int .i64 classes] 132))).alloc (Nat.le_refl _) (.cells #[.int .i64 0, .int .i64 0, .int .i64 0, .int .i64 0, .int .i64 0, .int .i64 0] 90))
  have HG0 := Lib.hid (gr_below (row := some g) hbw)
  obtain ⟨W, hW⟩ : ∃ W, (w.alloc (.cells #[.int .i64 cols, .int .i64 bins, .int .i64 kind, .int .i64 classes] 132)).alloc (.cells #[.int .i64 0, .int .i64 0, .int .i64 0, .int .i64 0, .int .i64 0, .int .i64 0] 90) = W := ⟨_, rfl⟩
  obtain ⟨g0, hg0⟩ : ∃ z, w.heap.size = z := ⟨_, rfl⟩
  rw [hW] at HR0 kN kS HG0
  rw [hg0] at kN kS hNw
  have HKN0 := Lib.hid kN
  have HKS0 := Lib.hid kS
  have HSZ := Lib.hid hg0
  go_enter Try.func183, Try.ntmps183
  go_upto_region 1 with (fail)
  clear hbw kN kS h hW hg0 hleft
  go_wp2_with fail
  refine (KN.out 1 _ W HR0.out (by decide) (by decide)).mono ?_
  rintro e w1 ⟨hg1, ⟨x1, r1, v, hp1, rfl, ⟨rfl, hx1⟩, hr1⟩ | ⟨er, hp1, rfl⟩⟩
  rotate_left
  · unfold Flt
    go_wp2_with fail
    exact ⟨rfl, gr_trans HG0.out hg1, .inr ⟨er, by unfold oneN; exact bind_err hp1, rfl⟩⟩
  have HG1 := Lib.hid (gr_trans HG0.out hg1)
  have HR1 := Lib.hid hr1
  have HP1 := Lib.hid hp1
  have HX1 := Lib.hid hx1
  have HKS1 := Lib.hid (own_blk HKS0.out hg1 (fun e => by simp only [Option.some.injEq] at e; omega))
  have HKN1 := Lib.hid (own_blk HKN0.out hg1 (fun e => by simp only [Option.some.injEq] at e; omega))
  clear hg1 hp1 hr1 hx1
  by_cases h0 : x1 = 0
  · subst h0
    go_upto_region 4 with (fail)
    have hb2 : Below w1.heap.size w1 (w1.alloc (.cells #[.int .i64 (-1), .int .i64 0, .int .i64 0, .int .i64 0, .int .i64 0, .int .i64 0] 90)) := (Below.refl w1.heap.size w1).alloc (Nat.le_refl _) _
    have HKZ2 := Lib.hid (Blk.new w1 #[.int .i64 (-1), .int .i64 0, .int .i64 0, .int .i64 0, .int .i64 0, .int .i64 0] 90)
    have HR2 := Lib.hid (HR1.out.below hb2)
    have HG2 := Lib.hid (gr_trans HG1.out (gr_below hb2))
    have HKS2 := Lib.hid (HKS1.out.below hb2)
    have HKN2 := Lib.hid (HKN1.out.below hb2)
    have hz1 : g0 + 1 < w1.heap.size := HKN1.out.lt
    obtain ⟨W2, hW2⟩ : ∃ W, w1.alloc (.cells #[.int .i64 (-1), .int .i64 0, .int .i64 0, .int .i64 0, .int .i64 0, .int .i64 0] 90) = W := ⟨_, rfl⟩
    obtain ⟨g2, hg2e⟩ : ∃ z, w1.heap.size = z := ⟨_, rfl⟩
    rw [hW2] at HKZ2 HR2 HG2 HKS2 HKN2 ⊢
    rw [hg2e] at HKZ2 hz1 ⊢
    have s2 := HKS2.out.cell 2
    clear hb2 hW2 hg2e HR1 HG1 HKS1 HKN1
    by_cases hk : kind = 0
    · have kb : (kind == 0) = true := beq_iff_eq.2 hk
      have HK := Lib.hid hk
      clear hk
      go_wp2_with fail
      refine (KN.out 1 _ W2 HR2.out (by decide) (by decide)).mono ?_
      rintro e w3 ⟨hg3, ⟨x3, r3, v, hp3, rfl, ⟨rfl, hx3⟩, hr3⟩ | ⟨er, hp3, rfl⟩⟩
      rotate_left
      · unfold Flt
        go_wp2_with fail
        exact ⟨rfl, gr_trans HG2.out hg3, .inr ⟨er, by unfold oneN; rw [bind_ok HP1.out, if_pos rfl]; rw [if_pos HK.out]; exact bind_err hp3, rfl⟩⟩
      have HG3 := Lib.hid (gr_trans HG2.out hg3)
      have HR3 := Lib.hid hr3
      have HP3 := Lib.hid hp3
      have HX3 := Lib.hid hx3
      have HKZ3 := Lib.hid (own_blk HKZ2.out hg3 (fun e => by simp only [Option.some.injEq] at e; omega))
      have HKN3 := Lib.hid (own_blk HKN2.out hg3 (fun e => by simp only [Option.some.injEq] at e; omega))
      clear hg3 hp3 hr3 hx3
      have hw := i64_small (x := x3) (Nat.lt_trans HX3.out (by decide))
      have z0 := HKZ3.out.cell 3
      have z1 := fun i => HKZ3.out.frozen i
      have z2 := HKZ3.out.lt
      go_upto_region 8 with (fail)
      have kZ4 : Blk (w3.setCell ⟨g2, 3, none⟩ (.int .i64 (x3 : Int))) g2 #[.int .i64 (-1), .int .i64 0, .int .i64 0, .int .i64 (x3 : Int), .int .i64 0, .int .i64 0] 90 := HKZ3.out.set 3 _
      have kN4 := own_blk HKN3.out (gr_cell w3 g2 3 (.int .i64 (x3 : Int))) (fun e => by simp only [Option.some.injEq] at e; omega)
      have HR4 := Lib.hid ((HR3.out.kept (gr_cell w3 g2 3 (.int .i64 (x3 : Int))) (by omega)).kept (gr_row _ (g0 + 1) #[.int .i64 (-1), .int .i64 0, .int .i64 0, .int .i64 (x3 : Int), .int .i64 0, .int .i64 0]) (by omega))
      have HG4 := Lib.hid (gr_newrow (gr_new (i := 3) HG3.out (.int .i64 (x3 : Int)) (q := g2) (by have := HSZ.out; omega)) #[.int .i64 (-1), .int .i64 0, .int .i64 0, .int .i64 (x3 : Int), .int .i64 0, .int .i64 0] (q := g0 + 1) (by have := HSZ.out; omega))
      have hone : ∀ v ∈ (#[.int .i64 (-1), .int .i64 0, .int .i64 0, .int .i64 (x3 : Int), .int .i64 0, .int .i64 0] : Array Value).toList, v.oneCell' = true := by simp [Value.oneCell']
      obtain ⟨W4, hW4⟩ : ∃ W, w3.setCell ⟨g2, 3, none⟩ (.int .i64 (x3 : Int)) = W := ⟨_, rfl⟩
      rw [hW4] at kZ4 kN4 HR4 HG4 ⊢
      clear z0 z1 z2 hW4
      go_wp2_with (first | (refine wpList_load_row rfl 90 (.tmp 7) rfl g2 rfl 90 _ (0, 0) _ kZ4 Try.underlying90 rfl node_size1 ?_) | (refine wpList_store_row rfl 90 (.tmp 6) (.tmp 28) rfl (g0 + 1) rfl 90 _ #[.int .i64 (-1), .int .i64 0, .int .i64 0, .int .i64 (x3 : Int), .int .i64 0, .int .i64 0] rfl kN4 node_size1 rfl hone ?_))
      refine bodyPost_ret (results_cell rfl _ _ (g0 + 1) 90 #[.int .i64 (-1), .int .i64 0, .int .i64 0, .int .i64 (x3 : Int), .int .i64 0, .int .i64 0] _ rfl kN4.row Try.underlying90 rfl node_size1) rfl ⟨HG4.out, .inl ⟨⟨-1, 0, 0, x3, 0, 0⟩, r3, _, ?_, rfl, ⟨rfl, by have := HX3.out; unfold Nd.ok in64; simp only; omega⟩, HR4.out⟩⟩
      unfold oneN; rw [bind_ok HP1.out, if_pos rfl]; rw [if_pos HK.out, bind_ok HP3.out]; rfl
    · have kb : (kind == 0) = false := beq_eq_false_iff_ne.2 hk
      have HK := Lib.hid hk
      clear hk
      go_wp2_with fail
      refine (KW.out _ W2 HR2.out).mono ?_
      rintro e w3 ⟨hg3, ⟨x3, r3, v, hp3, rfl, rfl, hr3⟩ | ⟨er, hp3, rfl⟩⟩
      rotate_left
      · unfold Flt
        go_wp2_with fail
        exact ⟨rfl, gr_trans HG2.out hg3, .inr ⟨er, by unfold oneN; rw [bind_ok HP1.out, if_pos rfl]; rw [if_neg HK.out]; exact bind_err hp3, rfl⟩⟩
      have HG3 := Lib.hid (gr_trans HG2.out hg3)
      have HR3 := Lib.hid hr3
      have HP3 := Lib.hid hp3
      have HKZ3 := Lib.hid (own_blk HKZ2.out hg3 (fun e => by simp only [Option.some.injEq] at e; omega))
      have HKN3 := Lib.hid (own_blk HKN2.out hg3 (fun e => by simp only [Option.some.injEq] at e; omega))
      clear hg3 hp3 hr3
      have z0 := HKZ3.out.cell 4
      have z1 := fun i => HKZ3.out.frozen i
      have z2 := HKZ3.out.lt
      go_upto_region 7 with (fail)
      have HKZ4 : Hid (Blk (w3.setCell ⟨g2, 4, none⟩ (.int .i64 (sI x3))) g2 #[.int .i64 (-1), .int .i64 0, .int .i64 0, .int .i64 0, .int .i64 (sI x3), .int .i64 0] 90) := Lib.hid (HKZ3.out.set 4 _)
      have HKN4 := Lib.hid (own_blk HKN3.out (gr_cell w3 g2 4 (.int .i64 (sI x3))) (fun e => by simp only [Option.some.injEq] at e; omega))
      have HR4 := Lib.hid (HR3.out.kept (gr_cell w3 g2 4 (.int .i64 (sI x3))) (by omega))
      have HG4 := Lib.hid (gr_new (i := 4) HG3.out (.int .i64 (sI x3)) (q := g2) (by have := HSZ.out; omega))
      obtain ⟨W4, hW4⟩ : ∃ W, w3.setCell ⟨g2, 4, none⟩ (.int .i64 (sI x3)) = W := ⟨_, rfl⟩
      rw [hW4] at HKZ4 HKN4 HR4 HG4 ⊢
      clear z0 z1 z2 hW4 HKZ3 HKN3 HR3 HG3
      go_wp2_with fail
      refine (KN.out 4 _ W4 HR4.out (by decide) (by decide)).mono ?_
      rintro e w5 ⟨hg5, ⟨x5, r5, v, hp5, rfl, ⟨rfl, hx5⟩, hr5⟩ | ⟨er, hp5, rfl⟩⟩
      rotate_left
      · unfold Flt
        go_wp2_with fail
        exact ⟨rfl, gr_trans HG4.out hg5, .inr ⟨er, by unfold oneN; rw [bind_ok HP1.out, if_pos rfl]; rw [if_neg HK.out, bind_ok HP3.out]; exact bind_err hp5, rfl⟩⟩
      have HG5 := Lib.hid (gr_trans HG4.out hg5)
      have HR5 := Lib.hid hr5
      have HP5 := Lib.hid hp5
      have HX5 := Lib.hid hx5
      have HKZ5 := Lib.hid (own_blk HKZ4.out hg5 (fun e => by simp only [Option.some.injEq] at e; omega))
      have HKN5 := Lib.hid (own_blk HKN4.out hg5 (fun e => by simp only [Option.some.injEq] at e; omega))
      clear hg5 hp5 hr5 hx5
      have hw := i64_small (x := x5) (Nat.lt_trans HX5.out (by decide))
      have z0 := HKZ5.out.cell 5
      have z1 := fun i => HKZ5.out.frozen i
      have z2 := HKZ5.out.lt
      go_upto_region 8 with (fail)
      have kZ6 : Blk (w5.setCell ⟨g2, 5, none⟩ (.int .i64 (x5 : Int))) g2 #[.int .i64 (-1), .int .i64 0, .int .i64 0, .int .i64 0, .int .i64 (sI x3), .int .i64 (x5 : Int)] 90 := HKZ5.out.set 5 _
      have kN6 := own_blk HKN5.out (gr_cell w5 g2 5 (.int .i64 (x5 : Int))) (fun e => by simp only [Option.some.injEq] at e; omega)
      have HR6 := Lib.hid ((HR5.out.kept (gr_cell w5 g2 5 (.int .i64 (x5 : Int))) (by omega)).kept (gr_row _ (g0 + 1) #[.int .i64 (-1), .int .i64 0, .int .i64 0, .int .i64 0, .int .i64 (sI x3), .int .i64 (x5 : Int)]) (by omega))
      have HG6 := Lib.hid (gr_newrow (gr_new (i := 5) HG5.out (.int .i64 (x5 : Int)) (q := g2) (by have := HSZ.out; omega)) #[.int .i64 (-1), .int .i64 0, .int .i64 0, .int .i64 0, .int .i64 (sI x3), .int .i64 (x5 : Int)] (q := g0 + 1) (by have := HSZ.out; omega))
      have hone : ∀ v ∈ (#[.int .i64 (-1), .int .i64 0, .int .i64 0, .int .i64 0, .int .i64 (sI x3), .int .i64 (x5 : Int)] : Array Value).toList, v.oneCell' = true := by simp [Value.oneCell']
      obtain ⟨W6, hW6⟩ : ∃ W, w5.setCell ⟨g2, 5, none⟩ (.int .i64 (x5 : Int)) = W := ⟨_, rfl⟩
      rw [hW6] at kZ6 kN6 HR6 HG6 ⊢
      clear z0 z1 z2 hW6
      go_wp2_with (first | (refine wpList_load_row rfl 90 (.tmp 7) rfl g2 rfl 90 _ (0, 0) _ kZ6 Try.underlying90 rfl node_size1 ?_) | (refine wpList_store_row rfl 90 (.tmp 6) (.tmp 28) rfl (g0 + 1) rfl 90 _ #[.int .i64 (-1), .int .i64 0, .int .i64 0, .int .i64 0, .int .i64 (sI x3), .int .i64 (x5 : Int)] rfl kN6 node_size1 rfl hone ?_))
      refine bodyPost_ret (results_cell rfl _ _ (g0 + 1) 90 #[.int .i64 (-1), .int .i64 0, .int .i64 0, .int .i64 0, .int .i64 (sI x3), .int .i64 (x5 : Int)] _ rfl kN6.row Try.underlying90 rfl node_size1) rfl ⟨HG6.out, .inl ⟨⟨-1, 0, 0, 0, sI x3, x5⟩, r5, _, ?_, rfl, ⟨rfl, by have h1 := HX5.out; have h2 := sI_in x3; unfold Nd.ok; unfold in64 at h2 ⊢; simp only; omega⟩, HR6.out⟩⟩
      unfold oneN; rw [bind_ok HP1.out, if_pos rfl]; rw [if_neg HK.out, bind_ok HP3.out, bind_ok HP5.out]; rfl
  · have e0 : ((x1 : Int) == 0) = false := beq_eq_false_iff_ne.2 (by omega)
    have HZ0 := Lib.hid h0
    clear h0
    by_cases h1 : x1 = 1
    · subst h1
      clear e0
      go_wp2_with fail
      refine (KN.out 2 _ w1 HR1.out (by decide) (by decide)).mono ?_
      rintro e w2 ⟨hg2, ⟨x2, r2, v, hp2, rfl, ⟨rfl, hx2⟩, hr2⟩ | ⟨er, hp2, rfl⟩⟩
      rotate_left
      · unfold Flt
        go_wp2_with fail
        exact ⟨rfl, gr_trans HG1.out hg2, .inr ⟨er, by unfold oneN; rw [bind_ok HP1.out, if_neg (by decide), if_pos rfl]; exact bind_err hp2, rfl⟩⟩
      have HG2 := Lib.hid (gr_trans HG1.out hg2)
      have HR2 := Lib.hid hr2
      have HP2 := Lib.hid hp2
      have HX2 := Lib.hid hx2
      have HKN2 := Lib.hid (own_blk HKN1.out hg2 (fun e => by simp only [Option.some.injEq] at e; omega))
      clear hg2 hp2 hr2 hx2
      have hw := i64_small (x := x2) (Nat.lt_trans HX2.out (by decide))
      go_wp2_with fail
      refine (KN.out 2 _ w2 HR2.out (by decide) (by decide)).mono ?_
      rintro e w3 ⟨hg3, ⟨x3, r3, v, hp3, rfl, ⟨rfl, hx3⟩, hr3⟩ | ⟨er, hp3, rfl⟩⟩
      rotate_left
      · unfold Flt
        go_wp2_with fail
        exact ⟨rfl, gr_trans HG2.out hg3, .inr ⟨er, by unfold oneN; rw [bind_ok HP1.out, if_neg (by decide), if_pos rfl]; rw [bind_ok HP2.out]; exact bind_err hp3, rfl⟩⟩
      have HG3 := Lib.hid (gr_trans HG2.out hg3)
      have HR3 := Lib.hid hr3
      have HP3 := Lib.hid hp3
      have HX3 := Lib.hid hx3
      have HKN3 := Lib.hid (own_blk HKN2.out hg3 (fun e => by simp only [Option.some.injEq] at e; omega))
      clear hg3 hp3 hr3 hx3
      have hw3 := i64_small (x := x3) (Nat.lt_trans HX3.out (by decide))
      have kN4 := HKN3.out
      have hone : ∀ v ∈ (#[.int .i64 (x2 : Int), .int .i64 (x3 : Int), .int .i64 left, .int .i64 0, .int .i64 0, .int .i64 0] : Array Value).toList, v.oneCell' = true := by simp [Value.oneCell']
      have HR4 := Lib.hid (HR3.out.kept (gr_row _ (g0 + 1) #[.int .i64 (x2 : Int), .int .i64 (x3 : Int), .int .i64 left, .int .i64 0, .int .i64 0, .int .i64 0]) (by omega))
      have HG4 := Lib.hid (gr_newrow HG3.out #[.int .i64 (x2 : Int), .int .i64 (x3 : Int), .int .i64 left, .int .i64 0, .int .i64 0, .int .i64 0] (q := g0 + 1) (by have := HSZ.out; omega))
      go_wp2_with (refine wpList_store_row rfl 90 (.tmp 6) (.tmp 39) rfl (g0 + 1) rfl 90 _ #[.int .i64 (x2 : Int), .int .i64 (x3 : Int), .int .i64 left, .int .i64 0, .int .i64 0, .int .i64 0] rfl kN4 node_size1 rfl hone ?_)
      refine bodyPost_ret (results_cell rfl _ _ (g0 + 1) 90 #[.int .i64 (x2 : Int), .int .i64 (x3 : Int), .int .i64 left, .int .i64 0, .int .i64 0, .int .i64 0] _ rfl kN4.row Try.underlying90 rfl node_size1) rfl ⟨HG4.out, .inl ⟨⟨x2, x3, left, 0, 0, 0⟩, r3, _, ?_, rfl, ⟨rfl, by have h1 := HX2.out; have h2 := HX3.out; have h3 := HLF.out; unfold Nd.ok; unfold in64 at h3 ⊢; simp only; omega⟩, HR4.out⟩⟩
      unfold oneN; rw [bind_ok HP1.out, if_neg (by decide), if_pos rfl]; rw [bind_ok HP2.out, bind_ok HP3.out]; rfl
    · have e1 : ((x1 : Int) == 1) = false := beq_eq_false_iff_ne.2 (by omega)
      have HZ1 := Lib.hid h1
      clear h1
      go_wp2_with fail
      refine (KF.out _).mono ?_
      rintro e w2 ⟨rfl, rfl⟩
      unfold Flt
      go_wp2_with fail
      exact ⟨rfl, HG1.out, .inr ⟨3, by unfold oneN; rw [bind_ok HP1.out, if_neg HZ0.out, if_neg HZ1.out]; rfl, rfl⟩⟩
end Go.Proofs.Ytpekofpiodaadaa.Hb
end

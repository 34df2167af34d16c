/- The walk of shard.Parts, of any number of parts. -/
import Derived.Test.YteckbgpkoanhfaaHbParts1
namespace Go.Proofs.Yteckbgpkoanhfaa.Hb
set_option linter.unusedVariables false
open Go.RowKit

theorem boxes5 (w : World) (X0 X1 X2 X3 X4 : Array Value) (t0 t1 t2 t3 t4 : TypeId) (W : World) (h : W = ((((w.alloc (.cells X0 t0)).alloc (.cells X1 t1)).alloc (.cells X2 t2)).alloc (.cells X3 t3)).alloc (.cells X4 t4)) :
    Blk W (w.heap.size + 1 + 1 + 1) X3 t3 ∧ Blk W (w.heap.size + 1 + 1 + 1 + 1) X4 t4 ∧ Below w.heap.size w W := by
  subst h
  refine ⟨?_, ?_, ?_⟩
  case refine_3 => exact (((((Below.refl _ w).alloc (Nat.le_refl _) _).alloc (by simp) _).alloc (by simp; omega) _).alloc (by simp; omega) _).alloc (by simp; omega) _
  all_goals
    unfold Blk World.alloc
    rw [Array.getElem?_eq_getElem (by simp <;> omega)]
    simp only [Array.getElem_push, Array.size_push]
    congr 1
    simp (disch := omega) only [dif_pos, dif_neg]
set_option maxRecDepth 100000 in
set_option maxHeartbeats 1000000 in
theorem sparts_no (s : Smp) (A1 A2 A3 : Option Addr) (c1 c2 c3 : Nat) (col : Int) (is : List Int) (Ar : Option Addr) (cr : Nat) (p : Int) (w : World) (hp : ¬ (1 ≤ p ∧ p ≤ 64)) :
    Calls Try.prog 36 #[.agg (smpC s A1 A2 A3 c1 c2 c3), .int .i64 col, .slice Ar is.length cr, .int .i64 p] w (ResH (partsO s col is p) w) := by
  have hpo : partsO s col is p = .error 1 := by unfold partsO; rw [if_neg hp]
  rw [hpo]
  have hmay := fun w => smay_any p w
  rw [decide_eq_false hp] at hmay
  have KM := Lib.hid hmay
  obtain ⟨n, hn⟩ : ∃ n, is.length = n := ⟨_, rfl⟩
  rw [hn]
  unfold smpC
  clear hmay hpo hp hn
  go_enter Try.func36, Try.ntmps36
  go_wp2_with fail
  obtain ⟨W0, e0⟩ : ∃ W, W = ((((w.alloc (.cells #[.int .i64 s.k, .int .i64 s.cl, .int .i64 s.b, .int .i64 s.t, .int .i64 s.d, .int .i64 s.l, .int .i64 s.p, .int .i64 s.rows, .int .i64 s.cols, .slice A1 s.cells.length c1, .slice A2 s.tgt.length c2, .slice A3 s.wgt.length c3] 72)).alloc (.cells #[.int .i64 col] 3)).alloc (.cells #[.slice Ar n cr] 70)).alloc (.cells #[.int .i64 0, .int .i64 0, .int .i64 0, .slice none 0 0, .slice none 0 0] 36)).alloc (.cells #[.int .i64 0] 37) := ⟨_, rfl⟩
  rw [← e0]
  obtain ⟨b3, b4, bB⟩ := boxes5 w _ _ _ _ _ _ _ _ _ _ W0 e0
  clear e0
  refine (KM.out _).mono ?_
  rintro e w1 ⟨rfl, rfl⟩
  obtain ⟨z0, z1, z2, z3, z4⟩ := b3.cells5
  have zf := b3.frozen
  have y0 := b4.cell 0
  have yf := b4.frozen
  have n34 : w.heap.size + 1 + 1 + 1 + 1 ≠ w.heap.size + 1 + 1 + 1 := by omega
  have n43 : w.heap.size + 1 + 1 + 1 ≠ w.heap.size + 1 + 1 + 1 + 1 := by omega
  go_wp2
  refine bodyPost_ret (results_cc rfl _ _ (w.heap.size + 1 + 1 + 1) (w.heap.size + 1 + 1 + 1 + 1) 36 37 _ _ _ rfl rfl ((set5 b3 _ _ _ _ _).other (p := ⟨w.heap.size + 1 + 1 + 1 + 1, 0, none⟩) n43 _) (Blk.set (((((b4.other (p := ⟨w.heap.size + 1 + 1 + 1, 0, none⟩) n34 _).other (p := ⟨w.heap.size + 1 + 1 + 1, 1, none⟩) n34 _).other (p := ⟨w.heap.size + 1 + 1 + 1, 2, none⟩) n34 _).other (p := ⟨w.heap.size + 1 + 1 + 1, 3, none⟩) n34 _).other (p := ⟨w.heap.size + 1 + 1 + 1, 4, none⟩) n34 _) 0 _) Try.underlying36 rfl size_hist Try.underlying37) rfl ?_
  exact ⟨_, rfl, HNew.zero _ _, (below5 bB (by omega) _ _ _ _ _).setCell (p := ⟨w.heap.size + 1 + 1 + 1 + 1, 0, none⟩) (by show w.heap.size ≤ w.heap.size + 1 + 1 + 1 + 1; omega) _⟩
theorem sparts_any (s : Smp) (A1 A2 A3 : Option Addr) (c1 c2 c3 : Nat) (col : Int) (is : List Int) (Ar : Option Addr) (cr : Nat) (p : Int) (w : World) (RS : RdS w s A1 A2 A3) (RI : RdI w Ar is) (hli : is.length ≤ 9223372036854775807) (hcc : s.cells.length ≤ c1) (hcr : is.length ≤ cr) :
    Calls Try.prog 36 #[.agg (smpC s A1 A2 A3 c1 c2 c3), .int .i64 col, .slice Ar is.length cr, .int .i64 p] w (ResH (partsO s col is p) w) := by
  by_cases hp : 1 ≤ p ∧ p ≤ 64
  · exact sparts_yes s A1 A2 A3 c1 c2 c3 col is Ar cr p w RS RI hli hcc hcr hp.1 hp.2
  · exact sparts_no s A1 A2 A3 c1 c2 c3 col is Ar cr p w hp
end Go.Proofs.Yteckbgpkoanhfaa.Hb

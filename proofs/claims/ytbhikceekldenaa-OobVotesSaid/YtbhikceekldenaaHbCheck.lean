/- The walk of layer config: Check. -/
import Derived.Test.YtbhikceekldenaaHbRow
import Derived.Deep.DeepCutAuto
namespace Go.Proofs.Ytbhikceekldenaa.Hb
open Go.RowKit

def stepC (n low high rest : Int) : Int := if n < low then 3 else if n > high then 4 else rest
def lowC (k : Int) : Int := if k = 1 then 0 else 2
/-- What is wrong with a config. -/
def checkO (k cl b t d l p : Int) : Int :=
  if k < 0 ∨ k > 1 then 3 else if cl < lowC k then 3 else if k = 1 ∧ cl ≠ 0 then 3 else if cl > 256 then 4
  else stepC b 2 256 (stepC t 1 4096 (stepC d 0 32 (stepC l 1 1048576 (stepC p 1 1024 0))))
/-- .. and what is left of that behind some fields. -/
def tailC (k cl b t d l p : Int) : Nat → Int
  | 0 => checkO k cl b t d l p
  | 1 => if cl < lowC k then 3 else if k = 1 ∧ cl ≠ 0 then 3 else if cl > 256 then 4 else stepC b 2 256 (stepC t 1 4096 (stepC d 0 32 (stepC l 1 1048576 (stepC p 1 1024 0))))
  | 2 => stepC b 2 256 (stepC t 1 4096 (stepC d 0 32 (stepC l 1 1048576 (stepC p 1 1024 0))))
  | 3 => stepC t 1 4096 (stepC d 0 32 (stepC l 1 1048576 (stepC p 1 1024 0)))
  | 4 => stepC d 0 32 (stepC l 1 1048576 (stepC p 1 1024 0))
  | 5 => stepC l 1 1048576 (stepC p 1 1024 0)
  | 6 => stepC p 1 1024 0
  | _ => 0
def fieldsV (k cl b t d l p : Int) : Value :=
  .agg #[.int .i64 k, .int .i64 0, .int .i64 1, .int .i64 1, .int .i64 cl, .int .i64 (lowC k), .int .i64 256, .int .i64 2, .int .i64 b, .int .i64 2, .int .i64 256, .int .i64 2, .int .i64 t, .int .i64 1, .int .i64 4096, .int .i64 2,
    .int .i64 d, .int .i64 0, .int .i64 32, .int .i64 1, .int .i64 l, .int .i64 1, .int .i64 1048576, .int .i64 4, .int .i64 p, .int .i64 1, .int .i64 1024, .int .i64 2]
theorem ret_i64 {a b : Int} (h : a = b) : Ending.returned (.int .i64 a) = .returned (.int .i64 b) := by rw [h]
/-- A result that lies in memory. -/
theorem results_cell {P : Program} {fn : Func} {p : Tmp} {ty : TypeId} (h : fn.results = #[.cell p ty]) (tmps : Array Value) (w : World) (g : Nat) (t : TypeId) (cs : Array Value) (d : TypeDesc)
    (hp : tmps.getD p undef = .pointer (some ⟨g, 0, none⟩)) (hg : Blk w g cs t)
    (hu : P.underlying ty = some d) (hd : (match d with | .struct _ | .array _ _ => true | _ => false) = true) (hi : (P.info? ty).map (·.size) = some cs.size) :
    (results fn tmps).run P w = .ok (.agg cs) w := by
  have hp' : tmps[p]?.getD undef = .pointer (some ⟨g, 0, none⟩) := by simpa using hp
  simp [results, h, hp', asAddr, run_loadVar_row w g t ty cs (0, 0) d hg hu hd hi]

theorem size_fields : (Try.prog.info? 119).map (·.size) = some 28 := by kernel_rfl
theorem fields_tail (k cl lo b t d l p : Int) : ∀ v ∈ (#[.int .i64 k, .int .i64 0, .int .i64 1, .int .i64 1, .int .i64 cl, .int .i64 lo, .int .i64 256, .int .i64 2, .int .i64 b, .int .i64 2, .int .i64 256, .int .i64 2, .int .i64 t, .int .i64 1, .int .i64 4096, .int .i64 2,
    .int .i64 d, .int .i64 0, .int .i64 32, .int .i64 1, .int .i64 l, .int .i64 1, .int .i64 1048576, .int .i64 4, .int .i64 p, .int .i64 1, .int .i64 1024, .int .i64 2] : Array Value).toList, v.oneCell' = true := by
  simp [Value.oneCell']
theorem boxes_f (w : World) (X1 X2 X3 : Array Value) (t1 t2 t3 : TypeId) (W : World) (h : W = ((w.alloc (.cells X1 t1)).alloc (.cells X2 t2)).alloc (.cells X3 t3)) :
    Blk W w.heap.size X1 t1 ∧ Blk W (w.heap.size + 1) X2 t2 ∧ Blk W (w.heap.size + 1 + 1) X3 t3 ∧ Below w.heap.size w W := by
  subst h
  refine ⟨?_, ?_, ?_, ?_⟩
  · exact ((Blk.new w X1 t1).below ((Below.refl _ _).alloc (Nat.le_refl _) _)).below ((Below.refl _ _).alloc (Nat.le_refl _) _)
  · have := (Blk.new (w.alloc (.cells X1 t1)) X2 t2).below ((Below.refl _ _).alloc (Nat.le_refl _) (.cells X3 t3))
    simpa using this
  · have := Blk.new ((w.alloc (.cells X1 t1)).alloc (.cells X2 t2)) X3 t3
    simpa using this
  · exact (((Below.refl _ w).alloc (Nat.le_refl _) _).alloc (by simp) _).alloc (by simp; omega) _
def zero28 : Array Value := #[.int .i64 0, .int .i64 0, .int .i64 0, .int .i64 0, .int .i64 0, .int .i64 0, .int .i64 0, .int .i64 0, .int .i64 0, .int .i64 0, .int .i64 0, .int .i64 0, .int .i64 0, .int .i64 0, .int .i64 0, .int .i64 0, .int .i64 0, .int .i64 0, .int .i64 0, .int .i64 0, .int .i64 0, .int .i64 0, .int .i64 0, .int .i64 0, .int .i64 0, .int .i64 0, .int .i64 0, .int .i64 0]

set_option maxRecDepth 100000 in
set_option maxHeartbeats 4000000 in
theorem fields_any (k cl b t d l p : Int) (w : World) : Calls Try.prog 68 #[.agg #[.int .i64 k, .int .i64 cl, .int .i64 b, .int .i64 t, .int .i64 d, .int .i64 l, .int .i64 p]] w fun e w' => e = .returned (fieldsV k cl b t d l p) ∧ Below w.heap.size w w' := by
  obtain ⟨lo, hlo⟩ : ∃ lo, lowC k = lo := ⟨_, rfl⟩
  unfold fieldsV
  rw [hlo]
  by_cases hk : k = 1
  · obtain rfl : lo = 0 := by rw [← hlo]; exact if_pos hk
    have k1 : (k == 1) = true := beq_iff_eq.2 hk
    clear hk hlo
    go_enter Try.func68, Try.ntmps68
    go_upto_region 4 with (fail)
    obtain ⟨W, e⟩ : ∃ W, W = ((w.alloc (.cells #[.int .i64 k, .int .i64 cl, .int .i64 b, .int .i64 t, .int .i64 d, .int .i64 l, .int .i64 p] 23)).alloc (.cells zero28 119)).alloc (.cells #[.int .i64 cl, .int .i64 0, .int .i64 256, .int .i64 2] 118) := ⟨_, rfl⟩
    have e' := e
    unfold zero28 at e'
    rw [← e']
    obtain ⟨kA, kB, kC, be⟩ := boxes_f w _ _ _ _ _ _ W e
    clear e e'
    have a0 := kA.cell 0
    have a1 := kA.cell 1
    have a2 := kA.cell 2
    have a3 := kA.cell 3
    have a4 := kA.cell 4
    have a5 := kA.cell 5
    have a6 := kA.cell 6
    have c0 := kC.cell 0
    have c1 := kC.cell 1
    have c2 := kC.cell 2
    have c3 := kC.cell 3
    simp only [List.getElem?_toArray, List.getElem?_cons_zero, List.getElem?_cons_succ] at a0 a1 a2 a3 a4 a5 a6 c0 c1 c2 c3
    go_wp2_with (refine wpList_store_row rfl 119 (.tmp 2) (.tmp 30) rfl (w.heap.size + 1) rfl 119 _ _ rfl kB size_fields rfl (fields_tail k cl 0 b t d l p) ?_)
    exact bodyPost_ret (results_cell rfl _ _ (w.heap.size + 1) 119 _ _ rfl kB.row Try.underlying119 rfl size_fields) rfl ⟨rfl, below_row0 be (by omega)⟩
  · obtain rfl : lo = 2 := by rw [← hlo]; exact if_neg hk
    have k1 : (k == 1) = false := beq_eq_false_iff_ne.2 hk
    clear hk hlo
    go_enter Try.func68, Try.ntmps68
    go_upto_region 4 with (fail)
    obtain ⟨W, e⟩ : ∃ W, W = ((w.alloc (.cells #[.int .i64 k, .int .i64 cl, .int .i64 b, .int .i64 t, .int .i64 d, .int .i64 l, .int .i64 p] 23)).alloc (.cells zero28 119)).alloc (.cells #[.int .i64 cl, .int .i64 2, .int .i64 256, .int .i64 2] 118) := ⟨_, rfl⟩
    have e' := e
    unfold zero28 at e'
    rw [← e']
    obtain ⟨kA, kB, kC, be⟩ := boxes_f w _ _ _ _ _ _ W e
    clear e e'
    have a0 := kA.cell 0
    have a1 := kA.cell 1
    have a2 := kA.cell 2
    have a3 := kA.cell 3
    have a4 := kA.cell 4
    have a5 := kA.cell 5
    have a6 := kA.cell 6
    have c0 := kC.cell 0
    have c1 := kC.cell 1
    have c2 := kC.cell 2
    have c3 := kC.cell 3
    simp only [List.getElem?_toArray, List.getElem?_cons_zero, List.getElem?_cons_succ] at a0 a1 a2 a3 a4 a5 a6 c0 c1 c2 c3
    go_wp2_with (refine wpList_store_row rfl 119 (.tmp 2) (.tmp 30) rfl (w.heap.size + 1) rfl 119 _ _ rfl kB size_fields rfl (fields_tail k cl 2 b t d l p) ?_)
    exact bodyPost_ret (results_cell rfl _ _ (w.heap.size + 1) 119 _ _ rfl kB.row Try.underlying119 rfl size_fields) rfl ⟨rfl, below_row0 be (by omega)⟩
end Go.Proofs.Ytbhikceekldenaa.Hb

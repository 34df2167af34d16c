/- The walks of layer hist: New, moment, Add. -/
import Derived.Test.YteckbgpkoanhfaaHbHistC
namespace Go.Proofs.Yteckbgpkoanhfaa.Hb
open Go.RowKit

/-- A histogram of zeros. -/
def newO (k b c : Int) : Except Int H := if mayP k b c then
    (if k = 0 then .ok ⟨k, b, c, List.replicate (b * c).toNat 0, []⟩ else .ok ⟨k, b, c, [], List.replicate b.toNat m0⟩)
  else .error 1
theorem new_not {k b c : Int} (h : ¬ mayP k b c) : newO k b c = .error 1 := if_neg h
theorem new_0 {k b c : Int} (h : mayP k b c) (hk : k = 0) : newO k b c = .ok ⟨k, b, c, List.replicate (b * c).toNat 0, []⟩ := by unfold newO; rw [if_pos h, if_pos hk]
theorem new_1 {k b c : Int} (h : mayP k b c) (hk : ¬ k = 0) : newO k b c = .ok ⟨k, b, c, [], List.replicate b.toNat m0⟩ := by unfold newO; rw [if_pos h, if_neg hk]
theorem info_int : (Try.prog.info? 2).map (fun i => (i.zero, i.size, i.bytes)) = some (some (.int .i64 0), 1, 8) := by kernel_rfl


theorem below_grown {w w' : World} (h : w.grownBy w' none) (B : Nat) (hB : B ≤ w.heap.size) : Below B w w' := ⟨h.os, h.tape, h.output, h.size, fun k hk => h.block k (Nat.lt_of_lt_of_le hk hB) (by simp)⟩
theorem boxes2 {w w' : World} {X1 X2 : Array Value} {t1 t2 : TypeId} (h : ((w.alloc (.cells X1 t1)).alloc (.cells X2 t2)).grownBy w' none) :
    Blk w' w.heap.size X1 t1 ∧ Blk w' (w.heap.size + 1) X2 t2 ∧ Below w.heap.size w w' ∧ w.heap.size + 1 < w'.heap.size := by
  have hb := below_grown h _ (Nat.le_refl _)
  refine ⟨?_, ?_, ?_, ?_⟩
  · exact ((Blk.new w X1 t1).below ((Below.refl _ _).alloc (Nat.le_refl _) _)).below hb
  · have := (Blk.new (w.alloc (.cells X1 t1)) X2 t2).below hb
    simpa using this
  · exact (((Below.refl _ w).alloc (Nat.le_refl _) _).alloc (by simp) _).trans (below_grown h _ (by simp; omega))
  · have := h.size; simp at this; omega
theorem ints_zeros (n : Nat) : ints (List.replicate n 0) = List.replicate n (.int .i64 0) := by simp [ints]
theorem momC_zeros (n : Nat) : momC (List.replicate n m0) = (madeCells (Value.agg #[(.int .i64 0), (.int .i64 0), (.int .i64 0)]).cells (n * 3)).toList := by
  apply List.ext_getElem
  · simp [momC, madeCells]
  · intro i h1 h2
    have e1 : ∀ x ∈ momC (List.replicate n m0), x = .int .i64 0 := by
      intro x hx
      simp only [momC, List.mem_flatMap, List.mem_replicate] at hx
      obtain ⟨y, ⟨_, rfl⟩, hx⟩ := hx
      simpa [m0] using hx
    rw [e1 _ (List.getElem_mem h1)]
    have hm : i % 3 < 3 := Nat.mod_lt _ (by omega)
    simp only [madeCells, Value.cells, Array.toList_map, Array.toList_range, List.getElem_map, List.getElem_range]
    obtain e | e | e : i % 3 = 0 ∨ i % 3 = 1 ∨ i % 3 = 2 := by omega
    all_goals simp [e]

set_option maxRecDepth 100000 in
set_option maxHeartbeats 4000000 in
theorem new_any (k b c : Int) (w : World) : Calls Try.prog 17 #[.int .i64 k, .int .i64 b, .int .i64 c] w (ResH (newO k b c) w) := by
  have hm0 := may_any k b c
  by_cases h0 : mayP k b c
  · rw [show mayB k b c = true from decide_eq_true h0] at hm0
    have HM := Lib.hid hm0
    have H0 := Lib.hid h0
    clear hm0
    by_cases hk : k = 0
    · rw [new_0 h0 hk]
      obtain ⟨i0, hi, hz0, hz1, hz2⟩ := info_parts info_int
      have hk' : (k == 0) = true := beq_iff_eq.2 hk
      obtain ⟨b1, b2, b3⟩ := h0
      have bc := bins_classes b1 b2 (show 2 ≤ c by omega) (show c ≤ 256 by omega)
      obtain ⟨n, hn⟩ : ∃ n : Nat, b * c = n := ⟨(b * c).toNat, by omega⟩
      clear hk b3 b1 b2
      go_enter Try.func17, Try.ntmps17
      go_wp2_with (first
        | (go_at_call 43; refine (HM.out _).mono ?_; rintro e w1 ⟨rfl, rfl⟩)
        | (at_make; refine wpList_make_full _ rfl _ _ 33 rfl w.heap.size 2 i0 (.int .i64 0) 1 Try.underlying33 hi hz0 hz1 .i64 .i64 _ _ n rfl rfl rfl rfl (by rw [hz2]; omega) (by unfold maxLen; omega) (by simp; omega) ?_; intro w' hown hgrow; obtain ⟨kA, kB, hbe, hsz⟩ := boxes2 hgrow; obtain ⟨p0, p1, p2, p3, p4⟩ := kA.cells5; obtain ⟨q0, q1, q2, q3, q4⟩ := kB.cells5; have pf := kA.frozen; have qf := kB.frozen))
      simp only [World.size_alloc] at hown
      have hrow : w'.ownsRow w.heap.size 2 1 (.slice (some ⟨w.heap.size + 1 + 1, 0, none⟩) n n) (List.replicate n (0 : Int)).length (ints (List.replicate n 0)) := by
        rw [Nat.mul_one] at hown
        rw [List.length_replicate, ints_zeros, ← toList_madeCells_one]
        exact hown
      have hl : (List.replicate n (0 : Int)).length = n := List.length_replicate
      have hne : w.heap.size ≠ w.heap.size + 1 := by omega
      refine bodyPost_ret (results_ct rfl _ _ w.heap.size 36 _ _ rfl (set5 (kA.other (p := ⟨w.heap.size + 1, 3, none⟩) hne _) _ _ _ _ _) Try.underlying36 rfl size_hist) rfl ?_
      rw [hn, Int.toNat_natCast]
      exact ⟨_, rfl, ⟨_, _, rfl, own_set5 (own_set hrow kB (by decide)) (kA.other (p := ⟨w.heap.size + 1, 3, none⟩) hne _) (by decide) _ _ _ _ _, World.ownsRow_nil _ _ _ _⟩, below5 (hbe.setCell (p := ⟨w.heap.size + 1, 3, none⟩) (by show w.heap.size ≤ w.heap.size + 1; omega) _) (Nat.le_refl _) _ _ _ _ _⟩
    · rw [new_1 h0 hk]
      obtain ⟨i0, hi, hz0, hz1, hz2⟩ := info_parts info_mom
      have hk' : (k == 0) = false := beq_eq_false_iff_ne.2 hk
      obtain ⟨b1, b2, b3⟩ := h0
      obtain ⟨n, hn⟩ : ∃ n : Nat, b = n := ⟨b.toNat, by omega⟩
      clear hk b3
      subst hn
      go_enter Try.func17, Try.ntmps17
      go_wp2_with (first
        | (go_at_call 43; refine (HM.out _).mono ?_; rintro e w1 ⟨rfl, rfl⟩)
        | (at_make; refine wpList_make_full _ rfl _ _ 34 rfl w.heap.size 52 i0 (.agg #[(.int .i64 0), (.int .i64 0), (.int .i64 0)]) 3 Try.underlying34 hi hz0 hz1 .i64 .i64 _ _ n rfl rfl rfl rfl (by rw [hz2]; omega) (by unfold maxLen; omega) (by simp; omega) ?_; intro w' hown hgrow; obtain ⟨kA, kB, hbe, hsz⟩ := boxes2 hgrow; obtain ⟨p0, p1, p2, p3, p4⟩ := kA.cells5; obtain ⟨q0, q1, q2, q3, q4⟩ := kB.cells5; have pf := kA.frozen; have qf := kB.frozen))
      simp only [World.size_alloc] at hown
      have hrow : w'.ownsRow w.heap.size 52 3 (.slice (some ⟨w.heap.size + 1 + 1, 0, none⟩) n n) (List.replicate n m0).length (momC (List.replicate n m0)) := by
        rw [List.length_replicate, momC_zeros]
        exact hown
      have hne : w.heap.size ≠ w.heap.size + 1 := by omega
      refine bodyPost_ret (results_ct rfl _ _ w.heap.size 36 _ _ rfl (set5 (kA.other (p := ⟨w.heap.size + 1, 4, none⟩) hne _) _ _ _ _ _) Try.underlying36 rfl size_hist) rfl ?_
      rw [Int.toNat_natCast]
      exact ⟨_, rfl, ⟨_, _, rfl, World.ownsRow_nil _ _ _ _, own_set5 (own_set hrow kB (by decide)) (kA.other (p := ⟨w.heap.size + 1, 4, none⟩) hne _) (by decide) _ _ _ _ _⟩, below5 (hbe.setCell (p := ⟨w.heap.size + 1, 4, none⟩) (by show w.heap.size ≤ w.heap.size + 1; omega) _) (Nat.le_refl _) _ _ _ _ _⟩
  · rw [show mayB k b c = false from decide_eq_false h0] at hm0
    have HM := Lib.hid hm0
    clear hm0
    rw [new_not h0]
    clear h0
    go_enter Try.func17, Try.ntmps17
    go_wp2_with (go_at_call 43; refine (HM.out _).mono ?_; rintro e w1 ⟨rfl, rfl⟩)
    refine bodyPost_ret (results_ct rfl _ _ w.heap.size 36 _ _ rfl (Blk.new w _ _) Try.underlying36 rfl size_hist) rfl ?_
    exact ⟨_, rfl, HNew.zero _ _, (Below.refl _ _).alloc (Nat.le_refl _) _⟩
end Go.Proofs.Yteckbgpkoanhfaa.Hb

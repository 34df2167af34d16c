/- Texts joined: the walks and the plain laws that the claim ModelPuts rests on. -/
import Derived.Test.YtpekofpiodaadaaMModelPuts3
import Derived.Defers
import Derived.Recover
import Derived.Laws.Pointers
import Derived.Test.YtpekofpiodaadaaMModelPuts2
import Derived.BigQuiet
section
/- The walk of node.one. -/
namespace Go.Proofs.Ytpekofpiodaadaa.Hb
set_option linter.unusedVariables false
set_option linter.unusedSimpArgs false
open Go.RowKit

theorem node_size1 : (Try.prog.info? 90).map (·.size) = some 6 := by kernel_rfl
theorem sI_in (x : Nat) : in64 (sI x) := by unfold sI in64; rw [wrapI_fst]; unfold wrap64; omega
theorem i64_small {x : Nat} (h : x < 9223372036854775808) : IntKind.i64.wrap (x : Int) = (x : Int) := by rw [wrapI_fst]; unfold wrap64; omega
set_option maxRecDepth 100000 in
set_option maxHeartbeats 8000000 in
theorem none_any (N g : Nat) (l : List Nat) (cols bins kind classes left : Int) (w : World) (h : RdB w N g l) (hleft : in64 left) :
    Calls Try.prog 183 #[.pointer (some ⟨g, 0, none⟩), .agg #[.int .i64 cols, .int .i64 bins, .int .i64 kind, .int .i64 classes], .int .i64 left] w (Reads (oneN kind left l) (fun _ x v => v = ndV x ∧ x.ok) N g w) := by
  have KN := Lib.hid (fun k l w h h1 h2 => number_any N g k l w h h1 h2)
  have KW := Lib.hid (fun l w h => whole_any N g l w h)
  have KF := Lib.hid (fun w => fail_any g 3 (by decide) w)
  have HLF := Lib.hid hleft
  have hgN := h.gN
  have hNw := h.Nw
  have hbw : Below w.heap.size w ((w.alloc (.cells #[.int .i64 cols, .int .i64 bins, .int .i64 kind, .int .i64 classes] 132)).alloc (.cells #[.int .i64 0, .int .i64 0, .int .i64 0, .int .i64 0, .int .i64 0, .int .i64 0] 90)) := ((Below.refl w.heap.size w).alloc (Nat.le_refl _) _).alloc (by simp) _
  have HR0 := Lib.hid (h.below hbw)
  have kN := Blk.new (w.alloc (.cells #[.int .i64 cols, .int .i64 bins, .int .i64 kind, .int .i64 classes] 132)) #[.int .i64 0, .int .i64 0, .int .i64 0, .int .i64 0, .int .i64 0, .int .i64 0] 90
  rw [World.size_alloc] at kN
  have kS := (Blk.new w #[.int .i64 cols, .int .i64 bins, .int .i64 kind, .int .i64 classes] 132).below ((Below.refl _ (w.alloc (.cells #[.int .i64 cols, .int .i64 bins, .int .i64 kind, .int .i64 classes] 132))).alloc (Nat.le_refl _) (.cells #[.int .i64 0, .int .i64 0, .int .i64 0, .int .i64 0, .int .i64 0, .int .i64 0] 90))
  have HG0 := Lib.hid (gr_below (row := some g) hbw)
  obtain ⟨W, hW⟩ : ∃ W, (w.alloc (.cells #[.int .i64 cols, .int .i64 bins, .int .i64 kind, .int .i64 classes] 132)).alloc (.cells #[.int .i64 0, .int .i64 0, .int .i64 0, .int .i64 0, .int .i64 0, .int .i64 0] 90) = W := ⟨_, rfl⟩
  obtain ⟨g0, hg0⟩ : ∃ z, w.heap.size = z := ⟨_, rfl⟩
  rw [hW] at HR0 kN kS HG0
  rw [hg0] at kN kS hNw
  have HKN0 := Lib.hid kN
  have HKS0 := Lib.hid kS
  have HSZ := Lib.hid hg0
  go_enter Try.func183, Try.ntmps183
  go_upto_region 1 with (fail)
  clear hbw kN kS h hW hg0 hleft
  go_wp2_with fail
  refine (KN.out 1 _ W HR0.out (by decide) (by decide)).mono ?_
  rintro e w1 ⟨hg1, ⟨x1, r1, v, hp1, rfl, ⟨rfl, hx1⟩, hr1⟩ | ⟨er, hp1, rfl⟩⟩
  rotate_left
  · unfold Flt
    go_wp2_with fail
    exact ⟨rfl, gr_trans HG0.out hg1, .inr ⟨er, by unfold oneN; exact bind_err hp1, rfl⟩⟩
  have HG1 := Lib.hid (gr_trans HG0.out hg1)
  have HR1 := Lib.hid hr1
  have HP1 := Lib.hid hp1
  have HX1 := Lib.hid hx1
  have HKS1 := Lib.hid (own_blk HKS0.out hg1 (fun e => by simp only [Option.some.injEq] at e; omega))
  have HKN1 := Lib.hid (own_blk HKN0.out hg1 (fun e => by simp only [Option.some.injEq] at e; omega))
  clear hg1 hp1 hr1 hx1
  by_cases h0 : x1 = 0
  · subst h0
    go_upto_region 4 with (fail)
    have hb2 : Below w1.heap.size w1 (w1.alloc (.cells #[.int .i64 (-1), .int .i64 0, .int .i64 0, .int .i64 0, .int .i64 0, .int .i64 0] 90)) := (Below.refl w1.heap.size w1).alloc (Nat.le_refl _) _
    have HKZ2 := Lib.hid (Blk.new w1 #[.int .i64 (-1), .int .i64 0, .int .i64 0, .int .i64 0, .int .i64 0, .int .i64 0] 90)
    have HR2 := Lib.hid (HR1.out.below hb2)
    have HG2 := Lib.hid (gr_trans HG1.out (gr_below hb2))
    have HKS2 := Lib.hid (HKS1.out.below hb2)
    have HKN2 := Lib.hid (HKN1.out.below hb2)
    have hz1 : g0 + 1 < w1.heap.size := HKN1.out.lt
    obtain ⟨W2, hW2⟩ : ∃ W, w1.alloc (.cells #[.int .i64 (-1), .int .i64 0, .int .i64 0, .int .i64 0, .int .i64 0, .int .i64 0] 90) = W := ⟨_, rfl⟩
    obtain ⟨g2, hg2e⟩ : ∃ z, w1.heap.size = z := ⟨_, rfl⟩
    rw [hW2] at HKZ2 HR2 HG2 HKS2 HKN2 ⊢
    rw [hg2e] at HKZ2 hz1 ⊢
    have s2 := HKS2.out.cell 2
    clear hb2 hW2 hg2e HR1 HG1 HKS1 HKN1
    by_cases hk : kind = 0
    · have kb : (kind == 0) = true := beq_iff_eq.2 hk
      have HK := Lib.hid hk
      clear hk
      go_wp2_with fail
      refine (KN.out 1 _ W2 HR2.out (by decide) (by decide)).mono ?_
      rintro e w3 ⟨hg3, ⟨x3, r3, v, hp3, rfl, ⟨rfl, hx3⟩, hr3⟩ | ⟨er, hp3, rfl⟩⟩
      rotate_left
      · unfold Flt
        go_wp2_with fail
        exact ⟨rfl, gr_trans HG2.out hg3, .inr ⟨er, by unfold oneN; rw [bind_ok HP1.out, if_pos rfl]; rw [if_pos HK.out]; exact bind_err hp3, rfl⟩⟩
      have HG3 := Lib.hid (gr_trans HG2.out hg3)
      have HR3 := Lib.hid hr3
      have HP3 := Lib.hid hp3
      have HX3 := Lib.hid hx3
      have HKZ3 := Lib.hid (own_blk HKZ2.out hg3 (fun e => by simp only [Option.some.injEq] at e; omega))
      have HKN3 := Lib.hid (own_blk HKN2.out hg3 (fun e => by simp only [Option.some.injEq] at e; omega))
      clear hg3 hp3 hr3 hx3
      have hw := i64_small (x := x3) (Nat.lt_trans HX3.out (by decide))
      have z0 := HKZ3.out.cell 3
      have z1 := fun i => HKZ3.out.frozen i
      have z2 := HKZ3.out.lt
      go_upto_region 8 with (fail)
      have kZ4 : Blk (w3.setCell ⟨g2, 3, none⟩ (.int .i64 (x3 : Int))) g2 #[.int .i64 (-1), .int .i64 0, .int .i64 0, .int .i64 (x3 : Int), .int .i64 0, .int .i64 0] 90 := HKZ3.out.set 3 _
      have kN4 := own_blk HKN3.out (gr_cell w3 g2 3 (.int .i64 (x3 : Int))) (fun e => by simp only [Option.some.injEq] at e; omega)
      have HR4 := Lib.hid ((HR3.out.kept (gr_cell w3 g2 3 (.int .i64 (x3 : Int))) (by omega)).kept (gr_row _ (g0 + 1) #[.int .i64 (-1), .int .i64 0, .int .i64 0, .int .i64 (x3 : Int), .int .i64 0, .int .i64 0]) (by omega))
      have HG4 := Lib.hid (gr_newrow (gr_new (i := 3) HG3.out (.int .i64 (x3 : Int)) (q := g2) (by have := HSZ.out; omega)) #[.int .i64 (-1), .int .i64 0, .int .i64 0, .int .i64 (x3 : Int), .int .i64 0, .int .i64 0] (q := g0 + 1) (by have := HSZ.out; omega))
      have hone : ∀ v ∈ (#[.int .i64 (-1), .int .i64 0, .int .i64 0, .int .i64 (x3 : Int), .int .i64 0, .int .i64 0] : Array Value).toList, v.oneCell' = true := by simp [Value.oneCell']
      obtain ⟨W4, hW4⟩ : ∃ W, w3.setCell ⟨g2, 3, none⟩ (.int .i64 (x3 : Int)) = W := ⟨_, rfl⟩
      rw [hW4] at kZ4 kN4 HR4 HG4 ⊢
      clear z0 z1 z2 hW4
      go_wp2_with (first | (refine wpList_load_row rfl 90 (.tmp 7) rfl g2 rfl 90 _ (0, 0) _ kZ4 Try.underlying90 rfl node_size1 ?_) | (refine wpList_store_row rfl 90 (.tmp 6) (.tmp 28) rfl (g0 + 1) rfl 90 _ #[.int .i64 (-1), .int .i64 0, .int .i64 0, .int .i64 (x3 : Int), .int .i64 0, .int .i64 0] rfl kN4 node_size1 rfl hone ?_))
      refine bodyPost_ret (results_cell rfl _ _ (g0 + 1) 90 #[.int .i64 (-1), .int .i64 0, .int .i64 0, .int .i64 (x3 : Int), .int .i64 0, .int .i64 0] _ rfl kN4.row Try.underlying90 rfl node_size1) rfl ⟨HG4.out, .inl ⟨⟨-1, 0, 0, x3, 0, 0⟩, r3, _, ?_, rfl, ⟨rfl, by have := HX3.out; unfold Nd.ok in64; simp only; omega⟩, HR4.out⟩⟩
      unfold oneN; rw [bind_ok HP1.out, if_pos rfl]; rw [if_pos HK.out, bind_ok HP3.out]; rfl
    · have kb : (kind == 0) = false := beq_eq_false_iff_ne.2 hk
      have HK := Lib.hid hk
      clear hk
      go_wp2_with fail
      refine (KW.out _ W2 HR2.out).mono ?_
      rintro e w3 ⟨hg3, ⟨x3, r3, v, hp3, rfl, rfl, hr3⟩ | ⟨er, hp3, rfl⟩⟩
      rotate_left
      · unfold Flt
        go_wp2_with fail
        exact ⟨rfl, gr_trans HG2.out hg3, .inr ⟨er, by unfold oneN; rw [bind_ok HP1.out, if_pos rfl]; rw [if_neg HK.out]; exact bind_err hp3, rfl⟩⟩
      have HG3 := Lib.hid (gr_trans HG2.out hg3)
      have HR3 := Lib.hid hr3
      have HP3 := Lib.hid hp3
      have HKZ3 := Lib.hid (own_blk HKZ2.out hg3 (fun e => by simp only [Option.some.injEq] at e; omega))
      have HKN3 := Lib.hid (own_blk HKN2.out hg3 (fun e => by simp only [Option.some.injEq] at e; omega))
      clear hg3 hp3 hr3
      have z0 := HKZ3.out.cell 4
      have z1 := fun i => HKZ3.out.frozen i
      have z2 := HKZ3.out.lt
      go_upto_region 7 with (fail)
      have HKZ4 : Hid (Blk (w3.setCell ⟨g2, 4, none⟩ (.int .i64 (sI x3))) g2 #[.int .i64 (-1), .int .i64 0, .int .i64 0, .int .i64 0, .int .i64 (sI x3), .int .i64 0] 90) := Lib.hid (HKZ3.out.set 4 _)
      have HKN4 := Lib.hid (own_blk HKN3.out (gr_cell w3 g2 4 (.int .i64 (sI x3))) (fun e => by simp only [Option.some.injEq] at e; omega))
      have HR4 := Lib.hid (HR3.out.kept (gr_cell w3 g2 4 (.int .i64 (sI x3))) (by omega))
      have HG4 := Lib.hid (gr_new (i := 4) HG3.out (.int .i64 (sI x3)) (q := g2) (by have := HSZ.out; omega))
      obtain ⟨W4, hW4⟩ : ∃ W, w3.setCell ⟨g2, 4, none⟩ (.int .i64 (sI x3)) = W := ⟨_, rfl⟩
      rw [hW4] at HKZ4 HKN4 HR4 HG4 ⊢
      clear z0 z1 z2 hW4 HKZ3 HKN3 HR3 HG3
      go_wp2_with fail
      refine (KN.out 4 _ W4 HR4.out (by decide) (by decide)).mono ?_
      rintro e w5 ⟨hg5, ⟨x5, r5, v, hp5, rfl, ⟨rfl, hx5⟩, hr5⟩ | ⟨er, hp5, rfl⟩⟩
      rotate_left
      · unfold Flt
        go_wp2_with fail
        exact ⟨rfl, gr_trans HG4.out hg5, .inr ⟨er, by unfold oneN; rw [bind_ok HP1.out, if_pos rfl]; rw [if_neg HK.out, bind_ok HP3.out]; exact bind_err hp5, rfl⟩⟩
      have HG5 := Lib.hid (gr_trans HG4.out hg5)
      have HR5 := Lib.hid hr5
      have HP5 := Lib.hid hp5
      have HX5 := Lib.hid hx5
      have HKZ5 := Lib.hid (own_blk HKZ4.out hg5 (fun e => by simp only [Option.some.injEq] at e; omega))
      have HKN5 := Lib.hid (own_blk HKN4.out hg5 (fun e => by simp only [Option.some.injEq] at e; omega))
      clear hg5 hp5 hr5 hx5
      have hw := i64_small (x := x5) (Nat.lt_trans HX5.out (by decide))
      have z0 := HKZ5.out.cell 5
      have z1 := fun i => HKZ5.out.frozen i
      have z2 := HKZ5.out.lt
      go_upto_region 8 with (fail)
      have kZ6 : Blk (w5.setCell ⟨g2, 5, none⟩ (.int .i64 (x5 : Int))) g2 #[.int .i64 (-1), .int .i64 0, .int .i64 0, .int .i64 0, .int .i64 (sI x3), .int .i64 (x5 : Int)] 90 := HKZ5.out.set 5 _
      have kN6 := own_blk HKN5.out (gr_cell w5 g2 5 (.int .i64 (x5 : Int))) (fun e => by simp only [Option.some.injEq] at e; omega)
      have HR6 := Lib.hid ((HR5.out.kept (gr_cell w5 g2 5 (.int .i64 (x5 : Int))) (by omega)).kept (gr_row _ (g0 + 1) #[.int .i64 (-1), .int .i64 0, .int .i64 0, .int .i64 0, .int .i64 (sI x3), .int .i64 (x5 : Int)]) (by omega))
      have HG6 := Lib.hid (gr_newrow (gr_new (i := 5) HG5.out (.int .i64 (x5 : Int)) (q := g2) (by have := HSZ.out; omega)) #[.int .i64 (-1), .int .i64 0, .int .i64 0, .int .i64 0, .int .i64 (sI x3), .int .i64 (x5 : Int)] (q := g0 + 1) (by have := HSZ.out; omega))
      have hone : ∀ v ∈ (#[.int .i64 (-1), .int .i64 0, .int .i64 0, .int .i64 0, .int .i64 (sI x3), .int .i64 (x5 : Int)] : Array Value).toList, v.oneCell' = true := by simp [Value.oneCell']
      obtain ⟨W6, hW6⟩ : ∃ W, w5.setCell ⟨g2, 5, none⟩ (.int .i64 (x5 : Int)) = W := ⟨_, rfl⟩
      rw [hW6] at kZ6 kN6 HR6 HG6 ⊢
      clear z0 z1 z2 hW6
      go_wp2_with (first | (refine wpList_load_row rfl 90 (.tmp 7) rfl g2 rfl 90 _ (0, 0) _ kZ6 Try.underlying90 rfl node_size1 ?_) | (refine wpList_store_row rfl 90 (.tmp 6) (.tmp 28) rfl (g0 + 1) rfl 90 _ #[.int .i64 (-1), .int .i64 0, .int .i64 0, .int .i64 0, .int .i64 (sI x3), .int .i64 (x5 : Int)] rfl kN6 node_size1 rfl hone ?_))
      refine bodyPost_ret (results_cell rfl _ _ (g0 + 1) 90 #[.int .i64 (-1), .int .i64 0, .int .i64 0, .int .i64 0, .int .i64 (sI x3), .int .i64 (x5 : Int)] _ rfl kN6.row Try.underlying90 rfl node_size1) rfl ⟨HG6.out, .inl ⟨⟨-1, 0, 0, 0, sI x3, x5⟩, r5, _, ?_, rfl, ⟨rfl, by have h1 := HX5.out; have h2 := sI_in x3; unfold Nd.ok; unfold in64 at h2 ⊢; simp only; omega⟩, HR6.out⟩⟩
      unfold oneN; rw [bind_ok HP1.out, if_pos rfl]; rw [if_neg HK.out, bind_ok HP3.out, bind_ok HP5.out]; rfl
  · have e0 : ((x1 : Int) == 0) = false := beq_eq_false_iff_ne.2 (by omega)
    have HZ0 := Lib.hid h0
    clear h0
    by_cases h1 : x1 = 1
    · subst h1
      clear e0
      go_wp2_with fail
      refine (KN.out 2 _ w1 HR1.out (by decide) (by decide)).mono ?_
      rintro e w2 ⟨hg2, ⟨x2, r2, v, hp2, rfl, ⟨rfl, hx2⟩, hr2⟩ | ⟨er, hp2, rfl⟩⟩
      rotate_left
      · unfold Flt
        go_wp2_with fail
        exact ⟨rfl, gr_trans HG1.out hg2, .inr ⟨er, by unfold oneN; rw [bind_ok HP1.out, if_neg (by decide), if_pos rfl]; exact bind_err hp2, rfl⟩⟩
      have HG2 := Lib.hid (gr_trans HG1.out hg2)
      have HR2 := Lib.hid hr2
      have HP2 := Lib.hid hp2
      have HX2 := Lib.hid hx2
      have HKN2 := Lib.hid (own_blk HKN1.out hg2 (fun e => by simp only [Option.some.injEq] at e; omega))
      clear hg2 hp2 hr2 hx2
      have hw := i64_small (x := x2) (Nat.lt_trans HX2.out (by decide))
      go_wp2_with fail
      refine (KN.out 2 _ w2 HR2.out (by decide) (by decide)).mono ?_
      rintro e w3 ⟨hg3, ⟨x3, r3, v, hp3, rfl, ⟨rfl, hx3⟩, hr3⟩ | ⟨er, hp3, rfl⟩⟩
      rotate_left
      · unfold Flt
        go_wp2_with fail
        exact ⟨rfl, gr_trans HG2.out hg3, .inr ⟨er, by unfold oneN; rw [bind_ok HP1.out, if_neg (by decide), if_pos rfl]; rw [bind_ok HP2.out]; exact bind_err hp3, rfl⟩⟩
      have HG3 := Lib.hid (gr_trans HG2.out hg3)
      have HR3 := Lib.hid hr3
      have HP3 := Lib.hid hp3
      have HX3 := Lib.hid hx3
      have HKN3 := Lib.hid (own_blk HKN2.out hg3 (fun e => by simp only [Option.some.injEq] at e; omega))
      clear hg3 hp3 hr3 hx3
      have hw3 := i64_small (x := x3) (Nat.lt_trans HX3.out (by decide))
      have kN4 := HKN3.out
      have hone : ∀ v ∈ (#[.int .i64 (x2 : Int), .int .i64 (x3 : Int), .int .i64 left, .int .i64 0, .int .i64 0, .int .i64 0] : Array Value).toList, v.oneCell' = true := by simp [Value.oneCell']
      have HR4 := Lib.hid (HR3.out.kept (gr_row _ (g0 + 1) #[.int .i64 (x2 : Int), .int .i64 (x3 : Int), .int .i64 left, .int .i64 0, .int .i64 0, .int .i64 0]) (by omega))
      have HG4 := Lib.hid (gr_newrow HG3.out #[.int .i64 (x2 : Int), .int .i64 (x3 : Int), .int .i64 left, .int .i64 0, .int .i64 0, .int .i64 0] (q := g0 + 1) (by have := HSZ.out; omega))
      go_wp2_with (refine wpList_store_row rfl 90 (.tmp 6) (.tmp 39) rfl (g0 + 1) rfl 90 _ #[.int .i64 (x2 : Int), .int .i64 (x3 : Int), .int .i64 left, .int .i64 0, .int .i64 0, .int .i64 0] rfl kN4 node_size1 rfl hone ?_)
      refine bodyPost_ret (results_cell rfl _ _ (g0 + 1) 90 #[.int .i64 (x2 : Int), .int .i64 (x3 : Int), .int .i64 left, .int .i64 0, .int .i64 0, .int .i64 0] _ rfl kN4.row Try.underlying90 rfl node_size1) rfl ⟨HG4.out, .inl ⟨⟨x2, x3, left, 0, 0, 0⟩, r3, _, ?_, rfl, ⟨rfl, by have h1 := HX2.out; have h2 := HX3.out; have h3 := HLF.out; unfold Nd.ok; unfold in64 at h3 ⊢; simp only; omega⟩, HR4.out⟩⟩
      unfold oneN; rw [bind_ok HP1.out, if_neg (by decide), if_pos rfl]; rw [bind_ok HP2.out, bind_ok HP3.out]; rfl
    · have e1 : ((x1 : Int) == 1) = false := beq_eq_false_iff_ne.2 (by omega)
      have HZ1 := Lib.hid h1
      clear h1
      go_wp2_with fail
      refine (KF.out _).mono ?_
      rintro e w2 ⟨rfl, rfl⟩
      unfold Flt
      go_wp2_with fail
      exact ⟨rfl, HG1.out, .inr ⟨3, by unfold oneN; rw [bind_ok HP1.out, if_neg HZ0.out, if_neg HZ1.out]; rfl, rfl⟩⟩
end Go.Proofs.Ytpekofpiodaadaa.Hb
end

section
/- The walk of node.Get. -/
namespace Go.Proofs.Ytpekofpiodaadaa.Hb
set_option linter.unusedVariables false
set_option linter.unusedSimpArgs false
open Go.RowKit

theorem rd_grown {w w1 : World} {N g : Nat} {l : List Nat} {row : Option Nat} (h : RdB w N g l) (hg : w.grownBy w1 row) (hr : ∀ q, row = some q → N ≤ q) : RdB w1 N g l := by
  cases row with
  | none =>
    exact h.below ⟨hg.os, hg.tape, hg.output, hg.size, fun k hk => hg.block k hk (by simp)⟩
  | some q => exact h.kept hg (hr q rfl)
theorem gr_own {w w1 w2 : World} {row own : Option Nat} (h : w.grownBy w1 row) (hg : w1.grownBy w2 own) (hr : ∀ q, own = some q → w.heap.size ≤ q) : w.grownBy w2 row :=
  ⟨hg.os.trans h.os, hg.tape.trans h.tape, hg.output.trans h.output, Nat.le_trans h.size hg.size, fun k hk hk2 => (hg.block k (Nat.lt_of_lt_of_le hk h.size) (fun e => by have := hr k e.symm; omega)).trans (h.block k hk hk2)⟩
set_option maxRecDepth 100000 in
set_option maxHeartbeats 8000000 in
theorem nget_any (N g : Nat) (l : List Nat) (cols bins kind classes : Int) (w : World) (h : RdB w N g l) :
    Calls Try.prog 143 #[.pointer (some ⟨g, 0, none⟩), .agg #[.int .i64 cols, .int .i64 bins, .int .i64 kind, .int .i64 classes]] w (Reads (treeP cols bins kind classes l) (fun w' t v => ∃ a c, v = .slice a t.length c ∧ w'.ownsRow w.heap.size 90 6 (.slice a t.length c) t.length (t.flatMap ndC) ∧ (∀ x ∈ t, x.ok) ∧ t.length ≤ 4194304) N g w) := by
  have KN := Lib.hid (fun k l w h h1 h2 => number_any N g k l w h h1 h2)
  have KO := Lib.hid (fun l left w h hl => none_any N g l cols bins kind classes left w h hl)
  have KF3 := Lib.hid (fun w => fail_any g 3 (by decide) w)
  have KF4 := Lib.hid (fun w => fail_any g 4 (by decide) w)
  have KL := Lib.hid (fun f b ll cc s q w => nleaf_any ⟨f, b, ll, cc, s, q⟩ w)
  have KR := Lib.hid (fun t A cap w hr hl => tright_any cols bins kind classes t A cap w hr hl)
  unfold ndV at KO KL
  unfold shpA at KR
  simp only at KL
  obtain ⟨i0, hi0, hz0, hz1, hz2⟩ := info_parts info_node
  have hgN := h.gN
  have hNw := h.Nw
  have hbw : Below w.heap.size w (w.alloc (.cells #[.int .i64 cols, .int .i64 bins, .int .i64 kind, .int .i64 classes] 132)) := (Below.refl w.heap.size w).alloc (Nat.le_refl _) _
  have HR0 := Lib.hid (h.below hbw)
  have HKS0 := Lib.hid (Blk.new w #[.int .i64 cols, .int .i64 bins, .int .i64 kind, .int .i64 classes] 132)
  have HG0 := Lib.hid (gr_below (row := some g) hbw)
  obtain ⟨W, hW⟩ : ∃ W, w.alloc (.cells #[.int .i64 cols, .int .i64 bins, .int .i64 kind, .int .i64 classes] 132) = W := ⟨_, rfl⟩
  obtain ⟨g0, hg0⟩ : ∃ z, w.heap.size = z := ⟨_, rfl⟩
  rw [hW] at HR0 HKS0 HG0
  rw [hg0] at HKS0 hNw ⊢
  have HSZ := Lib.hid hg0
  go_enter Try.func143, Try.ntmps143
  go_upto_region 1 with (fail)
  clear hbw h hW hg0
  go_wp2_with fail
  refine (KN.out 4 _ W HR0.out (by decide) (by decide)).mono ?_
  rintro e w1 ⟨hg1, ⟨n, r1, v, hp1, rfl, ⟨rfl, hx1⟩, hr1⟩ | ⟨er, hp1, rfl⟩⟩
  rotate_left
  · unfold Flt
    go_wp2_with fail
    exact ⟨rfl, gr_trans HG0.out hg1, .inr ⟨er, by unfold treeP; exact bind_err hp1, rfl⟩⟩
  have HG1 := Lib.hid (gr_trans HG0.out hg1)
  have HR1 := Lib.hid hr1
  have HP1 := Lib.hid hp1
  have HX1 := Lib.hid hx1
  have HKS1 := Lib.hid (own_blk HKS0.out hg1 (fun e => by simp only [Option.some.injEq] at e; omega))
  clear hg1 hp1 hr1 hx1 HR0 HG0 HKS0
  by_cases hbig : 4194304 < n
  · have d1 : decide (4194304 < n) = true := decide_eq_true hbig
    have d1' : decide ((4194304 : Int) < n) = true := decide_eq_true (by omega)
    have HB := Lib.hid hbig
    clear hbig
    go_wp2_with fail
    refine (KF4.out _).mono ?_
    rintro e w2 ⟨rfl, rfl⟩
    unfold Flt
    go_wp2_with fail
    exact ⟨rfl, HG1.out, .inr ⟨4, by unfold treeP; rw [bind_ok HP1.out]; rw [if_pos HB.out]; rfl, rfl⟩⟩
  have d1 : decide (4194304 < n) = false := decide_eq_false hbig
  have d1' : decide ((4194304 : Int) < n) = false := decide_eq_false (by omega)
  have HB := Lib.hid hbig
  have hn4 : n ≤ 4194304 := by omega
  clear hbig
  go_wp2_with fail
  clear d1 d1'
  obtain ⟨R, hR⟩ : ∃ R, nodesA kind n 1 [] r1 = R := ⟨_, rfl⟩
  have HRR := Lib.hid hR
  clear hR
  go_loopw [6, 7, 16] (fun o lv iv wr => ∃ (i : Nat) (lf : Int) (a : Option Addr) (c : Nat) (out : List Nd) (rest : List Nat), i ≤ n ∧ iv = .int .u64 i ∧ lv = .int .i64 lf ∧ o = .slice a i c ∧ (1 ≤ lf ∧ lf ≤ 1 + 2 * i) ∧ Hid (out.length = i ∧ wr.ownsRow (g0 + 1) 90 6 (.slice a i c) i (out.flatMap ndC) ∧ ∀ x ∈ out, x.ok) ∧ Hid (RdB wr N g rest) ∧ Hid (nodesA kind (n - i) lf out rest = R) ∧ Hid (w.grownBy wr (some g)) ∧ Hid (Blk wr g0 #[.int .i64 cols, .int .i64 bins, .int .i64 kind, .int .i64 classes] 132)) (fun _ _ iv _ => n - (intOf iv).toNat)
  case atStart => exact ⟨0, 1, none, 0, [], r1, Nat.zero_le _, rfl, rfl, rfl, by omega, Lib.hid ⟨rfl, World.ownsRow_nil _ _ _ _, by simp⟩, HR1, HRR, HG1, HKS1⟩
  case round =>
    obtain ⟨i, lf, a, c, out, rest, hi, rfl, rfl, rfl, hlf, HO, HR, HNO, HG, HKS⟩ := hrel
    have s0 := HKS.out.cell 0
    have s1 := HKS.out.cell 1
    have s2 := HKS.out.cell 2
    have s3 := HKS.out.cell 3
    by_cases hlt : i < n
    · have hlt' : (i : Int) < n := by omega
      have HS : Hid (R = bindP (oneN kind lf) (fun x => nodesA kind (n - (i + 1)) (if x.f = -1 then lf else lf + 2) (out ++ [x])) rest) := Lib.hid (by rw [← HNO.out, show n - i = (n - (i + 1)) + 1 from by omega]; rfl)
      have hwr := HKS.out.lt
      go_wp2_with fail
      refine (KO.out rest lf wr HR.out (by unfold in64; omega)).mono ?_
      rintro e w2 ⟨hg2, ⟨⟨f, b, ll, cc, s, q⟩, r2, v, hp2, rfl, ⟨rfl, hok⟩, hr2⟩ | ⟨er, hp2, rfl⟩⟩
      rotate_left
      · unfold Flt
        go_wp2_with fail
        exact ⟨rfl, gr_trans HG.out hg2, .inr ⟨er, by unfold treeP; rw [bind_ok HP1.out]; rw [if_neg HB.out]; exact bind_err (HRR.out.trans (HS.out.trans (bind_err hp2))), rfl⟩⟩
      simp only
      have HS2 : Hid (nodesA kind (n - (i + 1)) (if f = -1 then lf else lf + 2) (out ++ [⟨f, b, ll, cc, s, q⟩]) r2 = R) := Lib.hid (by rw [HS.out, bind_ok hp2])
      have HOK := Lib.hid hok
      have HO2 := Lib.hid (HO.out.2.1.kept hg2 (.inr (fun e => by have := (World.ownsRow.lt HO.out.2.1 g e).1; omega)))
      have HKS2 := Lib.hid (own_blk HKS.out hg2 (fun e => by simp only [Option.some.injEq] at e; omega))
      have HR2 := Lib.hid hr2
      have HG2 := Lib.hid (gr_trans HG.out hg2)
      clear hp2 hok hg2 hr2 s0 s1 s2 s3 HR HG HKS HS HNO
      go_upto_region 9 with (fail)
      have hb3 : Below w2.heap.size w2 (w2.alloc (.cells #[.int .i64 f, .int .i64 b, .int .i64 ll, .int .i64 cc, .int .i64 s, .int .i64 q] 90)) := (Below.refl w2.heap.size w2).alloc (Nat.le_refl _) _
      have HKZ := Lib.hid (Blk.new w2 #[.int .i64 f, .int .i64 b, .int .i64 ll, .int .i64 cc, .int .i64 s, .int .i64 q] 90)
      have HO3 := Lib.hid (own_below HO2.out hb3)
      have HKS3 := Lib.hid (HKS2.out.below hb3)
      have HR3 := Lib.hid (HR2.out.below hb3)
      have HG3 := Lib.hid (gr_trans HG2.out (gr_below hb3))
      have hw2 : g0 + 1 ≤ w2.heap.size := HKS2.out.lt
      obtain ⟨W3, hW3⟩ : ∃ W, w2.alloc (.cells #[.int .i64 f, .int .i64 b, .int .i64 ll, .int .i64 cc, .int .i64 s, .int .i64 q] 90) = W := ⟨_, rfl⟩
      obtain ⟨g3, hg3⟩ : ∃ z, w2.heap.size = z := ⟨_, rfl⟩
      rw [hW3] at HKZ HO3 HKS3 HR3 HG3 ⊢
      rw [hg3] at HKZ hw2 ⊢
      clear hb3 hW3 hg3 HO2 HKS2 HR2 HG2
      have z0 := HKZ.out.cell 0
      have z1 := HKZ.out.cell 1
      have z2 := HKZ.out.cell 2
      have z3 := HKZ.out.cell 3
      have z4 := HKZ.out.cell 4
      have z5 := HKZ.out.cell 5
      go_wp2_with fail
      refine (KL.out f b ll cc s q _).mono ?_
      rintro e w4 ⟨rfl, hb⟩
      have HO4 := Lib.hid (own_below HO3.out hb)
      have HKS4 := Lib.hid (HKS3.out.below hb)
      have HR4 := Lib.hid (HR3.out.below hb)
      have HG4 := Lib.hid (gr_trans HG3.out (gr_below hb))
      have HKZ4 := Lib.hid (HKZ.out.below hb)
      clear hb z0 z1 z2 z3 z4 z5 HO3 HKS3 HR3 HG3 HKZ
      have z0 := HKZ4.out.cell 0
      have z1 := HKZ4.out.cell 1
      have z2 := HKZ4.out.cell 2
      have z3 := HKZ4.out.cell 3
      have z4 := HKZ4.out.cell 4
      have z5 := HKZ4.out.cell 5
      have hl4 := HKZ4.out.lt
      by_cases hf : f = -1
      · have fb : (f == -1) = true := beq_iff_eq.2 hf
        have HF := Lib.hid hf
        clear hf
        go_wp2_with (at_builtin; refine wpList_append_lies _ rfl _ _ 88 rfl (g0 + 1) 90 i0 (.agg #[.int .i64 0, .int .i64 0, .int .i64 0, .int .i64 0, .int .i64 0, .int .i64 0]) 6 48 Try.underlying88 hi0 hz0 hz1 hz2 rfl (by decide) _ _ _ rfl (HO4.out.alloc _) ⟨w4.heap.size, 0, none⟩ 1 1 [.int .i64 f, .int .i64 b, .int .i64 ll, .int .i64 cc, .int .i64 s, .int .i64 q] rfl rfl (cell_six _ _ _ _ _ _ _ _) (by simp [Value.oneCell']) (by decide) (by unfold maxLen; omega) (by omega) (by simp; omega) _ rfl ?_; intro g5 c5 w5 hown5 hg5 hat5 hlt5)
        have HR5 := Lib.hid (rd_grown (HR4.out.below ((Below.refl w4.heap.size w4).alloc (Nat.le_refl _) (.cells #[.int .i64 f, .int .i64 b, .int .i64 ll, .int .i64 cc, .int .i64 s, .int .i64 q] 90))) hg5 (fun q e => by have := (World.ownsRow.lt HO4.out q e).1; omega))
        have HG5 := Lib.hid (gr_own (gr_trans HG4.out (gr_below ((Below.refl w4.heap.size w4).alloc (Nat.le_refl _) (.cells #[.int .i64 f, .int .i64 b, .int .i64 ll, .int .i64 cc, .int .i64 s, .int .i64 q] 90)))) hg5 (fun q e => by have := (World.ownsRow.lt HO4.out q e).1; have := HSZ.out; omega))
        have HKS5 := Lib.hid (own_blk (HKS4.out.below ((Below.refl w4.heap.size w4).alloc (Nat.le_refl _) (.cells #[.int .i64 f, .int .i64 b, .int .i64 ll, .int .i64 cc, .int .i64 s, .int .i64 q] 90))) hg5 (fun e => by have := (World.ownsRow.lt HO4.out g0 e).1; omega))
        go_roundw
        case rel => exact ⟨i + 1, lf, _, c5, out ++ [⟨f, b, ll, cc, s, q⟩], r2, hlt, by go_num, rfl, rfl, by omega, Lib.hid ⟨by rw [List.length_append, HO.out.1]; rfl, by rw [List.flatMap_append]; exact hown5, fun x hx => by
          rcases List.mem_append.1 hx with hx | hx
          · exact HO.out.2.2 x hx
          · simp only [List.mem_singleton] at hx; subst hx; exact HOK.out⟩, HR5, Lib.hid (by have := HS2.out; rw [if_pos HF.out] at this; exact this), HG5, HKS5⟩
        case measure => simp [intOf]; omega
      · have fb : (f == -1) = false := beq_eq_false_iff_ne.2 hf
        have HF := Lib.hid hf
        clear hf
        have hlw : wrap64 (lf + 2) = lf + 2 := by unfold wrap64; omega
        have hlw2 : IntKind.i64.wrap (lf + 2) = lf + 2 := by rw [wrapI_fst]; exact hlw
        go_wp2_with (at_builtin; refine wpList_append_lies _ rfl _ _ 88 rfl (g0 + 1) 90 i0 (.agg #[.int .i64 0, .int .i64 0, .int .i64 0, .int .i64 0, .int .i64 0, .int .i64 0]) 6 48 Try.underlying88 hi0 hz0 hz1 hz2 rfl (by decide) _ _ _ rfl (HO4.out.alloc _) ⟨w4.heap.size, 0, none⟩ 1 1 [.int .i64 f, .int .i64 b, .int .i64 ll, .int .i64 cc, .int .i64 s, .int .i64 q] rfl rfl (cell_six _ _ _ _ _ _ _ _) (by simp [Value.oneCell']) (by decide) (by unfold maxLen; omega) (by omega) (by simp; omega) _ rfl ?_; intro g5 c5 w5 hown5 hg5 hat5 hlt5)
        have HR5 := Lib.hid (rd_grown (HR4.out.below ((Below.refl w4.heap.size w4).alloc (Nat.le_refl _) (.cells #[.int .i64 f, .int .i64 b, .int .i64 ll, .int .i64 cc, .int .i64 s, .int .i64 q] 90))) hg5 (fun q e => by have := (World.ownsRow.lt HO4.out q e).1; omega))
        have HG5 := Lib.hid (gr_own (gr_trans HG4.out (gr_below ((Below.refl w4.heap.size w4).alloc (Nat.le_refl _) (.cells #[.int .i64 f, .int .i64 b, .int .i64 ll, .int .i64 cc, .int .i64 s, .int .i64 q] 90)))) hg5 (fun q e => by have := (World.ownsRow.lt HO4.out q e).1; have := HSZ.out; omega))
        have HKS5 := Lib.hid (own_blk (HKS4.out.below ((Below.refl w4.heap.size w4).alloc (Nat.le_refl _) (.cells #[.int .i64 f, .int .i64 b, .int .i64 ll, .int .i64 cc, .int .i64 s, .int .i64 q] 90))) hg5 (fun e => by have := (World.ownsRow.lt HO4.out g0 e).1; omega))
        go_roundw
        case rel => exact ⟨i + 1, lf + 2, _, c5, out ++ [⟨f, b, ll, cc, s, q⟩], r2, hlt, by go_num, by first | rfl | go_num, rfl, by omega, Lib.hid ⟨by rw [List.length_append, HO.out.1]; rfl, by rw [List.flatMap_append]; exact hown5, fun x hx => by
          rcases List.mem_append.1 hx with hx | hx
          · exact HO.out.2.2 x hx
          · simp only [List.mem_singleton] at hx; subst hx; exact HOK.out⟩, HR5, Lib.hid (by have := HS2.out; rw [if_neg HF.out] at this; exact this), HG5, HKS5⟩
        case measure => simp [intOf]; omega
    · obtain rfl : n = i := by omega
      have HRE : Hid (nodesA kind n 1 [] r1 = .ok (out, rest)) := Lib.hid (by rw [HRR.out, ← HNO.out, Nat.sub_self]; rfl)
      have hl4 := HO.out.1
      have KRX := Lib.hid (KR.out out a c wr (RN.own (by have := HO.out.2.1; rw [← HO.out.1] at this; exact this) HO.out.2.2) (by omega))
      rw [hl4] at KRX
      clear hl4
      obtain ⟨rt, hrt⟩ : ∃ z, rightT cols bins kind classes out = z := ⟨_, rfl⟩
      rw [hrt] at KRX
      have HRT := Lib.hid hrt
      clear hrt
      go_wp2_with fail
      refine KRX.out.mono ?_
      rintro e w2 ⟨rfl, hb⟩
      have HR5 := Lib.hid (HR.out.below hb)
      have HG5 := Lib.hid (gr_trans HG.out (gr_below hb))
      have HO5 := Lib.hid (own_below HO.out.2.1 hb)
      clear hb s0 s1 s2 s3
      cases rt with
      | false =>
        go_wp2_with fail
        refine (KF3.out _).mono ?_
        rintro e w3 ⟨rfl, rfl⟩
        unfold Flt
        go_wp2_with fail
        exact ⟨rfl, HG5.out, .inr ⟨3, by unfold treeP; rw [bind_ok HP1.out]; rw [if_neg HB.out, bind_ok HRE.out, if_neg (by rw [HRT.out]; decide)]; rfl, rfl⟩⟩
      | true =>
        go_wp2_with fail
        go_ret
        refine ⟨HG5.out, .inl ⟨out, rest, .slice a n c, by unfold treeP; rw [bind_ok HP1.out]; rw [if_neg HB.out, bind_ok HRE.out, if_pos HRT.out]; rfl, rfl, ⟨a, c, by rw [HO.out.1], ?_, HO.out.2.2, by rw [HO.out.1]; exact hn4⟩, HR5.out⟩⟩
        rw [HO.out.1]
        exact own_base_le HO5.out (by have := HSZ.out; omega)
end Go.Proofs.Ytpekofpiodaadaa.Hb
end

section
/- The walk of config.Get. -/
namespace Go.Proofs.Ytpekofpiodaadaa.Hb
set_option linter.unusedVariables false
set_option linter.unusedSimpArgs false
open Go.RowKit

def cfgC (acc : List Int) : Array Value := #[.int .i64 (acc.getD 0 0), .int .i64 (acc.getD 1 0), .int .i64 (acc.getD 2 0), .int .i64 (acc.getD 3 0), .int .i64 (acc.getD 4 0), .int .i64 (acc.getD 5 0), .int .i64 (acc.getD 6 0)]
theorem cfgC_cell (acc : List Int) {j : Nat} (hj : j < 7) : ∃ y : Int, (cfgC acc)[j]? = some (.int .i64 y) := by
  obtain e | e | e | e | e | e | e : j = 0 ∨ j = 1 ∨ j = 2 ∨ j = 3 ∨ j = 4 ∨ j = 5 ∨ j = 6 := by omega
  all_goals
    subst e
    exact ⟨_, rfl⟩
theorem cfgC_set (acc : List Int) (x : Int) {j : Nat} (hl : acc.length = j) (hj : j < 7) : (cfgC acc).setIfInBounds j (.int .i64 x) = cfgC (acc ++ [x]) := by
  rcases acc with _ | ⟨a0, _ | ⟨a1, _ | ⟨a2, _ | ⟨a3, _ | ⟨a4, _ | ⟨a5, _ | ⟨a6, r⟩⟩⟩⟩⟩⟩⟩
  all_goals
    simp only [List.length_cons, List.length_nil] at hl
    first | omega | (subst hl; rfl)
theorem ptr_at (c : Nat) {j : Nat} (hj : j < 7) : (#[.pointer (some ⟨c, 0, none⟩), .pointer (some ⟨c, 1, none⟩), .pointer (some ⟨c, 2, none⟩), .pointer (some ⟨c, 3, none⟩), .pointer (some ⟨c, 4, none⟩), .pointer (some ⟨c, 5, none⟩), .pointer (some ⟨c, 6, none⟩)] : Array Value)[j]? = some (.pointer (some ⟨c, j, none⟩)) := by
  obtain e | e | e | e | e | e | e : j = 0 ∨ j = 1 ∨ j = 2 ∨ j = 3 ∨ j = 4 ∨ j = 5 ∨ j = 6 := by omega
  all_goals
    subst e
    rfl
theorem szs_at {k cl b t d l p x : Int} {n j : Nat} (h : (cfgL k cl b t d l p)[j]? = some (x, n)) : szs.drop j = n :: szs.drop (j + 1) ∧ 1 ≤ n ∧ n ≤ 4 := by
  have hj : j < 7 := (List.getElem?_eq_some_iff.1 h).1
  obtain e | e | e | e | e | e | e : j = 0 ∨ j = 1 ∨ j = 2 ∨ j = 3 ∨ j = 4 ∨ j = 5 ∨ j = 6 := by omega
  all_goals
    subst e
    simp only [cfgL, List.getElem?_cons_zero, List.getElem?_cons_succ, Option.some.injEq, Prod.mk.injEq] at h
    obtain ⟨_, rfl⟩ := h
    exact ⟨rfl, by omega, by omega⟩
theorem field_n (a b c d : Int) (w : World) : (Instr.field 203 (.agg #[.int .i64 a, .int .i64 b, .int .i64 c, .int .i64 d]) 3).run Try.prog w = .ok (.int .i64 d) w := by kernel_rfl
theorem config_size7 : (Try.prog.info? 45).map (·.size) = some 7 := by kernel_rfl
set_option maxRecDepth 100000 in
set_option maxHeartbeats 8000000 in
theorem cget_any (N g : Nat) (l : List Nat) (w : World) (h : RdB w N g l) :
    Calls Try.prog 140 #[.pointer (some ⟨g, 0, none⟩)] w (Reads (cfgP l) (fun _ c v => v = .agg (cfgC c) ∧ c.length = 7) N g w) := by
  have KN := Lib.hid (fun k l w h h1 h2 => number_any N g k l w h h1 h2)
  have KF := Lib.hid (fun k w he => fail_any g k he w)
  have KK := Lib.hid (fun k cl b t d l p w => check_any k cl b t d l p w)
  have KV := Lib.hid (fun k cl b t d l p w => fields_any k cl b t d l p w)
  have HIX := Lib.hid (fun k cl b t d l p j hj => fld_at k cl b t d l p j hj)
  have hgN := h.gN
  have hNw := h.Nw
  have HX0 : Hid (Bx3 w (((w.alloc (.cells #[.int .i64 0, .int .i64 0, .int .i64 0, .int .i64 0, .int .i64 0, .int .i64 0, .int .i64 0] 45)).alloc (.cells #[.int .i64 0, .int .i64 0, .int .i64 0, .int .i64 0, .int .i64 0, .int .i64 0, .int .i64 0] 45)).alloc (.cells #[.pointer (some ⟨w.heap.size + 1, 0, none⟩), .pointer (some ⟨w.heap.size + 1, 1, none⟩), .pointer (some ⟨w.heap.size + 1, 2, none⟩), .pointer (some ⟨w.heap.size + 1, 3, none⟩), .pointer (some ⟨w.heap.size + 1, 4, none⟩), .pointer (some ⟨w.heap.size + 1, 5, none⟩), .pointer (some ⟨w.heap.size + 1, 6, none⟩)] 260)) #[.int .i64 0, .int .i64 0, .int .i64 0, .int .i64 0, .int .i64 0, .int .i64 0, .int .i64 0] #[.int .i64 0, .int .i64 0, .int .i64 0, .int .i64 0, .int .i64 0, .int .i64 0, .int .i64 0] #[.pointer (some ⟨w.heap.size + 1, 0, none⟩), .pointer (some ⟨w.heap.size + 1, 1, none⟩), .pointer (some ⟨w.heap.size + 1, 2, none⟩), .pointer (some ⟨w.heap.size + 1, 3, none⟩), .pointer (some ⟨w.heap.size + 1, 4, none⟩), .pointer (some ⟨w.heap.size + 1, 5, none⟩), .pointer (some ⟨w.heap.size + 1, 6, none⟩)] 45 45 260) := Lib.hid (by
    refine ⟨?_, ?_, ?_, (((Below.refl _ w).alloc (Nat.le_refl _) _).alloc (by simp) _).alloc (by simp; omega) _⟩
    all_goals
      unfold Blk World.alloc
      rw [Array.getElem?_eq_getElem (by simp <;> omega)]
      simp only [Array.getElem_push, Array.size_push]
      congr 1
      simp (disch := omega) only [dif_pos, dif_neg])
  have HR0 := Lib.hid (h.below HX0.out.bl)
  have HG0 := Lib.hid (gr_below (row := some g) HX0.out.bl)
  obtain ⟨g0, hg0⟩ : ∃ z, w.heap.size = z := ⟨_, rfl⟩
  rw [hg0] at hNw HX0 HR0 HG0
  obtain ⟨W, hW⟩ : ∃ W, ((w.alloc (.cells #[.int .i64 0, .int .i64 0, .int .i64 0, .int .i64 0, .int .i64 0, .int .i64 0, .int .i64 0] 45)).alloc (.cells #[.int .i64 0, .int .i64 0, .int .i64 0, .int .i64 0, .int .i64 0, .int .i64 0, .int .i64 0] 45)).alloc (.cells #[.pointer (some ⟨g0 + 1, 0, none⟩), .pointer (some ⟨g0 + 1, 1, none⟩), .pointer (some ⟨g0 + 1, 2, none⟩), .pointer (some ⟨g0 + 1, 3, none⟩), .pointer (some ⟨g0 + 1, 4, none⟩), .pointer (some ⟨g0 + 1, 5, none⟩), .pointer (some ⟨g0 + 1, 6, none⟩)] 260) = W := ⟨_, rfl⟩
  rw [hW] at HX0 HR0 HG0
  have HK0 : Hid (Blk W g0 #[.int .i64 0, .int .i64 0, .int .i64 0, .int .i64 0, .int .i64 0, .int .i64 0, .int .i64 0] 45) := Lib.hid (by have := HX0.out.b0; rw [hg0] at this; exact this)
  have HK1 : Hid (Blk W (g0 + 1) (cfgC []) 45) := Lib.hid (by have := HX0.out.b1; rw [hg0] at this; exact this)
  have HK2 : Hid (Blk W (g0 + 1 + 1) #[.pointer (some ⟨g0 + 1, 0, none⟩), .pointer (some ⟨g0 + 1, 1, none⟩), .pointer (some ⟨g0 + 1, 2, none⟩), .pointer (some ⟨g0 + 1, 3, none⟩), .pointer (some ⟨g0 + 1, 4, none⟩), .pointer (some ⟨g0 + 1, 5, none⟩), .pointer (some ⟨g0 + 1, 6, none⟩)] 260) := Lib.hid (by have := HX0.out.b2; rw [hg0] at this; exact this)
  have HSZ := Lib.hid hg0
  go_enter Try.func140, Try.ntmps140
  go_wp2_with fail
  clear h hg0 hW HX0
  obtain ⟨R, hR⟩ : ∃ R, fieldsA szs [] l = R := ⟨_, rfl⟩
  have HRR := Lib.hid hR
  clear hR
  go_loopw [16] (fun iv wr => ∃ (j : Nat) (acc : List Int) (rest : List Nat), j ≤ 7 ∧ iv = .int .i64 j ∧ Hid (acc.length = j) ∧ Hid (Blk wr g0 #[.int .i64 0, .int .i64 0, .int .i64 0, .int .i64 0, .int .i64 0, .int .i64 0, .int .i64 0] 45) ∧ Hid (Blk wr (g0 + 1) (cfgC acc) 45) ∧ Hid (Blk wr (g0 + 1 + 1) #[.pointer (some ⟨g0 + 1, 0, none⟩), .pointer (some ⟨g0 + 1, 1, none⟩), .pointer (some ⟨g0 + 1, 2, none⟩), .pointer (some ⟨g0 + 1, 3, none⟩), .pointer (some ⟨g0 + 1, 4, none⟩), .pointer (some ⟨g0 + 1, 5, none⟩), .pointer (some ⟨g0 + 1, 6, none⟩)] 260) ∧ Hid (RdB wr N g rest) ∧ Hid (fieldsA (szs.drop j) acc rest = R) ∧ Hid (w.grownBy wr (some g))) (fun iv _ => 7 - (intOf iv).toNat)
  case atStart => exact ⟨0, [], l, by omega, rfl, Lib.hid rfl, HK0, HK1, HK2, HR0, HRR, HG0⟩
  case round =>
    obtain ⟨j, acc, rest, hj, rfl, HL, H0, H1, H2, HR, HNO, HG⟩ := hrel
    obtain ⟨A0, A1, A2, A3, A4, A5, A6, hA, hA2⟩ : ∃ a0 a1 a2 a3 a4 a5 a6 : Int, cfgC acc = #[.int .i64 a0, .int .i64 a1, .int .i64 a2, .int .i64 a3, .int .i64 a4, .int .i64 a5, .int .i64 a6] ∧ chkL acc = checkO a0 a1 a2 a3 a4 a5 a6 := ⟨_, _, _, _, _, _, _, rfl, rfl⟩
    have HA := Lib.hid hA
    have HA2 := Lib.hid hA2
    have kC := H1.out
    rw [hA] at kC
    obtain ⟨q0, q1, q2, q3, q4, q5, q6⟩ : wr.cell? ⟨g0 + 1, 0, none⟩ = some (.int .i64 A0) ∧ wr.cell? ⟨g0 + 1, 1, none⟩ = some (.int .i64 A1) ∧ wr.cell? ⟨g0 + 1, 2, none⟩ = some (.int .i64 A2) ∧ wr.cell? ⟨g0 + 1, 3, none⟩ = some (.int .i64 A3) ∧ wr.cell? ⟨g0 + 1, 4, none⟩ = some (.int .i64 A4) ∧ wr.cell? ⟨g0 + 1, 5, none⟩ = some (.int .i64 A5) ∧ wr.cell? ⟨g0 + 1, 6, none⟩ = some (.int .i64 A6) := ⟨kC.cell 0, kC.cell 1, kC.cell 2, kC.cell 3, kC.cell 4, kC.cell 5, kC.cell 6⟩
    clear hA hA2
    by_cases hlt : j < 7
    · have hlt' : (j : Int) < 7 := by omega
      obtain ⟨x, lo, hi, n, hx, hn8, hix⟩ := HIX.out A0 A1 A2 A3 A4 A5 A6 j hlt
      obtain ⟨hd, hn1, hn4⟩ := szs_at hx
      have HS : Hid (R = bindP (numP n) (fun x => fieldsA (szs.drop (j + 1)) (acc ++ [(x : Int)])) rest) := Lib.hid (by rw [← HNO.out, hd]; rfl)
      have hp : wr.cell? ⟨g0 + 1 + 1, j, none⟩ = some (.pointer (some ⟨g0 + 1, j, none⟩)) := by rw [H2.out.cell j]; exact ptr_at _ hlt
      clear kC hx hd
      go_wp2_with fail
      refine (KV.out A0 A1 A2 A3 A4 A5 A6 _).mono ?_
      rintro e w2 ⟨rfl, hb⟩
      have H02 := Lib.hid (H0.out.below hb)
      have H12 := Lib.hid (H1.out.below hb)
      have H22 := Lib.hid (H2.out.below hb)
      have HR2 := Lib.hid (HR.out.below hb)
      have HG2 := Lib.hid (gr_trans HG.out (gr_below hb))
      clear hb hp q0 q1 q2 q3 q4 q5 q6
      have hfd := field_n
      go_wp2_with fail
      refine (KN.out n rest w2 HR2.out hn1 (by omega)).mono ?_
      rintro e w3 ⟨hg3, ⟨y, r3, v, hp3, rfl, ⟨rfl, hy⟩, hr3⟩ | ⟨er, hp3, rfl⟩⟩
      rotate_left
      · unfold Flt
        go_wp2_with fail
        exact ⟨rfl, gr_trans HG2.out hg3, .inr ⟨er, by unfold cfgP; exact bind_err (HRR.out.trans (HS.out.trans (bind_err hp3))), rfl⟩⟩
      have HS3 : Hid (fieldsA (szs.drop (j + 1)) (acc ++ [(y : Int)]) r3 = R) := Lib.hid (by rw [HS.out, bind_ok hp3])
      have H03 := Lib.hid (own_blk H02.out hg3 (fun e => by simp only [Option.some.injEq] at e; omega))
      have H13 := Lib.hid (own_blk H12.out hg3 (fun e => by simp only [Option.some.injEq] at e; omega))
      have H23 := Lib.hid (own_blk H22.out hg3 (fun e => by simp only [Option.some.injEq] at e; omega))
      have HR3 := Lib.hid hr3
      have HG3 := Lib.hid (gr_trans HG2.out hg3)
      have hyl : y < 4294967296 := Nat.lt_of_lt_of_le hy (Nat.le_trans (Nat.pow_le_pow_right (by decide) hn4) (by decide))
      have hw := i64_small (x := y) (by omega)
      obtain ⟨z, hz⟩ := cfgC_cell acc hlt
      have z0 : w3.cell? ⟨g0 + 1, j, none⟩ = some (.int .i64 z) := by rw [H13.out.cell j]; exact hz
      have z1 := fun i => H13.out.frozen i
      have z2 := H13.out.lt
      have HKS := Lib.hid (H13.out.set j (.int .i64 (y : Int)))
      clear hp3 hg3 hr3 hy hz hix
      go_wp2_with fail
      go_roundw
      case rel => exact ⟨j + 1, acc ++ [(y : Int)], r3, hlt, by go_num, Lib.hid (by rw [List.length_append, HL.out]; rfl), Lib.hid (own_blk H03.out (gr_cell w3 (g0 + 1) j _) (fun e => by simp only [Option.some.injEq] at e; omega)), Lib.hid (by have := HKS.out; rw [cfgC_set acc _ HL.out hlt] at this; exact this), Lib.hid (own_blk H23.out (gr_cell w3 (g0 + 1) j _) (fun e => by simp only [Option.some.injEq] at e; omega)), Lib.hid (HR3.out.kept (gr_cell w3 (g0 + 1) j _) (by omega)), HS3, Lib.hid (gr_new (i := j) HG3.out _ (q := g0 + 1) (by have := HSZ.out; omega))⟩
      case measure => simp [intOf]; omega
    · obtain rfl : 7 = j := by omega
      have HRE : Hid (fieldsA szs [] l = .ok (acc, rest)) := Lib.hid (by rw [HRR.out, ← HNO.out]; rfl)
      clear kC
      obtain ⟨ck, hck⟩ : ∃ z, checkO A0 A1 A2 A3 A4 A5 A6 = z := ⟨_, rfl⟩
      have HCK : Hid (chkL acc = ck) := Lib.hid (by rw [HA2.out, hck])
      have KKX := Lib.hid (KK.out A0 A1 A2 A3 A4 A5 A6 wr)
      rw [hck] at KKX
      clear hck
      go_wp2_with fail
      refine KKX.out.mono ?_
      rintro e w2 ⟨rfl, hb⟩
      have H02 := Lib.hid (H0.out.below hb)
      have H12 := Lib.hid (H1.out.below hb)
      have HR2 := Lib.hid (HR.out.below hb)
      have HG2 := Lib.hid (gr_trans HG.out (gr_below hb))
      clear hb q0 q1 q2 q3 q4 q5 q6
      by_cases h0 : ck = 0
      · have HCK2 : Hid (chkL acc = 0) := Lib.hid (HCK.out.trans h0)
        subst h0
        have kC := H12.out
        rw [HA.out] at kC
        have k0 := H02.out
        have hone : ∀ v ∈ (#[.int .i64 A0, .int .i64 A1, .int .i64 A2, .int .i64 A3, .int .i64 A4, .int .i64 A5, .int .i64 A6] : Array Value).toList, v.oneCell' = true := by simp [Value.oneCell']
        have HR3 := Lib.hid (HR2.out.kept (gr_row _ g0 #[.int .i64 A0, .int .i64 A1, .int .i64 A2, .int .i64 A3, .int .i64 A4, .int .i64 A5, .int .i64 A6]) (by omega))
        have HG3 := Lib.hid (gr_newrow HG2.out #[.int .i64 A0, .int .i64 A1, .int .i64 A2, .int .i64 A3, .int .i64 A4, .int .i64 A5, .int .i64 A6] (q := g0) (by have := HSZ.out; omega))
        go_wp2_with (first | (refine wpList_load_row rfl 45 (.tmp 3) rfl (g0 + 1) rfl 45 _ (0, 0) _ kC Try.underlying45 rfl config_size7 ?_) | (refine wpList_store_row rfl 45 (.tmp 2) (.tmp 39) rfl g0 rfl 45 _ #[.int .i64 A0, .int .i64 A1, .int .i64 A2, .int .i64 A3, .int .i64 A4, .int .i64 A5, .int .i64 A6] rfl k0 config_size7 rfl hone ?_))
        refine bodyPost_ret (results_cell rfl _ _ g0 45 #[.int .i64 A0, .int .i64 A1, .int .i64 A2, .int .i64 A3, .int .i64 A4, .int .i64 A5, .int .i64 A6] _ rfl k0.row Try.underlying45 rfl config_size7) rfl ⟨HG3.out, .inl ⟨acc, rest, .agg #[.int .i64 A0, .int .i64 A1, .int .i64 A2, .int .i64 A3, .int .i64 A4, .int .i64 A5, .int .i64 A6], by unfold cfgP; rw [bind_ok HRE.out, if_pos HCK2.out]; rfl, rfl, ⟨by rw [HA.out], HL.out⟩, HR3.out⟩⟩
      · have e1 : (ck == 0) = false := beq_eq_false_iff_ne.2 h0
        have e2 : (ck != 0) = true := bne_iff_ne.2 h0
        have KFX := Lib.hid (fun w => KF.out ck w h0)
        have H00 := Lib.hid h0
        clear h0
        go_wp2_with fail
        refine (KFX.out _).mono ?_
        rintro e w3 ⟨rfl, rfl⟩
        unfold Flt
        go_wp2_with fail
        exact ⟨rfl, HG2.out, .inr ⟨ck, by unfold cfgP; rw [bind_ok HRE.out, HCK.out, if_neg H00.out]; rfl, rfl⟩⟩
end Go.Proofs.Ytpekofpiodaadaa.Hb
end

section
/- Rows that a call owns, no two of them in one block. -/
namespace Go.Proofs.Ytpekofpiodaadaa.Hb
set_option linter.unusedVariables false
set_option linter.unusedSimpArgs false
open Go.RowKit

structure ORow where
  v : Value
  e : TypeId
  sz : Nat
  n : Nat
  xs : List Value
def Sep (a b : Value) : Prop := ∀ q, a.ownBlock = some q → b.ownBlock ≠ some q
theorem Sep.symm {a b : Value} (h : Sep a b) : Sep b a := fun q h1 h2 => h q h2 h1
structure ORows (w : World) (B : Nat) (L : List ORow) : Prop where
  own : ∀ r ∈ L, w.ownsRow B r.e r.sz r.v r.n r.xs
  sep : L.Pairwise fun a b => Sep a.v b.v
theorem ORows.nil (w : World) (B : Nat) : ORows w B [] := ⟨by simp, List.Pairwise.nil⟩
theorem ORows.below {w w1 : World} {B : Nat} {L : List ORow} (h : ORows w B L) (hb : Below w.heap.size w w1) : ORows w1 B L := ⟨fun r hr => own_below (h.own r hr) hb, h.sep⟩
theorem ORows.kept {w w1 : World} {B q : Nat} {L : List ORow} (h : ORows w B L) (hg : w.grownBy w1 (some q)) (hq : q < B) : ORows w1 B L :=
  ⟨fun r hr => (h.own r hr).kept hg (.inr (fun e => by have := (World.ownsRow.lt (h.own r hr) q e).1; omega)), h.sep⟩
theorem ORows.perm {w : World} {B : Nat} {L M : List ORow} (h : ORows w B L) (hp : L.Perm M) : ORows w B M :=
  ⟨fun r hr => h.own r (hp.mem_iff.2 hr), (hp.pairwise_iff (fun h => h.symm)).1 h.sep⟩
theorem own_kept {w w1 : World} {B n sz : Nat} {e : TypeId} {v : Value} {xs : List Value} {row : Option Nat} (h : w.ownsRow B e sz v n xs) (hg : w.grownBy w1 row) (hr : ∀ q, v.ownBlock = some q → row ≠ some q) : w1.ownsRow B e sz v n xs := by
  refine h.kept hg ?_
  cases hv : v.ownBlock with
  | none => exact .inl rfl
  | some q => exact .inr (fun e => hr q hv e.symm)
/-- The first row grows. -/
theorem ORows.grow {w w1 : World} {B : Nat} {r r1 : ORow} {L : List ORow} (h : ORows w B (r :: L)) (hg : w.grownBy w1 r.v.ownBlock) (ho : w1.ownsRow B r1.e r1.sz r1.v r1.n r1.xs) (hat : ∀ q, r1.v.ownBlock = some q → r.v.ownBlock = some q ∨ q = w.heap.size) : ORows w1 B (r1 :: L) := by
  have hs := List.pairwise_cons.1 h.sep
  refine ⟨fun x hx => ?_, List.pairwise_cons.2 ⟨fun x hx q h1 h2 => ?_, hs.2⟩⟩
  · rcases List.mem_cons.1 hx with rfl | hx
    · exact ho
    · exact own_kept (h.own x (List.mem_cons_of_mem _ hx)) hg (fun q hq e => hs.1 x hx q e hq)
  · rcases hat q h1 with e | e
    · exact hs.1 x hx q e h2
    · have := (World.ownsRow.lt (h.own x (List.mem_cons_of_mem _ hx)) q h2).2; omega
/-- A new row. -/
theorem ORows.new {w w1 : World} {B B1 : Nat} {r : ORow} {L : List ORow} (h : ORows w B L) (hk : ORows w1 B L) (ho : w1.ownsRow B1 r.e r.sz r.v r.n r.xs) (hB : B ≤ B1) (h1 : w.heap.size ≤ B1) : ORows w1 B (r :: L) := by
  refine ⟨fun x hx => ?_, List.pairwise_cons.2 ⟨fun x hx q h2 h3 => ?_, hk.sep⟩⟩
  · rcases List.mem_cons.1 hx with rfl | hx
    · exact own_base_le ho hB
    · exact hk.own x hx
  · have := (World.ownsRow.lt ho q h2).1
    have := (World.ownsRow.lt (h.own x hx) q h3).2
    omega
theorem ORows.empty {w : World} {B : Nat} {L : List ORow} (h : ORows w B L) (e : TypeId) (sz : Nat) : ORows w B (⟨.slice none 0 0, e, sz, 0, []⟩ :: L) := by
  refine ⟨fun x hx => ?_, List.pairwise_cons.2 ⟨fun x hx q h2 h3 => by simp [Value.ownBlock] at h2, h.sep⟩⟩
  rcases List.mem_cons.1 hx with rfl | hx
  · exact World.ownsRow_nil _ _ _ _
  · exact h.own x hx
/-- What lies in the blocks from B on is the same in another world. -/
theorem ORows.same {w w2 : World} {B : Nat} {L : List ORow} (h : ORows w B L) (hb : ∀ k, B ≤ k → k < w.heap.size → w2.heap[k]? = w.heap[k]?) : ORows w2 B L :=
  ⟨fun r hr => by
    have ho := h.own r hr
    refine ⟨ho.1, ?_⟩
    rcases ho.2 with h2 | ⟨g, cap, cur, q1, q2, q3, q4⟩
    · exact .inl h2
    · exact .inr ⟨g, cap, cur, q1, q2, (hb g q2 (Array.getElem?_eq_some_iff.1 q3).1).trans q3, q4⟩, h.sep⟩
def eRow (p : Value × List Nat) : ORow := ⟨p.1, 139, 1, p.2.length, flts p.2⟩
def tRow (p : Value × List Nd) : ORow := ⟨p.1, 90, 6, p.2.length, p.2.flatMap ndC⟩
def esRow (v : Value) (I : List (Value × List Nat)) : ORow := ⟨v, 94, 1, I.length, I.map Prod.fst⟩
def tsRow (v : Value) (I : List (Value × List Nd)) : ORow := ⟨v, 88, 1, I.length, I.map Prod.fst⟩
def sgC (x : Int × Int) : List Value := [.int .i64 x.1, .int .i64 x.2]
def sgRow (v : Value) (S : List (Int × Int)) : ORow := ⟨v, 49, 2, S.length, S.flatMap sgC⟩
/-- The rows of a forest that is being read. -/
def fRows (ve vt vs : Value) (I : List (Value × List Nat)) (J : List (Value × List Nd)) (S : List (Int × Int)) : List ORow := esRow ve I :: sgRow vs S :: tsRow vt J :: (I.map eRow ++ J.map tRow)
theorem own_cap {w : World} {B sz n c : Nat} {e : TypeId} {A : Option Addr} {xs : List Value} (h : w.ownsRow B e sz (.slice A n c) n xs) : n ≤ c ∧ c ≤ 9223372036854775807 := by
  rcases h.2 with ⟨e, e2⟩ | ⟨g', cap', cur, e, _, _, q1, q2, _⟩
  · simp only [Value.slice.injEq] at e; omega
  · simp only [Value.slice.injEq] at e; unfold maxLen at q2; omega
theorem at_cell (g i : Nat) : (⟨g, 0, none⟩ : Addr).add i = ⟨g, i, none⟩ := by unfold Addr.add; split <;> simp_all
theorem ORows.re {w : World} {B n c : Nat} {A : Option Addr} {I : List (Value × List Nat)} {L : List ORow} (h : ORows w B L) (h1 : esRow (.slice A n c) I ∈ L) (h2 : ∀ p ∈ I, eRow p ∈ L) (hs : ∀ p ∈ I, ∃ a c, p.1 = .slice a p.2.length c) (ho : ∀ p ∈ I, ∀ x ∈ p.2, x < 18446744073709551616) : RE w A (I.map Prod.snd) := by
  intro h0
  rw [List.length_map] at h0
  obtain ⟨g, cap, hv, _, _, _, hc⟩ := own_open (h.own _ h1) h0
  simp only [esRow, Value.slice.injEq] at hv
  obtain ⟨rfl, _, _⟩ := hv
  refine ⟨_, rfl, fun i y hy => ?_⟩
  rw [List.getElem?_map] at hy
  obtain ⟨p, hp, rfl⟩ := Option.map_eq_some_iff.1 hy
  have hpm := List.mem_of_getElem? hp
  obtain ⟨a, c', hpe⟩ := hs p hpm
  have hr := h.own _ (h2 p hpm)
  simp only [eRow] at hr
  rw [hpe] at hr
  refine ⟨[.slice a p.2.length c'], rfl, ⟨a, c', rfl, (own_cap hr).1, (own_cap hr).2, RF.own hr (ho p hpm)⟩, fun j u hj => ?_⟩
  obtain rfl : j = 0 := by have := (List.getElem?_eq_some_iff.1 hj).1; simp at this; omega
  simp only [List.getElem?_cons_zero, Option.some.injEq] at hj
  subst hj
  rw [Nat.mul_one, Nat.add_zero, at_cell]
  exact hc i _ (by simp only [esRow]; rw [List.getElem?_map, hp, Option.map_some, hpe])
theorem ORows.rt {w : World} {B n c : Nat} {A : Option Addr} {I : List (Value × List Nd)} {L : List ORow} (h : ORows w B L) (h1 : tsRow (.slice A n c) I ∈ L) (h2 : ∀ p ∈ I, tRow p ∈ L) (hs : ∀ p ∈ I, ∃ a c, p.1 = .slice a p.2.length c) (ho : ∀ p ∈ I, ∀ x ∈ p.2, x.ok) : RT w A (I.map Prod.snd) := by
  intro h0
  rw [List.length_map] at h0
  obtain ⟨g, cap, hv, _, _, _, hc⟩ := own_open (h.own _ h1) h0
  simp only [tsRow, Value.slice.injEq] at hv
  obtain ⟨rfl, _, _⟩ := hv
  refine ⟨_, rfl, fun i y hy => ?_⟩
  rw [List.getElem?_map] at hy
  obtain ⟨p, hp, rfl⟩ := Option.map_eq_some_iff.1 hy
  have hpm := List.mem_of_getElem? hp
  obtain ⟨a, c', hpe⟩ := hs p hpm
  have hr := h.own _ (h2 p hpm)
  simp only [tRow] at hr
  rw [hpe] at hr
  refine ⟨[.slice a p.2.length c'], rfl, ⟨a, c', rfl, (own_cap hr).1, (own_cap hr).2, RN.own hr (ho p hpm)⟩, fun j u hj => ?_⟩
  obtain rfl : j = 0 := by have := (List.getElem?_eq_some_iff.1 hj).1; simp at this; omega
  simp only [List.getElem?_cons_zero, Option.some.injEq] at hj
  subst hj
  rw [Nat.mul_one, Nat.add_zero, at_cell]
  exact hc i _ (by simp only [tsRow]; rw [List.getElem?_map, hp, Option.map_some, hpe])
theorem sg_get : ∀ (l : List (Int × Int)) (i j : Nat) (x : Int × Int), l[i]? = some x → j < 2 → (l.flatMap sgC)[i * 2 + j]? = (sgC x)[j]?
  | [], i, j, x, h, _ => by simp at h
  | y :: l, i, j, x, h, hj => by
    rw [List.flatMap_cons]
    rcases i with _ | i
    · simp at h; subst h
      rw [Nat.zero_mul, Nat.zero_add, List.getElem?_append_left (by simp [sgC]; exact hj)]
    · rw [List.getElem?_append_right (by simp [sgC]; omega), show (sgC y).length = 2 from rfl, show (i + 1) * 2 + j - 2 = i * 2 + j by omega]
      exact sg_get l i j x (by simpa using h) hj
theorem ORows.rs {w : World} {B n c : Nat} {A : Option Addr} {S : List (Int × Int)} {L : List ORow} (h : ORows w B L) (h1 : sgRow (.slice A n c) S ∈ L) (ho : ∀ x ∈ S, in64 x.1 ∧ in64 x.2) : RS2 w A S := by
  intro h0
  obtain ⟨g, cap, hv, _, _, _, hc⟩ := own_open (h.own _ h1) h0
  simp only [sgRow, Value.slice.injEq] at hv
  obtain ⟨rfl, _, _⟩ := hv
  refine ⟨_, rfl, fun i y hy => ⟨sgC y, rfl, ⟨rfl, ho y (List.mem_of_getElem? hy)⟩, fun j u hj => ?_⟩⟩
  have hj2 : j < 2 := by have := (List.getElem?_eq_some_iff.1 hj).1; simpa [sgC] using this
  rw [at_cell]
  exact hc _ _ (by simp only [sgRow]; rw [sg_get S i j y hy hj2]; exact hj)
end Go.Proofs.Ytpekofpiodaadaa.Hb
end

section
/- The walk of model.get. -/
namespace Go.Proofs.Ytpekofpiodaadaa.Hb
set_option linter.unusedVariables false
set_option linter.unusedSimpArgs false
open Go.RowKit

theorem forest_sz : (Try.prog.info? 59).map (·.size) = some 14 := by kernel_rfl
/-- Rows that are there wherever the blocks from B on are as they are. -/
def FrF (B : Nat) (w : World) (f : Fst) (Ae At As : Option Addr) : Prop := ∀ w2 : World, (∀ k, B ≤ k → k < w.heap.size → w2.heap[k]? = w.heap[k]?) → RFo w2 f Ae At As
theorem info_sg : (Try.prog.info? 49).map (fun i => (i.zero, i.size, i.bytes)) = some (some (.agg #[.int .i64 0, .int .i64 0]), 2, 16) := by kernel_rfl
theorem cfg_ok {l r : List Nat} {c : List Int} (h : cfgP l = .ok (c, r)) : chkL c = 0 := by
  unfold cfgP bindP at h
  split at h
  · simp only at h
    split at h
    · rename_i hc
      simp only [pureP, Except.ok.injEq, Prod.mk.injEq] at h
      rw [← h.1]; exact hc
    · cases h
  · cases h
theorem info_ns : (Try.prog.info? 88).map (fun i => (i.zero, i.size, i.bytes)) = some (some (.slice none 0 0), 1, 24) := by kernel_rfl
theorem num_small {x k M : Nat} (h : x < 256 ^ k) (hM : 256 ^ k ≤ M) : x < M := Nat.lt_of_lt_of_le h hM
set_option maxRecDepth 100000 in
set_option maxHeartbeats 16000000 in
theorem mget_any (N g : Nat) (l : List Nat) (w : World) (h : RdB w N g l) :
    Calls Try.prog 82 #[.pointer (some ⟨g, 0, none⟩)] w (Reads (getP l) (fun w' f v => ∃ Ae At As ce ct cs, v = .agg (forA f Ae At As ce ct cs) ∧ FrF w.heap.size w' f Ae At As ∧ OkB f) N g w) := by
  have KN := Lib.hid (fun k l w h h1 h2 => number_any N g k l w h h1 h2)
  have KW := Lib.hid (fun l w h => whole_any N g l w h)
  have KV := Lib.hid (fun l w h => value_any N g l w h)
  have KC := Lib.hid (fun l w h => cget_any N g l w h)
  have KT := Lib.hid (fun l cols bins kind classes w h => nget_any N g l cols bins kind classes w h)
  have KF3 := Lib.hid (fun w => fail_any g 3 (by decide) w)
  have KF4 := Lib.hid (fun w => fail_any g 4 (by decide) w)
  have hgN := h.gN
  have hNw := h.Nw
  obtain ⟨L0, hL0⟩ : ∃ L, l = L := ⟨_, rfl⟩
  rw [hL0] at h ⊢
  clear hL0 l
  have hbw : Below w.heap.size w (w.alloc (.cells #[.int .i64 0, .int .i64 0, .int .i64 0, .int .i64 0, .int .i64 0, .int .i64 0, .int .i64 0, .int .i64 0, .int .u64 0, .slice none 0 0, .slice none 0 0, .int .i64 0, .int .i64 0, .slice none 0 0] 59)) := (Below.refl w.heap.size w).alloc (Nat.le_refl _) _
  have HR0 := Lib.hid (h.below hbw)
  have H00 := Lib.hid (Blk.new w #[.int .i64 0, .int .i64 0, .int .i64 0, .int .i64 0, .int .i64 0, .int .i64 0, .int .i64 0, .int .i64 0, .int .u64 0, .slice none 0 0, .slice none 0 0, .int .i64 0, .int .i64 0, .slice none 0 0] 59)
  have HG0 := Lib.hid (gr_below (row := some g) hbw)
  obtain ⟨W, hW⟩ : ∃ W, w.alloc (.cells #[.int .i64 0, .int .i64 0, .int .i64 0, .int .i64 0, .int .i64 0, .int .i64 0, .int .i64 0, .int .i64 0, .int .u64 0, .slice none 0 0, .slice none 0 0, .int .i64 0, .int .i64 0, .slice none 0 0] 59) = W := ⟨_, rfl⟩
  obtain ⟨g0, hg0⟩ : ∃ z, w.heap.size = z := ⟨_, rfl⟩
  rw [hW] at HR0 H00 HG0
  rw [hg0] at H00 hNw ⊢
  have HSZ := Lib.hid hg0
  go_enter Try.func82, Try.ntmps82
  go_upto_region 1 with (fail)
  clear hbw h hW hg0
  go_wp2_with fail
  refine (KN.out 4 _ W HR0.out (by decide) (by decide)).mono ?_
  rintro e w1 ⟨hg1, ⟨x1, r1, v, hp1, rfl, ⟨rfl, hx1⟩, hr1⟩ | ⟨er, hp1, rfl⟩⟩
  rotate_left
  · unfold Flt
    go_wp2_with fail
    exact ⟨rfl, gr_trans HG0.out hg1, .inr ⟨er, by unfold getP; exact bind_err hp1, rfl⟩⟩
  have HG1 := Lib.hid (gr_trans HG0.out hg1)
  have HR1 := Lib.hid hr1
  have HP1 := Lib.hid hp1
  have HX1 := Lib.hid hx1
  have H01 := Lib.hid (own_blk H00.out hg1 (fun e => by simp only [Option.some.injEq] at e; omega))
  clear hg1 hp1 hr1 hx1
  have hx1 : x1 < 4294967296 := HX1.out
  by_cases hm : x1 = 1414677829
  rotate_left
  · have e1 : ((x1 : Int) == 1414677829) = false := beq_eq_false_iff_ne.2 (by omega)
    have e2 : ((x1 : Int) != 1414677829) = true := bne_iff_ne.2 (by omega)
    have HM := Lib.hid hm
    clear hm
    go_wp2_with fail
    refine (KF3.out _).mono ?_
    rintro e wz ⟨rfl, rfl⟩
    unfold Flt
    go_wp2_with fail
    exact ⟨rfl, HG1.out, .inr ⟨3, by unfold getP; rw [bind_ok HP1.out, if_pos HM.out]; rfl, rfl⟩⟩
  subst hm
  clear hx1
  go_wp2_with fail
  refine (KC.out _ w1 HR1.out).mono ?_
  rintro e w2 ⟨hg2, ⟨x2, r2, v, hp2, rfl, ⟨rfl, hx2⟩, hr2⟩ | ⟨er, hp2, rfl⟩⟩
  rotate_left
  · unfold Flt
    go_wp2_with fail
    exact ⟨rfl, gr_trans HG1.out hg2, .inr ⟨er, by unfold getP; rw [bind_ok HP1.out, if_neg (by decide)]; exact bind_err hp2, rfl⟩⟩
  have HG2 := Lib.hid (gr_trans HG1.out hg2)
  have HR2 := Lib.hid hr2
  have HP2 := Lib.hid hp2
  have HX2 := Lib.hid hx2
  have H02 := Lib.hid (own_blk H01.out hg2 (fun e => by simp only [Option.some.injEq] at e; omega))
  clear hg2 hp2 hr2 hx2
  obtain ⟨k, cl, b, tt, d, l, p, hc, hh, hb2, ht3⟩ : ∃ k cl b tt d l p : Int, cfgC x2 = #[.int .i64 k, .int .i64 cl, .int .i64 b, .int .i64 tt, .int .i64 d, .int .i64 l, .int .i64 p] ∧ (∀ cols seed num den, Fst.head x2 cols seed num den = ⟨k, cl, b, tt, d, l, p, cols, seed, [], [], num, den, []⟩) ∧ x2.getD 2 0 = b ∧ x2.getD 3 0 = tt := ⟨_, _, _, _, _, _, _, rfl, fun _ _ _ _ => rfl, rfl, rfl⟩
  rw [hc]
  have HH := Lib.hid (And.intro hh (And.intro hb2 ht3))
  clear hc hh hb2 ht3
  go_upto_region 4 with (fail)
  have hb3 : Below w2.heap.size w2 (w2.alloc (.cells #[.int .i64 k, .int .i64 cl, .int .i64 b, .int .i64 tt, .int .i64 d, .int .i64 l, .int .i64 p, .int .i64 0, .int .u64 0, .slice none 0 0, .slice none 0 0, .int .i64 0, .int .i64 0, .slice none 0 0] 59)) := (Below.refl w2.heap.size w2).alloc (Nat.le_refl _) _
  have HK3 := Lib.hid (Blk.new w2 #[.int .i64 k, .int .i64 cl, .int .i64 b, .int .i64 tt, .int .i64 d, .int .i64 l, .int .i64 p, .int .i64 0, .int .u64 0, .slice none 0 0, .slice none 0 0, .int .i64 0, .int .i64 0, .slice none 0 0] 59)
  have H03 := Lib.hid (H02.out.below hb3)
  have HR3 := Lib.hid (HR2.out.below hb3)
  have HG3 := Lib.hid (gr_trans HG2.out (gr_below hb3))
  have hg03 : g0 < w2.heap.size := H02.out.lt
  obtain ⟨W3, hW3⟩ : ∃ W, w2.alloc (.cells #[.int .i64 k, .int .i64 cl, .int .i64 b, .int .i64 tt, .int .i64 d, .int .i64 l, .int .i64 p, .int .i64 0, .int .u64 0, .slice none 0 0, .slice none 0 0, .int .i64 0, .int .i64 0, .slice none 0 0] 59) = W := ⟨_, rfl⟩
  obtain ⟨g3, hg3⟩ : ∃ z, w2.heap.size = z := ⟨_, rfl⟩
  rw [hW3] at HK3 H03 HR3 HG3 ⊢
  rw [hg3] at HK3 hg03 ⊢
  clear hb3 hW3 hg3 H02 HR2 HG2 H01 HR1 HG1 H00 HR0 HG0
  go_wp2_with fail
  refine (KN.out 2 _ W3 HR3.out (by decide) (by decide)).mono ?_
  rintro e w4 ⟨hg4, ⟨x4, r4, v, hp4, rfl, ⟨rfl, hx4⟩, hr4⟩ | ⟨er, hp4, rfl⟩⟩
  rotate_left
  · unfold Flt
    go_wp2_with fail
    exact ⟨rfl, gr_trans HG3.out hg4, .inr ⟨er, by unfold getP; rw [bind_ok HP1.out, if_neg (by decide), bind_ok HP2.out]; exact bind_err hp4, rfl⟩⟩
  have HG4 := Lib.hid (gr_trans HG3.out hg4)
  have HR4 := Lib.hid hr4
  have HP4 := Lib.hid hp4
  have HX4 := Lib.hid hx4
  have H04 := Lib.hid (own_blk H03.out hg4 (fun e => by simp only [Option.some.injEq] at e; omega))
  have HK4 := Lib.hid (own_blk HK3.out hg4 (fun e => by simp only [Option.some.injEq] at e; omega))
  clear hg4 hp4 hr4 hx4
  have hw := i64_small (x := x4) (Nat.lt_of_lt_of_le HX4.out (by decide))
  have z0 := HK4.out.cell 7
  have z1 := fun i => HK4.out.frozen i
  have z2 := HK4.out.lt
  go_upto_region 5 with (fail)
  have HK5 : Hid (Blk (w4.setCell ⟨g3, 7, none⟩ (.int .i64 (x4 : Int))) g3 #[.int .i64 k, .int .i64 cl, .int .i64 b, .int .i64 tt, .int .i64 d, .int .i64 l, .int .i64 p, .int .i64 (x4 : Int), .int .u64 0, .slice none 0 0, .slice none 0 0, .int .i64 0, .int .i64 0, .slice none 0 0] 59) := Lib.hid (HK4.out.set 7 _)
  have H05 := Lib.hid (own_blk H04.out (gr_cell w4 g3 7 (.int .i64 (x4 : Int))) (fun e => by simp only [Option.some.injEq] at e; omega))
  have HR5 := Lib.hid (HR4.out.kept (gr_cell w4 g3 7 (.int .i64 (x4 : Int))) (by omega))
  have HG5 := Lib.hid (gr_new (i := 7) HG4.out (.int .i64 (x4 : Int)) (q := g3) (by have := HSZ.out; omega))
  obtain ⟨W5, hW5⟩ : ∃ W, w4.setCell ⟨g3, 7, none⟩ (.int .i64 (x4 : Int)) = W := ⟨_, rfl⟩
  rw [hW5] at HK5 H05 HR5 HG5 ⊢
  clear z0 z1 z2 hW5 HK4 H04 HR4 HG4
  have q7 := HK5.out.cell 7
  by_cases hc0 : x4 = 0
  · subst hc0
    go_wp2_with fail
    refine (KF3.out _).mono ?_
    rintro e wz ⟨rfl, rfl⟩
    unfold Flt
    go_wp2_with fail
    exact ⟨rfl, HG5.out, .inr ⟨3, by unfold getP; rw [bind_ok HP1.out, if_neg (by decide), bind_ok HP2.out]; rw [bind_ok HP4.out]; rw [if_pos rfl]; rfl, rfl⟩⟩
  have e1 : ((x4 : Int) == 0) = false := beq_eq_false_iff_ne.2 (by omega)
  by_cases hc1 : 1024 < x4
  · have d1 : decide (1024 < x4) = true := decide_eq_true hc1
    have d1' : decide ((1024 : Int) < x4) = true := decide_eq_true (by omega)
    have HC0 := Lib.hid (And.intro hc0 hc1)
    clear hc0 hc1
    go_wp2_with fail
    refine (KF4.out _).mono ?_
    rintro e wz ⟨rfl, rfl⟩
    unfold Flt
    go_wp2_with fail
    exact ⟨rfl, HG5.out, .inr ⟨4, by unfold getP; rw [bind_ok HP1.out, if_neg (by decide), bind_ok HP2.out]; rw [bind_ok HP4.out]; rw [if_neg HC0.out.1, if_pos HC0.out.2]; rfl, rfl⟩⟩
  have d1 : decide (1024 < x4) = false := decide_eq_false hc1
  have d1' : decide ((1024 : Int) < x4) = false := decide_eq_false (by omega)
  have HC0 := Lib.hid (And.intro hc0 hc1)
  clear hc0 hc1
  go_upto_region 9 with (fail)
  clear d1 d1' e1 q7 hw
  go_wp2_with fail
  refine (KN.out 8 _ W5 HR5.out (by decide) (by decide)).mono ?_
  rintro e w6 ⟨hg6, ⟨x6, r6, v, hp6, rfl, ⟨rfl, hx6⟩, hr6⟩ | ⟨er, hp6, rfl⟩⟩
  rotate_left
  · unfold Flt
    go_wp2_with fail
    exact ⟨rfl, gr_trans HG5.out hg6, .inr ⟨er, by unfold getP; rw [bind_ok HP1.out, if_neg (by decide), bind_ok HP2.out]; rw [bind_ok HP4.out]; rw [if_neg HC0.out.1, if_neg HC0.out.2]; exact bind_err hp6, rfl⟩⟩
  have HG6 := Lib.hid (gr_trans HG5.out hg6)
  have HR6 := Lib.hid hr6
  have HP6 := Lib.hid hp6
  have HX6 := Lib.hid hx6
  have H06 := Lib.hid (own_blk H05.out hg6 (fun e => by simp only [Option.some.injEq] at e; omega))
  have HK6 := Lib.hid (own_blk HK5.out hg6 (fun e => by simp only [Option.some.injEq] at e; omega))
  clear hg6 hp6 hr6 hx6
  have z0 := HK6.out.cell 8
  have z1 := fun i => HK6.out.frozen i
  have z2 := HK6.out.lt
  go_upto_region 10 with (fail)
  have HK7 : Hid (Blk (w6.setCell ⟨g3, 8, none⟩ (.int .u64 (x6 : Int))) g3 #[.int .i64 k, .int .i64 cl, .int .i64 b, .int .i64 tt, .int .i64 d, .int .i64 l, .int .i64 p, .int .i64 (x4 : Int), .int .u64 (x6 : Int), .slice none 0 0, .slice none 0 0, .int .i64 0, .int .i64 0, .slice none 0 0] 59) := Lib.hid (HK6.out.set 8 _)
  have H07 := Lib.hid (own_blk H06.out (gr_cell w6 g3 8 (.int .u64 (x6 : Int))) (fun e => by simp only [Option.some.injEq] at e; omega))
  have HR7 := Lib.hid (HR6.out.kept (gr_cell w6 g3 8 (.int .u64 (x6 : Int))) (by omega))
  have HG7 := Lib.hid (gr_new (i := 8) HG6.out (.int .u64 (x6 : Int)) (q := g3) (by have := HSZ.out; omega))
  obtain ⟨W7, hW7⟩ : ∃ W, w6.setCell ⟨g3, 8, none⟩ (.int .u64 (x6 : Int)) = W := ⟨_, rfl⟩
  rw [hW7] at HK7 H07 HR7 HG7 ⊢
  clear z0 z1 z2 hW7 HK6 H06 HR6 HG6
  go_wp2_with fail
  refine (KW.out _ W7 HR7.out).mono ?_
  rintro e w8 ⟨hg8, ⟨x8, r8, v, hp8, rfl, rfl, hr8⟩ | ⟨er, hp8, rfl⟩⟩
  rotate_left
  · unfold Flt
    go_wp2_with fail
    exact ⟨rfl, gr_trans HG7.out hg8, .inr ⟨er, by unfold getP; rw [bind_ok HP1.out, if_neg (by decide), bind_ok HP2.out]; rw [bind_ok HP4.out]; rw [if_neg HC0.out.1, if_neg HC0.out.2]; rw [bind_ok HP6.out]; exact bind_err hp8, rfl⟩⟩
  have HG8 := Lib.hid (gr_trans HG7.out hg8)
  have HR8 := Lib.hid hr8
  have HP8 := Lib.hid hp8
  have H08 := Lib.hid (own_blk H07.out hg8 (fun e => by simp only [Option.some.injEq] at e; omega))
  have HK8 := Lib.hid (own_blk HK7.out hg8 (fun e => by simp only [Option.some.injEq] at e; omega))
  clear hg8 hp8 hr8
  have z0 := HK8.out.cell 11
  have z1 := fun i => HK8.out.frozen i
  have z2 := HK8.out.lt
  go_upto_region 11 with (fail)
  have HK9 : Hid (Blk (w8.setCell ⟨g3, 11, none⟩ (.int .i64 (sI x8))) g3 #[.int .i64 k, .int .i64 cl, .int .i64 b, .int .i64 tt, .int .i64 d, .int .i64 l, .int .i64 p, .int .i64 (x4 : Int), .int .u64 (x6 : Int), .slice none 0 0, .slice none 0 0, .int .i64 (sI x8), .int .i64 0, .slice none 0 0] 59) := Lib.hid (HK8.out.set 11 _)
  have H09 := Lib.hid (own_blk H08.out (gr_cell w8 g3 11 (.int .i64 (sI x8))) (fun e => by simp only [Option.some.injEq] at e; omega))
  have HR9 := Lib.hid (HR8.out.kept (gr_cell w8 g3 11 (.int .i64 (sI x8))) (by omega))
  have HG9 := Lib.hid (gr_new (i := 11) HG8.out (.int .i64 (sI x8)) (q := g3) (by have := HSZ.out; omega))
  obtain ⟨W9, hW9⟩ : ∃ W, w8.setCell ⟨g3, 11, none⟩ (.int .i64 (sI x8)) = W := ⟨_, rfl⟩
  rw [hW9] at HK9 H09 HR9 HG9 ⊢
  clear z0 z1 z2 hW9 HK8 H08 HR8 HG8
  go_wp2_with fail
  refine (KN.out 4 _ W9 HR9.out (by decide) (by decide)).mono ?_
  rintro e w10 ⟨hg10, ⟨x10, r10, v, hp10, rfl, ⟨rfl, hx10⟩, hr10⟩ | ⟨er, hp10, rfl⟩⟩
  rotate_left
  · unfold Flt
    go_wp2_with fail
    exact ⟨rfl, gr_trans HG9.out hg10, .inr ⟨er, by unfold getP; rw [bind_ok HP1.out, if_neg (by decide), bind_ok HP2.out]; rw [bind_ok HP4.out]; rw [if_neg HC0.out.1, if_neg HC0.out.2]; rw [bind_ok HP6.out]; rw [bind_ok HP8.out]; exact bind_err hp10, rfl⟩⟩
  have HG10 := Lib.hid (gr_trans HG9.out hg10)
  have HR10 := Lib.hid hr10
  have HP10 := Lib.hid hp10
  have HX10 := Lib.hid hx10
  have H010 := Lib.hid (own_blk H09.out hg10 (fun e => by simp only [Option.some.injEq] at e; omega))
  have HK10 := Lib.hid (own_blk HK9.out hg10 (fun e => by simp only [Option.some.injEq] at e; omega))
  clear hg10 hp10 hr10 hx10
  have hw := i64_small (x := x10) (Nat.lt_of_lt_of_le HX10.out (by decide))
  have z0 := HK10.out.cell 12
  have z1 := fun i => HK10.out.frozen i
  have z2 := HK10.out.lt
  go_upto_region 12 with (fail)
  have HK11 : Hid (Blk (w10.setCell ⟨g3, 12, none⟩ (.int .i64 (x10 : Int))) g3 #[.int .i64 k, .int .i64 cl, .int .i64 b, .int .i64 tt, .int .i64 d, .int .i64 l, .int .i64 p, .int .i64 (x4 : Int), .int .u64 (x6 : Int), .slice none 0 0, .slice none 0 0, .int .i64 (sI x8), .int .i64 (x10 : Int), .slice none 0 0] 59) := Lib.hid (HK10.out.set 12 _)
  have H011 := Lib.hid (own_blk H010.out (gr_cell w10 g3 12 (.int .i64 (x10 : Int))) (fun e => by simp only [Option.some.injEq] at e; omega))
  have HR11 := Lib.hid (HR10.out.kept (gr_cell w10 g3 12 (.int .i64 (x10 : Int))) (by omega))
  have HG11 := Lib.hid (gr_new (i := 12) HG10.out (.int .i64 (x10 : Int)) (q := g3) (by have := HSZ.out; omega))
  obtain ⟨W11, hW11⟩ : ∃ W, w10.setCell ⟨g3, 12, none⟩ (.int .i64 (x10 : Int)) = W := ⟨_, rfl⟩
  rw [hW11] at HK11 H011 HR11 HG11 ⊢
  clear z0 z1 z2 hW11 HK10 H010 HR10 HG10
  obtain ⟨i0, hi0, hz0, hz1, hz2⟩ := info_parts info_f64
  obtain ⟨i1, hi1, hy0, hy1, hy2⟩ := info_parts info_fs
  obtain ⟨i2, hi2, hv0, hv1, hv2⟩ := info_parts info_sg
  have KCU := Lib.hid (fun es A cap w hr hl => cuts_any k cl b tt d l p es A cap w hr hl)
  unfold cfgF at KCU
  have hx4 : x4 ≤ 1024 := by have := HC0.out; omega
  obtain ⟨R, hR⟩ : ∃ R, colsA b (x10 : Int) x4 [] [] r10 = R := ⟨_, rfl⟩
  have HRR := Lib.hid hR
  clear hR
  have q7 := HK11.out.cell 7
  go_wp2_with fail
  clear q7 hw
  go_loopw [44] (fun iv wr => ∃ (j : Nat) (Ae As : Option Addr) (ce cs : Nat) (I : List (Value × List Nat)) (S : List (Int × Int)) (rest : List Nat), j ≤ x4 ∧ iv = .int .i64 j ∧ Hid (Blk wr g3 #[.int .i64 k, .int .i64 cl, .int .i64 b, .int .i64 tt, .int .i64 d, .int .i64 l, .int .i64 p, .int .i64 (x4 : Int), .int .u64 (x6 : Int), .slice Ae j ce, .slice none 0 0, .int .i64 (sI x8), .int .i64 (x10 : Int), .slice As j cs] 59) ∧ Hid (ORows wr (g3 + 1) (esRow (.slice Ae j ce) I :: sgRow (.slice As j cs) S :: I.map eRow)) ∧ Hid (I.length = j ∧ S.length = j ∧ (∀ p ∈ I, ∃ a c, p.1 = .slice a p.2.length c) ∧ (∀ p ∈ I, p.2.length ≤ 255 ∧ ∀ x ∈ p.2, x < 18446744073709551616) ∧ ∀ x ∈ S, in64 x.1 ∧ in64 x.2) ∧ Hid (RdB wr N g rest) ∧ Hid (colsA b (x10 : Int) (x4 - j) (I.map Prod.snd) S rest = R) ∧ Hid (w.grownBy wr (some g)) ∧ Hid (Blk wr g0 #[.int .i64 0, .int .i64 0, .int .i64 0, .int .i64 0, .int .i64 0, .int .i64 0, .int .i64 0, .int .i64 0, .int .u64 0, .slice none 0 0, .slice none 0 0, .int .i64 0, .int .i64 0, .slice none 0 0] 59)) (fun iv _ => x4 - (intOf iv).toNat)
  case atStart => exact ⟨0, none, none, 0, 0, [], [], r10, Nat.zero_le _, rfl, HK11, Lib.hid (((ORows.nil _ _).empty _ _).empty _ _), Lib.hid ⟨rfl, rfl, by simp, by simp, by simp⟩, HR11, HRR, HG11, H011⟩
  case round =>
    obtain ⟨j, Ae, As, ce, cs, I, S, rest, hj, rfl, HK19, HO19, HI, HR19, HNO, HG19, H019⟩ := hrel
    clear HK11 HR11 HG11 H011
    by_cases hlt : j < x4
    · have hlt' : (j : Int) < x4 := by omega
      have HS : Hid (R = bindP (numP 1) (fun m => bindP (valsA m []) fun es => if cutsE b es then bindP (numP 8) fun x => colsA b (x10 : Int) (x4 - (j + 1)) (I.map Prod.snd ++ [es]) (S ++ [(sI x, (x10 : Int))]) else failP 3) rest) := Lib.hid (by rw [← HNO.out, show x4 - j = (x4 - (j + 1)) + 1 from by omega]; rfl)
      clear HNO
      go_wp2_with fail
      refine (KN.out 1 _ wr HR19.out (by decide) (by decide)).mono ?_
      rintro e w20 ⟨hg20, ⟨x20, r20, v, hp20, rfl, ⟨rfl, hx20⟩, hr20⟩ | ⟨er, hp20, rfl⟩⟩
      rotate_left
      · unfold Flt
        go_wp2_with fail
        exact ⟨rfl, gr_trans HG19.out hg20, .inr ⟨er, by unfold getP; rw [bind_ok HP1.out, if_neg (by decide), bind_ok HP2.out]; rw [bind_ok HP4.out]; rw [if_neg HC0.out.1, if_neg HC0.out.2]; rw [bind_ok HP6.out]; rw [bind_ok HP8.out]; rw [bind_ok HP10.out]; rw [HH.out.2.1]; exact bind_err (HRR.out.trans (HS.out.trans (bind_err hp20))), rfl⟩⟩
      have HG20 := Lib.hid (gr_trans HG19.out hg20)
      have HR20 := Lib.hid hr20
      have HP20 := Lib.hid hp20
      have HX20 := Lib.hid hx20
      have H020 := Lib.hid (own_blk H019.out hg20 (fun e => by simp only [Option.some.injEq] at e; omega))
      have HK20 := Lib.hid (own_blk HK19.out hg20 (fun e => by simp only [Option.some.injEq] at e; omega))
      have HO20 := Lib.hid (HO19.out.kept hg20 (by omega))
      clear hg20 hp20 hr20 hx20
      have HS20 : Hid (R = bindP (valsA x20 []) (fun es => if cutsE b es then bindP (numP 8) fun x => colsA b (x10 : Int) (x4 - (j + 1)) (I.map Prod.snd ++ [es]) (S ++ [(sI x, (x10 : Int))]) else failP 3) r20) := Lib.hid (by rw [HS.out, bind_ok HP20.out])
      have hx20 : x20 < 256 := HX20.out
      clear HS HP20 HX20 HK19 HO19 HR19 HG19 H019
      obtain ⟨R2, hR2⟩ : ∃ R, valsA x20 [] r20 = R := ⟨_, rfl⟩
      have HRR2 := Lib.hid hR2
      clear hR2
      obtain ⟨LR, hLR⟩ : ∃ L, (esRow (.slice Ae j ce) I :: sgRow (.slice As j cs) S :: I.map eRow) = L := ⟨_, rfl⟩
      rw [hLR] at HO20
      have HLR := Lib.hid hLR
      clear hLR
      go_wp2_with fail
      go_loopw [4, 48] (fun o iv wv => ∃ (i : Nat) (a : Option Addr) (c : Nat) (out rest2 : List Nat), i ≤ x20 ∧ iv = .int .u64 i ∧ o = .slice a i c ∧ Hid (out.length = i ∧ ∀ x ∈ out, x < 18446744073709551616) ∧ Hid (ORows wv (g3 + 1) (⟨.slice a i c, 139, 1, i, flts out⟩ :: LR)) ∧ Hid (RdB wv N g rest2) ∧ Hid (valsA (x20 - i) out rest2 = R2) ∧ Hid (w.grownBy wv (some g)) ∧ Hid (Blk wv g3 #[.int .i64 k, .int .i64 cl, .int .i64 b, .int .i64 tt, .int .i64 d, .int .i64 l, .int .i64 p, .int .i64 (x4 : Int), .int .u64 (x6 : Int), .slice Ae j ce, .slice none 0 0, .int .i64 (sI x8), .int .i64 (x10 : Int), .slice As j cs] 59) ∧ Hid (Blk wv g0 #[.int .i64 0, .int .i64 0, .int .i64 0, .int .i64 0, .int .i64 0, .int .i64 0, .int .i64 0, .int .i64 0, .int .u64 0, .slice none 0 0, .slice none 0 0, .int .i64 0, .int .i64 0, .slice none 0 0] 59)) (fun _ iv _ => x20 - (intOf iv).toNat)
      case atStart => exact ⟨0, none, 0, [], r20, Nat.zero_le _, rfl, rfl, Lib.hid ⟨rfl, by simp⟩, Lib.hid (HO20.out.empty _ _), HR20, HRR2, HG20, HK20, H020⟩
      case round =>
        obtain ⟨i, a, c, out, rest2, hi, rfl, rfl, HV, HO29, HR29, HNO, HG29, HK29, H029⟩ := hrel
        clear HO20 HR20 HG20 HK20 H020
        by_cases hlt2 : i < x20
        · have hlt2' : (i : Int) < x20 := by omega
          have HSV : Hid (R2 = bindP (numP 8) (fun x => valsA (x20 - (i + 1)) (out ++ [x])) rest2) := Lib.hid (by rw [← HNO.out, show x20 - i = (x20 - (i + 1)) + 1 from by omega]; rfl)
          clear HNO
          go_wp2_with fail
          refine (KV.out _ wr HR29.out).mono ?_
          rintro e w30 ⟨hg30, ⟨x30, r30, v, hp30, rfl, ⟨rfl, hx30⟩, hr30⟩ | ⟨er, hp30, rfl⟩⟩
          rotate_left
          · unfold Flt
            go_wp2_with fail
            exact ⟨rfl, gr_trans HG29.out hg30, .inr ⟨er, by unfold getP; rw [bind_ok HP1.out, if_neg (by decide), bind_ok HP2.out]; rw [bind_ok HP4.out]; rw [if_neg HC0.out.1, if_neg HC0.out.2]; rw [bind_ok HP6.out]; rw [bind_ok HP8.out]; rw [bind_ok HP10.out]; rw [HH.out.2.1]; exact bind_err (HRR.out.trans (HS20.out.trans (bind_err (HRR2.out.trans (HSV.out.trans (bind_err hp30)))))), rfl⟩⟩
          have HG30 := Lib.hid (gr_trans HG29.out hg30)
          have HR30 := Lib.hid hr30
          have HP30 := Lib.hid hp30
          have HX30 := Lib.hid hx30
          have H030 := Lib.hid (own_blk H029.out hg30 (fun e => by simp only [Option.some.injEq] at e; omega))
          have HK30 := Lib.hid (own_blk HK29.out hg30 (fun e => by simp only [Option.some.injEq] at e; omega))
          have HO30 := Lib.hid (HO29.out.kept hg30 (by omega))
          clear hg30 hp30 hr30 hx30
          have HSV2 : Hid (valsA (x20 - (i + 1)) (out ++ [x30]) r30 = R2) := Lib.hid (by rw [HSV.out, bind_ok HP30.out])
          have HOW := Lib.hid (HO30.out.own _ (List.mem_cons_self ..))
          have hl30 := HK30.out.lt
          go_wp2_with (at_builtin; refine wpList_append_lies _ rfl _ _ 94 rfl (g3 + 1) 139 i0 (.float .f64 0) 1 8 Try.underlying94 hi0 hz0 hz1 hz2 rfl (by decide) (.slice a i c) i (flts out) rfl (HOW.out.alloc _) ⟨w30.heap.size, 0, none⟩ 1 1 [.float .f64 x30] rfl rfl (cell_one_new _ _ _) (by simp [Value.oneCell']) (by decide) (by unfold maxLen; omega) (by omega) (by simp; omega) _ rfl ?_; intro g5 c5 w5 hown5 hg5 hat5 hlt5)
          have hq : ∀ q, (Value.slice a i c).ownBlock = some q → g3 + 1 ≤ q := fun q e => (World.ownsRow.lt HOW.out q e).1
          go_roundw
          case rel => exact ⟨i + 1, _, c5, out ++ [x30], r30, hlt2, by go_num, rfl, Lib.hid ⟨by rw [List.length_append, HV.out.1]; rfl, fun x hx => by
            rcases List.mem_append.1 hx with hx | hx
            · exact HV.out.2 x hx
            · simp only [List.mem_singleton] at hx; subst hx; exact HX30.out⟩,
            Lib.hid ((HO30.out.below ((Below.refl w30.heap.size w30).alloc (Nat.le_refl _) (.cells #[.float .f64 x30] 139))).grow (r1 := ⟨.slice (some ⟨g5, 0, none⟩) (i + 1) c5, 139, 1, i + 1, flts (out ++ [x30])⟩) hg5 (by rw [show flts (out ++ [x30]) = flts out ++ [.float .f64 x30] from by unfold flts; rw [List.map_append]; rfl]; exact hown5) (fun q e => by simp only [Value.ownBlock, Option.some.injEq] at e; subst e; exact hat5)),
            Lib.hid (rd_grown (HR30.out.below ((Below.refl w30.heap.size w30).alloc (Nat.le_refl _) (.cells #[.float .f64 x30] 139))) hg5 (fun q e => by have := hq q e; omega)), HSV2, Lib.hid (gr_own (gr_trans HG30.out (gr_below ((Below.refl w30.heap.size w30).alloc (Nat.le_refl _) (.cells #[.float .f64 x30] 139)))) hg5 (fun q e => by have := hq q e; have := HSZ.out; omega)), Lib.hid (own_blk (HK30.out.below ((Below.refl w30.heap.size w30).alloc (Nat.le_refl _) (.cells #[.float .f64 x30] 139))) hg5 (fun e => by have := hq _ e; omega)), Lib.hid (own_blk (H030.out.below ((Below.refl w30.heap.size w30).alloc (Nat.le_refl _) (.cells #[.float .f64 x30] 139))) hg5 (fun e => by have := hq _ e; omega))⟩
          case measure => simp [intOf]; omega
        · obtain rfl : x20 = i := by omega
          have HS29 : Hid (R = (if cutsE b out then bindP (numP 8) fun x => colsA b (x10 : Int) (x4 - (j + 1)) (I.map Prod.snd ++ [out]) (S ++ [(sI x, (x10 : Int))]) else failP 3) rest2) := Lib.hid (by rw [HS20.out, bind_ok (HRR2.out.trans (by rw [← HNO.out, Nat.sub_self]; rfl))])
          have HOW := Lib.hid (HO29.out.own _ (List.mem_cons_self ..))
          have KCX := Lib.hid (KCU.out out a c wr (RF.own (by have := HOW.out; simp only at this; rw [← HV.out.1] at this; exact this) HV.out.2) (by rw [HV.out.1]; omega))
          rw [HV.out.1] at KCX
          obtain ⟨q0, q1, q2, q3, q4, q5, q6, q7, q8, q9, q10, q11, q12, q13⟩ := HK29.out.cells14
          clear HS20 HRR2 HNO
          obtain ⟨ct, hct⟩ : ∃ z, cutsE b out = z := ⟨_, rfl⟩
          rw [hct] at KCX
          have HCT := Lib.hid hct
          clear hct
          go_wp2_with fail
          refine KCX.out.mono ?_
          rintro e w31 ⟨rfl, hb⟩
          have HK31 := Lib.hid (HK29.out.below hb)
          have H031 := Lib.hid (H029.out.below hb)
          have HR31 := Lib.hid (HR29.out.below hb)
          have HG31 := Lib.hid (gr_trans HG29.out (gr_below hb))
          have HO31 := Lib.hid (HO29.out.below hb)
          clear hb q0 q1 q2 q3 q4 q5 q6 q7 q8 q9 q10 q11 q12 q13 HK29 H029 HR29 HG29 HO29 HOW KCX
          cases ct with
          | false =>
            go_wp2_with fail
            refine (KF3.out _).mono ?_
            rintro e wz ⟨rfl, rfl⟩
            unfold Flt
            go_wp2_with fail
            exact ⟨rfl, HG31.out, .inr ⟨3, by unfold getP; rw [bind_ok HP1.out, if_neg (by decide), bind_ok HP2.out]; rw [bind_ok HP4.out]; rw [if_neg HC0.out.1, if_neg HC0.out.2]; rw [bind_ok HP6.out]; rw [bind_ok HP8.out]; rw [bind_ok HP10.out]; rw [HH.out.2.1]; exact bind_err (HRR.out.trans (HS29.out.trans (by rw [if_neg (by rw [HCT.out]; decide)]; rfl))), rfl⟩⟩
          | true =>
            have HS31 : Hid (R = bindP (numP 8) (fun x => colsA b (x10 : Int) (x4 - (j + 1)) (I.map Prod.snd ++ [out]) (S ++ [(sI x, (x10 : Int))])) rest2) := Lib.hid (by rw [HS29.out, if_pos HCT.out])
            rw [← HLR.out] at HO31
            have HO32 := Lib.hid (HO31.out.perm (List.Perm.swap _ _ _))
            have HOW := Lib.hid (HO32.out.own _ (List.mem_cons_self ..))
            have hl31 := HK31.out.lt
            have hq : ∀ q, (Value.slice Ae j ce).ownBlock = some q → g3 + 1 ≤ q := fun q e => (World.ownsRow.lt HOW.out q e).1
            have HOW2 : Hid (w31.ownsRow (g3 + 1) 94 1 (.slice Ae j ce) j (I.map Prod.fst)) := Lib.hid (by have := HOW.out; simp only [esRow] at this; rw [HI.out.1] at this; exact this)
            have q9 := HK31.out.cell 9
            go_upto_region 22 with (at_builtin; refine wpList_append_lies _ rfl _ _ 57 rfl (g3 + 1) 94 i1 (.slice none 0 0) 1 24 Try.underlying57 hi1 hy0 hy1 hy2 rfl (by decide) (.slice Ae j ce) j (I.map Prod.fst) rfl (HOW2.out.alloc _) ⟨w31.heap.size, 0, none⟩ 1 1 [.slice a x20 c] rfl rfl (cell_one_new _ _ _) (by simp [Value.oneCell']) (by decide) (by unfold maxLen; omega) (by omega) (by simp; omega) _ rfl ?_; intro g5 c5 w5 hown5 hg5 hat5 hlt5; have kK5 := own_blk (HK31.out.below ((Below.refl w31.heap.size w31).alloc (Nat.le_refl _) (.cells #[.slice a x20 c] 94))) hg5 (fun e => by have := hq _ e; omega); have f0 := kK5.cell 9; have f1 := fun i => kK5.frozen i; have f2 := kK5.lt)
            clear f0 f1 f2 q9
            have HK33 : Hid (Blk (w5.setCell ⟨g3, 9, none⟩ (.slice (some ⟨g5, 0, none⟩) (j + 1) c5)) g3 #[.int .i64 k, .int .i64 cl, .int .i64 b, .int .i64 tt, .int .i64 d, .int .i64 l, .int .i64 p, .int .i64 (x4 : Int), .int .u64 (x6 : Int), .slice (some ⟨g5, 0, none⟩) (j + 1) c5, .slice none 0 0, .int .i64 (sI x8), .int .i64 (x10 : Int), .slice As j cs] 59) := Lib.hid (kK5.set 9 _)
            have H033 := Lib.hid (own_blk (own_blk (H031.out.below ((Below.refl w31.heap.size w31).alloc (Nat.le_refl _) (.cells #[.slice a x20 c] 94))) hg5 (fun e => by have := hq _ e; omega)) (gr_cell w5 g3 9 (.slice (some ⟨g5, 0, none⟩) (j + 1) c5)) (fun e => by simp only [Option.some.injEq] at e; omega))
            have HR33 := Lib.hid ((rd_grown (HR31.out.below ((Below.refl w31.heap.size w31).alloc (Nat.le_refl _) (.cells #[.slice a x20 c] 94))) hg5 (fun q e => by have := hq q e; omega)).kept (gr_cell w5 g3 9 (.slice (some ⟨g5, 0, none⟩) (j + 1) c5)) (by omega))
            have HG33 := Lib.hid (gr_new (i := 9) (gr_own (gr_trans HG31.out (gr_below ((Below.refl w31.heap.size w31).alloc (Nat.le_refl _) (.cells #[.slice a x20 c] 94)))) hg5 (fun q e => by have := hq q e; have := HSZ.out; omega)) (.slice (some ⟨g5, 0, none⟩) (j + 1) c5) (q := g3) (by have := HSZ.out; omega))
            have HO33 := Lib.hid ((((HO32.out.below ((Below.refl w31.heap.size w31).alloc (Nat.le_refl _) (.cells #[.slice a x20 c] 94))).grow (r1 := esRow (.slice (some ⟨g5, 0, none⟩) (j + 1) c5) (I ++ [(.slice a x20 c, out)])) hg5 (by simp only [esRow]; rw [List.length_append, HI.out.1, List.map_append]; exact hown5) (fun q e => by simp only [esRow, Value.ownBlock, Option.some.injEq] at e; subst e; exact hat5)).kept (gr_cell w5 g3 9 (.slice (some ⟨g5, 0, none⟩) (j + 1) c5)) (by omega)).perm ((List.Perm.cons _ (List.Perm.swap _ _ _)).trans (List.Perm.swap _ _ _)))
            obtain ⟨W33, hW33⟩ : ∃ W, w5.setCell ⟨g3, 9, none⟩ (.slice (some ⟨g5, 0, none⟩) (j + 1) c5) = W := ⟨_, rfl⟩
            rw [hW33] at HK33 H033 HR33 HG33 HO33 ⊢
            clear hW33 kK5 hown5 hg5 hat5 hlt5 HO32 HO31 HOW HOW2 hq HK31 H031 HR31 HG31 hl31
            have HPM : Hid (∀ {r1 r2 : ORow}, (r1 :: r2 :: ⟨Value.slice a x20 c, 139, 1, x20, flts out⟩ :: I.map eRow).Perm (r2 :: r1 :: (I ++ [(Value.slice a x20 c, out)]).map eRow)) := Lib.hid (by
              have hl : eRow (Value.slice a x20 c, out) = ⟨Value.slice a x20 c, 139, 1, x20, flts out⟩ := by unfold eRow; rw [HV.out.1]
              rw [← hl, List.map_append]
              exact (List.Perm.swap _ _ _).trans (List.Perm.cons _ (List.Perm.cons _ (List.perm_append_singleton _ _).symm)))
            have HFI : Hid (∀ x : Nat, Hid ((I ++ [((Value.slice a x20 c), out)]).length = j + 1 ∧ (S ++ [(sI x, (x10 : Int))]).length = j + 1 ∧ (∀ p ∈ I ++ [((Value.slice a x20 c), out)], ∃ a c, p.1 = Value.slice a p.2.length c) ∧ (∀ p ∈ I ++ [((Value.slice a x20 c), out)], p.2.length ≤ 255 ∧ ∀ x ∈ p.2, x < 18446744073709551616) ∧ ∀ y ∈ S ++ [(sI x, (x10 : Int))], in64 y.1 ∧ in64 y.2)) := Lib.hid (fun x => Lib.hid (by
              obtain ⟨a1, a2, a3, a4, a5⟩ := HI.out
              refine ⟨by rw [List.length_append, a1]; rfl, by rw [List.length_append, a2]; rfl, fun p hp => ?_, fun p hp => ?_, fun y hy => ?_⟩
              · rcases List.mem_append.1 hp with hp | hp
                · exact a3 p hp
                · simp only [List.mem_singleton] at hp; subst hp; exact ⟨a, c, by simp only; rw [HV.out.1]⟩
              · rcases List.mem_append.1 hp with hp | hp
                · exact a4 p hp
                · simp only [List.mem_singleton] at hp; subst hp; exact ⟨by simp only; rw [HV.out.1]; omega, HV.out.2⟩
              · rcases List.mem_append.1 hy with hy | hy
                · exact a5 y hy
                · simp only [List.mem_singleton] at hy; subst hy; exact ⟨sI_in x, by have := HX10.out; unfold in64; simp only; omega⟩))
            refine wp_region_held_drew (S := (fun W => W.cell? ⟨g3, 12, none⟩ = some (.int .i64 (x10 : Int)))) (by kernel_rfl) ?_ (fun hS0 => ?_)
            · exact HK33.out.cell 12
            have hbb := (Below.refl W33.heap.size W33).drew
            have HK34 := Lib.hid (HK33.out.below hbb)
            have H034 := Lib.hid (H033.out.below hbb)
            have HR34 := Lib.hid (HR33.out.below hbb)
            have HO34 := Lib.hid (HO33.out.below hbb)
            have HG34 := Lib.hid (gr_trans HG33.out (gr_below hbb))
            clear hbb HK33 H033 HR33 HO33 HG33
            refine' wpAnyH_take (i := 0) (v := _) rfl (by kernel_rfl) (by kernel_rfl) (by kernel_rfl) (fun _ _ _ h => h) (Or.inl ⟨by rfl, ?hym1⟩) hS0 ?restm1
            case hym1 => (intro w hSw; (try dsimp only at hSw); go_simp; try with_reducible rfl)
            simp only [Act.put, List.setIfInBounds_toArray, List.set_cons_zero, List.set_cons_succ, List.getElem_toArray, List.getElem_cons_zero, List.getElem_cons_succ]
            refine' wpAnyH_take (i := 2) (v := _) rfl (by kernel_rfl) (by kernel_rfl) (by kernel_rfl) (fun _ _ _ h => h) (Or.inl ⟨by rfl, ?hym2⟩) hS0 ?restm2
            case hym2 => (intro w hSw; (try dsimp only at hSw); go_simp; try with_reducible rfl)
            simp only [Act.put, List.setIfInBounds_toArray, List.set_cons_zero, List.set_cons_succ, List.getElem_toArray, List.getElem_cons_zero, List.getElem_cons_succ]
            refine' wpAnyH_take (i := 4) (v := _) rfl (by kernel_rfl) (by kernel_rfl) (by kernel_rfl) (fun _ _ _ h => h) (Or.inl ⟨by rfl, ?hym3⟩) hS0 ?restm3
            case hym3 => (intro w hSw; (try dsimp only at hSw); go_simp; try with_reducible rfl)
            simp only [Act.put, List.setIfInBounds_toArray, List.set_cons_zero, List.set_cons_succ, List.getElem_toArray, List.getElem_cons_zero, List.getElem_cons_succ]
            refine' wpAnyH_take (i := 5) (v := _) rfl (by kernel_rfl) (by kernel_rfl) (by kernel_rfl) (fun _ _ _ h => h) (Or.inl ⟨by rfl, ?hym4⟩) hS0 ?restm4
            case hym4 => (intro w hSw; (try dsimp only at hSw); go_simp; try with_reducible rfl)
            simp only [Act.put, List.setIfInBounds_toArray, List.set_cons_zero, List.set_cons_succ, List.getElem_toArray, List.getElem_cons_zero, List.getElem_cons_succ]
            refine' wpAnyH_take (i := 6) (v := _) rfl (by kernel_rfl) (by kernel_rfl) (by kernel_rfl) (fun _ _ _ h => h) (Or.inl ⟨by rfl, ?hym5⟩) hS0 ?restm5
            case hym5 => (intro w hSw; (try dsimp only at hSw); go_simp; try with_reducible rfl)
            simp only [Act.put, List.setIfInBounds_toArray, List.set_cons_zero, List.set_cons_succ, List.getElem_toArray, List.getElem_cons_zero, List.getElem_cons_succ]
            refine wpAnyH_ready (rs := [1, 3]) (by kernel_rfl) (by simp) ?_
            refine AllReadyH.cons rfl (fun K hK => ?_) (AllReadyH.cons rfl (fun K hK => ?_) AllReadyH.nil)
            · have f13 := HK34.out.cell 13
              go_simp
              clear f13
              refine hK.out _ _ (HK34.out.cell 12) (fun hS1 => ?_)
              clear hK K
              refine wpAnyH_ready (rs := [3]) (by kernel_rfl) (by simp) ?_
              refine AllReadyH.cons rfl (fun K hK => ?_) AllReadyH.nil
              go_simp
              refine (KW.out _ _ HR34.out).mono ?_
              rintro e wc ⟨hg, ⟨x40, r40, v, hp, rfl, rfl, hr⟩ | ⟨er, hp, rfl⟩⟩
              rotate_left
              · unfold Flt
                go_simp
                exact ⟨rfl, gr_trans HG34.out hg, .inr ⟨er, by unfold getP; rw [bind_ok HP1.out, if_neg (by decide), bind_ok HP2.out]; rw [bind_ok HP4.out]; rw [if_neg HC0.out.1, if_neg HC0.out.2]; rw [bind_ok HP6.out]; rw [bind_ok HP8.out]; rw [bind_ok HP10.out]; rw [HH.out.2.1]; exact bind_err (HRR.out.trans (HS31.out.trans (bind_err hp))), rfl⟩⟩
              have HK35 := Lib.hid (own_blk HK34.out hg (fun e => by simp only [Option.some.injEq] at e; omega))
              have H035 := Lib.hid (own_blk H034.out hg (fun e => by simp only [Option.some.injEq] at e; omega))
              have HO35 := Lib.hid (HO34.out.kept hg (by omega))
              have HR35 := Lib.hid hr
              have HG35 := Lib.hid (gr_trans HG34.out hg)
              have HP40 := Lib.hid (HS31.out.trans (bind_ok hp))
              clear hg hp hr
              refine hK.out _ _ (HK35.out.cell 12) (fun hS2 => ?_)
              clear hK K
              refine' wpAnyH_take (i := 7) (v := _) rfl (by kernel_rfl) (by kernel_rfl) (by kernel_rfl) (fun _ _ _ h => h) (Or.inl ⟨by rfl, ?hym6⟩) hS2 ?restm6
              case hym6 => (intro w hSw; (try dsimp only at hSw); go_simp; try with_reducible rfl)
              simp only [Act.put, List.setIfInBounds_toArray, List.set_cons_zero, List.set_cons_succ, List.getElem_toArray, List.getElem_cons_zero, List.getElem_cons_succ]
              refine wpAnyH_ready (rs := [8]) (by kernel_rfl) (by simp) ?_
              refine AllReadyH.cons rfl (fun K hK => ?_) AllReadyH.nil
              have hbb := ((Below.refl wc.heap.size wc).alloc (Nat.le_refl _) (.cells #[.int .i64 (sI x40), .int .i64 (x10 : Int)] 49))
              have HK36 := Lib.hid (HK35.out.below hbb)
              have H036 := Lib.hid (H035.out.below hbb)
              have HR36 := Lib.hid (HR35.out.below hbb)
              have HO36 := Lib.hid (HO35.out.below hbb)
              have HG36 := Lib.hid (gr_trans HG35.out (gr_below hbb))
              have HNB := Lib.hid (Blk.new wc #[.int .i64 (sI x40), .int .i64 (x10 : Int)] 49)
              clear hbb
              go_simp
              refine hK.out _ _ (HK36.out.cell 12) (fun hS3 => ?_)
              clear hK K
              refine wpAnyH_ready (rs := [9]) (by kernel_rfl) (by simp) ?_
              refine AllReadyH.cons rfl (fun K hK => ?_) AllReadyH.nil
              have HOW := Lib.hid (HO36.out.own _ (List.mem_cons_self ..))
              have hl40 := HK36.out.lt
              have HOW2 := HOW.out
              simp only [sgRow] at HOW2
              rw [HI.out.2.1] at HOW2
              have hq : ∀ q, (Value.slice As j cs).ownBlock = some q → g3 + 1 ≤ q := fun q e => (World.ownsRow.lt HOW.out q e).1
              refine step_append_lies _ (by rfl) _ _ 50 (by rfl) (g3 + 1) 49 i2 (.agg #[.int .i64 0, .int .i64 0]) 2 16 Try.underlying50 hi2 hv0 hv1 hv2 rfl (by decide) (.slice As j cs) j (S.flatMap sgC) (by rfl) HOW2 ⟨wc.heap.size, 0, none⟩ 1 1 [.int .i64 (sI x40), .int .i64 (x10 : Int)] (by rfl) rfl (World.news_of_block (show _ from HNB.out)) (by simp [Value.oneCell']) (by decide) (by unfold maxLen; omega) (by omega) (by omega) _ rfl ?_
              intro g7 c7 w7 hown7 hg7 hat7 hlt7
              have HK50 := Lib.hid (own_blk HK36.out hg7 (fun e => by have := hq _ e; omega))
              have H050 := Lib.hid (own_blk H036.out hg7 (fun e => by have := hq _ e; omega))
              have HR50 := Lib.hid (rd_grown HR36.out hg7 (fun q e => by have := hq q e; omega))
              have HG50 := Lib.hid (gr_own HG36.out hg7 (fun q e => by have := hq q e; have := HSZ.out; omega))
              have HO50 := Lib.hid (HO36.out.grow (r1 := sgRow (.slice (some ⟨g7, 0, none⟩) (j + 1) c7) (S ++ [(sI x40, (x10 : Int))])) hg7 (by simp only [sgRow]; rw [List.length_append, HI.out.2.1, List.flatMap_append]; exact hown7) (fun q e => by simp only [sgRow, Value.ownBlock, Option.some.injEq] at e; subst e; exact hat7))
              clear HOW HOW2 hq hown7 hg7 hat7 HNB
              refine hK.out _ _ (HK50.out.cell 12) (fun hS4 => ?_)
              clear hK K
              refine' wpAnyH_take (i := 10) (v := _) rfl (by kernel_rfl) (by kernel_rfl) (by kernel_rfl) (fun _ _ _ h => h) (Or.inl ⟨by rfl, ?hym7⟩) hS4 ?restm7
              case hym7 => (intro w hSw; (try dsimp only at hSw); go_simp; try with_reducible rfl)
              simp only [Act.put, List.setIfInBounds_toArray, List.set_cons_zero, List.set_cons_succ, List.getElem_toArray, List.getElem_cons_zero, List.getElem_cons_succ]
              refine wpAnyH_ready (rs := [11]) (by kernel_rfl) (by simp) ?_
              refine AllReadyH.cons rfl (fun K hK => ?_) AllReadyH.nil
              have f0 := HK50.out.cell 13
              have f1 := fun i => HK50.out.frozen i
              have f2 := HK50.out.lt
              go_simp
              clear f0 f1
              have HK51 : Hid (Blk (w7.setCell ⟨g3, 13, none⟩ (.slice (some ⟨g7, 0, none⟩) (j + 1) c7)) g3 #[.int .i64 k, .int .i64 cl, .int .i64 b, .int .i64 tt, .int .i64 d, .int .i64 l, .int .i64 p, .int .i64 (x4 : Int), .int .u64 (x6 : Int), .slice (some ⟨g5, 0, none⟩) (j + 1) c5, .slice none 0 0, .int .i64 (sI x8), .int .i64 (x10 : Int), .slice (some ⟨g7, 0, none⟩) (j + 1) c7] 59) := Lib.hid (HK50.out.set 13 _)
              have H051 := Lib.hid (own_blk H050.out (gr_cell w7 g3 13 (.slice (some ⟨g7, 0, none⟩) (j + 1) c7)) (fun e => by simp only [Option.some.injEq] at e; omega))
              have HR51 := Lib.hid (HR50.out.kept (gr_cell w7 g3 13 (.slice (some ⟨g7, 0, none⟩) (j + 1) c7)) (by omega))
              have HG51 := Lib.hid (gr_new (i := 13) HG50.out (.slice (some ⟨g7, 0, none⟩) (j + 1) c7) (q := g3) (by have := HSZ.out; omega))
              have HO51 := Lib.hid (HO50.out.kept (gr_cell w7 g3 13 (.slice (some ⟨g7, 0, none⟩) (j + 1) c7)) (by omega))
              refine hK.out _ _ (HK51.out.cell 12) (fun hS5 => ?_)
              clear hK K
              refine wpAnyH_done (by kernel_rfl) ?_ _
              go_wp2_with fail
              go_roundw
              case rel => exact ⟨j + 1, _, _, c5, c7, I ++ [(Value.slice a x20 c, out)], S ++ [(sI x40, (x10 : Int))], r40, hlt, by go_num, HK51, Lib.hid (HO51.out.perm HPM.out), HFI.out x40, HR51, Lib.hid (by rw [List.map_append]; exact HP40.out.symm), HG51, H051⟩
              case measure => simp [intOf]; omega
            · go_simp
              refine (KW.out _ _ HR34.out).mono ?_
              rintro e wc ⟨hg, ⟨x40, r40, v, hp, rfl, rfl, hr⟩ | ⟨er, hp, rfl⟩⟩
              rotate_left
              · unfold Flt
                go_simp
                exact ⟨rfl, gr_trans HG34.out hg, .inr ⟨er, by unfold getP; rw [bind_ok HP1.out, if_neg (by decide), bind_ok HP2.out]; rw [bind_ok HP4.out]; rw [if_neg HC0.out.1, if_neg HC0.out.2]; rw [bind_ok HP6.out]; rw [bind_ok HP8.out]; rw [bind_ok HP10.out]; rw [HH.out.2.1]; exact bind_err (HRR.out.trans (HS31.out.trans (bind_err hp))), rfl⟩⟩
              have HK35 := Lib.hid (own_blk HK34.out hg (fun e => by simp only [Option.some.injEq] at e; omega))
              have H035 := Lib.hid (own_blk H034.out hg (fun e => by simp only [Option.some.injEq] at e; omega))
              have HO35 := Lib.hid (HO34.out.kept hg (by omega))
              have HR35 := Lib.hid hr
              have HG35 := Lib.hid (gr_trans HG34.out hg)
              have HP40 := Lib.hid (HS31.out.trans (bind_ok hp))
              clear hg hp hr
              refine hK.out _ _ (HK35.out.cell 12) (fun hS1 => ?_)
              clear hK K
              refine' wpAnyH_take (i := 7) (v := _) rfl (by kernel_rfl) (by kernel_rfl) (by kernel_rfl) (fun _ _ _ h => h) (Or.inl ⟨by rfl, ?hym8⟩) hS1 ?restm8
              case hym8 => (intro w hSw; (try dsimp only at hSw); go_simp; try with_reducible rfl)
              simp only [Act.put, List.setIfInBounds_toArray, List.set_cons_zero, List.set_cons_succ, List.getElem_toArray, List.getElem_cons_zero, List.getElem_cons_succ]
              refine wpAnyH_ready (rs := [1, 8]) (by kernel_rfl) (by simp) ?_
              refine AllReadyH.cons rfl (fun K hK => ?_) (AllReadyH.cons rfl (fun K hK => ?_) AllReadyH.nil)
              · have f13 := HK35.out.cell 13
                go_simp
                clear f13
                refine hK.out _ _ (HK35.out.cell 12) (fun hS2 => ?_)
                clear hK K
                refine wpAnyH_ready (rs := [8]) (by kernel_rfl) (by simp) ?_
                refine AllReadyH.cons rfl (fun K hK => ?_) AllReadyH.nil
                have hbb := ((Below.refl wc.heap.size wc).alloc (Nat.le_refl _) (.cells #[.int .i64 (sI x40), .int .i64 (x10 : Int)] 49))
                have HK36 := Lib.hid (HK35.out.below hbb)
                have H036 := Lib.hid (H035.out.below hbb)
                have HR36 := Lib.hid (HR35.out.below hbb)
                have HO36 := Lib.hid (HO35.out.below hbb)
                have HG36 := Lib.hid (gr_trans HG35.out (gr_below hbb))
                have HNB := Lib.hid (Blk.new wc #[.int .i64 (sI x40), .int .i64 (x10 : Int)] 49)
                clear hbb
                go_simp
                refine hK.out _ _ (HK36.out.cell 12) (fun hS3 => ?_)
                clear hK K
                refine wpAnyH_ready (rs := [9]) (by kernel_rfl) (by simp) ?_
                refine AllReadyH.cons rfl (fun K hK => ?_) AllReadyH.nil
                have HOW := Lib.hid (HO36.out.own _ (List.mem_cons_self ..))
                have hl40 := HK36.out.lt
                have HOW2 := HOW.out
                simp only [sgRow] at HOW2
                rw [HI.out.2.1] at HOW2
                have hq : ∀ q, (Value.slice As j cs).ownBlock = some q → g3 + 1 ≤ q := fun q e => (World.ownsRow.lt HOW.out q e).1
                refine step_append_lies _ (by rfl) _ _ 50 (by rfl) (g3 + 1) 49 i2 (.agg #[.int .i64 0, .int .i64 0]) 2 16 Try.underlying50 hi2 hv0 hv1 hv2 rfl (by decide) (.slice As j cs) j (S.flatMap sgC) (by rfl) HOW2 ⟨wc.heap.size, 0, none⟩ 1 1 [.int .i64 (sI x40), .int .i64 (x10 : Int)] (by rfl) rfl (World.news_of_block (show _ from HNB.out)) (by simp [Value.oneCell']) (by decide) (by unfold maxLen; omega) (by omega) (by omega) _ rfl ?_
                intro g7 c7 w7 hown7 hg7 hat7 hlt7
                have HK50 := Lib.hid (own_blk HK36.out hg7 (fun e => by have := hq _ e; omega))
                have H050 := Lib.hid (own_blk H036.out hg7 (fun e => by have := hq _ e; omega))
                have HR50 := Lib.hid (rd_grown HR36.out hg7 (fun q e => by have := hq q e; omega))
                have HG50 := Lib.hid (gr_own HG36.out hg7 (fun q e => by have := hq q e; have := HSZ.out; omega))
                have HO50 := Lib.hid (HO36.out.grow (r1 := sgRow (.slice (some ⟨g7, 0, none⟩) (j + 1) c7) (S ++ [(sI x40, (x10 : Int))])) hg7 (by simp only [sgRow]; rw [List.length_append, HI.out.2.1, List.flatMap_append]; exact hown7) (fun q e => by simp only [sgRow, Value.ownBlock, Option.some.injEq] at e; subst e; exact hat7))
                clear HOW HOW2 hq hown7 hg7 hat7 HNB
                refine hK.out _ _ (HK50.out.cell 12) (fun hS4 => ?_)
                clear hK K
                refine' wpAnyH_take (i := 10) (v := _) rfl (by kernel_rfl) (by kernel_rfl) (by kernel_rfl) (fun _ _ _ h => h) (Or.inl ⟨by rfl, ?hym9⟩) hS4 ?restm9
                case hym9 => (intro w hSw; (try dsimp only at hSw); go_simp; try with_reducible rfl)
                simp only [Act.put, List.setIfInBounds_toArray, List.set_cons_zero, List.set_cons_succ, List.getElem_toArray, List.getElem_cons_zero, List.getElem_cons_succ]
                refine wpAnyH_ready (rs := [11]) (by kernel_rfl) (by simp) ?_
                refine AllReadyH.cons rfl (fun K hK => ?_) AllReadyH.nil
                have f0 := HK50.out.cell 13
                have f1 := fun i => HK50.out.frozen i
                have f2 := HK50.out.lt
                go_simp
                clear f0 f1
                have HK51 : Hid (Blk (w7.setCell ⟨g3, 13, none⟩ (.slice (some ⟨g7, 0, none⟩) (j + 1) c7)) g3 #[.int .i64 k, .int .i64 cl, .int .i64 b, .int .i64 tt, .int .i64 d, .int .i64 l, .int .i64 p, .int .i64 (x4 : Int), .int .u64 (x6 : Int), .slice (some ⟨g5, 0, none⟩) (j + 1) c5, .slice none 0 0, .int .i64 (sI x8), .int .i64 (x10 : Int), .slice (some ⟨g7, 0, none⟩) (j + 1) c7] 59) := Lib.hid (HK50.out.set 13 _)
                have H051 := Lib.hid (own_blk H050.out (gr_cell w7 g3 13 (.slice (some ⟨g7, 0, none⟩) (j + 1) c7)) (fun e => by simp only [Option.some.injEq] at e; omega))
                have HR51 := Lib.hid (HR50.out.kept (gr_cell w7 g3 13 (.slice (some ⟨g7, 0, none⟩) (j + 1) c7)) (by omega))
                have HG51 := Lib.hid (gr_new (i := 13) HG50.out (.slice (some ⟨g7, 0, none⟩) (j + 1) c7) (q := g3) (by have := HSZ.out; omega))
                have HO51 := Lib.hid (HO50.out.kept (gr_cell w7 g3 13 (.slice (some ⟨g7, 0, none⟩) (j + 1) c7)) (by omega))
                refine hK.out _ _ (HK51.out.cell 12) (fun hS5 => ?_)
                clear hK K
                refine wpAnyH_done (by kernel_rfl) ?_ _
                go_wp2_with fail
                go_roundw
                case rel => exact ⟨j + 1, _, _, c5, c7, I ++ [(Value.slice a x20 c, out)], S ++ [(sI x40, (x10 : Int))], r40, hlt, by go_num, HK51, Lib.hid (HO51.out.perm HPM.out), HFI.out x40, HR51, Lib.hid (by rw [List.map_append]; exact HP40.out.symm), HG51, H051⟩
                case measure => simp [intOf]; omega
              · have hbb := ((Below.refl wc.heap.size wc).alloc (Nat.le_refl _) (.cells #[.int .i64 (sI x40), .int .i64 (x10 : Int)] 49))
                have HK36 := Lib.hid (HK35.out.below hbb)
                have H036 := Lib.hid (H035.out.below hbb)
                have HR36 := Lib.hid (HR35.out.below hbb)
                have HO36 := Lib.hid (HO35.out.below hbb)
                have HG36 := Lib.hid (gr_trans HG35.out (gr_below hbb))
                have HNB := Lib.hid (Blk.new wc #[.int .i64 (sI x40), .int .i64 (x10 : Int)] 49)
                clear hbb
                go_simp
                refine hK.out _ _ (HK36.out.cell 12) (fun hS2 => ?_)
                clear hK K
                refine wpAnyH_ready (rs := [1]) (by kernel_rfl) (by simp) ?_
                refine AllReadyH.cons rfl (fun K hK => ?_) AllReadyH.nil
                have f13 := HK36.out.cell 13
                go_simp
                clear f13
                refine hK.out _ _ (HK36.out.cell 12) (fun hS3 => ?_)
                clear hK K
                refine wpAnyH_ready (rs := [9]) (by kernel_rfl) (by simp) ?_
                refine AllReadyH.cons rfl (fun K hK => ?_) AllReadyH.nil
                have HOW := Lib.hid (HO36.out.own _ (List.mem_cons_self ..))
                have hl40 := HK36.out.lt
                have HOW2 := HOW.out
                simp only [sgRow] at HOW2
                rw [HI.out.2.1] at HOW2
                have hq : ∀ q, (Value.slice As j cs).ownBlock = some q → g3 + 1 ≤ q := fun q e => (World.ownsRow.lt HOW.out q e).1
                refine step_append_lies _ (by rfl) _ _ 50 (by rfl) (g3 + 1) 49 i2 (.agg #[.int .i64 0, .int .i64 0]) 2 16 Try.underlying50 hi2 hv0 hv1 hv2 rfl (by decide) (.slice As j cs) j (S.flatMap sgC) (by rfl) HOW2 ⟨wc.heap.size, 0, none⟩ 1 1 [.int .i64 (sI x40), .int .i64 (x10 : Int)] (by rfl) rfl (World.news_of_block (show _ from HNB.out)) (by simp [Value.oneCell']) (by decide) (by unfold maxLen; omega) (by omega) (by omega) _ rfl ?_
                intro g7 c7 w7 hown7 hg7 hat7 hlt7
                have HK50 := Lib.hid (own_blk HK36.out hg7 (fun e => by have := hq _ e; omega))
                have H050 := Lib.hid (own_blk H036.out hg7 (fun e => by have := hq _ e; omega))
                have HR50 := Lib.hid (rd_grown HR36.out hg7 (fun q e => by have := hq q e; omega))
                have HG50 := Lib.hid (gr_own HG36.out hg7 (fun q e => by have := hq q e; have := HSZ.out; omega))
                have HO50 := Lib.hid (HO36.out.grow (r1 := sgRow (.slice (some ⟨g7, 0, none⟩) (j + 1) c7) (S ++ [(sI x40, (x10 : Int))])) hg7 (by simp only [sgRow]; rw [List.length_append, HI.out.2.1, List.flatMap_append]; exact hown7) (fun q e => by simp only [sgRow, Value.ownBlock, Option.some.injEq] at e; subst e; exact hat7))
                clear HOW HOW2 hq hown7 hg7 hat7 HNB
                refine hK.out _ _ (HK50.out.cell 12) (fun hS4 => ?_)
                clear hK K
                refine' wpAnyH_take (i := 10) (v := _) rfl (by kernel_rfl) (by kernel_rfl) (by kernel_rfl) (fun _ _ _ h => h) (Or.inl ⟨by rfl, ?hym10⟩) hS4 ?restm10
                case hym10 => (intro w hSw; (try dsimp only at hSw); go_simp; try with_reducible rfl)
                simp only [Act.put, List.setIfInBounds_toArray, List.set_cons_zero, List.set_cons_succ, List.getElem_toArray, List.getElem_cons_zero, List.getElem_cons_succ]
                refine wpAnyH_ready (rs := [11]) (by kernel_rfl) (by simp) ?_
                refine AllReadyH.cons rfl (fun K hK => ?_) AllReadyH.nil
                have f0 := HK50.out.cell 13
                have f1 := fun i => HK50.out.frozen i
                have f2 := HK50.out.lt
                go_simp
                clear f0 f1
                have HK51 : Hid (Blk (w7.setCell ⟨g3, 13, none⟩ (.slice (some ⟨g7, 0, none⟩) (j + 1) c7)) g3 #[.int .i64 k, .int .i64 cl, .int .i64 b, .int .i64 tt, .int .i64 d, .int .i64 l, .int .i64 p, .int .i64 (x4 : Int), .int .u64 (x6 : Int), .slice (some ⟨g5, 0, none⟩) (j + 1) c5, .slice none 0 0, .int .i64 (sI x8), .int .i64 (x10 : Int), .slice (some ⟨g7, 0, none⟩) (j + 1) c7] 59) := Lib.hid (HK50.out.set 13 _)
                have H051 := Lib.hid (own_blk H050.out (gr_cell w7 g3 13 (.slice (some ⟨g7, 0, none⟩) (j + 1) c7)) (fun e => by simp only [Option.some.injEq] at e; omega))
                have HR51 := Lib.hid (HR50.out.kept (gr_cell w7 g3 13 (.slice (some ⟨g7, 0, none⟩) (j + 1) c7)) (by omega))
                have HG51 := Lib.hid (gr_new (i := 13) HG50.out (.slice (some ⟨g7, 0, none⟩) (j + 1) c7) (q := g3) (by have := HSZ.out; omega))
                have HO51 := Lib.hid (HO50.out.kept (gr_cell w7 g3 13 (.slice (some ⟨g7, 0, none⟩) (j + 1) c7)) (by omega))
                refine hK.out _ _ (HK51.out.cell 12) (fun hS5 => ?_)
                clear hK K
                refine wpAnyH_done (by kernel_rfl) ?_ _
                go_wp2_with fail
                go_roundw
                case rel => exact ⟨j + 1, _, _, c5, c7, I ++ [(Value.slice a x20 c, out)], S ++ [(sI x40, (x10 : Int))], r40, hlt, by go_num, HK51, Lib.hid (HO51.out.perm HPM.out), HFI.out x40, HR51, Lib.hid (by rw [List.map_append]; exact HP40.out.symm), HG51, H051⟩
                case measure => simp [intOf]; omega
    · obtain rfl : x4 = j := by omega
      have HRE : Hid (colsA b (x10 : Int) x4 [] [] r10 = .ok ((I.map Prod.snd, S), rest)) := Lib.hid (by rw [HRR.out, ← HNO.out, Nat.sub_self]; rfl)
      have hck := (chk_is (cfg_ok HP2.out)).t
      rw [HH.out.2.2] at hck
      obtain ⟨tn, htn⟩ : ∃ n : Nat, (n : Int) = tt := ⟨tt.toNat, by omega⟩
      have htl : tn ≤ 4096 := by omega
      obtain ⟨i3, hi3, ha0, ha1, ha2⟩ := info_parts info_ns
      obtain ⟨R3, hR3⟩ : ∃ R, treesA (⟨k, cl, b, tt, d, l, p, (x4 : Int), x6, [], [], sI x8, (x10 : Int), []⟩ : Fst) tn [] rest = R := ⟨_, rfl⟩
      have HRR3 := Lib.hid hR3
      have HTN : Hid (tt.toNat = tn) := Lib.hid (by omega)
      have q3 := HK19.out.cell 3
      have q7 := HK19.out.cell 7
      clear hR3 hck HRR HNO
      obtain ⟨LR, hLR⟩ : ∃ L, (esRow (.slice Ae x4 ce) I :: sgRow (.slice As x4 cs) S :: I.map eRow) = L := ⟨_, rfl⟩
      rw [hLR] at HO19
      have HLR := Lib.hid hLR
      clear hLR
      go_wp2_with fail
      clear q3 q7
      subst htn
      go_loopw [84] (fun iv wr => ∃ (j : Nat) (At : Option Addr) (ct : Nat) (J : List (Value × List Nd)) (rest3 : List Nat), j ≤ tn ∧ iv = .int .i64 j ∧ Hid (Blk wr g3 #[.int .i64 k, .int .i64 cl, .int .i64 b, .int .i64 (tn : Int), .int .i64 d, .int .i64 l, .int .i64 p, .int .i64 (x4 : Int), .int .u64 (x6 : Int), .slice Ae x4 ce, .slice At j ct, .int .i64 (sI x8), .int .i64 (x10 : Int), .slice As x4 cs] 59) ∧ Hid (ORows wr (g3 + 1) (tsRow (.slice At j ct) J :: (J.map tRow ++ LR))) ∧ Hid (J.length = j ∧ (∀ p ∈ J, ∃ a c, p.1 = Value.slice a p.2.length c) ∧ ∀ p ∈ J, (∀ x ∈ p.2, x.ok) ∧ p.2.length ≤ 4194304) ∧ Hid (RdB wr N g rest3) ∧ Hid (treesA (⟨k, cl, b, (tn : Int), d, l, p, (x4 : Int), x6, [], [], sI x8, (x10 : Int), []⟩ : Fst) (tn - j) (J.map Prod.snd) rest3 = R3) ∧ Hid (w.grownBy wr (some g)) ∧ Hid (Blk wr g0 #[.int .i64 0, .int .i64 0, .int .i64 0, .int .i64 0, .int .i64 0, .int .i64 0, .int .i64 0, .int .i64 0, .int .u64 0, .slice none 0 0, .slice none 0 0, .int .i64 0, .int .i64 0, .slice none 0 0] 59)) (fun iv _ => tn - (intOf iv).toNat)
      case atStart => exact ⟨0, none, 0, [], rest, Nat.zero_le _, rfl, HK19, Lib.hid (HO19.out.empty _ _), Lib.hid ⟨rfl, by simp, by simp⟩, HR19, HRR3, HG19, H019⟩
      case round =>
        obtain ⟨j, At, ct, J, rest3, hj3, rfl, HK59, HO59, HJ, HR59, HNO, HG59, H059⟩ := hrel
        clear HK19 HO19 HR19 HG19 H019
        have hfa : forA (⟨k, cl, b, (tn : Int), d, l, p, (x4 : Int), x6, I.map Prod.snd, J.map Prod.snd, sI x8, (x10 : Int), S⟩ : Fst) Ae At As ce ct cs = #[.int .i64 k, .int .i64 cl, .int .i64 b, .int .i64 (tn : Int), .int .i64 d, .int .i64 l, .int .i64 p, .int .i64 (x4 : Int), .int .u64 (x6 : Int), .slice Ae x4 ce, .slice At j ct, .int .i64 (sI x8), .int .i64 (x10 : Int), .slice As x4 cs] := by unfold forA; simp only [List.length_map]; rw [HI.out.1, HI.out.2.1, HJ.out.1]
        obtain ⟨fj, hfj⟩ : ∃ f, (⟨k, cl, b, (tn : Int), d, l, p, (x4 : Int), x6, I.map Prod.snd, J.map Prod.snd, sI x8, (x10 : Int), S⟩ : Fst) = f := ⟨_, rfl⟩
        rw [hfj] at hfa
        have HFJ := Lib.hid hfj
        by_cases hlt3 : j < tn
        · have hlt3' : (j : Int) < tn := by omega
          have HS : Hid (R3 = bindP (treeP (x4 : Int) b k cl) (fun t => if treeE fj t then treesA (⟨k, cl, b, (tn : Int), d, l, p, (x4 : Int), x6, [], [], sI x8, (x10 : Int), []⟩ : Fst) (tn - (j + 1)) (J.map Prod.snd ++ [t]) else failP 3) rest3) := Lib.hid (by rw [← HNO.out, show tn - j = (tn - (j + 1)) + 1 from by omega, ← HFJ.out]; rfl)
          have KSH := Lib.hid (fun w => shape_any fj Ae At As ce ct cs w)
          have KTE := Lib.hid (fun t A cap w hr hl => mtree_any fj Ae At As ce ct cs t A cap w hr hl)
          rw [hfa] at KSH KTE
          have hf1 : fj.cols = (x4 : Int) ∧ fj.b = b ∧ fj.k = k ∧ fj.cl = cl := by rw [← hfj]; exact ⟨rfl, rfl, rfl, rfl⟩
          rw [hf1.1, hf1.2.1, hf1.2.2.1, hf1.2.2.2] at KSH
          clear hfj hf1 HNO
          have kK := HK59.out
          go_wp2_with (refine wpList_load_row rfl 59 (.tmp 3) rfl g3 rfl 59 _ (0, 0) _ kK Try.underlying59 rfl forest_sz ?_)
          refine (KSH.out _).mono ?_
          rintro e w60 ⟨rfl, hb⟩
          have HK60 := Lib.hid (HK59.out.below hb)
          have H060 := Lib.hid (H059.out.below hb)
          have HR60 := Lib.hid (HR59.out.below hb)
          have HG60 := Lib.hid (gr_trans HG59.out (gr_below hb))
          have HO60 := Lib.hid (HO59.out.below hb)
          clear hb kK HK59 H059 HR59 HG59 HO59
          go_wp2_with fail
          refine (KT.out rest3 (x4 : Int) b k cl w60 HR60.out).mono ?_
          rintro e w61 ⟨hg, ⟨t, r61, v, hp, rfl, ⟨a, c, rfl, ho, hok, hlen⟩, hr⟩ | ⟨er, hp, rfl⟩⟩
          rotate_left
          · unfold Flt
            go_wp2_with fail
            exact ⟨rfl, gr_trans HG60.out hg, .inr ⟨er, by unfold getP; rw [bind_ok HP1.out, if_neg (by decide), bind_ok HP2.out]; rw [bind_ok HP4.out]; rw [if_neg HC0.out.1, if_neg HC0.out.2]; rw [bind_ok HP6.out]; rw [bind_ok HP8.out]; rw [bind_ok HP10.out]; rw [HH.out.2.1, bind_ok HRE.out, HH.out.2.2, HH.out.1, HTN.out]; exact bind_err (HRR3.out.trans (HS.out.trans (bind_err hp))), rfl⟩⟩
          have HK61 := Lib.hid (own_blk HK60.out hg (fun e => by simp only [Option.some.injEq] at e; omega))
          have H061 := Lib.hid (own_blk H060.out hg (fun e => by simp only [Option.some.injEq] at e; omega))
          have HR61 := Lib.hid hr
          have HG61 := Lib.hid (gr_trans HG60.out hg)
          have hl60 := HK60.out.lt
          obtain ⟨m, hm⟩ : ∃ n, t.length = n := ⟨_, rfl⟩
          have HTO := Lib.hid (And.intro hok (And.intro hlen hm))
          have HRN := Lib.hid (RN.own ho hok)
          have HOT : Hid (w61.ownsRow w60.heap.size 90 6 (.slice a m c) m (t.flatMap ndC)) := Lib.hid (by rw [← hm]; exact ho)
          have HO61 := Lib.hid (HO60.out.new (r := ⟨.slice a m c, 90, 6, m, t.flatMap ndC⟩) (HO60.out.kept hg (by omega)) HOT.out (by omega) (Nat.le_refl _))
          have HS61 : Hid (R3 = (if treeE fj t then treesA (⟨k, cl, b, (tn : Int), d, l, p, (x4 : Int), x6, [], [], sI x8, (x10 : Int), []⟩ : Fst) (tn - (j + 1)) (J.map Prod.snd ++ [t]) else failP 3) r61) := Lib.hid (by rw [HS.out, bind_ok hp])
          have KTX := Lib.hid (fun w hb => KTE.out t a c w (HRN.out.below hb) (by omega))
          rw [hm] at KTX ⊢
          obtain ⟨te, hte⟩ : ∃ z, treeE fj t = z := ⟨_, rfl⟩
          rw [hte] at KTX
          have HTE := Lib.hid hte
          clear hg hp hr ho hok hlen hm hte HS HO60 HK60 H060 HR60 HG60 HOT
          have kK := HK61.out
          go_wp2_with (refine wpList_load_row rfl 59 (.tmp 3) rfl g3 rfl 59 _ (0, 0) _ kK Try.underlying59 rfl forest_sz ?_)
          refine (KTX.out _ (Below.refl _ _)).mono ?_
          rintro e w62 ⟨rfl, hb⟩
          have HK62 := Lib.hid (HK61.out.below hb)
          have H062 := Lib.hid (H061.out.below hb)
          have HR62 := Lib.hid (HR61.out.below hb)
          have HG62 := Lib.hid (gr_trans HG61.out (gr_below hb))
          have HO62 := Lib.hid ((HO61.out.below hb).perm (List.Perm.swap _ _ _))
          clear hb kK HK61 H061 HR61 HG61 HO61 HRN
          cases te with
          | false =>
            go_wp2_with fail
            refine (KF3.out _).mono ?_
            rintro e wz ⟨rfl, rfl⟩
            unfold Flt
            go_wp2_with fail
            exact ⟨rfl, HG62.out, .inr ⟨3, by unfold getP; rw [bind_ok HP1.out, if_neg (by decide), bind_ok HP2.out]; rw [bind_ok HP4.out]; rw [if_neg HC0.out.1, if_neg HC0.out.2]; rw [bind_ok HP6.out]; rw [bind_ok HP8.out]; rw [bind_ok HP10.out]; rw [HH.out.2.1, bind_ok HRE.out, HH.out.2.2, HH.out.1, HTN.out]; exact bind_err (HRR3.out.trans (HS61.out.trans (by rw [if_neg (by rw [HTE.out]; decide)]; rfl))), rfl⟩⟩
          | true =>
            have HS62 : Hid (treesA (⟨k, cl, b, (tn : Int), d, l, p, (x4 : Int), x6, [], [], sI x8, (x10 : Int), []⟩ : Fst) (tn - (j + 1)) (J.map Prod.snd ++ [t]) r61 = R3) := Lib.hid (by rw [HS61.out, if_pos HTE.out])
            have HOW := HO62.out.own _ (List.mem_cons_self ..)
            simp only [tsRow] at HOW
            rw [HJ.out.1] at HOW
            have HOW2 := Lib.hid HOW
            have hq : ∀ q, (Value.slice At j ct).ownBlock = some q → g3 + 1 ≤ q := fun q e => (World.ownsRow.lt HOW q e).1
            have hl62 := HK62.out.lt
            have q10 := HK62.out.cell 10
            clear HOW
            go_upto_region 30 with (at_builtin; refine wpList_append_lies _ rfl _ _ 47 rfl (g3 + 1) 88 i3 (.slice none 0 0) 1 24 Try.underlying47 hi3 ha0 ha1 ha2 rfl (by decide) (.slice At j ct) j (J.map Prod.fst) rfl (HOW2.out.alloc _) ⟨w62.heap.size, 0, none⟩ 1 1 [.slice a m c] rfl rfl (cell_one_new _ _ _) (by simp [Value.oneCell']) (by decide) (by unfold maxLen; omega) (by omega) (by simp; omega) _ rfl ?_; intro g5 c5 w5 hown5 hg5 hat5 hlt5; have kK5 := own_blk (HK62.out.below ((Below.refl w62.heap.size w62).alloc (Nat.le_refl _) (.cells #[.slice a m c] 88))) hg5 (fun e => by have := hq _ e; omega); have f0 := kK5.cell 10; have f1 := fun i => kK5.frozen i; have f2 := kK5.lt)
            clear f0 f1 f2 q10
            have HK63 : Hid (Blk (w5.setCell ⟨g3, 10, none⟩ (.slice (some ⟨g5, 0, none⟩) (j + 1) c5)) g3 #[.int .i64 k, .int .i64 cl, .int .i64 b, .int .i64 (tn : Int), .int .i64 d, .int .i64 l, .int .i64 p, .int .i64 (x4 : Int), .int .u64 (x6 : Int), .slice Ae x4 ce, .slice (some ⟨g5, 0, none⟩) (j + 1) c5, .int .i64 (sI x8), .int .i64 (x10 : Int), .slice As x4 cs] 59) := Lib.hid (kK5.set 10 _)
            have H063 := Lib.hid (own_blk (own_blk (H062.out.below ((Below.refl w62.heap.size w62).alloc (Nat.le_refl _) (.cells #[.slice a m c] 88))) hg5 (fun e => by have := hq _ e; omega)) (gr_cell w5 g3 10 (.slice (some ⟨g5, 0, none⟩) (j + 1) c5)) (fun e => by simp only [Option.some.injEq] at e; omega))
            have HR63 := Lib.hid ((rd_grown (HR62.out.below ((Below.refl w62.heap.size w62).alloc (Nat.le_refl _) (.cells #[.slice a m c] 88))) hg5 (fun q e => by have := hq q e; omega)).kept (gr_cell w5 g3 10 (.slice (some ⟨g5, 0, none⟩) (j + 1) c5)) (by omega))
            have HG63 := Lib.hid (gr_new (i := 10) (gr_own (gr_trans HG62.out (gr_below ((Below.refl w62.heap.size w62).alloc (Nat.le_refl _) (.cells #[.slice a m c] 88)))) hg5 (fun q e => by have := hq q e; have := HSZ.out; omega)) (.slice (some ⟨g5, 0, none⟩) (j + 1) c5) (q := g3) (by have := HSZ.out; omega))
            have HO63 := Lib.hid (((HO62.out.below ((Below.refl w62.heap.size w62).alloc (Nat.le_refl _) (.cells #[.slice a m c] 88))).grow (r1 := tsRow (.slice (some ⟨g5, 0, none⟩) (j + 1) c5) (J ++ [(Value.slice a m c, t)])) hg5 (by simp only [tsRow]; rw [List.length_append, HJ.out.1, List.map_append]; exact hown5) (fun q e => by simp only [tsRow, Value.ownBlock, Option.some.injEq] at e; subst e; exact hat5)).kept (gr_cell w5 g3 10 (.slice (some ⟨g5, 0, none⟩) (j + 1) c5)) (by omega))
            have HO64 : Hid (ORows _ (g3 + 1) (tsRow (.slice (some ⟨g5, 0, none⟩) (j + 1) c5) (J ++ [(Value.slice a m c, t)]) :: ((J ++ [(Value.slice a m c, t)]).map tRow ++ LR))) := Lib.hid (HO63.out.perm (List.Perm.cons _ (by
              have hl : tRow (Value.slice a m c, t) = ⟨Value.slice a m c, 90, 6, m, t.flatMap ndC⟩ := by unfold tRow; rw [HTO.out.2.2]
              rw [List.map_append, List.append_assoc, ← hl]
              exact List.perm_middle.symm)))
            go_wp2_with fail
            go_roundw
            case rel => exact ⟨j + 1, _, c5, J ++ [(Value.slice a m c, t)], r61, hlt3, by go_num, HK63, HO64, Lib.hid ⟨by rw [List.length_append, HJ.out.1]; rfl, fun p hp => by
              rcases List.mem_append.1 hp with hp | hp
              · exact HJ.out.2.1 p hp
              · simp only [List.mem_singleton] at hp; subst hp; exact ⟨a, c, by simp only; rw [HTO.out.2.2]⟩, fun p hp => by
              rcases List.mem_append.1 hp with hp | hp
              · exact HJ.out.2.2 p hp
              · simp only [List.mem_singleton] at hp; subst hp; exact ⟨HTO.out.1, HTO.out.2.1⟩⟩, HR63, Lib.hid (by rw [List.map_append]; exact HS62.out), HG63, H063⟩
            case measure => simp [intOf]; omega
        · obtain rfl : tn = j := by omega
          have HRE3 : Hid (treesA (⟨k, cl, b, (tn : Int), d, l, p, (x4 : Int), x6, [], [], sI x8, (x10 : Int), []⟩ : Fst) tn [] rest = .ok (J.map Prod.snd, rest3)) := Lib.hid (by rw [HRR3.out, ← HNO.out, Nat.sub_self]; rfl)
          have HOKF : Hid (OkF fj) := Lib.hid (by rw [← HFJ.out]; exact ⟨by simp only [List.length_map]; rw [HI.out.1]; omega, by simp only [List.length_map]; rw [HJ.out.1]; omega, by simp only; rw [HI.out.2.1]; omega, fun t ht => by obtain ⟨p, hp, rfl⟩ := List.mem_map.1 ht; have := (HI.out.2.2.2.1 p hp).1; omega, fun t ht => by obtain ⟨p, hp, rfl⟩ := List.mem_map.1 ht; have := (HJ.out.2.2 p hp).2; omega⟩)
          have HOKB : Hid (OkB fj) := Lib.hid (by rw [← HFJ.out]; exact ⟨HX6.out, fun t ht => by obtain ⟨p, hp, rfl⟩ := List.mem_map.1 ht; exact (HI.out.2.2.2.1 p hp).2, fun t ht => by obtain ⟨p, hp, rfl⟩ := List.mem_map.1 ht; have := (HJ.out.2.2 p hp).2; omega⟩)
          have HRF : Hid (∀ w2, ORows w2 (g3 + 1) (tsRow (.slice At tn ct) J :: (J.map tRow ++ LR)) → RFo w2 fj Ae At As) := Lib.hid (fun w2 h => by
            rw [← HFJ.out]; rw [← HLR.out] at h
            exact ⟨h.re (c := ce) (n := x4) (by simp) (fun p hp => by simp only [List.mem_cons, List.mem_append, List.mem_map]; exact .inr (.inr (.inr (.inr ⟨p, hp, rfl⟩)))) HI.out.2.2.1 (fun p hp => (HI.out.2.2.2.1 p hp).2), h.rt (c := ct) (n := tn) (by simp) (fun p hp => by simp only [List.mem_cons, List.mem_append, List.mem_map]; exact .inr (.inl ⟨p, hp, rfl⟩)) HJ.out.2.1 (fun p hp => (HJ.out.2.2 p hp).1), h.rs (c := cs) (n := x4) (by simp) HI.out.2.2.2.2⟩)
          have KM := Lib.hid (fun w hr => mayf_any fj Ae At As ce ct cs w HOKF.out hr)
          rw [hfa] at KM
          have HFA := Lib.hid hfa
          obtain ⟨mf, hmf⟩ : ∃ z, mayF fj = z := ⟨_, rfl⟩
          rw [hmf] at KM
          have HMF := Lib.hid hmf
          clear hfa hfj hmf HNO HRR3
          have kK := HK59.out
          go_wp2_with (refine wpList_load_row rfl 59 (.tmp 3) rfl g3 rfl 59 _ (0, 0) _ kK Try.underlying59 rfl forest_sz ?_)
          refine (KM.out _ (HRF.out _ HO59.out)).mono ?_
          rintro e w60 ⟨rfl, hb⟩
          have HK60 := Lib.hid (HK59.out.below hb)
          have H060 := Lib.hid (H059.out.below hb)
          have HR60 := Lib.hid (HR59.out.below hb)
          have HG60 := Lib.hid (gr_trans HG59.out (gr_below hb))
          have HO60 := Lib.hid (HO59.out.below hb)
          clear hb kK HK59 H059 HR59 HG59 HO59
          cases mf with
          | false =>
            go_wp2_with fail
            refine (KF3.out _).mono ?_
            rintro e wz ⟨rfl, rfl⟩
            unfold Flt
            go_wp2_with fail
            exact ⟨rfl, HG60.out, .inr ⟨3, by unfold getP; rw [bind_ok HP1.out, if_neg (by decide), bind_ok HP2.out]; rw [bind_ok HP4.out]; rw [if_neg HC0.out.1, if_neg HC0.out.2]; rw [bind_ok HP6.out]; rw [bind_ok HP8.out]; rw [bind_ok HP10.out]; rw [HH.out.2.1, bind_ok HRE.out, HH.out.2.2, HH.out.1, HTN.out, bind_ok HRE3.out]; rw [if_neg (by rw [show mayF _ = false from (by rw [← HFJ.out] at HMF; exact HMF.out)]; decide)]; rfl, rfl⟩⟩
          | true =>
            have kK := HK60.out
            have k0 := H060.out
            have hone : ∀ v ∈ (#[.int .i64 k, .int .i64 cl, .int .i64 b, .int .i64 (tn : Int), .int .i64 d, .int .i64 l, .int .i64 p, .int .i64 (x4 : Int), .int .u64 (x6 : Int), .slice Ae x4 ce, .slice At tn ct, .int .i64 (sI x8), .int .i64 (x10 : Int), .slice As x4 cs] : Array Value).toList, v.oneCell' = true := by simp [Value.oneCell']
            have HR61 := Lib.hid (HR60.out.kept (gr_row _ g0 #[.int .i64 k, .int .i64 cl, .int .i64 b, .int .i64 (tn : Int), .int .i64 d, .int .i64 l, .int .i64 p, .int .i64 (x4 : Int), .int .u64 (x6 : Int), .slice Ae x4 ce, .slice At tn ct, .int .i64 (sI x8), .int .i64 (x10 : Int), .slice As x4 cs]) (by omega))
            have HG61 := Lib.hid (gr_newrow HG60.out #[.int .i64 k, .int .i64 cl, .int .i64 b, .int .i64 (tn : Int), .int .i64 d, .int .i64 l, .int .i64 p, .int .i64 (x4 : Int), .int .u64 (x6 : Int), .slice Ae x4 ce, .slice At tn ct, .int .i64 (sI x8), .int .i64 (x10 : Int), .slice As x4 cs] (q := g0) (by have := HSZ.out; omega))
            have HO61 := Lib.hid (HO60.out.kept (gr_row _ g0 #[.int .i64 k, .int .i64 cl, .int .i64 b, .int .i64 (tn : Int), .int .i64 d, .int .i64 l, .int .i64 p, .int .i64 (x4 : Int), .int .u64 (x6 : Int), .slice Ae x4 ce, .slice At tn ct, .int .i64 (sI x8), .int .i64 (x10 : Int), .slice As x4 cs]) (by omega))
            go_wp2_with (first | (refine wpList_load_row rfl 59 (.tmp 3) rfl g3 rfl 59 _ (0, 0) _ kK Try.underlying59 rfl forest_sz ?_) | (refine wpList_store_row rfl 59 (.tmp 2) (.tmp 108) rfl g0 rfl 59 _ #[.int .i64 k, .int .i64 cl, .int .i64 b, .int .i64 (tn : Int), .int .i64 d, .int .i64 l, .int .i64 p, .int .i64 (x4 : Int), .int .u64 (x6 : Int), .slice Ae x4 ce, .slice At tn ct, .int .i64 (sI x8), .int .i64 (x10 : Int), .slice As x4 cs] rfl k0 forest_sz rfl hone ?_))
            refine bodyPost_ret (results_cell rfl _ _ g0 59 #[.int .i64 k, .int .i64 cl, .int .i64 b, .int .i64 (tn : Int), .int .i64 d, .int .i64 l, .int .i64 p, .int .i64 (x4 : Int), .int .u64 (x6 : Int), .slice Ae x4 ce, .slice At tn ct, .int .i64 (sI x8), .int .i64 (x10 : Int), .slice As x4 cs] _ rfl k0.row Try.underlying59 rfl forest_sz) rfl ⟨HG61.out, .inl ⟨fj, rest3, .agg #[.int .i64 k, .int .i64 cl, .int .i64 b, .int .i64 (tn : Int), .int .i64 d, .int .i64 l, .int .i64 p, .int .i64 (x4 : Int), .int .u64 (x6 : Int), .slice Ae x4 ce, .slice At tn ct, .int .i64 (sI x8), .int .i64 (x10 : Int), .slice As x4 cs], ?_, rfl, ⟨Ae, At, As, ce, ct, cs, by rw [HFA.out], fun w2 hw2 => HRF.out w2 (HO61.out.same (fun k hk hk2 => hw2 k (by have := HSZ.out; omega) hk2)), HOKB.out⟩, HR61.out⟩⟩
            unfold getP; rw [bind_ok HP1.out, if_neg (by decide), bind_ok HP2.out]; rw [bind_ok HP4.out]; rw [if_neg HC0.out.1, if_neg HC0.out.2]; rw [bind_ok HP6.out]; rw [bind_ok HP8.out]; rw [bind_ok HP10.out]; rw [HH.out.2.1, bind_ok HRE.out, HH.out.2.2, HH.out.1, HTN.out, bind_ok HRE3.out]; rw [if_pos (show mayF _ = true from (by rw [← HFJ.out] at HMF; exact HMF.out)), ← HFJ.out]; rfl
end Go.Proofs.Ytpekofpiodaadaa.Hb
end

section
/- The walk of what take.Try defers. -/
namespace Go.Proofs.Ytpekofpiodaadaa.Hb
set_option linter.unusedVariables false
set_option linter.unusedSimpArgs false
open Go.RowKit

set_option maxRecDepth 100000 in
set_option maxHeartbeats 1000000 in
theorem catch_idle (p : Addr) (w : World) :
    CallsD Try.prog 136 #[.pointer (some p)] .returning w fun e u' w' => e = .returned (.tuple #[]) ∧ u' = .returning ∧ w' = w := by
  refine callsD_of_wpS Try.func136 rfl fun c₀ cs hu => ?_
  apply wpS_seq
  apply wpS_region
  simp [wpOpsS, go_sem, recoverD, hu, Try.ntmps136, Exit.thenS]
  refine wpS_of_wp ?_
  go_wp2_with fail
  trace_state
  cases c₀
  simp_all [bodyPostS, results, Try.results136, Exit.thenS]
theorem as_fault (v : Value) (xT : TypeId) (w : World) : (Instr.typeAssert (.iface 214 v) xT 214 true).run Try.prog w = .ok (.tuple #[v, .bool true]) w := by kernel_rfl
set_option maxRecDepth 100000 in
set_option maxHeartbeats 1000000 in
theorem catch_panicking (p : Addr) (x k : Int) (older : List PanicEntry) (w : World) (hc : w.cell? p = some (.int .i64 x)) (hz : w.frozen? p = false) (hl : p.block < w.heap.size) :
    CallsD Try.prog 136 #[.pointer (some p)] (.panicking ({ v := .iface 214 (.agg #[.int .i64 k]), recovered := false } :: older)) w fun e u' w' =>
      e = .returned (.tuple #[]) ∧ u' = .panicking ({ v := .iface 214 (.agg #[.int .i64 k]), recovered := true } :: older) ∧ w' = (w.alloc (.cells #[.int .i64 k] 214)).setCell p (.int .i64 k) := by
  have has := as_fault
  have hz2 : (w.alloc (.cells #[.int .i64 k] 214)).frozen? p = false := (((Below.refl w.heap.size w).alloc (Nat.le_refl _) (.cells #[.int .i64 k] 214)).frozen hl).trans hz
  have hc2 : (w.alloc (.cells #[.int .i64 k] 214)).cell? p = some (.int .i64 x) := (((Below.refl w.heap.size w).alloc (Nat.le_refl _) (.cells #[.int .i64 k] 214)).cell hl).trans hc
  refine callsD_of_wpS Try.func136 rfl fun c₀ cs hu => ?_
  apply wpS_seq
  apply wpS_region
  simp [wpOpsS, go_sem, recoverD, hu, Try.ntmps136, Exit.thenS]
  have hrep : Array.replicate 16 undef = #[undef, undef, undef, undef, undef, undef, undef, undef, undef, undef, undef, undef, undef, undef, undef, undef] := rfl
  simp only [hrep, List.setIfInBounds_toArray, List.set_cons_zero, List.set_cons_succ, List.append_toArray, List.cons_append, List.nil_append]
  refine wpS_of_wp ?_
  go_wp2_with fail
  trace_state
  cases c₀
  simp_all [bodyPostS, results, Try.results136, Exit.thenS]

end Go.Proofs.Ytpekofpiodaadaa.Hb
end

section
/- The walks of model.Get's closure, take.Try of it, and model.Get. -/
namespace Go.Proofs.Ytpekofpiodaadaa.Hb
set_option linter.unusedVariables false
set_option linter.unusedSimpArgs false
open Go.RowKit

theorem left_blk (g n c : Nat) (A : Option Addr) (w : World) (h : Blk w g #[.slice A n c] 212) :
    Calls Try.prog 137 #[.pointer (some ⟨g, 0, none⟩)] w (Says (.int .i64 (n : Int)) w) := by
  have q0 := h.cell 0
  clear h
  go_enter Try.func137, Try.ntmps137
  go_wp2_with fail
  go_ret
  exact ⟨rfl, rfl⟩
/-- What turns: two blocks and what is new. -/
structure Trn (w w' : World) (g F : Nat) : Prop where
  os : w'.os = w.os
  tape : w'.tape = w.tape
  output : w'.output = w.output
  size : w.heap.size ≤ w'.heap.size
  block : ∀ k, k < w.heap.size → k ≠ g → k ≠ F → w'.heap[k]? = w.heap[k]?
/-- A forest lies in F, its rows behind B. -/
def FIn (B F : Nat) (w : World) (f : Fst) : Prop := ∃ (Ae At As : Option Addr) (ce ct cs : Nat), Blk w F (forA f Ae At As ce ct cs) 59 ∧ FrF B w f Ae At As ∧ OkB f
theorem FIn.set {B B1 F E : Nat} {w1 : World} {f : Fst} (h : FIn B1 F w1 f) (v : Value) (hB : B ≤ B1) (hE : E < B1) (hEF : E ≠ F) : FIn B F (w1.setCell ⟨E, 0, none⟩ v) f := by
  obtain ⟨Ae, At, As, ce, ct, cs, h1, h2, h3⟩ := h
  refine ⟨Ae, At, As, ce, ct, cs, own_blk h1 (gr_cell w1 E 0 v) (fun e => by simp only [Option.some.injEq] at e; omega), fun w2 hw => h2 w2 (fun k k1 k2 => ?_), h3⟩
  exact (hw k (by omega) (by simp; exact k2)).trans (Below.heap_setCell w1 ⟨E, 0, none⟩ v k (fun e => by simp only at e; omega))
theorem getF_ok {l : List Nat} {f : Fst} {r : List Nat} (h : getP l = .ok (f, r)) (hr : r = []) : getF l = .ok f := by unfold getF; rw [h]; simp only; rw [if_pos hr]
theorem getF_more {l : List Nat} {f : Fst} {r : List Nat} (h : getP l = .ok (f, r)) (hr : ¬ r = []) : getF l = .error 3 := by unfold getF; rw [h]; simp only; rw [if_neg hr]
theorem getF_err {l : List Nat} {k : Int} (h : getP l = .error k) : getF l = .error k := by unfold getF; rw [h]
set_option maxRecDepth 100000 in
set_option maxHeartbeats 4000000 in
theorem get1_any (N g F : Nat) (l : List Nat) (Z : Array Value) (w : World) (h : RdB w N g l) (hF : Blk w F Z 59) (hZ : Z.size = 14) (hNF : N ≤ F ∨ (F < N ∧ F ≠ g)) :
    Calls Try.prog 81 #[.pointer (some ⟨g, 0, none⟩), .pointer (some ⟨F, 0, none⟩)] w fun e w' =>
      Trn w w' g F ∧ ((∃ f r, getP l = .ok (f, r) ∧ e = .returned (.tuple #[]) ∧ FIn w.heap.size F w' f ∧ ∃ A c, Blk w' g #[.slice A r.length c] 212) ∨ ∃ k, getP l = .error k ∧ e = Flt k ∧ Blk w' F Z 59) := by
  have KG := Lib.hid (mget_any N g l w h)
  have hgw := h.lt
  have hFg : F ≠ g := by have := h.gN; omega
  have HF := Lib.hid hF
  have hFw := hF.lt
  clear h hF hNF
  go_enter Try.func81, Try.ntmps81
  go_wp2_with fail
  refine KG.out.mono ?_
  rintro e w1 ⟨hg, ⟨f, r, v, hp, rfl, ⟨Ae, At, As, ce, ct, cs, rfl, hfr, hob⟩, hr⟩ | ⟨er, hp, rfl⟩⟩
  · obtain ⟨CF, hCF⟩ : ∃ C, forA f Ae At As ce ct cs = C := ⟨_, rfl⟩
    have hone : ∀ v ∈ CF.toList, v.oneCell' = true := by rw [← hCF]; unfold forA; simp [Value.oneCell']
    have hsz : (Try.prog.info? 59).map (·.size) = some CF.size := by rw [← hCF]; kernel_rfl
    have hsz2 : Z.size = CF.size := by rw [hZ, ← hCF]; rfl
    have kF := own_blk HF.out hg (fun e => by simp only [Option.some.injEq] at e; omega)
    obtain ⟨A, c, hbl, _⟩ := hr.ex
    have HX := Lib.hid (And.intro hg (And.intro hp (And.intro hfr (And.intro hob hbl))))
    have HCF := Lib.hid hCF
    rw [hCF]
    clear hg hp hfr hob hr hCF hbl
    go_wp2_with (refine wpList_store_row rfl 59 (.tmp 1) (.tmp 4) rfl F rfl 59 _ CF rfl kF hsz hsz2 hone ?_)
    refine bodyPost_end (results_none rfl _ _ _) rfl ?_
    obtain ⟨hg, hp, hfr, hob, hbl⟩ := HX.out
    refine ⟨⟨hg.os, hg.tape, hg.output, by rw [size_setRow]; exact hg.size, fun k hk h1 h2 => (row_other (by omega)).trans (hg.block k hk (fun e => h1 (by injection e)))⟩, .inl ⟨f, r, hp, rfl, ⟨Ae, At, As, ce, ct, cs, by rw [HCF.out]; exact kF.row, fun w2 hw2 => hfr w2 (fun k h1 h2 => ?_), hob⟩, A, c, (row_other (by omega)).trans hbl⟩⟩
    have hk := hw2 k h1 (by rw [size_setRow]; exact h2)
    rw [hk]
    exact row_other (by omega)
  · have kF := own_blk HF.out hg (fun e => by simp only [Option.some.injEq] at e; omega)
    unfold Flt
    go_wp2_with fail
    exact ⟨rfl, ⟨hg.os, hg.tape, hg.output, hg.size, fun k hk h1 h2 => hg.block k hk (fun e => h1 (by injection e))⟩, .inr ⟨er, hp, rfl, kF⟩⟩
set_option maxRecDepth 100000 in
set_option maxHeartbeats 4000000 in
theorem try_any (F : Nat) (l : List Nat) (A : Option Addr) (c : Nat) (Z : Array Value) (w : World) (hr : RB w A l) (hl : l.length ≤ c) (hc : c ≤ 9223372036854775807) (hA : ∀ ad, A = some ad → ad.block < w.heap.size) (hF : Blk w F Z 59) (hZ : Z.size = 14) :
    Calls Try.prog 80 #[.slice A l.length c, .func (.func 81) #[] #[.pointer (some ⟨F, 0, none⟩)]] w fun e w' =>
      w.grownBy w' (some F) ∧ ((∃ f, getF l = .ok f ∧ e = .returned (.int .i64 0) ∧ FIn w.heap.size F w' f) ∨ ∃ k, getF l = .error k ∧ e = .returned (.int .i64 k)) := by
  have hmf : ∀ (fn : Fn) (first cap : Array Value) (w : World), (Instr.makeFunc fn first cap).run Try.prog w = .ok (.func fn first cap) w := fun _ _ _ _ => rfl
  obtain ⟨n, hn⟩ : ∃ n, l.length = n := ⟨_, rfl⟩
  have HN := Lib.hid hn
  rw [hn]
  have hFw := hF.lt
  have HR := Lib.hid (And.intro hr (And.intro hl (And.intro hc (And.intro hA hF))))
  clear hr hl hA hF hn
  go_enter_defers Try.func80, Try.ntmps80
  go_wp2_with fail
  have HB2 : Hid (Below w.heap.size w ((w.alloc (.cells #[.int .i64 0] 25)).alloc (.cells #[.slice A n c] 212))) := Lib.hid (((Below.refl _ w).alloc (Nat.le_refl _) _).alloc (by simp) _)
  have kE := (Blk.new w #[.int .i64 0] 25).below ((Below.refl _ (w.alloc (.cells #[.int .i64 0] 25))).alloc (Nat.le_refl _) (.cells #[.slice A n c] 212))
  have kR := Blk.new (w.alloc (.cells #[.int .i64 0] 25)) #[.slice A n c] 212
  rw [World.size_alloc] at kR
  have hsz : ((w.alloc (.cells #[.int .i64 0] 25)).alloc (.cells #[.slice A n c] 212)).heap.size = w.heap.size + 1 + 1 := by simp
  obtain ⟨W2, hW2⟩ : ∃ W, (w.alloc (.cells #[.int .i64 0] 25)).alloc (.cells #[.slice A n c] 212) = W := ⟨_, rfl⟩
  rw [hW2] at HB2 kE kR hsz ⊢
  clear hW2
  have hRd : RdB W2 (w.heap.size + 1 + 1) (w.heap.size + 1) l := ⟨⟨A, c, by rw [HN.out]; exact kR, HR.out.1.below HB2.out, HR.out.2.1, HR.out.2.2.1, fun ad e => by have := HR.out.2.2.2.1 ad e; omega⟩, by omega, by omega⟩
  refine (get1_any (w.heap.size + 1 + 1) (w.heap.size + 1) F l Z W2 hRd (HR.out.2.2.2.2.below HB2.out) hZ (.inr (by omega))).mono ?_
  rintro e w1 ⟨ht, ⟨f, r, hp, rfl, hfin, A1, c1, hbl⟩ | ⟨k, hp, rfl, hkF⟩⟩
  · have kE1 : Blk w1 w.heap.size #[.int .i64 0] 25 := (ht.block _ kE.lt (by omega) (by omega)).trans kE
    have HG1 : Hid (w.grownBy w1 (some F)) := Lib.hid ⟨ht.os.trans HB2.out.os, ht.tape.trans HB2.out.tape, ht.output.trans HB2.out.output, Nat.le_trans HB2.out.size ht.size, fun q hq hne => (ht.block q (Nat.lt_of_lt_of_le hq HB2.out.size) (by omega) (fun e => hne (by rw [e]))).trans (HB2.out.block q hq)⟩
    obtain ⟨m, hm⟩ : ∃ m, r.length = m := ⟨_, rfl⟩
    rw [hm] at hbl
    have KL := Lib.hid (left_blk _ m c1 A1 w1 hbl)
    have HFI := Lib.hid hfin
    have HP := Lib.hid hp
    have HM := Lib.hid hm
    have HKE := Lib.hid kE1
    have hE1 := kE1.lt
    have z0 := kE1.cell 0
    have z1 := fun i => kE1.frozen i
    have hsz2 : w.heap.size ≤ W2.heap.size := HB2.out.size
    have hsz3 : w.heap.size < W2.heap.size := by omega
    clear ht hp hfin hbl kE kR hsz hRd HB2 HR kE1 hm
    go_wp2_with fail
    refine KL.out.mono ?_
    rintro e w2 ⟨rfl, rfl⟩
    by_cases h0 : m = 0
    · have HR0 : Hid (r = []) := Lib.hid (List.length_eq_zero_iff.1 (HM.out.trans h0))
      subst h0
      go_wp2_with fail
      refine leaves_cons (f := 136) (args := #[.pointer (some ⟨w.heap.size, 0, none⟩)]) (by simp) (by simp [go_sem]) ?_
      refine (catch_idle ⟨w.heap.size, 0, none⟩ _).mono ?_
      rintro e u' w'' ⟨rfl, rfl, rfl⟩
      have hE := (HKE.out.set 0 (.int .i64 0)).cell 0
      simp [Leaves, settle, results, Try.results80, go_sem, hE]
      exact ⟨gr_new HG1.out _ (Nat.le_refl _), .inl ⟨f, getF_ok HP.out HR0.out, HFI.out.set _ hsz2 (by omega) (by omega)⟩⟩
    · have HR0 : Hid (¬ r = []) := Lib.hid (fun e => h0 (by rw [← HM.out, e]; rfl))
      have d1 : decide (0 < m) = true := decide_eq_true (by omega)
      have d1' : decide ((0 : Int) < m) = true := decide_eq_true (by omega)
      go_wp2_with fail
      refine leaves_cons (f := 136) (args := #[.pointer (some ⟨w.heap.size, 0, none⟩)]) (by simp) (by simp [go_sem]) ?_
      refine (catch_idle ⟨w.heap.size, 0, none⟩ _).mono ?_
      rintro e u' w'' ⟨rfl, rfl, rfl⟩
      have hE := (HKE.out.set 0 (.int .i64 3)).cell 0
      simp [Leaves, settle, results, Try.results80, go_sem, hE]
      exact ⟨gr_new HG1.out _ (Nat.le_refl _), getF_more HP.out HR0.out⟩
  · have kE1 : Blk w1 w.heap.size #[.int .i64 0] 25 := (ht.block _ kE.lt (by omega) (by omega)).trans kE
    have HG1 : Hid (w.grownBy w1 (some F)) := Lib.hid ⟨ht.os.trans HB2.out.os, ht.tape.trans HB2.out.tape, ht.output.trans HB2.out.output, Nat.le_trans HB2.out.size ht.size, fun q hq hne => (ht.block q (Nat.lt_of_lt_of_le hq HB2.out.size) (by omega) (fun e => hne (by rw [e]))).trans (HB2.out.block q hq)⟩
    have HP := Lib.hid hp
    have HKE := Lib.hid kE1
    clear ht hp kE kR hsz hRd HB2 HR hkF kE1
    unfold Flt
    go_wp2_with fail
    refine leaves_cons (f := 136) (args := #[.pointer (some ⟨w.heap.size, 0, none⟩)]) (by simp) (by simp [go_sem]) ?_
    refine (catch_panicking ⟨w.heap.size, 0, none⟩ 0 k [] w1 (HKE.out.cell 0) (HKE.out.frozen 0) HKE.out.lt).mono ?_
    rintro e u' w'' ⟨rfl, rfl, rfl⟩
    have hE := ((HKE.out.below ((Below.refl w1.heap.size w1).alloc (Nat.le_refl _) (.cells #[.int .i64 k] 214))).set 0 (.int .i64 k)).cell 0
    simp [Leaves, settle, results, Try.results80, go_sem, hE]
    exact ⟨gr_new (gr_trans HG1.out (gr_below ((Below.refl w1.heap.size w1).alloc (Nat.le_refl _) _))) _ (Nat.le_refl _), .inr (getF_err HP.out)⟩
/- No reader fails with the number 0. -/
def NzP {α : Type} (p : Prs α) : Prop := ∀ l k, p l = .error k → k ≠ 0
theorem nz_pure {α : Type} (x : α) : NzP (pureP x) := fun l k h => by cases h
theorem nz_fail {α : Type} {e : Int} (he : e ≠ 0) : NzP (failP e : Prs α) := fun l k h => by cases h; exact he
theorem nz_if {α : Type} {c : Prop} [Decidable c] {p q : Prs α} (hp : NzP p) (hq : NzP q) : NzP (if c then p else q) := by
  split
  · exact hp
  · exact hq
theorem nz_num (k : Nat) : NzP (numP k) := by
  intro l e h
  unfold numP at h
  split at h
  · cases h; decide
  · cases h
theorem nz_bind {α β : Type} {p : Prs α} {f : α → Prs β} (hp : NzP p) (hf : ∀ x, NzP (f x)) : NzP (bindP p f) := by
  intro l k h
  unfold bindP at h
  cases hpl : p l with
  | error e =>
    rw [hpl] at h
    cases h
    exact hp l _ hpl
  | ok z =>
    obtain ⟨x, r⟩ := z
    rw [hpl] at h
    exact hf x r k h
theorem nz_fields : ∀ (ks : List Nat) (acc : List Int), NzP (fieldsA ks acc)
  | [], acc => nz_pure acc
  | k :: ks, acc => nz_bind (nz_num k) fun x => nz_fields ks _
theorem nz_cfg : NzP cfgP := nz_bind (nz_fields _ _) fun c => by
  split
  · exact nz_pure _
  · rename_i h; exact nz_fail h
theorem nz_one (kind left : Int) : NzP (oneN kind left) :=
  nz_bind (nz_num 1) fun x => nz_if (nz_if (nz_bind (nz_num 1) fun c => nz_pure _) (nz_bind (nz_num 8) fun s => nz_bind (nz_num 4) fun k => nz_pure _)) (nz_if (nz_bind (nz_num 2) fun f => nz_bind (nz_num 2) fun b => nz_pure _) (nz_fail (by decide)))
theorem nz_nodes (kind : Int) : ∀ (n : Nat) (left : Int) (out : List Nd), NzP (nodesA kind n left out)
  | 0, _, out => nz_pure out
  | n + 1, left, out => nz_bind (nz_one kind left) fun x => nz_nodes kind n _ _
theorem nz_tree (cols bins kind classes : Int) : NzP (treeP cols bins kind classes) :=
  nz_bind (nz_num 4) fun n => nz_if (nz_fail (by decide)) (nz_bind (nz_nodes _ _ _ _) fun t => nz_if (nz_pure _) (nz_fail (by decide)))
theorem nz_vals : ∀ (n : Nat) (out : List Nat), NzP (valsA n out)
  | 0, out => nz_pure out
  | n + 1, out => nz_bind (nz_num 8) fun x => nz_vals n _
theorem nz_cols (b den : Int) : ∀ (n : Nat) (E : List (List Nat)) (S : List (Int × Int)), NzP (colsA b den n E S)
  | 0, E, S => nz_pure _
  | n + 1, E, S => nz_bind (nz_num 1) fun m => nz_bind (nz_vals _ _) fun es => nz_if (nz_bind (nz_num 8) fun x => nz_cols b den n _ _) (nz_fail (by decide))
theorem nz_trees (f : Fst) : ∀ (n : Nat) (T : List (List Nd)), NzP (treesA f n T)
  | 0, T => nz_pure T
  | n + 1, T => nz_bind (nz_tree _ _ _ _) fun t => nz_if (nz_trees f n _) (nz_fail (by decide))
theorem nz_get : NzP getP :=
  nz_bind (nz_num 4) fun m => nz_if (nz_fail (by decide)) (nz_bind nz_cfg fun c => nz_bind (nz_num 2) fun cols => nz_if (nz_fail (by decide)) (nz_if (nz_fail (by decide))
    (nz_bind (nz_num 8) fun seed => nz_bind (nz_num 8) fun num => nz_bind (nz_num 4) fun den => nz_bind (nz_cols _ _ _ _ _) fun es => nz_bind (nz_trees _ _ _) fun T => nz_if (nz_pure _) (nz_fail (by decide)))))
theorem getF_nz {l : List Nat} {k : Int} (h : getF l = .error k) : k ≠ 0 := by
  unfold getF at h
  cases hg : getP l with
  | error e =>
    rw [hg] at h
    cases h
    exact nz_get l _ hg
  | ok z =>
    obtain ⟨f, r⟩ := z
    rw [hg] at h
    simp only at h
    split at h
    · cases h
    · cases h; decide
set_option maxRecDepth 100000 in
set_option maxHeartbeats 4000000 in
theorem gget_any (l : List Nat) (A : Option Addr) (c : Nat) (w : World) (hr : RB w A l) (hl : l.length ≤ c) (hc : c ≤ 9223372036854775807) (hA : ∀ ad, A = some ad → ad.block < w.heap.size) :
    Calls Try.prog 36 #[.slice A l.length c] w fun e w' => Below w.heap.size w w' ∧
      ((∃ (f : Fst) (Ae At As : Option Addr) (ce ct cs : Nat), getF l = .ok f ∧ e = .returned (.tuple #[.agg (forA f Ae At As ce ct cs), .int .i64 0]) ∧ RFo w' f Ae At As ∧ OkB f) ∨ ∃ k, getF l = .error k ∧ e = .returned (.tuple #[.agg #[.int .i64 0, .int .i64 0, .int .i64 0, .int .i64 0, .int .i64 0, .int .i64 0, .int .i64 0, .int .i64 0, .int .u64 0, .slice none 0 0, .slice none 0 0, .int .i64 0, .int .i64 0, .slice none 0 0], .int .i64 k])) := by
  have hmf : ∀ (fn : Fn) (first cap : Array Value) (w : World), (Instr.makeFunc fn first cap).run Try.prog w = .ok (.func fn first cap) w := fun _ _ _ _ => rfl
  have HB2 : Hid (Below w.heap.size w ((w.alloc (.cells #[.int .i64 0, .int .i64 0, .int .i64 0, .int .i64 0, .int .i64 0, .int .i64 0, .int .i64 0, .int .i64 0, .int .u64 0, .slice none 0 0, .slice none 0 0, .int .i64 0, .int .i64 0, .slice none 0 0] 59)).alloc (.cells #[.int .i64 0, .int .i64 0, .int .i64 0, .int .i64 0, .int .i64 0, .int .i64 0, .int .i64 0, .int .i64 0, .int .u64 0, .slice none 0 0, .slice none 0 0, .int .i64 0, .int .i64 0, .slice none 0 0] 59))) := Lib.hid (((Below.refl _ w).alloc (Nat.le_refl _) _).alloc (by simp) _)
  have k0 := (Blk.new w #[.int .i64 0, .int .i64 0, .int .i64 0, .int .i64 0, .int .i64 0, .int .i64 0, .int .i64 0, .int .i64 0, .int .u64 0, .slice none 0 0, .slice none 0 0, .int .i64 0, .int .i64 0, .slice none 0 0] 59).below ((Below.refl _ (w.alloc (.cells #[.int .i64 0, .int .i64 0, .int .i64 0, .int .i64 0, .int .i64 0, .int .i64 0, .int .i64 0, .int .i64 0, .int .u64 0, .slice none 0 0, .slice none 0 0, .int .i64 0, .int .i64 0, .slice none 0 0] 59))).alloc (Nat.le_refl _) (.cells #[.int .i64 0, .int .i64 0, .int .i64 0, .int .i64 0, .int .i64 0, .int .i64 0, .int .i64 0, .int .i64 0, .int .u64 0, .slice none 0 0, .slice none 0 0, .int .i64 0, .int .i64 0, .slice none 0 0] 59))
  have k1 := Blk.new (w.alloc (.cells #[.int .i64 0, .int .i64 0, .int .i64 0, .int .i64 0, .int .i64 0, .int .i64 0, .int .i64 0, .int .i64 0, .int .u64 0, .slice none 0 0, .slice none 0 0, .int .i64 0, .int .i64 0, .slice none 0 0] 59)) #[.int .i64 0, .int .i64 0, .int .i64 0, .int .i64 0, .int .i64 0, .int .i64 0, .int .i64 0, .int .i64 0, .int .u64 0, .slice none 0 0, .slice none 0 0, .int .i64 0, .int .i64 0, .slice none 0 0] 59
  rw [World.size_alloc] at k1
  obtain ⟨W2, hW2⟩ : ∃ W, (w.alloc (.cells #[.int .i64 0, .int .i64 0, .int .i64 0, .int .i64 0, .int .i64 0, .int .i64 0, .int .i64 0, .int .i64 0, .int .u64 0, .slice none 0 0, .slice none 0 0, .int .i64 0, .int .i64 0, .slice none 0 0] 59)).alloc (.cells #[.int .i64 0, .int .i64 0, .int .i64 0, .int .i64 0, .int .i64 0, .int .i64 0, .int .i64 0, .int .i64 0, .int .u64 0, .slice none 0 0, .slice none 0 0, .int .i64 0, .int .i64 0, .slice none 0 0] 59) = W := ⟨_, rfl⟩
  obtain ⟨g0, hg0⟩ : ∃ z, w.heap.size = z := ⟨_, rfl⟩
  rw [hW2] at HB2 k0 k1
  rw [hg0] at k0 k1
  have hg1 := k1.lt
  have KT := Lib.hid (try_any (g0 + 1) l A c #[.int .i64 0, .int .i64 0, .int .i64 0, .int .i64 0, .int .i64 0, .int .i64 0, .int .i64 0, .int .i64 0, .int .u64 0, .slice none 0 0, .slice none 0 0, .int .i64 0, .int .i64 0, .slice none 0 0] W2 (hr.below HB2.out) hl hc (fun ad e => by have := hA ad e; omega) k1 rfl)
  have K0 := Lib.hid k0
  have HSZ := Lib.hid hg0
  obtain ⟨n, hn⟩ : ∃ n, l.length = n := ⟨_, rfl⟩
  rw [hn] at KT ⊢
  clear hr hl hA k0 k1 hn
  go_enter Try.func36, Try.ntmps36
  go_wp2_with fail
  clear hW2 hg0
  refine KT.out.mono ?_
  rintro e w1 ⟨hg, ⟨f, hgf, rfl, ⟨Ae, At, As, ce, ct, cs, hbF, hfr, hob⟩⟩ | ⟨k, hgf, rfl⟩⟩
  · have HG := Lib.hid hg
    have HX := Lib.hid (And.intro hgf (And.intro hfr hob))
    obtain ⟨CF, hCF⟩ : ∃ C, forA f Ae At As ce ct cs = C := ⟨_, rfl⟩
    have hone : ∀ v ∈ CF.toList, v.oneCell' = true := by rw [← hCF]; unfold forA; simp [Value.oneCell']
    have hsz : (Try.prog.info? 59).map (·.size) = some CF.size := by rw [← hCF]; kernel_rfl
    have hsz2 : (#[.int .i64 0, .int .i64 0, .int .i64 0, .int .i64 0, .int .i64 0, .int .i64 0, .int .i64 0, .int .i64 0, .int .u64 0, .slice none 0 0, .slice none 0 0, .int .i64 0, .int .i64 0, .slice none 0 0] : Array Value).size = CF.size := by rw [← hCF]; rfl
    rw [hCF] at hbF
    have HCF := Lib.hid hCF
    have k0 := own_blk K0.out hg (fun e => by simp only [Option.some.injEq] at e; omega)
    clear hg hgf hfr hob hCF
    go_wp2_with (first | (refine wpList_load_row rfl 59 (.tmp 4) rfl (g0 + 1) rfl 59 _ (0, 0) _ hbF Try.underlying59 rfl hsz ?_) | (refine wpList_store_row rfl 59 (.tmp 2) (.tmp 13) rfl g0 rfl 59 _ CF rfl k0 hsz hsz2 hone ?_))
    refine bodyPost_ret (results_ct rfl _ _ g0 59 CF _ rfl k0.row Try.underlying59 rfl hsz) rfl ⟨?_, .inl ⟨f, Ae, At, As, ce, ct, cs, HX.out.1, by rw [HCF.out]; rfl, HX.out.2.1 _ (fun k h1 h2 => row_other (by omega)), HX.out.2.2⟩⟩
    have h1 := HG.out
    have h2 := HB2.out
    have h3 := HSZ.out
    exact ⟨h1.os.trans h2.os, h1.tape.trans h2.tape, h1.output.trans h2.output, by rw [size_setRow]; exact Nat.le_trans h2.size h1.size, fun q hq => (row_other (by omega)).trans ((h1.block q (Nat.lt_of_lt_of_le hq h2.size) (fun e => by simp only [Option.some.injEq] at e; omega)).trans (h2.block q hq))⟩
  · have HG := Lib.hid hg
    have HX := Lib.hid hgf
    have hk := getF_nz hgf
    have e1 : (k == 0) = false := beq_eq_false_iff_ne.2 hk
    have e2 : (k != 0) = true := bne_iff_ne.2 hk
    have k0 := own_blk K0.out hg (fun e => by simp only [Option.some.injEq] at e; omega)
    have hone : ∀ v ∈ (#[.int .i64 0, .int .i64 0, .int .i64 0, .int .i64 0, .int .i64 0, .int .i64 0, .int .i64 0, .int .i64 0, .int .u64 0, .slice none 0 0, .slice none 0 0, .int .i64 0, .int .i64 0, .slice none 0 0] : Array Value).toList, v.oneCell' = true := by simp [Value.oneCell']
    clear hg hgf hk
    go_wp2_with (refine wpList_store_row rfl 59 (.tmp 2) (.tmp 11) rfl g0 rfl 59 _ #[.int .i64 0, .int .i64 0, .int .i64 0, .int .i64 0, .int .i64 0, .int .i64 0, .int .i64 0, .int .i64 0, .int .u64 0, .slice none 0 0, .slice none 0 0, .int .i64 0, .int .i64 0, .slice none 0 0] rfl k0 forest_sz rfl hone ?_)
    refine bodyPost_ret (results_ct rfl _ _ g0 59 #[.int .i64 0, .int .i64 0, .int .i64 0, .int .i64 0, .int .i64 0, .int .i64 0, .int .i64 0, .int .i64 0, .int .u64 0, .slice none 0 0, .slice none 0 0, .int .i64 0, .int .i64 0, .slice none 0 0] _ rfl k0.row Try.underlying59 rfl forest_sz) rfl ⟨?_, .inr ⟨k, HX.out, rfl⟩⟩
    have h1 := HG.out
    have h2 := HB2.out
    have h3 := HSZ.out
    exact ⟨h1.os.trans h2.os, h1.tape.trans h2.tape, h1.output.trans h2.output, by rw [size_setRow]; exact Nat.le_trans h2.size h1.size, fun q hq => (row_other (by omega)).trans ((h1.block q (Nat.lt_of_lt_of_le hq h2.size) (fun e => by simp only [Option.some.injEq] at e; omega)).trans (h2.block q hq))⟩
end Go.Proofs.Ytpekofpiodaadaa.Hb
end

section
/- What was put is read: pure. -/
namespace Go.Proofs.Ytpekofpiodaadaa.Hb
set_option linter.unusedVariables false
set_option linter.unusedSimpArgs false
open Go.RowKit

theorem num_be (x k : Nat) (r : List Nat) : numP k (beN x k ++ r) = .ok (x % 256 ^ k, r) := by
  rw [num_some (by rw [List.length_append, be_len]; omega), List.take_append_of_le_length (by rw [be_len]; exact Nat.le_refl _), List.drop_append_of_le_length (by rw [be_len]; exact Nat.le_refl _),
    List.take_of_length_le (by rw [be_len]; exact Nat.le_refl _), List.drop_of_length_le (by rw [be_len]; exact Nat.le_refl _), List.nil_append, numB_be]
theorem num_lt {x k : Nat} (r : List Nat) (h : x < 256 ^ k) : numP k (beN x k ++ r) = .ok (x, r) := by rw [num_be, Nat.mod_eq_of_lt h]
theorem u64N_nat {x : Int} (h : 0 ≤ x ∧ x < 18446744073709551616) : ((u64N x : Nat) : Int) = x := by unfold u64N; omega
theorem sI_u64N {x : Int} (h : in64 x) : sI (u64N x) = x := by
  unfold in64 at h
  unfold sI u64N
  rw [wrapI_fst]
  unfold wrap64
  omega
theorem one_nd {cols bins kind classes left : Int} {n : Nd} (r : List Nat) (hs : mayS cols bins kind classes) (hn : oneP cols bins kind classes n) (hl : n.f ≠ -1 → n.l = left) : oneN kind left (ndB kind n ++ r) = .ok (n, r) := by
  unfold mayS at hs
  unfold oneP at hn
  obtain ⟨f, b, l, c, s, k⟩ := n
  simp only at hn hl
  unfold oneN
  by_cases h1 : f = -1
  · rw [if_pos h1] at hn
    by_cases hk : kind = 0
    · rw [if_pos hk] at hn
      rw [ndB_leaf0 h1 hk]
      rw [bind_ok (x := 0) (r := [u64N c % 256] ++ r) (by exact num_lt (x := 0) (k := 1) _ (by decide)), if_pos rfl, if_pos hk]
      have hc : u64N c % 256 = u64N c := Nat.mod_eq_of_lt (by unfold u64N; omega)
      rw [bind_ok (x := u64N c) (r := r) (by
        have h := num_lt (x := u64N c) (k := 1) r (by unfold u64N; omega)
        rw [show beN (u64N c) 1 = [u64N c % 256] from by simp [beN]] at h
        exact h)]
      unfold pureP
      rw [u64N_nat (by omega)]
      simp only [Except.ok.injEq, Prod.mk.injEq, Nd.mk.injEq, and_true, true_and]
      omega
    · rw [if_neg hk] at hn
      rw [ndB_leaf1 h1 hk, List.append_assoc, List.append_assoc]
      rw [bind_ok (x := 0) (r := beN (u64N s) 8 ++ (beN (u64N k) 4 ++ r)) (by exact num_lt (x := 0) (k := 1) _ (by decide)), if_pos rfl, if_neg hk]
      rw [bind_ok (num_lt _ (u64N_lt s)), bind_ok (num_lt _ (by unfold u64N; omega))]
      unfold pureP
      rw [u64N_nat (by omega), sI_u64N (by unfold in64; omega)]
      simp only [Except.ok.injEq, Prod.mk.injEq, Nd.mk.injEq, and_true, true_and]
      omega
  · rw [if_neg h1] at hn
    rw [ndB_split h1, List.append_assoc, List.append_assoc]
    rw [bind_ok (x := 1) (r := beN (u64N f) 2 ++ (beN (u64N b) 2 ++ r)) (by exact num_lt (x := 1) (k := 1) _ (by decide)), if_neg (by decide), if_pos rfl]
    rw [bind_ok (num_lt _ (by unfold u64N; omega)), bind_ok (num_lt _ (by unfold u64N; omega))]
    unfold pureP
    rw [u64N_nat (by omega), u64N_nat (by omega)]
    have := hl h1
    simp only [Except.ok.injEq, Prod.mk.injEq, Nd.mk.injEq, and_true, true_and]
    omega
theorem nodes_nd {cols bins kind classes : Int} (hs : mayS cols bins kind classes) {L : Nat} : ∀ (a : List Nd) (i : Nat) (out : List Int) (acc : List Nd) (r : List Nat), (∀ n ∈ a, oneP cols bins kind classes n) → (depGo L a i out).isSome → nodesA kind a.length out.length acc (a.flatMap (ndB kind) ++ r) = .ok (acc ++ a, r)
  | [], i, out, acc, r, _, _ => by simp [nodesA, pureP]
  | n :: a, i, out, acc, r, ha, h1 => by
    have ha' := fun x hx => ha x (List.mem_cons_of_mem n hx)
    rw [List.flatMap_cons, List.append_assoc, List.length_cons]
    unfold nodesA
    unfold depGo at h1
    by_cases g1 : out.length ≤ i
    · rw [if_pos g1] at h1; simp at h1
    · rw [if_neg g1] at h1
      by_cases g2 : n.f = -1
      · rw [if_pos g2] at h1
        rw [bind_ok (one_nd _ hs (ha n (List.mem_cons_self ..)) (fun e => absurd g2 e)), if_pos g2, nodes_nd hs a (i + 1) out _ r ha' h1, List.append_assoc]
        rfl
      · rw [if_neg g2] at h1
        by_cases g3 : n.l ≠ (out.length : Int) ∨ L < out.length + 2
        · rw [if_pos g3] at h1; simp at h1
        · rw [if_neg g3] at h1
          have hk := nodes_nd hs a (i + 1) _ (acc ++ [n]) r ha' h1
          rw [bind_ok (one_nd _ hs (ha n (List.mem_cons_self ..)) (fun _ => by omega)), if_neg g2]
          have e : (((out ++ [out.getD i 0 + 1, out.getD i 0 + 1]).length : Nat) : Int) = (out.length : Int) + 2 := by simp
          rw [e] at hk
          rw [hk, List.append_assoc]
          rfl
theorem tree_nd {cols bins kind classes : Int} {t : List Nd} (r : List Nat) (h : rightT cols bins kind classes t = true) (hl : t.length ≤ 4194304) : treeP cols bins kind classes (treeB kind t ++ r) = .ok (t, r) := by
  obtain ⟨hs, _, ⟨ds, hd, _⟩, _, ho⟩ := rightT_is h
  unfold treeP treeB
  rw [List.append_assoc, bind_ok (num_lt _ (by omega)), if_neg (by omega)]
  have hk := nodes_nd hs (L := t.length) t 0 [0] [] r ho (by rw [hd]; rfl)
  rw [List.nil_append] at hk
  have hk2 : nodesA kind t.length 1 [] (t.flatMap (ndB kind) ++ r) = .ok (t, r) := hk
  rw [bind_ok hk2, if_pos h]
  rfl
theorem vals_nd : ∀ (a : List Nat) (acc : List Nat) (r : List Nat), (∀ x ∈ a, x < 18446744073709551616) → valsA a.length acc (a.flatMap valB ++ r) = .ok (acc ++ a, r)
  | [], acc, r, _ => by simp [valsA, pureP]
  | x :: a, acc, r, h => by
    rw [List.flatMap_cons, List.append_assoc, List.length_cons]
    unfold valsA
    rw [show valB x = beN x 8 from rfl, bind_ok (num_lt _ (h x (List.mem_cons_self ..))), vals_nd a _ r (fun y hy => h y (List.mem_cons_of_mem _ hy)), List.append_assoc]
    rfl
theorem cols_nd {b den : Int} : ∀ (a : List (List Nat × (Int × Int))) (E : List (List Nat)) (S : List (Int × Int)) (r : List Nat), (∀ x ∈ a, OkX den x ∧ cutsE b x.1 = true) →
    colsA b den a.length E S (a.flatMap colX ++ r) = .ok ((E ++ a.map Prod.fst, S ++ a.map Prod.snd), r)
  | [], E, S, r, _ => by simp [colsA, pureP]
  | ⟨es, x, d⟩ :: a, E, S, r, h => by
    obtain ⟨⟨x1, x2, x3, x4⟩, x5⟩ := h _ (List.mem_cons_self ..)
    simp only at x1 x2 x3 x4 x5
    rw [List.flatMap_cons, List.append_assoc, List.length_cons]
    unfold colsA
    rw [show colX (es, x, d) = beN es.length 1 ++ (es.flatMap valB ++ beN (u64N x) 8) from rfl, List.append_assoc, List.append_assoc]
    have hv := vals_nd es [] (beN (u64N x) 8 ++ (a.flatMap colX ++ r)) x2
    rw [List.nil_append] at hv
    rw [bind_ok (num_lt _ (by omega)), bind_ok hv, if_pos x5, bind_ok (num_lt _ (u64N_lt x)), cols_nd a _ _ r (fun y hy => h y (List.mem_cons_of_mem _ hy)), sI_u64N x3]
    subst x4
    simp [List.append_assoc]
theorem trees_nd {f : Fst} : ∀ (a T : List (List Nd)) (r : List Nat), (∀ t ∈ a, treeE f t = true ∧ t.length ≤ 4194304) → treesA f a.length T (a.flatMap (treeB f.k) ++ r) = .ok (T ++ a, r)
  | [], T, r, _ => by simp [treesA, pureP]
  | t :: a, T, r, h => by
    obtain ⟨h1, h2⟩ := h t (List.mem_cons_self ..)
    have h3 : rightT f.cols f.b f.k f.cl t = true := by unfold treeE at h1; simp only [Bool.and_eq_true] at h1; exact h1.1
    rw [List.flatMap_cons, List.append_assoc, List.length_cons]
    unfold treesA
    rw [bind_ok (tree_nd _ h3 h2), if_pos h1, trees_nd a _ r (fun y hy => h y (List.mem_cons_of_mem _ hy)), List.append_assoc]
    rfl
theorem cfg_nd {k cl b t d l p : Int} (r : List Nat) (h : checkO k cl b t d l p = 0) : cfgP (cfgB k cl b t d l p ++ r) = .ok ([k, cl, b, t, d, l, p], r) := by
  obtain ⟨ok, ocl, ob, ot, od, ol, op⟩ := chk_is h
  have key : fieldsA szs [] (cfgB k cl b t d l p ++ r) = .ok ([k, cl, b, t, d, l, p], r) := by
    unfold cfgB cfgL fldB szs
    simp only [List.flatMap_cons, List.flatMap_nil, List.append_nil, List.append_assoc]
    unfold fieldsA
    rw [bind_ok (num_lt _ (by unfold u64N; omega))]
    unfold fieldsA
    rw [bind_ok (num_lt _ (by unfold u64N; omega))]
    unfold fieldsA
    rw [bind_ok (num_lt _ (by unfold u64N; omega))]
    unfold fieldsA
    rw [bind_ok (num_lt _ (by unfold u64N; omega))]
    unfold fieldsA
    rw [bind_ok (num_lt _ (by unfold u64N; omega))]
    unfold fieldsA
    rw [bind_ok (num_lt _ (by unfold u64N; omega))]
    unfold fieldsA
    rw [bind_ok (num_lt _ (by unfold u64N; omega))]
    unfold fieldsA pureP
    rw [u64N_nat (by omega), u64N_nat (by omega), u64N_nat (by omega), u64N_nat (by omega), u64N_nat (by omega), u64N_nat (by omega), u64N_nat (by omega)]
    rfl
  unfold cfgP
  rw [bind_ok key, if_pos (by exact h)]
  rfl
/-- A forest's bytes are read as that forest. -/
theorem getP_put {f : Fst} (hf : mayF f = true) (of : OkB f) (ol : ∀ t ∈ f.trees, t.length ≤ 4194304) (r : List Nat) : getP (putF f ++ r) = .ok (f, r) := by
  have mf := mayF_is hf
  have cf := chk_is mf.ck
  have bf := mayF_be hf cf.k
  have hcut : ∀ e ∈ f.edges, cutsE f.b e = true := by
    unfold mayF at hf
    simp only [Bool.and_eq_true, List.all_eq_true] at hf
    exact hf.2.1
  have htr : ∀ t ∈ f.trees, treeE f t = true := by
    unfold mayF at hf
    simp only [Bool.and_eq_true, List.all_eq_true] at hf
    exact hf.2.2
  obtain ⟨k, cl, b, t, d, l, p, cols, seed, edges, trees, num, den, shake⟩ := f
  have c0 := mf.c0
  have c1 := mf.c1
  have ne := mf.ne
  have nt := mf.nt
  have ns := mf.ns
  have ck := mf.ck
  have bn := bf.num
  have bd := bf.den
  have hsd := of.seed
  have ct := cf.t
  simp only at *
  unfold getP putF fstB
  simp only [List.append_assoc]
  rw [bind_ok (num_lt _ (by decide)), if_neg (by decide), bind_ok (cfg_nd _ ck), bind_ok (num_lt _ (by unfold u64N; omega)), if_neg (by unfold u64N; omega), if_neg (by unfold u64N; omega),
    bind_ok (num_lt _ hsd), bind_ok (num_lt _ (u64N_lt num)), bind_ok (num_lt _ (by unfold u64N; omega))]
  rw [sI_u64N (by unfold in64; omega), u64N_nat (x := den) (by omega), u64N_nat (x := cols) (by omega)]
  have hz : (edges.zip shake).length = u64N cols := by rw [List.length_zip]; unfold u64N; omega
  have hc := cols_nd (b := b) (den := den) (edges.zip shake) [] [] (trees.flatMap (treeB k) ++ r) (fun x hx => by
    have hm := List.of_mem_zip hx
    have h3 := bf.sh _ hm.2
    exact ⟨⟨mf.ee _ hm.1, of.ee _ hm.1, h3.1, h3.2⟩, hcut _ hm.1⟩)
  rw [hz, List.nil_append, List.nil_append, List.map_fst_zip (by omega), List.map_snd_zip (by omega)] at hc
  rw [show ([k, cl, b, t, d, l, p] : List Int).getD 2 0 = b from rfl, bind_ok hc]
  have hl3 : (([k, cl, b, t, d, l, p] : List Int).getD 3 0).toNat = trees.length := by show t.toNat = _; omega
  rw [hl3]
  have ht := trees_nd (f := Fst.head [k, cl, b, t, d, l, p] cols seed num den) trees [] r (fun t ht => ⟨htr t ht, ol t ht⟩)
  rw [List.nil_append] at ht
  rw [bind_ok (show treesA (Fst.head [k, cl, b, t, d, l, p] cols seed num den) trees.length [] (trees.flatMap (treeB k) ++ r) = _ from ht)]
  rw [if_pos (by exact hf)]
  rfl
end Go.Proofs.Ytpekofpiodaadaa.Hb
end

section
/- The walk of the law ModelCuts. -/
namespace Go.Proofs.Ytpekofpiodaadaa.Hb
set_option linter.unusedVariables false
set_option linter.unusedSimpArgs false
open Go.RowKit

structure OkPl (f : Fst) : Prop where
  le : f.edges.length ≤ 9223372036854775807
  lt : f.trees.length ≤ 9223372036854775807
  ls : f.shake.length ≤ 9223372036854775807
  seed : f.seed < 18446744073709551616
theorem great_okF {f : Fst} (h : greatP f = false) : OkF f := by
  obtain ⟨h1, h2, h3, h4, h5⟩ := great28_not h
  exact ⟨by omega, by omega, by omega, fun t ht => by have := h4 t ht; omega, fun t ht => by have := h5 t ht; omega⟩
theorem rb_take {w : World} {A : Option Addr} {l : List Nat} (k : Nat) (h : RB w A l) : RB w A (l.take k) := by
  intro h0
  rw [List.length_take] at h0
  obtain ⟨ad, rfl, ha⟩ := h (by omega)
  refine ⟨ad, rfl, fun i y hy => ha i y ?_⟩
  rw [List.getElem?_take] at hy
  split at hy
  · exact hy
  · cases hy
theorem gget_bad (l : List Nat) (k : Int) (A : Option Addr) (c n : Nat) (w : World) (hk : getF l = .error k) (hr : RB w A l) (hn : l.length = n) (hl : n ≤ c) (hc : c ≤ 9223372036854775807) (hA : ∀ ad, A = some ad → ad.block < w.heap.size) :
    Calls Try.prog 36 #[.slice A n c] w fun e w' => e = .returned (.tuple #[.agg #[.int .i64 0, .int .i64 0, .int .i64 0, .int .i64 0, .int .i64 0, .int .i64 0, .int .i64 0, .int .i64 0, .int .u64 0, .slice none 0 0, .slice none 0 0, .int .i64 0, .int .i64 0, .slice none 0 0], .int .i64 k]) ∧ Below w.heap.size w w' := by
  subst hn
  refine (gget_any l A c w hr hl hc hA).mono ?_
  rintro e w' ⟨hb, ⟨f, _, _, _, _, _, _, h2, _⟩ | ⟨k2, h2, rfl⟩⟩
  · rw [hk] at h2; cases h2
  · rw [hk] at h2; cases h2; exact ⟨rfl, hb⟩
theorem putF_small {f : Fst} (hm : mayF f = true) (n1 : f.edges.length ≤ 20) (n2 : f.trees.length ≤ 10) (n5 : ∀ t ∈ f.trees, t.length ≤ 100) : (putF f).length ≤ 70368744177664 := by
  have h1 := cols_len (mayF_is hm).ee 20
  have h2 := trees_len (k := f.k) (trees := f.trees) (fun t ht => by have := n5 t ht; omega) 10
  have h3 : (f.edges.zip f.shake).take 20 = f.edges.zip f.shake := List.take_of_length_le (by rw [List.length_zip]; omega)
  rw [List.take_of_length_le n2] at h2
  rw [h3] at h1
  unfold putF
  rw [List.length_append, List.length_append, fstB_len]
  omega
theorem rb_lt {w : World} {ad : Addr} {l : List Nat} (h : RB w (some ad) l) (h0 : 0 < l.length) : ad.block < w.heap.size := by
  obtain ⟨ad2, e, hc, _⟩ := h.at h0
  cases e
  have := World.block_lt_of_cell? w _ hc
  rwa [add_blk] at this
set_option maxRecDepth 100000 in
set_option maxHeartbeats 16000000 in
theorem cuts28_any (f : Fst) (Ae At As : Option Addr) (ce ct cs : Nat) (at16 m8 : Nat) (h16 : at16 < 65536) (h8 : m8 < 256) (w : World) (hp : RPl w f Ae At As) (op : OkPl f) :
    Calls Try.prog 10 #[.agg (forA f Ae At As ce ct cs), .int .u16 (at16 : Int), .int .u8 (m8 : Int)] w (True0 w) := by
  have KGp := Lib.hid (fun w hr => great28_any f Ae At As ce ct cs w hr op.le op.lt)
  have KX := Lib.hid fixed28_any
  have HP := Lib.hid hp
  have HOB := Lib.hid op
  obtain ⟨i0, hi0, hz0, hz1, hz2⟩ := info_parts info_u8
  obtain ⟨PV, hPV⟩ : ∃ V, forA f Ae At As ce ct cs = V := ⟨_, rfl⟩
  have hszP : (Try.prog.info? 52).map (·.size) = some PV.size := by rw [← hPV]; kernel_rfl
  rw [hPV] at KGp
  rw [hPV]
  have HPV := Lib.hid hPV
  clear hPV hp op
  cases hgp : greatP f with
  | true =>
    rw [hgp] at KGp
    clear hgp
    go_enter Try.func10, Try.ntmps10
    go_upto_region 1 with (fail)
    have kP := Blk.new w PV 52
    have HBE := Lib.hid ((Below.refl w.heap.size w).alloc (Nat.le_refl _) (.cells PV 52))
    obtain ⟨W, hW⟩ : ∃ W, w.alloc (.cells PV 52) = W := ⟨_, rfl⟩
    rw [hW] at kP HBE ⊢
    have HKP := Lib.hid (fun W' (hb : Below W.heap.size W W') => kP.below hb)
    have HRP := Lib.hid (fun W' (hb : Below W.heap.size W W') => HP.out.below (HBE.out.trans (hb.mono HBE.out.size)))
    have HX0 := Lib.hid (Below.refl W.heap.size W)
    clear hW
    go_wp2_with (refine wpList_load_row rfl 52 (.tmp 3) rfl w.heap.size rfl 52 PV (0, 0) _ kP Try.underlying52 rfl hszP ?_)
    refine (KGp.out _ (HRP.out _ HX0.out)).mono ?_
    rintro e w1 ⟨rfl, hb⟩
    have HX1 := Lib.hid (HX0.out.trans (hb.mono HX0.out.size))
    clear hb
    clear kP
    go_wp2_with fail
    refine (KX.out _).mono ?_
    rintro e wz ⟨rfl, hb⟩
    have HXZ := Lib.hid (HX1.out.trans (hb.mono HX1.out.size))
    clear hb
    go_wp2_with fail
    go_ret
    exact ⟨rfl, HBE.out.trans (HXZ.out.mono HBE.out.size)⟩
  | false =>
    rw [hgp] at KGp
    obtain ⟨n1, n2, n3, n4, n5⟩ := great28_not hgp
    have KF := Lib.hid (fun w hr => full_any f Ae At As ce ct cs w hr n1 n4)
    have KP := Lib.hid (fun A c w hr => putans_any f A At As c ct cs w (great_okF hgp) hr (fun t ht => by have := n5 t ht; omega))
    have HGC := Lib.hid (fun (h1 : mayF f = true) => getF_cut (by have := getP_put h1 ⟨HOB.out.seed, HP.out.re.all, fun t ht => by have := n5 t ht; omega⟩ (fun t ht => by have := n5 t ht; omega) []; rw [List.append_nil] at this; exact this))
    have HLEN := Lib.hid (fun (h1 : mayF f = true) => putF_small h1 n1 n2 (fun t ht => n5 t ht))
    rw [HPV.out] at KF
    clear n1 n2 n3 n4 n5 hgp HOB
    go_enter Try.func10, Try.ntmps10
    go_upto_region 1 with (fail)
    have kP := Blk.new w PV 52
    have HBE := Lib.hid ((Below.refl w.heap.size w).alloc (Nat.le_refl _) (.cells PV 52))
    obtain ⟨W, hW⟩ : ∃ W, w.alloc (.cells PV 52) = W := ⟨_, rfl⟩
    rw [hW] at kP HBE ⊢
    have HKP := Lib.hid (fun W' (hb : Below W.heap.size W W') => kP.below hb)
    have HRP := Lib.hid (fun W' (hb : Below W.heap.size W W') => HP.out.below (HBE.out.trans (hb.mono HBE.out.size)))
    have HX0 := Lib.hid (Below.refl W.heap.size W)
    clear hW
    go_wp2_with (refine wpList_load_row rfl 52 (.tmp 3) rfl w.heap.size rfl 52 PV (0, 0) _ kP Try.underlying52 rfl hszP ?_)
    refine (KGp.out _ (HRP.out _ HX0.out)).mono ?_
    rintro e w1 ⟨rfl, hb⟩
    have HX1 := Lib.hid (HX0.out.trans (hb.mono HX0.out.size))
    clear hb
    clear kP
    have kP1 := HKP.out _ HX1.out
    go_wp2_with (refine wpList_load_row rfl 52 (.tmp 3) rfl w.heap.size rfl 52 PV (0, 0) _ kP1 Try.underlying52 rfl hszP ?_)
    refine (KF.out _ (HRP.out _ HX1.out)).mono ?_
    rintro e w3 ⟨B3, c3, rfl, hr3, hb⟩
    have HX3 := Lib.hid (HX1.out.trans (hb.mono HX1.out.size))
    clear hb
    clear kP1
    go_wp2_with fail
    refine (KP.out B3 c3 _ hr3).mono ?_
    rintro e w4 ⟨a4, n4, c4, err4, rfl, h4, hb⟩
    have HX4 := Lib.hid (HX3.out.trans (hb.mono HX3.out.size))
    clear hb
    clear hr3
    rcases h4 with ⟨rfl, hm4, hn4, hrb4, ho4⟩ | ⟨rfl, hm4⟩
    rotate_left
    · clear hm4
      go_wp2_with fail
      refine (KX.out _).mono ?_
      rintro e wz ⟨rfl, hb⟩
      have HXZ := Lib.hid (HX4.out.trans (hb.mono HX4.out.size))
      clear hb
      go_wp2_with fail
      go_ret
      exact ⟨ret_bool (by first | rfl | simp), HBE.out.trans (HXZ.out.mono HBE.out.size)⟩
    have hpos := putF_pos f
    have hin := putF_in f
    obtain ⟨hcut, hmore⟩ := HGC.out hm4
    obtain ⟨l, hl⟩ : ∃ l, putF f = l := ⟨_, rfl⟩
    rw [hl] at hn4 hrb4 ho4 hpos hin hcut hmore
    obtain ⟨hc1, hc2⟩ := own_cap ho4
    obtain ⟨ad, rfl, _⟩ := hrb4.at hpos
    have hlen : l.length ≤ 70368744177664 := by rw [← hl]; exact HLEN.out hm4
    have HRB := Lib.hid (And.intro hrb4 (And.intro hin hn4))
    have hadl := rb_lt hrb4 hpos
    have HMO := Lib.hid (hmore m8)
    rw [← hn4] at hpos hcut hlen
    obtain ⟨k, hk⟩ : ∃ k, at16 % n4 = k := ⟨_, rfl⟩
    have hkn : k < n4 := by rw [← hk]; exact Nat.mod_lt _ hpos
    have HCU := Lib.hid (hcut k hkn)
    have hrem : (at16 : Int).tmod (n4 : Int) = (k : Int) := by rw [Int.tmod_eq_emod_of_nonneg (by omega), ← hk]; rfl
    have hw16 : IntKind.i64.wrap (at16 : Int) = (at16 : Int) := by rw [wrapI_fst]; unfold wrap64; omega
    have hw16b : wrap64 (at16 : Int) = (at16 : Int) := by unfold wrap64; omega
    have hz : ((n4 : Int) == 0) = false := beq_eq_false_iff_ne.2 (by omega)
    have hz' : ¬ ((n4 : Int) = 0) := by omega
    have hkc : (k : Int) ≤ c4 := by omega
    have hk0 : (0 : Int) ≤ (k : Int) := by omega
    have KG1 := Lib.hid (gget_bad (l.take k) 2 (some ad) c4 k w4 HCU.out (rb_take k HRB.out.1) (by rw [List.length_take, ← HRB.out.2.2]; omega) (by omega) hc2 (fun ad' e => by cases e; exact hadl))
    clear hm4 hn4 hrb4 ho4 hin hcut hmore hl hk
    go_wp2_with fail
    refine KG1.out.mono ?_
    rintro e w5 ⟨rfl, hb⟩
    have HB5 := Lib.hid hb
    have HX5 := Lib.hid (HX4.out.trans (hb.mono HX4.out.size))
    clear hb
    clear hrem hw16 hw16b hz hz' KG1
    go_upto_region 7 with (fail)
    have hb6 : Below w5.heap.size w5 (w5.alloc (.cells #[.int .i64 0, .int .i64 0, .int .i64 0, .int .i64 0, .int .i64 0, .int .i64 0, .int .i64 0, .int .i64 0, .int .u64 0, .slice none 0 0, .slice none 0 0, .int .i64 0, .int .i64 0, .slice none 0 0] 59)) := (Below.refl w5.heap.size w5).alloc (Nat.le_refl _) _
    have HKZ6 := Lib.hid (Blk.new w5 #[.int .i64 0, .int .i64 0, .int .i64 0, .int .i64 0, .int .i64 0, .int .i64 0, .int .i64 0, .int .i64 0, .int .u64 0, .slice none 0 0, .slice none 0 0, .int .i64 0, .int .i64 0, .slice none 0 0] 59)
    have HB6 := Lib.hid (HB5.out.trans (hb6.mono HB5.out.size))
    have HX6 := Lib.hid (HX5.out.trans (hb6.mono HX5.out.size))
    obtain ⟨W6, hW6⟩ : ∃ W, w5.alloc (.cells #[.int .i64 0, .int .i64 0, .int .i64 0, .int .i64 0, .int .i64 0, .int .i64 0, .int .i64 0, .int .i64 0, .int .u64 0, .slice none 0 0, .slice none 0 0, .int .i64 0, .int .i64 0, .slice none 0 0] 59) = W := ⟨_, rfl⟩
    obtain ⟨g9, hg9⟩ : ∃ z, w5.heap.size = z := ⟨_, rfl⟩
    rw [hW6] at HKZ6 HB6 HX6 ⊢
    rw [hg9] at HKZ6 ⊢
    clear hb6 hW6 hg9
    have hs6 : w4.heap.size ≤ W6.heap.size := HB6.out.size
    have HRB6 := Lib.hid (fun o => HRB.out.1.below (HB6.out.trans ((Below.refl W6.heap.size W6).alloc (Nat.le_refl _) o |>.mono hs6)))
    go_wp2_with (at_builtin; first | (refine wpList_append_lies _ rfl _ _ 54 rfl W6.heap.size 5 i0 (.int .u8 0) 1 1 Try.underlying54 hi0 hz0 hz1 hz2 rfl (by decide) (.slice (some ⟨W6.heap.size, 0, none⟩) 0 0) 0 [] rfl (World.ownsRow_made W6 #[] 0 (Nat.le_refl _) (Nat.zero_le _) rfl) ad n4 c4 (u8s l) rfl (by rw [u8s_len, HRB.out.2.2, Nat.mul_one]) (by rcases (HRB6.out (.cells #[] 5)).news with ⟨e, _⟩ | ⟨ad', e, h⟩ <;> cases e <;> exact h) (u8s_one _) hpos (by unfold maxLen; omega) (by omega) (by simp) _ rfl ?_; intro g7 c7 w7 hown7 hg7 hat7 hlt7; rw [Nat.zero_add] at hown7 ⊢) | (refine wpList_append_lies _ rfl _ _ 54 rfl W6.heap.size 5 i0 (.int .u8 0) 1 1 Try.underlying54 hi0 hz0 hz1 hz2 rfl (by decide) (.slice (some ⟨g7, 0, none⟩) n4 c7) n4 (u8s l) rfl (hown7.alloc _) ⟨w7.heap.size, 0, none⟩ 1 1 [.int .u8 (m8 : Int)] rfl rfl (cell_one_new _ _ _) (by simp [Value.oneCell']) (by decide) (by unfold maxLen; omega) (by omega) (by have := hg7.size; simp at this ⊢; omega) _ rfl ?_; intro g8 c8 w8 hown8 hg8 hat8 hlt8))
    have h7 := hg7.size
    simp only [World.size_alloc] at h7
    have HX8 : Hid (Below W6.heap.size W6 w8) := Lib.hid ((((Below.refl W6.heap.size W6).alloc (Nat.le_refl _) (.cells #[] 5)).grown hg7 (by simp) (fun q e => by simp only [Value.ownBlock, Option.some.injEq] at e; omega)).alloc (by omega) (.cells #[.int .u8 (m8 : Int)] 5) |>.grown hg8 (by simp; omega) (fun q e => (World.ownsRow.lt hown7 q e).1))
    have HO8 : Hid (w8.ownsRow W6.heap.size 5 1 (.slice (some ⟨g8, 0, none⟩) (n4 + 1) c8) (n4 + 1) (u8s (l ++ [m8]))) := Lib.hid (by rw [u8s_app]; exact hown8)
    have KG2 := Lib.hid (gget_bad (l ++ [m8]) 3 (some ⟨g8, 0, none⟩) c8 (n4 + 1) w8 HMO.out (RB.own (by rw [List.length_append, ← HRB.out.2.2]; exact HO8.out) (fun x hx => by
      rcases List.mem_append.1 hx with hx | hx
      · exact HRB.out.2.1 x hx
      · simp only [List.mem_singleton] at hx; omega)) (by rw [List.length_append, ← HRB.out.2.2]; rfl) (own_cap HO8.out).1 (own_cap HO8.out).2 (fun ad' e => by cases e; exact hlt8))
    have HKZ8 := Lib.hid (HKZ6.out.below HX8.out)
    have HXX := Lib.hid (HX6.out.trans (HX8.out.mono HX6.out.size))
    clear hown7 hg7 hat7 hlt7 hown8 hg8 hat8 hlt8 h7
    refine KG2.out.mono ?_
    rintro e w9 ⟨rfl, hb⟩
    have HKZ9 := Lib.hid (HKZ8.out.below hb)
    have HX9 := Lib.hid (HXX.out.trans (hb.mono HXX.out.size))
    clear hb
    go_upto_region 8 with (fail)
    have hb10 : Below w9.heap.size w9 (w9.alloc (.cells #[.int .i64 0, .int .i64 0, .int .i64 0, .int .i64 0, .int .i64 0, .int .i64 0, .int .i64 0, .int .i64 0, .int .u64 0, .slice none 0 0, .slice none 0 0, .int .i64 0, .int .i64 0, .slice none 0 0] 59)) := (Below.refl w9.heap.size w9).alloc (Nat.le_refl _) _
    have HKZ10 := Lib.hid (HKZ9.out.below hb10)
    have HX10 := Lib.hid (HX9.out.trans (hb10.mono HX9.out.size))
    obtain ⟨W10, hW10⟩ : ∃ W, w9.alloc (.cells #[.int .i64 0, .int .i64 0, .int .i64 0, .int .i64 0, .int .i64 0, .int .i64 0, .int .i64 0, .int .i64 0, .int .u64 0, .slice none 0 0, .slice none 0 0, .int .i64 0, .int .i64 0, .slice none 0 0] 59) = W := ⟨_, rfl⟩
    rw [hW10] at HKZ10 HX10 ⊢
    clear hb10 hW10
    go_wp2_with fail
    refine (KX.out _).mono ?_
    rintro e w11 ⟨rfl, hb⟩
    have HKZ11 := Lib.hid (HKZ10.out.below hb)
    have HX11 := Lib.hid (HX10.out.trans (hb.mono HX10.out.size))
    clear hb
    have y7 := HKZ11.out.cell 7
    have y10 := HKZ11.out.cell 10
    go_wp2_with fail
    go_ret
    exact ⟨ret_bool (by first | rfl | simp), HBE.out.trans (HX11.out.mono HBE.out.size)⟩
end Go.Proofs.Ytpekofpiodaadaa.Hb
end

section
/- The walks of ref06.Same, ref18.Same, ref27.Same. -/
namespace Go.Proofs.Ytpekofpiodaadaa.Hb
set_option linter.unusedVariables false
set_option linter.unusedSimpArgs false
open Go.RowKit

/-- What a function answers that only draws. -/
def SaysD (v : Value) (w : World) (e : Ending) (w' : World) : Prop := e = .returned v ∧ ∃ m, w' = w.drewN m
theorem eq_sgq {a b c d : Int} {q : Bool} (h : decide (a = c ∧ b = d) = q) (w : World) :
    (Op.equalIn 10000 49 (.agg #[.int .i64 a, .int .i64 b]) (.agg #[.int .i64 c, .int .i64 d])).run Try.prog w = .ok q w := by
  have key : (Op.equalIn (9998 + 2) 49 (.agg #[.int .i64 a, .int .i64 b]) (.agg #[.int .i64 c, .int .i64 d])).run Try.prog w = .ok (a == c && (b == d && true)) w := by
    refine eqs_of Try.underlying49 (by kernel_rfl) ?_
    refine eqf_cons (by rfl) (by go_simp; rfl) (by go_simp; rfl) (by go_simp) ?_
    exact eqf_cons (by rfl) (by go_simp; rfl) (by go_simp; rfl) (by go_simp) eqf_nil
  have e : (a == c && (b == d && true)) = q := by
    rw [← h, Bool.eq_iff_iff]; simp
  rw [e] at key
  exact key
theorem eq_ndq {x y : Nd} {q : Bool} (h : decide (x = y) = q) (w : World) :
    (Op.equalIn 10000 90 (.agg #[.int .i64 x.f, .int .i64 x.b, .int .i64 x.l, .int .i64 x.c, .int .i64 x.s, .int .i64 x.k]) (.agg #[.int .i64 y.f, .int .i64 y.b, .int .i64 y.l, .int .i64 y.c, .int .i64 y.s, .int .i64 y.k])).run Try.prog w = .ok q w := by
  have key := eq_nd 9998 w x.f x.b x.l x.c x.s x.k y.f y.b y.l y.c y.s y.k
  have e : (x.f == y.f && (x.b == y.b && (x.l == y.l && (x.c == y.c && (x.s == y.s && (x.k == y.k && true)))))) = q := by
    rw [← h, Bool.eq_iff_iff]
    obtain ⟨a1, a2, a3, a4, a5, a6⟩ := x
    obtain ⟨b1, b2, b3, b4, b5, b6⟩ := y
    simp
  rw [e] at key
  exact key
theorem eq_cfq {a0 a1 a2 a3 a4 a5 a6 b0 b1 b2 b3 b4 b5 b6 : Int} {q : Bool} (h : decide (a0 = b0 ∧ a1 = b1 ∧ a2 = b2 ∧ a3 = b3 ∧ a4 = b4 ∧ a5 = b5 ∧ a6 = b6) = q) (w : World) :
    (Op.equalIn 10000 45 (.agg #[.int .i64 a0, .int .i64 a1, .int .i64 a2, .int .i64 a3, .int .i64 a4, .int .i64 a5, .int .i64 a6]) (.agg #[.int .i64 b0, .int .i64 b1, .int .i64 b2, .int .i64 b3, .int .i64 b4, .int .i64 b5, .int .i64 b6])).run Try.prog w = .ok q w := by
  have key : (Op.equalIn (9998 + 2) 45 (.agg #[.int .i64 a0, .int .i64 a1, .int .i64 a2, .int .i64 a3, .int .i64 a4, .int .i64 a5, .int .i64 a6]) (.agg #[.int .i64 b0, .int .i64 b1, .int .i64 b2, .int .i64 b3, .int .i64 b4, .int .i64 b5, .int .i64 b6])).run Try.prog w = .ok (a0 == b0 && (a1 == b1 && (a2 == b2 && (a3 == b3 && (a4 == b4 && (a5 == b5 && (a6 == b6 && true))))))) w := by
    refine eqs_of Try.underlying45 (by kernel_rfl) ?_
    refine eqf_cons (by rfl) (by go_simp; rfl) (by go_simp; rfl) (by go_simp) ?_
    refine eqf_cons (by rfl) (by go_simp; rfl) (by go_simp; rfl) (by go_simp) ?_
    refine eqf_cons (by rfl) (by go_simp; rfl) (by go_simp; rfl) (by go_simp) ?_
    refine eqf_cons (by rfl) (by go_simp; rfl) (by go_simp; rfl) (by go_simp) ?_
    refine eqf_cons (by rfl) (by go_simp; rfl) (by go_simp; rfl) (by go_simp) ?_
    refine eqf_cons (by rfl) (by go_simp; rfl) (by go_simp; rfl) (by go_simp) ?_
    exact eqf_cons (by rfl) (by go_simp; rfl) (by go_simp; rfl) (by go_simp) eqf_nil
  have e : (a0 == b0 && (a1 == b1 && (a2 == b2 && (a3 == b3 && (a4 == b4 && (a5 == b5 && (a6 == b6 && true))))))) = q := by
    rw [← h, Bool.eq_iff_iff]; simp
  rw [e] at key
  exact key
theorem Fst.tup_inj {f g : Fst} : (f.k = g.k ∧ f.cl = g.cl ∧ f.b = g.b ∧ f.t = g.t ∧ f.d = g.d ∧ f.l = g.l ∧ f.p = g.p ∧ f.cols = g.cols ∧ f.seed = g.seed ∧ f.edges = g.edges ∧ f.trees = g.trees ∧ f.num = g.num ∧ f.den = g.den ∧ f.shake = g.shake) ↔ f = g := by
  obtain ⟨a1, a2, a3, a4, a5, a6, a7, a8, a9, a10, a11, a12, a13, a14⟩ := f
  obtain ⟨b1, b2, b3, b4, b5, b6, b7, b8, b9, b10, b11, b12, b13, b14⟩ := g
  simp
instance : DecidableEq Fst := fun f g => decidable_of_iff _ Fst.tup_inj
theorem lists_eq {α : Type} {a b : List α} {n : Nat} (hl : a.length = n) (hl2 : b.length = n) (h : ∀ i, i < n → a[i]? = b[i]?) : a = b := by
  refine List.ext_getElem? (fun i => ?_)
  by_cases hi : i < n
  · exact h i hi
  · rw [List.getElem?_eq_none (by omega), List.getElem?_eq_none (by omega)]
set_option maxRecDepth 100000 in
set_option maxHeartbeats 4000000 in
theorem rsame06_any (a b : List Nat) (A B : Option Addr) (ca cb : Nat) (w : World) (ha : RF w A a) (hb : RF w B b) (la : a.length ≤ 9223372036854775807) (lb : b.length ≤ 9223372036854775807) :
    Calls Try.prog 64 #[.slice A a.length ca, .slice B b.length cb] w (SaysD (.bool (decide (a = b))) w) := by
  obtain ⟨R, hR⟩ : ∃ z, decide (a = b) = z := ⟨_, rfl⟩
  have HNO := Lib.hid (fun (i : Nat) (h : a[i]? ≠ b[i]?) => (hR.symm.trans (decide_eq_false (fun e => h (by rw [e])))))
  have HNL := Lib.hid (fun (h : a.length ≠ b.length) => (hR.symm.trans (decide_eq_false (fun e => h (by rw [e])))))
  have HYES := Lib.hid (fun (n : Nat) (h1 : a.length = n) (h2 : b.length = n) (h : ∀ i : Nat, i < n → a[i]? = b[i]?) => (hR.symm.trans (decide_eq_true (lists_eq h1 h2 h))))
  have HA := Lib.hid ha
  have HB := Lib.hid hb
  rw [hR]
  obtain ⟨n, hn⟩ : ∃ n, a.length = n := ⟨_, rfl⟩
  obtain ⟨m, hm⟩ : ∃ n, b.length = n := ⟨_, rfl⟩
  rw [hn] at HNL la
  rw [hm] at HNL lb
  rw [hn, hm]
  have HLN := Lib.hid (And.intro hn hm)
  clear hn hm ha hb hR
  by_cases hnm : n = m
  · subst hnm
    go_enter Try.func64, Try.ntmps64
    go_wp2_with fail
    go_loopw [5] (fun iv wr => ∃ i d : Nat, i ≤ n ∧ iv = .int .i64 i ∧ wr = w.drewN d ∧ Hid (∀ j, j < i → a[j]? = b[j]?)) (fun iv _ => n - (intOf iv).toNat)
    case atStart => exact ⟨0, 0, Nat.zero_le _, rfl, rfl, Lib.hid (fun j hj => by omega)⟩
    case round =>
      obtain ⟨i, d, hi, rfl, rfl, HI⟩ := hrel
      by_cases hlt : i < n
      · have hlt' : (i : Int) < n := by omega
        obtain ⟨ad, rfl, hx, _⟩ := HA.out.at (i := i) (by rw [HLN.out.1]; exact hlt)
        obtain ⟨bd, rfl, hy, _⟩ := HB.out.at (i := i) (by rw [HLN.out.2]; exact hlt)
        have h1 : a[i]? = some (a.getD i 0) := by rw [List.getD_eq_getElem?_getD, List.getElem?_eq_getElem (by rw [HLN.out.1]; exact hlt)]; rfl
        have h2 : b[i]? = some (b.getD i 0) := by rw [List.getD_eq_getElem?_getD, List.getElem?_eq_getElem (by rw [HLN.out.2]; exact hlt)]; rfl
        obtain ⟨x, ex⟩ : ∃ x, a.getD i 0 = x := ⟨_, rfl⟩
        obtain ⟨y, ey⟩ : ∃ x, b.getD i 0 = x := ⟨_, rfl⟩
        rw [ex] at h1 hx
        rw [ey] at h2 hy
        have HX := Lib.hid h1
        have HY := Lib.hid h2
        have hf1 := f64bits_run x
        have hf2 := f64bits_run y
        clear ex ey h1 h2
        obtain ⟨q, hq⟩ : ∃ q, decide (x = y) = q := ⟨_, rfl⟩
        have hq1 : ((x : Int) == (y : Int)) = q := by rw [← hq, Bool.eq_iff_iff]; simp; omega
        have hq2 : ((x : Int) != (y : Int)) = !q := by rw [← hq1]; rfl
        cases q with
        | true =>
          have HE : Hid (a[i]? = b[i]?) := Lib.hid (by rw [HX.out, HY.out, of_decide_eq_true hq])
          clear hq
          go_wp2_with fail
          go_quiet (fail)
          go_wp2_with fail
          go_roundw
          case rel => exact ⟨i + 1, _, hlt, by go_num, rfl, Lib.hid (fun j hj => by
            by_cases e : j = i
            · rw [e]; exact HE.out
            · exact HI.out j (by omega))⟩
          case measure => simp [intOf]; omega
        | false =>
          have HF : Hid (R = false) := Lib.hid (HNO.out i (fun e => of_decide_eq_false hq (by rw [HX.out, HY.out] at e; cases e; rfl)))
          clear hq
          go_wp2_with fail
          go_quiet (fail)
          go_wp2_with fail
          go_ret
          exact ⟨by rw [HF.out]; rfl, _, by first | rfl | exact World.drewN_drewN _ _ _⟩
      · obtain rfl : n = i := by omega
        have HF : Hid (R = true) := Lib.hid (HYES.out n HLN.out.1 HLN.out.2 HI.out)
        go_wp2_with fail
        go_ret
        exact ⟨by rw [HF.out]; rfl, _, by first | rfl | exact World.drewN_drewN _ _ _⟩
  · have HF : Hid (R = false) := Lib.hid (HNL.out hnm)
    have e1 : ((n : Int) == (m : Int)) = false := beq_eq_false_iff_ne.2 (by omega)
    have e2 : ((n : Int) != (m : Int)) = true := bne_iff_ne.2 (by omega)
    go_enter Try.func64, Try.ntmps64
    go_wp2_with fail
    go_ret
    exact ⟨by rw [HF.out]; rfl, 0, rfl⟩
set_option maxRecDepth 100000 in
set_option maxHeartbeats 4000000 in
theorem rsame18_any (a b : List Nd) (A B : Option Addr) (ca cb : Nat) (w : World) (ha : RN w A a) (hb : RN w B b) (la : a.length ≤ 9223372036854775807) (lb : b.length ≤ 9223372036854775807) :
    Calls Try.prog 65 #[.slice A a.length ca, .slice B b.length cb] w (SaysD (.bool (decide (a = b))) w) := by
  obtain ⟨R, hR⟩ : ∃ z, decide (a = b) = z := ⟨_, rfl⟩
  have HNO := Lib.hid (fun (i : Nat) (h : a[i]? ≠ b[i]?) => (hR.symm.trans (decide_eq_false (fun e => h (by rw [e])))))
  have HNL := Lib.hid (fun (h : a.length ≠ b.length) => (hR.symm.trans (decide_eq_false (fun e => h (by rw [e])))))
  have HYES := Lib.hid (fun (n : Nat) (h1 : a.length = n) (h2 : b.length = n) (h : ∀ i : Nat, i < n → a[i]? = b[i]?) => (hR.symm.trans (decide_eq_true (lists_eq h1 h2 h))))
  have HA := Lib.hid ha
  have HB := Lib.hid hb
  rw [hR]
  obtain ⟨n, hn⟩ : ∃ n, a.length = n := ⟨_, rfl⟩
  obtain ⟨m, hm⟩ : ∃ n, b.length = n := ⟨_, rfl⟩
  rw [hn] at HNL la
  rw [hm] at HNL lb
  rw [hn, hm]
  have HLN := Lib.hid (And.intro hn hm)
  clear hn hm ha hb hR
  by_cases hnm : n = m
  · subst hnm
    go_enter Try.func65, Try.ntmps65
    go_wp2_with fail
    go_loopw [5] (fun iv wr => ∃ i d : Nat, i ≤ n ∧ iv = .int .i64 i ∧ wr = w.drewN d ∧ Hid (∀ j, j < i → a[j]? = b[j]?)) (fun iv _ => n - (intOf iv).toNat)
    case atStart => exact ⟨0, 0, Nat.zero_le _, rfl, rfl, Lib.hid (fun j hj => by omega)⟩
    case round =>
      obtain ⟨i, d, hi, rfl, rfl, HI⟩ := hrel
      by_cases hlt : i < n
      · have hlt' : (i : Int) < n := by omega
        obtain ⟨ad, rfl, x, h1, _, hx⟩ := HA.out.at (i := i) (by rw [HLN.out.1]; exact hlt)
        obtain ⟨bd, rfl, y, h2, _, hy⟩ := HB.out.at (i := i) (by rw [HLN.out.2]; exact hlt)
        obtain ⟨p0, p1, p2, p3, p4, p5⟩ := hx
        obtain ⟨r0, r1, r2, r3, r4, r5⟩ := hy
        have HX := Lib.hid h1
        have HY := Lib.hid h2
        clear h1 h2
        obtain ⟨q, hq⟩ : ∃ q, decide (x = y) = q := ⟨_, rfl⟩
        have hqq := eq_ndq hq
        cases q with
        | true =>
          have HE : Hid (a[i]? = b[i]?) := Lib.hid (by rw [HX.out, HY.out, of_decide_eq_true hq])
          clear hq
          go_wp2_with fail
          go_quiet (fail)
          go_wp2_with fail
          go_roundw
          case rel => exact ⟨i + 1, _, hlt, by go_num, rfl, Lib.hid (fun j hj => by
            by_cases e : j = i
            · rw [e]; exact HE.out
            · exact HI.out j (by omega))⟩
          case measure => simp [intOf]; omega
        | false =>
          have HF : Hid (R = false) := Lib.hid (HNO.out i (fun e => of_decide_eq_false hq (by rw [HX.out, HY.out] at e; cases e; rfl)))
          clear hq
          go_wp2_with fail
          go_quiet (fail)
          go_wp2_with fail
          go_ret
          exact ⟨by rw [HF.out]; rfl, _, by first | rfl | exact World.drewN_drewN _ _ _⟩
      · obtain rfl : n = i := by omega
        have HF : Hid (R = true) := Lib.hid (HYES.out n HLN.out.1 HLN.out.2 HI.out)
        go_wp2_with fail
        go_ret
        exact ⟨by rw [HF.out]; rfl, _, by first | rfl | exact World.drewN_drewN _ _ _⟩
  · have HF : Hid (R = false) := Lib.hid (HNL.out hnm)
    have e1 : ((n : Int) == (m : Int)) = false := beq_eq_false_iff_ne.2 (by omega)
    have e2 : ((n : Int) != (m : Int)) = true := bne_iff_ne.2 (by omega)
    go_enter Try.func65, Try.ntmps65
    go_wp2_with fail
    go_ret
    exact ⟨by rw [HF.out]; rfl, 0, rfl⟩
set_option maxRecDepth 100000 in
set_option maxHeartbeats 16000000 in
theorem rsame27_any (f g : Fst) (A1 A2 A3 A1' A2' A3' : Option Addr) (c1 c2 c3 c1' c2' c3' : Nat) (w : World) (hf : RFo w f A1 A2 A3) (hg : RFo w g A1' A2' A3') (of : OkF f) (og : OkF g) :
    Calls Try.prog 32 #[.agg (forA f A1 A2 A3 c1 c2 c3), .agg (forA g A1' A2' A3' c1' c2' c3')] w fun e w' => e = .returned (.bool (decide (f = g))) ∧ Below w.heap.size w w' := by
  have K6 := Lib.hid rsame06_any
  have K18 := Lib.hid rsame18_any
  obtain ⟨R, hR⟩ : ∃ z, decide (f = g) = z := ⟨_, rfl⟩
  have HN1 := Lib.hid (fun (h : ¬ (f.k = g.k ∧ f.cl = g.cl ∧ f.b = g.b ∧ f.t = g.t ∧ f.d = g.d ∧ f.l = g.l ∧ f.p = g.p)) => (hR.symm.trans (decide_eq_false (fun e => h (by rw [e]; simp)))))
  have HN2 := Lib.hid (fun (h : ¬ f.cols = g.cols) => (hR.symm.trans (decide_eq_false (fun e => h (by rw [e])))))
  have HN3 := Lib.hid (fun (h : ¬ f.seed = g.seed) => (hR.symm.trans (decide_eq_false (fun e => h (by rw [e])))))
  have HN4 := Lib.hid (fun (h : ¬ (f.num = g.num ∧ f.den = g.den)) => (hR.symm.trans (decide_eq_false (fun e => h (by rw [e]; simp)))))
  have HN5 := Lib.hid (fun (h : ¬ f.edges.length = g.edges.length) => (hR.symm.trans (decide_eq_false (fun e => h (by rw [e])))))
  have HN6 := Lib.hid (fun (h : ¬ f.trees.length = g.trees.length) => (hR.symm.trans (decide_eq_false (fun e => h (by rw [e])))))
  have HN7 := Lib.hid (fun (h : ¬ f.shake.length = g.shake.length) => (hR.symm.trans (decide_eq_false (fun e => h (by rw [e])))))
  have HNE := Lib.hid (fun (i : Nat) (h : ¬ f.edges[i]? = g.edges[i]?) => (hR.symm.trans (decide_eq_false (fun e => h (by rw [e])))))
  have HNT := Lib.hid (fun (i : Nat) (h : ¬ f.trees[i]? = g.trees[i]?) => (hR.symm.trans (decide_eq_false (fun e => h (by rw [e])))))
  have HNS := Lib.hid (fun (i : Nat) (h : ¬ f.shake[i]? = g.shake[i]?) => (hR.symm.trans (decide_eq_false (fun e => h (by rw [e])))))
  have HYES := Lib.hid (fun (h1 : f.k = g.k ∧ f.cl = g.cl ∧ f.b = g.b ∧ f.t = g.t ∧ f.d = g.d ∧ f.l = g.l ∧ f.p = g.p) (h2 : f.cols = g.cols) (h3 : f.seed = g.seed) (h4 : f.num = g.num ∧ f.den = g.den) (h5 : f.edges = g.edges) (h6 : f.trees = g.trees) (h7 : f.shake = g.shake) => (hR.symm.trans (decide_eq_true (by
    obtain ⟨a1, a2, a3, a4, a5, a6, a7, a8, a9, a10, a11, a12, a13, a14⟩ := f
    obtain ⟨b1, b2, b3, b4, b5, b6, b7, b8, b9, b10, b11, b12, b13, b14⟩ := g
    simp_all))))
  have HF := Lib.hid hf
  have HG := Lib.hid hg
  have HOF := Lib.hid of
  have HOG := Lib.hid og
  rw [hR]
  unfold forA
  obtain ⟨ne, hne⟩ : ∃ n, f.edges.length = n := ⟨_, rfl⟩
  obtain ⟨nt, hnt⟩ : ∃ n, f.trees.length = n := ⟨_, rfl⟩
  obtain ⟨ns, hns⟩ : ∃ n, f.shake.length = n := ⟨_, rfl⟩
  obtain ⟨ne', hne'⟩ : ∃ n, g.edges.length = n := ⟨_, rfl⟩
  obtain ⟨nt', hnt'⟩ : ∃ n, g.trees.length = n := ⟨_, rfl⟩
  obtain ⟨ns', hns'⟩ : ∃ n, g.shake.length = n := ⟨_, rfl⟩
  have lne := of.le
  have lnt := of.lt
  have lns := of.ls
  rw [hne] at lne
  rw [hnt] at lnt
  rw [hns] at lns
  rw [hne, hne'] at HN5
  rw [hnt, hnt'] at HN6
  rw [hns, hns'] at HN7
  rw [hne, hne', hnt, hnt', hns, hns']
  have HLE := Lib.hid (And.intro hne hne')
  have HLT := Lib.hid (And.intro hnt hnt')
  have HLS := Lib.hid (And.intro hns hns')
  clear hne hne' hnt hnt' hns hns' hf hg of og hR
  obtain ⟨k, cl, b, tt, dd, l, p, cols, seed, edges, trees, num, den, shake⟩ := f
  obtain ⟨k', cl', b', tt', dd', l', p', cols', seed', edges', trees', num', den', shake'⟩ := g
  simp only at HN1 HN2 HN3 HN4 HN5 HN6 HN7 HNE HNT HNS HYES HLE HLT HLS ⊢
  go_enter Try.func32, Try.ntmps32
  go_upto_region 1 with (fail)
  have kF0 := Blk.new w #[.int .i64 k, .int .i64 cl, .int .i64 b, .int .i64 tt, .int .i64 dd, .int .i64 l, .int .i64 p, .int .i64 cols, .int .u64 (seed : Int), .slice A1 ne c1, .slice A2 nt c2, .int .i64 num, .int .i64 den, .slice A3 ns c3] 59
  have kG := Blk.new (w.alloc (.cells #[.int .i64 k, .int .i64 cl, .int .i64 b, .int .i64 tt, .int .i64 dd, .int .i64 l, .int .i64 p, .int .i64 cols, .int .u64 (seed : Int), .slice A1 ne c1, .slice A2 nt c2, .int .i64 num, .int .i64 den, .slice A3 ns c3] 59)) #[.int .i64 k', .int .i64 cl', .int .i64 b', .int .i64 tt', .int .i64 dd', .int .i64 l', .int .i64 p', .int .i64 cols', .int .u64 (seed' : Int), .slice A1' ne' c1', .slice A2' nt' c2', .int .i64 num', .int .i64 den', .slice A3' ns' c3'] 59
  rw [World.size_alloc] at kG
  have bb : Below (w.alloc (.cells #[.int .i64 k, .int .i64 cl, .int .i64 b, .int .i64 tt, .int .i64 dd, .int .i64 l, .int .i64 p, .int .i64 cols, .int .u64 (seed : Int), .slice A1 ne c1, .slice A2 nt c2, .int .i64 num, .int .i64 den, .slice A3 ns c3] 59)).heap.size (w.alloc (.cells #[.int .i64 k, .int .i64 cl, .int .i64 b, .int .i64 tt, .int .i64 dd, .int .i64 l, .int .i64 p, .int .i64 cols, .int .u64 (seed : Int), .slice A1 ne c1, .slice A2 nt c2, .int .i64 num, .int .i64 den, .slice A3 ns c3] 59)) ((w.alloc (.cells #[.int .i64 k, .int .i64 cl, .int .i64 b, .int .i64 tt, .int .i64 dd, .int .i64 l, .int .i64 p, .int .i64 cols, .int .u64 (seed : Int), .slice A1 ne c1, .slice A2 nt c2, .int .i64 num, .int .i64 den, .slice A3 ns c3] 59)).alloc (.cells #[.int .i64 k', .int .i64 cl', .int .i64 b', .int .i64 tt', .int .i64 dd', .int .i64 l', .int .i64 p', .int .i64 cols', .int .u64 (seed' : Int), .slice A1' ne' c1', .slice A2' nt' c2', .int .i64 num', .int .i64 den', .slice A3' ns' c3'] 59)) := (Below.refl _ _).alloc (Nat.le_refl _) _
  have HBE := Lib.hid (((Below.refl w.heap.size w).alloc (Nat.le_refl _) (.cells #[.int .i64 k, .int .i64 cl, .int .i64 b, .int .i64 tt, .int .i64 dd, .int .i64 l, .int .i64 p, .int .i64 cols, .int .u64 (seed : Int), .slice A1 ne c1, .slice A2 nt c2, .int .i64 num, .int .i64 den, .slice A3 ns c3] 59)).alloc (by simp) (.cells #[.int .i64 k', .int .i64 cl', .int .i64 b', .int .i64 tt', .int .i64 dd', .int .i64 l', .int .i64 p', .int .i64 cols', .int .u64 (seed' : Int), .slice A1' ne' c1', .slice A2' nt' c2', .int .i64 num', .int .i64 den', .slice A3' ns' c3'] 59))
  have kF := kF0.below bb
  obtain ⟨W, hW⟩ : ∃ W, (w.alloc (.cells #[.int .i64 k, .int .i64 cl, .int .i64 b, .int .i64 tt, .int .i64 dd, .int .i64 l, .int .i64 p, .int .i64 cols, .int .u64 (seed : Int), .slice A1 ne c1, .slice A2 nt c2, .int .i64 num, .int .i64 den, .slice A3 ns c3] 59)).alloc (.cells #[.int .i64 k', .int .i64 cl', .int .i64 b', .int .i64 tt', .int .i64 dd', .int .i64 l', .int .i64 p', .int .i64 cols', .int .u64 (seed' : Int), .slice A1' ne' c1', .slice A2' nt' c2', .int .i64 num', .int .i64 den', .slice A3' ns' c3'] 59) = W := ⟨_, rfl⟩
  rw [hW] at kF kG HBE ⊢
  have HRF := Lib.hid (HF.out.below HBE.out)
  have HRG := Lib.hid (HG.out.below HBE.out)
  obtain ⟨g0, hg0⟩ : ∃ z, w.heap.size + 1 = z := ⟨_, rfl⟩
  rw [hg0] at kG ⊢
  obtain ⟨q0, q1, q2, q3, q4, q5, q6, q7, q8, q9, q10, q11, q12, q13⟩ := kF.cells14
  obtain ⟨r0, r1, r2, r3, r4, r5, r6, r7, r8, r9, r10, r11, r12, r13⟩ := kG.cells14
  clear kF0 bb hW hg0 HF HG kF kG
  obtain ⟨z1, hz1⟩ : ∃ z, decide (k = k' ∧ cl = cl' ∧ b = b' ∧ tt = tt' ∧ dd = dd' ∧ l = l' ∧ p = p') = z := ⟨_, rfl⟩
  have e1 := eq_cfq hz1
  cases z1 with
  | false =>
    have HX : Hid (R = false) := Lib.hid (HN1.out (of_decide_eq_false hz1))
    clear hz1
    go_wp2_with fail
    go_ret
    exact ⟨by rw [HX.out]; rfl, HBE.out⟩
  | true =>
    have HZ1 := Lib.hid (of_decide_eq_true hz1)
    clear hz1
    by_cases h2 : cols = cols'
    rotate_left
    · have HX : Hid (R = false) := Lib.hid (HN2.out h2)
      have e2 : ((cols : Int) == (cols' : Int)) = false := beq_eq_false_iff_ne.2 (by omega)
      have e3 : ((cols : Int) != (cols' : Int)) = true := bne_iff_ne.2 (by omega)
      go_wp2_with fail
      go_ret
      exact ⟨by rw [HX.out]; rfl, HBE.out⟩
    have HZ2 := Lib.hid h2
    subst h2
    by_cases h3 : seed = seed'
    rotate_left
    · have HX : Hid (R = false) := Lib.hid (HN3.out h3)
      have e2 : ((seed : Int) == (seed' : Int)) = false := beq_eq_false_iff_ne.2 (by omega)
      have e3 : ((seed : Int) != (seed' : Int)) = true := bne_iff_ne.2 (by omega)
      go_wp2_with fail
      go_ret
      exact ⟨by rw [HX.out]; rfl, HBE.out⟩
    have HZ3 := Lib.hid h3
    subst h3
    obtain ⟨z4, hz4⟩ : ∃ z, decide (num = num' ∧ den = den') = z := ⟨_, rfl⟩
    have e4 := eq_sgq hz4
    cases z4 with
    | false =>
      have HX : Hid (R = false) := Lib.hid (HN4.out (of_decide_eq_false hz4))
      clear hz4
      go_wp2_with fail
      go_ret
      exact ⟨by rw [HX.out]; rfl, HBE.out⟩
    | true =>
      have HZ4 := Lib.hid (of_decide_eq_true hz4)
      clear hz4
      by_cases h5 : ne = ne'
      rotate_left
      · have HX : Hid (R = false) := Lib.hid (HN5.out h5)
        have e2 : ((ne : Int) == (ne' : Int)) = false := beq_eq_false_iff_ne.2 (by omega)
        have e3 : ((ne : Int) != (ne' : Int)) = true := bne_iff_ne.2 (by omega)
        go_wp2_with fail
        go_ret
        exact ⟨by rw [HX.out]; rfl, HBE.out⟩
      subst h5
      by_cases h6 : nt = nt'
      rotate_left
      · have HX : Hid (R = false) := Lib.hid (HN6.out h6)
        have e2 : ((nt : Int) == (nt' : Int)) = false := beq_eq_false_iff_ne.2 (by omega)
        have e3 : ((nt : Int) != (nt' : Int)) = true := bne_iff_ne.2 (by omega)
        go_wp2_with fail
        go_ret
        exact ⟨by rw [HX.out]; rfl, HBE.out⟩
      subst h6
      by_cases h7 : ns = ns'
      rotate_left
      · have HX : Hid (R = false) := Lib.hid (HN7.out h7)
        have e2 : ((ns : Int) == (ns' : Int)) = false := beq_eq_false_iff_ne.2 (by omega)
        have e3 : ((ns : Int) != (ns' : Int)) = true := bne_iff_ne.2 (by omega)
        go_wp2_with fail
        go_ret
        exact ⟨by rw [HX.out]; rfl, HBE.out⟩
      subst h7
      have HY2 : Hid (edges = edges' → trees = trees' → shake = shake' → R = true) := Lib.hid (fun a1 a2 a3 => HYES.out HZ1.out rfl rfl HZ4.out a1 a2 a3)
      clear HN1 HN2 HN3 HN4 HN5 HN6 HN7 HYES
      go_wp2_with fail
      clear e1 e4 q0 q1 q2 q3 q4 q5 q6 q7 q8 q11 q12 r0 r1 r2 r3 r4 r5 r6 r7 r8 r11 r12
      go_loopw [5] (fun iv wr => ∃ i d : Nat, i ≤ ne ∧ iv = .int .i64 i ∧ wr = W.drewN d ∧ Hid (∀ j, j < i → edges[j]? = edges'[j]?)) (fun iv _ => ne - (intOf iv).toNat)
      case atStart => exact ⟨0, 0, Nat.zero_le _, rfl, rfl, Lib.hid (fun j hj => by omega)⟩
      case round =>
        obtain ⟨i, d, hi, rfl, rfl, HI⟩ := hrel
        by_cases hlt : i < ne
        · have hlt' : (i : Int) < ne := by omega
          obtain ⟨ad, rfl, t, B1, cp1, h1, hx, _, _, hrx⟩ := HRF.out.re.at (i := i) (by rw [HLE.out.1]; exact hlt)
          obtain ⟨bd, rfl, t', B2, cp2, h2, hy, _, _, hry⟩ := HRG.out.re.at (i := i) (by rw [HLE.out.2]; exact hlt)
          simp only at h1 h2
          have KX := Lib.hid (fun d => K6.out t t' B1 B2 cp1 cp2 (W.drewN d) (hrx.below ⟨rfl, rfl, rfl, Nat.le_refl _, fun _ _ => rfl⟩) (hry.below ⟨rfl, rfl, rfl, Nat.le_refl _, fun _ _ => rfl⟩) (by have := HOF.out.ee t (List.mem_of_getElem? h1); omega) (by have := HOG.out.ee t' (List.mem_of_getElem? h2); omega))
          have HX := Lib.hid h1
          have HY := Lib.hid h2
          obtain ⟨q, hq⟩ : ∃ q, decide (t = t') = q := ⟨_, rfl⟩
          rw [hq] at KX
          obtain ⟨n1, hn1⟩ : ∃ n, t.length = n := ⟨_, rfl⟩
          obtain ⟨n2, hn2⟩ : ∃ n, t'.length = n := ⟨_, rfl⟩
          rw [hn1] at hx KX
          rw [hn2] at hy KX
          clear h1 h2 hrx hry hn1 hn2
          cases q with
          | true =>
            have HE : Hid (edges[i]? = edges'[i]?) := Lib.hid (by rw [HX.out, HY.out, of_decide_eq_true hq])
            clear hq
            go_wp2_with fail
            go_quiet ((go_at_call 64; refine (KX.out _).mono ?_; rintro e w1 ⟨rfl, m, rfl⟩; refine ⟨rfl, ?_⟩; first | exact ⟨_, World.drewN_drewN _ _ _⟩ | exact ⟨_, by rw [World.drewN_drewN, World.drewN_drewN, Nat.add_assoc]⟩ | exact ⟨_, by rw [World.drewN_drewN, Nat.add_assoc]⟩))
            go_wp2_with fail
            go_roundw
            case rel => exact ⟨i + 1, _, hlt, by go_num, rfl, Lib.hid (fun j hj => by
              by_cases e : j = i
              · rw [e]; exact HE.out
              · exact HI.out j (by omega))⟩
            case measure => simp [intOf]; omega
          | false =>
            have HF : Hid (R = false) := Lib.hid (HNE.out i (fun e => of_decide_eq_false hq (by rw [HX.out, HY.out] at e; cases e; rfl)))
            clear hq
            go_wp2_with fail
            go_quiet ((go_at_call 64; refine (KX.out _).mono ?_; rintro e w1 ⟨rfl, m, rfl⟩; refine ⟨rfl, ?_⟩; first | exact ⟨_, World.drewN_drewN _ _ _⟩ | exact ⟨_, by rw [World.drewN_drewN, World.drewN_drewN, Nat.add_assoc]⟩ | exact ⟨_, by rw [World.drewN_drewN, Nat.add_assoc]⟩))
            go_wp2_with fail
            go_ret
            exact ⟨by rw [HF.out]; rfl, HBE.out.trans ⟨rfl, rfl, rfl, Nat.le_refl _, fun _ _ => rfl⟩⟩
        · obtain rfl : ne = i := by omega
          have Hedges : Hid (edges = edges') := Lib.hid (lists_eq HLE.out.1 HLE.out.2 HI.out)
          clear HI hlt hi
          go_wp2_with fail
          go_loopw [6] (fun iv wr => ∃ i d : Nat, i ≤ nt ∧ iv = .int .i64 i ∧ wr = W.drewN d ∧ Hid (∀ j, j < i → trees[j]? = trees'[j]?)) (fun iv _ => nt - (intOf iv).toNat)
          case atStart => exact ⟨0, d, Nat.zero_le _, rfl, rfl, Lib.hid (fun j hj => by omega)⟩
          case round =>
            obtain ⟨i, d, hi, rfl, rfl, HI⟩ := hrel
            by_cases hlt : i < nt
            · have hlt' : (i : Int) < nt := by omega
              obtain ⟨ad, rfl, t, B1, cp1, h1, hx, _, _, hrx⟩ := HRF.out.rt.at (i := i) (by rw [HLT.out.1]; exact hlt)
              obtain ⟨bd, rfl, t', B2, cp2, h2, hy, _, _, hry⟩ := HRG.out.rt.at (i := i) (by rw [HLT.out.2]; exact hlt)
              simp only at h1 h2
              have KX := Lib.hid (fun d => K18.out t t' B1 B2 cp1 cp2 (W.drewN d) (hrx.below ⟨rfl, rfl, rfl, Nat.le_refl _, fun _ _ => rfl⟩) (hry.below ⟨rfl, rfl, rfl, Nat.le_refl _, fun _ _ => rfl⟩) (by have := HOF.out.tt t (List.mem_of_getElem? h1); omega) (by have := HOG.out.tt t' (List.mem_of_getElem? h2); omega))
              have HX := Lib.hid h1
              have HY := Lib.hid h2
              obtain ⟨q, hq⟩ : ∃ q, decide (t = t') = q := ⟨_, rfl⟩
              rw [hq] at KX
              obtain ⟨n1, hn1⟩ : ∃ n, t.length = n := ⟨_, rfl⟩
              obtain ⟨n2, hn2⟩ : ∃ n, t'.length = n := ⟨_, rfl⟩
              rw [hn1] at hx KX
              rw [hn2] at hy KX
              clear h1 h2 hrx hry hn1 hn2
              cases q with
              | true =>
                have HE : Hid (trees[i]? = trees'[i]?) := Lib.hid (by rw [HX.out, HY.out, of_decide_eq_true hq])
                clear hq
                go_wp2_with fail
                go_quiet ((go_at_call 65; refine (KX.out _).mono ?_; rintro e w1 ⟨rfl, m, rfl⟩; refine ⟨rfl, ?_⟩; first | exact ⟨_, World.drewN_drewN _ _ _⟩ | exact ⟨_, by rw [World.drewN_drewN, World.drewN_drewN, Nat.add_assoc]⟩ | exact ⟨_, by rw [World.drewN_drewN, Nat.add_assoc]⟩))
                go_wp2_with fail
                go_roundw
                case rel => exact ⟨i + 1, _, hlt, by go_num, rfl, Lib.hid (fun j hj => by
                  by_cases e : j = i
                  · rw [e]; exact HE.out
                  · exact HI.out j (by omega))⟩
                case measure => simp [intOf]; omega
              | false =>
                have HF : Hid (R = false) := Lib.hid (HNT.out i (fun e => of_decide_eq_false hq (by rw [HX.out, HY.out] at e; cases e; rfl)))
                clear hq
                go_wp2_with fail
                go_quiet ((go_at_call 65; refine (KX.out _).mono ?_; rintro e w1 ⟨rfl, m, rfl⟩; refine ⟨rfl, ?_⟩; first | exact ⟨_, World.drewN_drewN _ _ _⟩ | exact ⟨_, by rw [World.drewN_drewN, World.drewN_drewN, Nat.add_assoc]⟩ | exact ⟨_, by rw [World.drewN_drewN, Nat.add_assoc]⟩))
                go_wp2_with fail
                go_ret
                exact ⟨by rw [HF.out]; rfl, HBE.out.trans ⟨rfl, rfl, rfl, Nat.le_refl _, fun _ _ => rfl⟩⟩
            · obtain rfl : nt = i := by omega
              have Htrees : Hid (trees = trees') := Lib.hid (lists_eq HLT.out.1 HLT.out.2 HI.out)
              clear HI hlt hi
              go_wp2_with fail
              go_loopw [7] (fun iv wr => ∃ i d : Nat, i ≤ ns ∧ iv = .int .i64 i ∧ wr = W.drewN d ∧ Hid (∀ j, j < i → shake[j]? = shake'[j]?)) (fun iv _ => ns - (intOf iv).toNat)
              case atStart => exact ⟨0, d, Nat.zero_le _, rfl, rfl, Lib.hid (fun j hj => by omega)⟩
              case round =>
                obtain ⟨i, d, hi, rfl, rfl, HI⟩ := hrel
                by_cases hlt : i < ns
                · have hlt' : (i : Int) < ns := by omega
                  obtain ⟨ad, rfl, x, h1, _, _, hx, hx2⟩ := HRF.out.rs.at (i := i) (by rw [HLS.out.1]; exact hlt)
                  obtain ⟨bd, rfl, y, h2, _, _, hy, hy2⟩ := HRG.out.rs.at (i := i) (by rw [HLS.out.2]; exact hlt)
                  simp only at h1 h2
                  have HX := Lib.hid h1
                  have HY := Lib.hid h2
                  obtain ⟨xn, xd⟩ := x
                  obtain ⟨yn, yd⟩ := y
                  simp only at hx hx2 hy hy2
                  obtain ⟨q, hq0⟩ : ∃ q, decide (xn = yn ∧ xd = yd) = q := ⟨_, rfl⟩
                  have hqq := eq_sgq hq0
                  have hq : decide ((xn, xd) = (yn, yd)) = q := by rw [← hq0, Bool.eq_iff_iff]; simp
                  clear h1 h2 hq0
                  cases q with
                  | true =>
                    have HE : Hid (shake[i]? = shake'[i]?) := Lib.hid (by rw [HX.out, HY.out, of_decide_eq_true hq])
                    clear hq
                    go_wp2_with fail
                    go_quiet (fail)
                    go_wp2_with fail
                    go_roundw
                    case rel => exact ⟨i + 1, _, hlt, by go_num, rfl, Lib.hid (fun j hj => by
                      by_cases e : j = i
                      · rw [e]; exact HE.out
                      · exact HI.out j (by omega))⟩
                    case measure => simp [intOf]; omega
                  | false =>
                    have HF : Hid (R = false) := Lib.hid (HNS.out i (fun e => of_decide_eq_false hq (by rw [HX.out, HY.out] at e; cases e; rfl)))
                    clear hq
                    go_wp2_with fail
                    go_quiet (fail)
                    go_wp2_with fail
                    go_ret
                    exact ⟨by rw [HF.out]; rfl, HBE.out.trans ⟨rfl, rfl, rfl, Nat.le_refl _, fun _ _ => rfl⟩⟩
                · obtain rfl : ns = i := by omega
                  have Hshake : Hid (shake = shake') := Lib.hid (lists_eq HLS.out.1 HLS.out.2 HI.out)
                  have HX : Hid (R = true) := Lib.hid (HY2.out Hedges.out Htrees.out Hshake.out)
                  go_wp2_with fail
                  go_ret
                  exact ⟨by rw [HX.out]; rfl, HBE.out.trans ⟨rfl, rfl, rfl, Nat.le_refl _, fun _ _ => rfl⟩⟩
end Go.Proofs.Ytpekofpiodaadaa.Hb
end

/- The document's answer, layer 12: New. -/
import Derived.Test.YteckbgpkoanhfaaHbRefM
import Derived.Test.YteckbgpkoanhfaaHbHistJ
namespace Go.Proofs.Yteckbgpkoanhfaa.Hb
open Go.RowKit

theorem own_nb {w : World} {base : Nat} {e t : TypeId} {size n g : Nat} {v : Value} {xs : List Value} {cs : Array Value} (h : w.ownsRow base e size v n xs) (hk : Blk w g cs t) (hte : e ≠ t) : ¬ v.ownBlock = some g := by
  intro hv
  rcases h.2 with ⟨rfl, _⟩ | ⟨q, cap, cur, rfl, _, hh, _⟩
  · simp [Value.ownBlock] at hv
  · have : q = g := by simpa [Value.ownBlock] using hv
    subst this
    have := (show w.heap[q]? = _ from hk).symm.trans hh
    simp at this
    exact hte this.2.symm
/-- Zeros that are being laid, m of them. -/
structure BZ1 (k b c : Int) (n m : Nat) (w W : World) (v1 : Value) : Prop where
  b0 : Blk W n #[.int .i64 0, .int .i64 0, .int .i64 0, .slice none 0 0, .slice none 0 0] 36
  b1 : Blk W (n + 1) #[.int .i64 k, .int .i64 b, .int .i64 c, v1, .slice none 0 0] 36
  r : W.ownsRow n 2 1 v1 m (List.replicate m (.int .i64 0))
  be : Below n w W
structure BZ2 (k b c : Int) (n m : Nat) (w W : World) (v2 : Value) : Prop where
  b0 : Blk W n #[.int .i64 0, .int .i64 0, .int .i64 0, .slice none 0 0, .slice none 0 0] 36
  b1 : Blk W (n + 1) #[.int .i64 k, .int .i64 b, .int .i64 c, .slice none 0 0, v2] 36
  r : W.ownsRow n 52 3 v2 m (momC (List.replicate m m0))
  be : Below n w W
theorem BZ1.put {k b c : Int} {n m : Nat} {w W W1 : World} {v1 v' : Value} {X : Obj} (h : BZ1 k b c n m w W v1) (hg : (W.alloc X).grownBy W1 v1.ownBlock) (ho : W1.ownsRow n 2 1 v' (m + 1) (List.replicate m (.int .i64 0) ++ [.int .i64 0])) : BZ1 k b c n (m + 1) w (W1.setCell ⟨n + 1, 3, none⟩ v') v' := by
  have hb : Below W.heap.size W (W.alloc X) := (Below.refl _ _).alloc (Nat.le_refl _) _
  have k0 := blk_grown (h.b0.below hb) hg (fun e => own_nb h.r h.b0 (by decide) e.symm)
  have k1 := blk_grown (h.b1.below hb) hg (fun e => own_nb h.r h.b1 (by decide) e.symm)
  have l1 := h.b0.lt
  refine ⟨k0.other (p := ⟨n + 1, 3, none⟩) (by show n ≠ n + 1; omega) _, k1.set 3 v', ?_, ?_⟩
  · have := own_set (i := 3) (u := v') ho k1 (by decide)
    rwa [List.replicate_succ']
  · exact (below_row' (h.be.alloc (by omega) X) hg (by simp; omega) (fun q hq => (World.ownsRow.lt h.r q hq).1)).setCell (p := ⟨n + 1, 3, none⟩) (by show n ≤ n + 1; omega) _
theorem BZ2.put {k b c : Int} {n m : Nat} {w W W1 : World} {v1 v' : Value} {X : Obj} (h : BZ2 k b c n m w W v1) (hg : (W.alloc X).grownBy W1 v1.ownBlock) (ho : W1.ownsRow n 52 3 v' (m + 1) (momC (List.replicate m m0) ++ [.int .i64 0, .int .i64 0, .int .i64 0])) : BZ2 k b c n (m + 1) w (W1.setCell ⟨n + 1, 4, none⟩ v') v' := by
  have hb : Below W.heap.size W (W.alloc X) := (Below.refl _ _).alloc (Nat.le_refl _) _
  have k0 := blk_grown (h.b0.below hb) hg (fun e => own_nb h.r h.b0 (by decide) e.symm)
  have k1 := blk_grown (h.b1.below hb) hg (fun e => own_nb h.r h.b1 (by decide) e.symm)
  have l1 := h.b0.lt
  refine ⟨k0.other (p := ⟨n + 1, 4, none⟩) (by show n ≠ n + 1; omega) _, k1.set 4 v', ?_, ?_⟩
  · have := own_set (i := 4) (u := v') ho k1 (by decide)
    rwa [List.replicate_succ', momC_snoc]
  · exact (below_row' (h.be.alloc (by omega) X) hg (by simp; omega) (fun q hq => (World.ownsRow.lt h.r q hq).1)).setCell (p := ⟨n + 1, 4, none⟩) (by show n ≤ n + 1; omega) _

set_option maxRecDepth 100000 in
set_option maxHeartbeats 400000 in
theorem rnew_not (k b c : Int) (w : World) (h0 : ¬ mayP k b c) : Calls Try.prog 18 #[.int .i64 k, .int .i64 b, .int .i64 c] w (ResH (newO k b c) w) := by
  have hm0 := rmay_any k b c
  rw [show mayB k b c = false from decide_eq_false h0] at hm0
  have HM := Lib.hid hm0
  clear hm0
  rw [new_not h0]
  clear h0
  go_enter Try.func18, Try.ntmps18
  have kz := Blk.new w #[.int .i64 0, .int .i64 0, .int .i64 0, .slice none 0 0, .slice none 0 0] 36
  have kb : Below w.heap.size w (w.alloc (.cells #[.int .i64 0, .int .i64 0, .int .i64 0, .slice none 0 0, .slice none 0 0] 36)) := (Below.refl _ _).alloc (Nat.le_refl _) _
  go_wp2_with (go_at_call 44; refine (HM.out _).mono ?_; rintro e w1 ⟨rfl, rfl⟩)
  refine bodyPost_ret (results_ct rfl _ _ w.heap.size 36 _ _ rfl kz Try.underlying36 rfl size_hist) rfl ?_
  exact ⟨_, rfl, HNew.zero _ _, kb⟩
set_option maxRecDepth 100000 in
set_option maxHeartbeats 4000000 in
theorem rnew_any (k b c : Int) (w : World) : Calls Try.prog 18 #[.int .i64 k, .int .i64 b, .int .i64 c] w (ResH (newO k b c) w) := by
  have hm0 := rmay_any k b c
  by_cases h0 : mayP k b c
  · rw [show mayB k b c = true from decide_eq_true h0] at hm0
    have HM := Lib.hid hm0
    clear hm0
    by_cases hk : k = 0
    · rw [new_0 h0 hk]
      obtain ⟨i0, hi, hz0, hz1, hz2⟩ := info_parts info_int
      have hk' : (k == 1) = false := beq_eq_false_iff_ne.2 (by omega)
      obtain ⟨b1, b2, b3⟩ := h0
      have bc := bins_classes b1 b2 (show 2 ≤ c by omega) (show c ≤ 256 by omega)
      obtain ⟨B, hB⟩ : ∃ n : Nat, b = n := ⟨b.toNat, by omega⟩
      obtain ⟨C, hC⟩ : ∃ n : Nat, c = n := ⟨c.toNat, by omega⟩
      have hC0 : C ≤ 256 := by omega
      have hB0 : B ≤ 257 := by omega
      clear hk b3 b1 b2 bc
      subst hB hC
      go_enter Try.func18, Try.ntmps18
      go_wp2_with (first
        | (go_at_call 44; refine (HM.out _).mono ?_; rintro e w1 ⟨rfl, rfl⟩))
      obtain ⟨W2, e2⟩ : ∃ W2, W2 = (w.alloc (.cells #[.int .i64 0, .int .i64 0, .int .i64 0, .slice none 0 0, .slice none 0 0] 36)).alloc (.cells #[.int .i64 k, .int .i64 B, .int .i64 C, .slice none 0 0, .slice none 0 0] 36) := ⟨_, rfl⟩
      obtain ⟨k0, k1, kb, ks⟩ := boxes2' w _ _ _ _ W2 e2
      rw [← e2]
      have Z0 : BZ1 k B C w.heap.size 0 w W2 (.slice none 0 0) := ⟨k0, k1, World.ownsRow_nil _ _ _ _, kb⟩
      have HZ := Lib.hid Z0
      clear e2 k0 k1 kb ks Z0
      go_loopw [9] (fun iv wr => ∃ (i : Nat) (v1 : Value), i ≤ B ∧ iv = .int .i64 i ∧ Hid (BZ1 k B C w.heap.size (i * C) w wr v1)) (fun iv _ => B - (intOf iv).toNat)
      case atStart => exact ⟨0, _, Nat.zero_le _, rfl, by rw [Nat.zero_mul]; exact HZ⟩
      case round =>
        obtain ⟨i, v1, hi1, rfl, HX⟩ := hrel
        by_cases hlt : i < B
        · have hlt' : (i : Int) < B := by omega
          go_wp2
          go_loopw [10] (fun jv wr => ∃ (j : Nat) (v1 : Value), j ≤ C ∧ jv = .int .i64 j ∧ Hid (BZ1 k B C w.heap.size (i * C + j) w wr v1)) (fun jv _ => C - (intOf jv).toNat)
          case atStart => exact ⟨0, _, Nat.zero_le _, rfl, HX⟩
          case round =>
            obtain ⟨j, v1, hj1, rfl, HX⟩ := hrel
            by_cases hjt : j < C
            · have hjt' : (j : Int) < C := by omega
              have X := HX.out
              obtain ⟨q0, q1, q2, q3, q4⟩ := X.b1.cells5
              have qf := X.b1.frozen
              have l0 := X.b1.lt
              have hm1 : i * C + j < 65792 := by
                have : i * C + C ≤ B * C := by rw [← Nat.succ_mul]; exact Nat.mul_le_mul_right _ hlt
                have : B * C ≤ 257 * 256 := Nat.mul_le_mul hB0 hC0
                omega
              obtain ⟨m, hm⟩ : ∃ m, i * C + j = m := ⟨_, rfl⟩
              rw [hm] at hm1 X
              obtain ⟨S, d, rfl⟩ := own_slice X.r
              go_wp2_with (at_builtin; refine wpList_append_own _ rfl _ _ 33 rfl w.heap.size 2 i0 (.int .i64 0) 1 8 Try.underlying33 hi hz0 hz1 hz2 rfl (by decide) _ _ _ rfl (X.r.alloc _) ⟨wr.heap.size, 0, none⟩ 1 1 [.int .i64 0] rfl rfl (cell_one_new _ _ _) (by simp [Value.oneCell']) (by unfold maxLen; omega) (by omega) (by have := X.be.size; simp; omega) ?_; intro v' w1 hown' hgrow _; have Z := X.put hgrow hown'; obtain ⟨S', d', rfl⟩ := own_slice hown'; have s1 := hgrow.size; simp at s1; have kf := (blk_grown (X.b1.below ((Below.refl _ _).alloc (Nat.le_refl _) _)) hgrow (fun e => own_nb X.r X.b1 (by decide) e.symm)); have f1 := kf.frozen; have ll := kf.lt; obtain ⟨t0, t1, t2, t3, t4⟩ := kf.cells5)
              go_roundw
              case rel => exact ⟨j + 1, _, hjt, by go_num, Lib.hid (by rw [show i * C + (j + 1) = m + 1 by omega]; exact Z)⟩
              case measure => simp [intOf]; omega
            · obtain rfl : j = C := by omega
              go_wp2
              go_roundw
              case rel => exact ⟨i + 1, v1, hlt, by go_num, by rw [Nat.succ_mul]; exact HX⟩
              case measure => simp [intOf]; omega
        · obtain rfl : i = B := by omega
          have X := HX.out
          obtain ⟨S, d, rfl⟩ := own_slice X.r
          obtain ⟨q0, q1, q2, q3, q4⟩ := X.b1.cells5
          have qf := X.b0.frozen
          have l0 := X.b0.lt
          have l1 := X.b1.lt
          obtain ⟨p0, p1, p2, p3, p4⟩ := X.b0.cells5
          go_wp2
          refine bodyPost_ret (results_ct rfl _ _ w.heap.size 36 _ _ rfl (set5 X.b0 _ _ _ _ _) Try.underlying36 rfl size_hist) rfl ?_
          have hr := X.r
          refine ⟨_, rfl, ⟨_, _, rfl, own_set5 ?_ X.b0 (by decide) _ _ _ _ _, World.ownsRow_nil _ _ _ _⟩, below5 X.be (Nat.le_refl _) _ _ _ _ _⟩
          show wr.ownsRow _ _ _ _ (List.replicate ((i : Int) * C).toNat (0 : Int)).length (ints (List.replicate ((i : Int) * C).toNat 0))
          rw [List.length_replicate, ints_zeros, show ((i : Int) * C).toNat = i * C by rw [← Int.natCast_mul, Int.toNat_natCast]]
          exact hr
    · rw [new_1 h0 hk]
      obtain ⟨i0, hi, hz0, hz1, hz2⟩ := info_parts info_mom
      obtain ⟨b1, b2, b3⟩ := h0
      have hk' : k = 1 := by omega
      have hc' : c = 0 := by omega
      obtain ⟨B, hB⟩ : ∃ n : Nat, b = n := ⟨b.toNat, by omega⟩
      have hB0 : B ≤ 257 := by omega
      clear hk b3 b1 b2
      subst hB hk' hc'
      go_enter Try.func18, Try.ntmps18
      go_wp2_with (first
        | (go_at_call 44; refine (HM.out _).mono ?_; rintro e w1 ⟨rfl, rfl⟩))
      obtain ⟨W2, e2⟩ : ∃ W2, W2 = (w.alloc (.cells #[.int .i64 0, .int .i64 0, .int .i64 0, .slice none 0 0, .slice none 0 0] 36)).alloc (.cells #[.int .i64 1, .int .i64 B, .int .i64 0, .slice none 0 0, .slice none 0 0] 36) := ⟨_, rfl⟩
      obtain ⟨k0, k1, kb, ks⟩ := boxes2' w _ _ _ _ W2 e2
      rw [← e2]
      have Z0 : BZ2 1 B 0 w.heap.size 0 w W2 (.slice none 0 0) := ⟨k0, k1, World.ownsRow_nil _ _ _ _, kb⟩
      have HZ := Lib.hid Z0
      clear e2 k0 k1 kb ks Z0
      go_loopw [9] (fun iv wr => ∃ (i : Nat) (v1 : Value), i ≤ B ∧ iv = .int .i64 i ∧ Hid (BZ2 1 B 0 w.heap.size i w wr v1)) (fun iv _ => B - (intOf iv).toNat)
      case atStart => exact ⟨0, _, Nat.zero_le _, rfl, HZ⟩
      case round =>
        obtain ⟨i, v1, hi1, rfl, HX⟩ := hrel
        by_cases hlt : i < B
        · have hlt' : (i : Int) < B := by omega
          go_wp2
          go_loopw [10] (fun jv wr2 => jv = .int .i64 0 ∧ wr2 = wr) (fun jv _ => 0)
          case atStart => exact ⟨rfl, rfl⟩
          case round =>
            obtain ⟨rfl, rfl⟩ := hrel
            have X := HX.out
            obtain ⟨q0, q1, q2, q3, q4⟩ := X.b1.cells5
            have qf := X.b1.frozen
            have l0 := X.b1.lt
            obtain ⟨S, d, rfl⟩ := own_slice X.r
            go_wp2_with (at_builtin; refine wpList_append_own _ rfl _ _ 34 rfl w.heap.size 52 i0 (.agg #[(.int .i64 0), (.int .i64 0), (.int .i64 0)]) 3 24 Try.underlying34 hi hz0 hz1 hz2 rfl (by decide) _ _ _ rfl (X.r.alloc _) ⟨wr.heap.size, 0, none⟩ 1 1 [.int .i64 0, .int .i64 0, .int .i64 0] rfl rfl (cell_three_new _ _ _ _ _) (by simp [Value.oneCell']) (by unfold maxLen; omega) (by omega) (by have := X.be.size; simp; omega) ?_; intro v' w1 hown' hgrow _; have Z := X.put hgrow hown'; obtain ⟨S', d', rfl⟩ := own_slice hown'; have s1 := hgrow.size; simp at s1; have kf := (blk_grown (X.b1.below ((Below.refl _ _).alloc (Nat.le_refl _) _)) hgrow (fun e => own_nb X.r X.b1 (by decide) e.symm)); have f1 := kf.frozen; have ll := kf.lt; obtain ⟨t0, t1, t2, t3, t4⟩ := kf.cells5)
            go_roundw
            case rel => exact ⟨i + 1, _, hlt, by go_num, Lib.hid Z⟩
            case measure => simp [intOf]; omega
        · obtain rfl : i = B := by omega
          have X := HX.out
          obtain ⟨S, d, rfl⟩ := own_slice X.r
          obtain ⟨q0, q1, q2, q3, q4⟩ := X.b1.cells5
          have qf := X.b0.frozen
          have l0 := X.b0.lt
          have l1 := X.b1.lt
          obtain ⟨p0, p1, p2, p3, p4⟩ := X.b0.cells5
          go_wp2
          refine bodyPost_ret (results_ct rfl _ _ w.heap.size 36 _ _ rfl (set5 X.b0 _ _ _ _ _) Try.underlying36 rfl size_hist) rfl ?_
          have hr := X.r
          refine ⟨_, rfl, ⟨_, _, rfl, World.ownsRow_nil _ _ _ _, own_set5 ?_ X.b0 (by decide) _ _ _ _ _⟩, below5 X.be (Nat.le_refl _) _ _ _ _ _⟩
          show wr.ownsRow _ _ _ _ (List.replicate _ m0).length (momC _)
          rw [List.length_replicate, Int.toNat_natCast]
          exact hr
  · exact rnew_not k b c w h0
end Go.Proofs.Yteckbgpkoanhfaa.Hb

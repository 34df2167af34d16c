/- The walks of layer hist: Add. -/
import Derived.Test.YteckbgpkoanhfaaHbHistD
namespace Go.Proofs.Yteckbgpkoanhfaa.Hb
open Go.RowKit

def addBad (h : H) (bin t : Int) : Prop := bin < 0 ∨ bin ≥ h.bins ∨ (h.kind = 0 ∧ (t < 0 ∨ t ≥ h.classes))
instance (h : H) (bin t : Int) : Decidable (addBad h bin t) := inferInstanceAs (Decidable (_ ∨ _))
/-- A histogram with targets more. -/
def addO (h : H) (bin t k : Int) : Except Int H :=
  if rightP h then
    (if addBad h bin t then .error 5
    else if k < 0 then .error 1
    else if h.kind = 0 then
      match lim (h.counts.getD (bin * h.classes + t).toNat 0 + k) with
      | none => .error 6
      | some n => .ok { h with counts := h.counts.set (bin * h.classes + t).toNat n }
    else match momentO t k with
      | .error e => .error e
      | .ok m => match momO opP (h.moms.getD bin.toNat m0) m with
        | .error e => .error e
        | .ok m' => .ok { h with moms := h.moms.set bin.toNat m' })
  else .error 8
theorem add_8 {h : H} {bin t k : Int} (hr : ¬ rightP h) : addO h bin t k = .error 8 := if_neg hr
theorem add_5 {h : H} {bin t k : Int} (hr : rightP h) (hb : addBad h bin t) : addO h bin t k = .error 5 := by unfold addO; rw [if_pos hr]; exact if_pos hb
theorem add_1 {h : H} {bin t k : Int} (hr : rightP h) (hb : ¬ addBad h bin t) (hk : k < 0) : addO h bin t k = .error 1 := by unfold addO; rw [if_pos hr, if_neg hb, if_pos hk]
theorem add_c {h : H} {bin t k : Int} (hr : rightP h) (hb : ¬ addBad h bin t) (hk : ¬ k < 0) (h0 : h.kind = 0) : addO h bin t k = match lim (h.counts.getD (bin * h.classes + t).toNat 0 + k) with
      | none => .error 6
      | some n => .ok { h with counts := h.counts.set (bin * h.classes + t).toNat n } := by unfold addO; rw [if_pos hr, if_neg hb, if_neg hk, if_pos h0]
theorem add_m {h : H} {bin t k : Int} (hr : rightP h) (hb : ¬ addBad h bin t) (hk : ¬ k < 0) (h0 : ¬ h.kind = 0) : addO h bin t k = match momentO t k with
      | .error e => .error e
      | .ok m => match momO opP (h.moms.getD bin.toNat m0) m with
        | .error e => .error e
        | .ok m' => .ok { h with moms := h.moms.set bin.toNat m' } := by unfold addO; rw [if_pos hr, if_neg hb, if_neg hk, if_neg h0]
/-- A histogram in memory, behind a pointer. -/
structure HM (base g : Nat) (h : H) (v1 v2 : Value) (W : World) : Prop where
  blk : Blk W g #[.int .i64 h.kind, .int .i64 h.bins, .int .i64 h.classes, v1, v2] 36
  r1 : W.ownsRow base 2 1 v1 h.counts.length (ints h.counts)
  r2 : W.ownsRow base 52 3 v2 h.moms.length (momC h.moms)
theorem HM.below {base g : Nat} {h : H} {v1 v2 : Value} {W W1 : World} (m : HM base g h v1 v2 W) (hb : Below W.heap.size W W1) : HM base g h v1 v2 W1 := ⟨m.blk.below hb, own_below m.r1 hb, own_below m.r2 hb⟩

set_option maxRecDepth 100000 in
set_option maxHeartbeats 4000000 in
theorem add_bad (h : H) (base g : Nat) (v1 v2 : Value) (bin t k : Int) (w : World) (hm : HM base g h v1 v2 w) (hl1 : h.counts.length ≤ 9223372036854775807) (hl2 : h.moms.length ≤ 9223372036854775807) (hr : ¬ rightP h) :
    Calls Try.prog 21 #[.pointer (some ⟨g, 0, none⟩), .int .i64 bin, .int .i64 t, .int .i64 k] w fun e w' => e = .returned (.int .i64 8) ∧ Below w.heap.size w w' := by
  obtain ⟨A1, c1, rfl⟩ := own_slice hm.r1
  obtain ⟨A2, c2, rfl⟩ := own_slice hm.r2
  have ra := fun w => right_any h A1 A2 c1 c2 w hl1 hl2
  rw [show rightB h = false from decide_eq_false hr] at ra
  unfold hV at ra
  have RA := Lib.hid ra
  obtain ⟨p0, p1, p2, p3, p4⟩ := hm.blk.cells5
  clear ra hr hl1 hl2
  go_enter Try.func21, Try.ntmps21
  go_wp2_with (go_at_call 20; refine (RA.out _).mono ?_; rintro e w1 ⟨rfl, hb⟩)
  go_ret
  exact ⟨rfl, hb⟩
set_option maxRecDepth 100000 in
set_option maxHeartbeats 4000000 in
theorem add_range (h : H) (base g : Nat) (v1 v2 : Value) (bin t k : Int) (w : World) (hm : HM base g h v1 v2 w) (hl1 : h.counts.length ≤ 9223372036854775807) (hl2 : h.moms.length ≤ 9223372036854775807) (hr : rightP h) (hbad : addBad h bin t) :
    Calls Try.prog 21 #[.pointer (some ⟨g, 0, none⟩), .int .i64 bin, .int .i64 t, .int .i64 k] w fun e w' => e = .returned (.int .i64 5) ∧ Below w.heap.size w w' := by
  obtain ⟨A1, c1, rfl⟩ := own_slice hm.r1
  obtain ⟨A2, c2, rfl⟩ := own_slice hm.r2
  have ra := fun w => right_any h A1 A2 c1 c2 w hl1 hl2
  rw [show rightB h = true from decide_eq_true hr] at ra
  unfold hV at ra
  have RA := Lib.hid ra
  have hmay := hr.1
  have hcs : h.kind = 0 → 2 ≤ h.classes ∧ h.classes ≤ 256 := fun e => by have := hmay.2.2; omega
  have hx : (bin < 0) ∨ (¬ bin < 0 ∧ bin ≥ h.bins) ∨ (¬ bin < 0 ∧ ¬ bin ≥ h.bins ∧ h.kind = 0 ∧ t < 0) ∨ (¬ bin < 0 ∧ ¬ bin ≥ h.bins ∧ h.kind = 0 ∧ ¬ t < 0 ∧ t ≥ h.classes) := by
    unfold addBad at hbad; omega
  clear ra hr hl1 hl2 hmay hbad
  rcases hx with x1 | ⟨x1, x2⟩ | ⟨x1, x2, x3, x4⟩ | ⟨x1, x2, x3, x4, x5⟩
  · go_enter Try.func21, Try.ntmps21
    obtain ⟨p0, p1, p2, p3, p4⟩ := hm.blk.cells5
    clear hcs
    go_wp2_with (go_at_call 20; refine (RA.out _).mono ?_; rintro e w1 ⟨rfl, hb⟩; obtain ⟨q0, q1, q2, q3, q4⟩ := (hm.blk.below hb).cells5)
    go_ret
    exact ⟨rfl, hb⟩
  · go_enter Try.func21, Try.ntmps21
    obtain ⟨p0, p1, p2, p3, p4⟩ := hm.blk.cells5
    clear hcs
    go_wp2_with (go_at_call 20; refine (RA.out _).mono ?_; rintro e w1 ⟨rfl, hb⟩; obtain ⟨q0, q1, q2, q3, q4⟩ := (hm.blk.below hb).cells5)
    go_ret
    exact ⟨rfl, hb⟩
  · have k0 : (h.kind == 0) = true := beq_iff_eq.2 x3
    obtain ⟨z1, z2⟩ := hcs x3
    have zw : IntKind.i64.wrap h.classes = h.classes := by rw [IntKind.wrap_i64]; omega
    clear hcs x3
    go_enter Try.func21, Try.ntmps21
    obtain ⟨p0, p1, p2, p3, p4⟩ := hm.blk.cells5
    go_wp2_with (go_at_call 20; refine (RA.out _).mono ?_; rintro e w1 ⟨rfl, hb⟩; obtain ⟨q0, q1, q2, q3, q4⟩ := (hm.blk.below hb).cells5)
    go_ret
    exact ⟨rfl, hb⟩
  · have k0 : (h.kind == 0) = true := beq_iff_eq.2 x3
    obtain ⟨z1, z2⟩ := hcs x3
    have zw : IntKind.i64.wrap h.classes = h.classes := by rw [IntKind.wrap_i64]; omega
    clear hcs x3
    go_enter Try.func21, Try.ntmps21
    obtain ⟨p0, p1, p2, p3, p4⟩ := hm.blk.cells5
    go_wp2_with (go_at_call 20; refine (RA.out _).mono ?_; rintro e w1 ⟨rfl, hb⟩; obtain ⟨q0, q1, q2, q3, q4⟩ := (hm.blk.below hb).cells5)
    go_ret
    exact ⟨rfl, hb⟩
theorem may_le {k b c : Int} (h : mayP k b c) : 1 ≤ b ∧ b ≤ 257 ∧ 0 ≤ c ∧ c ≤ 256 := by unfold mayP at h; omega
set_option maxRecDepth 100000 in
set_option maxHeartbeats 4000000 in
theorem add_neg (h : H) (base g : Nat) (v1 v2 : Value) (bin t k : Int) (w : World) (hm : HM base g h v1 v2 w) (hl1 : h.counts.length ≤ 9223372036854775807) (hl2 : h.moms.length ≤ 9223372036854775807) (hr : rightP h) (hbad : ¬ addBad h bin t) (hk : k < 0) :
    Calls Try.prog 21 #[.pointer (some ⟨g, 0, none⟩), .int .i64 bin, .int .i64 t, .int .i64 k] w fun e w' => e = .returned (.int .i64 1) ∧ Below w.heap.size w w' := by
  obtain ⟨A1, c1, rfl⟩ := own_slice hm.r1
  obtain ⟨A2, c2, rfl⟩ := own_slice hm.r2
  have ra := fun w => right_any h A1 A2 c1 c2 w hl1 hl2
  rw [show rightB h = true from decide_eq_true hr] at ra
  unfold hV at ra
  have RA := Lib.hid ra
  obtain ⟨_, _, z1, z2⟩ := may_le hr.1
  have zw : IntKind.i64.wrap h.classes = h.classes := by rw [IntKind.wrap_i64]; omega
  have x1 : ¬ bin < 0 := fun e => hbad (.inl e)
  have x2 : ¬ bin ≥ h.bins := fun e => hbad (.inr (.inl e))
  by_cases h0 : h.kind = 0
  · have k0 : (h.kind == 0) = true := beq_iff_eq.2 h0
    have x3 : ¬ t < 0 := fun e => hbad (.inr (.inr ⟨h0, .inl e⟩))
    have x4 : ¬ t ≥ h.classes := fun e => hbad (.inr (.inr ⟨h0, .inr e⟩))
    clear ra hr hl1 hl2 hbad h0
    go_enter Try.func21, Try.ntmps21
    obtain ⟨p0, p1, p2, p3, p4⟩ := hm.blk.cells5
    go_wp2_with (go_at_call 20; refine (RA.out _).mono ?_; rintro e w1 ⟨rfl, hb⟩; obtain ⟨q0, q1, q2, q3, q4⟩ := (hm.blk.below hb).cells5)
    go_ret
    exact ⟨rfl, hb⟩
  · have k0 : (h.kind == 0) = false := beq_eq_false_iff_ne.2 h0
    clear ra hr hl1 hl2 hbad h0
    go_enter Try.func21, Try.ntmps21
    obtain ⟨p0, p1, p2, p3, p4⟩ := hm.blk.cells5
    go_wp2_with (go_at_call 20; refine (RA.out _).mono ?_; rintro e w1 ⟨rfl, hb⟩; obtain ⟨q0, q1, q2, q3, q4⟩ := (hm.blk.below hb).cells5)
    go_ret
    exact ⟨rfl, hb⟩
end Go.Proofs.Yteckbgpkoanhfaa.Hb

/- The walks of shard.blank and shard.Hist. -/
import Derived.Test.YteckbgpkoanhfaaHbFill
import Derived.Test.YteckbgpkoanhfaaHbSame
namespace Go.Proofs.Yteckbgpkoanhfaa.Hb
set_option linter.unusedVariables false
open Go.RowKit

/-- A sample's histogram. -/
def histO (s : Smp) (col : Int) (is : List Int) : Except Int H :=
  if rightS s = true ∧ 0 ≤ col ∧ col < s.cols then
    match newO s.k (s.b + 1) s.cl with
    | .error e => .error e
    | .ok h => fillO s col is h
  else .error 8
theorem hist_8 {s : Smp} {col : Int} {is : List Int} (h : ¬ (rightS s = true ∧ 0 ≤ col ∧ col < s.cols)) : histO s col is = .error 8 := if_neg h
theorem hist_go {s : Smp} {col : Int} {is : List Int} {h0 : H} (h : rightS s = true ∧ 0 ≤ col ∧ col < s.cols) (hn : newO s.k (s.b + 1) s.cl = .ok h0) : histO s col is = fillO s col is h0 := by unfold histO; rw [if_pos h, hn]
theorem chk_may {s : Smp} (h : chkS s = 0) : mayP s.k (s.b + 1) s.cl ∧ s.b ≤ 256 := by
  unfold chkS checkO lowC stepC at h
  unfold mayP
  repeat' split at h
  all_goals omega
theorem new_yes {k b c : Int} (h : mayP k b c) : ∃ h0, newO k b c = .ok h0 := by
  by_cases hk : k = 0
  · exact ⟨_, new_0 h hk⟩
  · exact ⟨_, new_1 h hk⟩
theorem fill_ne {s : Smp} {col : Int} : ∀ {is : List Int} {h : H} {e : Int}, fillO s col is h = .error e → (e != 0) = true
  | [], h, e, he => by cases he
  | i :: is, h, e, he => by
    by_cases hi : i < 0 ∨ i ≥ s.rows
    · rw [fill_out hi] at he; cases he; rfl
    · cases ha : addO h (celAt s col i) (s.tgt.getD i.toNat 0) (s.wgt.getD i.toNat 0) with
      | error e1 => rw [fill_err hi ha] at he; cases he; exact add_err ha
      | ok h1 => rw [fill_go hi ha] at he; exact fill_ne he
section
variable (s : Smp) (A1 A2 A3 : Option Addr) (c1 c2 c3 : Nat)
set_option maxRecDepth 100000 in
set_option maxHeartbeats 1000000 in
theorem blank_any (hb : s.b ≤ 256) (hb0 : 0 ≤ s.b) (w : World) : Calls Try.prog 57 #[.agg (smpC s A1 A2 A3 c1 c2 c3)] w (ResH (newO s.k (s.b + 1) s.cl) w) := by
  have hn := fun w => new_any s.k (s.b + 1) s.cl w
  obtain ⟨r, hr⟩ : ∃ r, newO s.k (s.b + 1) s.cl = r := ⟨_, rfl⟩
  rw [hr] at hn ⊢
  unfold ResH at hn ⊢
  obtain ⟨hh, hhh⟩ : ∃ x, valO h0 r = x := ⟨_, rfl⟩
  obtain ⟨e0, he0⟩ : ∃ x, errO r = x := ⟨_, rfl⟩
  rw [hhh, he0] at hn ⊢
  have KN := Lib.hid hn
  have ww : IntKind.i64.wrap (s.b + 1) = s.b + 1 := by rw [IntKind.wrap_i64]; omega
  unfold smpC
  clear hn hr hhh he0
  go_enter Try.func57, Try.ntmps57
  go_wp2_with fail
  obtain ⟨W2, e2⟩ : ∃ W, W = (w.alloc (.cells #[.int .i64 s.k, .int .i64 s.cl, .int .i64 s.b, .int .i64 s.t, .int .i64 s.d, .int .i64 s.l, .int .i64 s.p, .int .i64 s.rows, .int .i64 s.cols, .slice A1 s.cells.length c1, .slice A2 s.tgt.length c2, .slice A3 s.wgt.length c3] 72)).alloc (.cells #[.int .i64 0, .int .i64 0, .int .i64 0, .slice none 0 0, .slice none 0 0] 36) := ⟨_, rfl⟩
  rw [← e2]
  obtain ⟨_, kR, bW, zW⟩ := boxes2' w _ _ _ _ W2 e2
  clear e2
  refine (KN.out _).mono ?_
  rintro e w3 ⟨v, rfl, ⟨v1, v2, rfl, o1, o2⟩, hb3⟩
  obtain ⟨B1, d1, rfl⟩ := own_slice o1
  obtain ⟨B2, d2, rfl⟩ := own_slice o2
  have k3 := kR.below hb3
  obtain ⟨p0, p1, p2, p3, p4⟩ := k3.cells5
  have pf := k3.frozen
  have b3 := bW.trans (hb3.mono bW.size)
  have O1 := Lib.hid (World.ownsRow.mono o1 (base' := w.heap.size) bW.size)
  have O2 := Lib.hid (World.ownsRow.mono o2 (base' := w.heap.size) bW.size)
  clear o1 o2
  go_wp2
  refine bodyPost_ret (results_ct rfl _ _ (w.heap.size + 1) 36 _ _ rfl (set5 k3 _ _ _ _ _) Try.underlying36 rfl size_hist) rfl ?_
  exact ⟨_, rfl, ⟨_, _, rfl, own_set5 O1.out k3 (by decide) _ _ _ _ _, own_set5 O2.out k3 (by decide) _ _ _ _ _⟩, below5 b3 (by omega) _ _ _ _ _⟩
set_option maxRecDepth 100000 in
set_option maxHeartbeats 4000000 in
theorem shist_any (col : Int) (is : List Int) (Ar : Option Addr) (cr : Nat) (w : World) (RS : RdS w s A1 A2 A3) (RI : RdI w Ar is) (hli : is.length ≤ 9223372036854775807) (hcc : s.cells.length ≤ c1) :
    Calls Try.prog 34 #[.agg (smpC s A1 A2 A3 c1 c2 c3), .int .i64 col, .slice Ar is.length cr] w (ResH (histO s col is) w) := by
  have hr := fun w => sright_any s A1 A2 A3 c1 c2 c3 w RS.l1 RS.l2 RS.l3
  by_cases hy : rightS s = true ∧ 0 ≤ col ∧ col < s.cols
  · obtain ⟨h1, h2, h3⟩ := hy
    obtain ⟨hmay, hb2⟩ := chk_may (rightS_is h1).1
    obtain ⟨hh, hnew⟩ := new_yes hmay
    have hfill := fun base g v1 v2 W hm hB0 hb0 hb1 => fill_any s A1 A2 A3 c1 c2 c3 w RS h1 col h2 h3 is Ar cr RI hli hcc base g hh v1 v2 W hm (okH_new hnew) (by have := new_lens s.k (s.b + 1) s.cl; rw [hnew] at this; exact this) hB0 hb0 hb1
    have hbl := fun w => blank_any s A1 A2 A3 c1 c2 c3 hb2 (by have := hmay.1; omega) w
    rw [hnew] at hbl
    rw [hist_go ⟨h1, h2, h3⟩ hnew]
    rw [h1] at hr
    unfold ResH at hbl ⊢
    simp only [valO, errO] at hbl
    have d1 : decide (col < 0) = false := decide_eq_false (by omega)
    have d2 : decide (s.cols ≤ col) = false := decide_eq_false (by omega)
    obtain ⟨F, hF⟩ : ∃ F, fillO s col is hh = F := ⟨_, rfl⟩
    rw [hF] at hfill ⊢
    have HF := Lib.hid hF
    have KR := Lib.hid hr
    have KB := Lib.hid hbl
    have KF := Lib.hid hfill
    unfold smpC at KR KB KF ⊢
    obtain ⟨n, hn⟩ : ∃ n, is.length = n := ⟨_, rfl⟩
    rw [hn] at KF hli ⊢
    clear hr hbl hfill hmay hb2 h1 h2 h3 hnew RS RI hF hn
    go_enter Try.func34, Try.ntmps34
    go_wp2_with fail
    obtain ⟨W2, e2⟩ : ∃ W, W = (w.alloc (.cells #[.int .i64 s.k, .int .i64 s.cl, .int .i64 s.b, .int .i64 s.t, .int .i64 s.d, .int .i64 s.l, .int .i64 s.p, .int .i64 s.rows, .int .i64 s.cols, .slice A1 s.cells.length c1, .slice A2 s.tgt.length c2, .slice A3 s.wgt.length c3] 72)).alloc (.cells #[.int .i64 0, .int .i64 0, .int .i64 0, .slice none 0 0, .slice none 0 0] 36) := ⟨_, rfl⟩
    rw [← e2]
    obtain ⟨kS, kR, bW, zW⟩ := boxes2' w _ _ _ _ W2 e2
    clear e2
    refine (KR.out _).mono ?_
    rintro e w3 ⟨rfl, hb3⟩
    replace kS := kS.below hb3
    replace kR := kR.below hb3
    replace bW := bW.trans (hb3.mono bW.size)
    have lR : w.heap.size + 1 < w3.heap.size := kR.lt
    clear zW hb3
    obtain ⟨a0, a1, a2, a3, a4, a5, a6, a7, a8, a9, a10, a11⟩ := kS.cells12
    go_wp2_with fail
    refine (KB.out _).mono ?_
    rintro e w4 ⟨v, rfl, ⟨v1, v2, rfl, o1, o2⟩, hb4⟩
    obtain ⟨B1, d1', rfl⟩ := own_slice o1
    obtain ⟨B2, d2', rfl⟩ := own_slice o2
    have sz4 := hb4.size
    replace kS := kS.below hb4
    replace kR := kR.below hb4
    replace bW := bW.trans (hb4.mono bW.size)
    clear a0 a1 a2 a3 a4 a5 a6 a7 a8 a9 a10 a11 hb4
    obtain ⟨a0, a1, a2, a3, a4, a5, a6, a7, a8, a9, a10, a11⟩ := kS.cells12
    have lS := kS.lt
    have nS : w.heap.size ≠ w4.heap.size := by omega
    have nS' : w4.heap.size ≠ w.heap.size := by omega
    go_wp2_with fail
    obtain ⟨W5, e5⟩ : ∃ W, W = w4.alloc (.cells #[.int .i64 hh.kind, .int .i64 hh.bins, .int .i64 hh.classes, .slice B1 hh.counts.length d1', .slice B2 hh.moms.length d2'] 36) := ⟨_, rfl⟩
    rw [← e5]
    have bx : Below w4.heap.size w4 W5 := by rw [e5]; exact (Below.refl _ _).alloc (Nat.le_refl _) _
    have mH : HM w3.heap.size w4.heap.size hh (.slice B1 hh.counts.length d1') (.slice B2 hh.moms.length d2') W5 := by
      rw [e5]
      exact ⟨Blk.new _ _ _, o1.alloc _, o2.alloc _⟩
    replace kR := kR.below bx
    replace bW := bW.trans (bx.mono bW.size)
    have sz5 := bx.size
    clear e5 o1 o2 bx a0 a1 a2 a3 a4 a5 a6 a7 a8 a9 a10 a11 kS nS nS'
    refine (KF.out _ _ _ _ _ mH bW (by omega) (by omega)).mono ?_
    rintro e w6 ⟨rfl, ⟨⟨h', m6, ok6, hx6⟩, be6⟩⟩
    have kR6 : Blk w6 (w.heap.size + 1) #[.int .i64 0, .int .i64 0, .int .i64 0, .slice none 0 0, .slice none 0 0] 36 := (be6.block (w.heap.size + 1) lR).trans kR
    have pf := kR6.frozen
    obtain ⟨p0, p1, p2, p3, p4⟩ := kR6.cells5
    have b6 : Below w.heap.size w w6 := bW.trans (be6.mono (by omega))
    clear KR KB KF kR bW be6 mH
    cases F with
    | error e =>
      have ee := fill_ne HF.out
      simp only [errO]
      go_wp2
      refine bodyPost_ret (results_ct rfl _ _ (w.heap.size + 1) 36 _ _ rfl (set5 kR6 _ _ _ _ _) Try.underlying36 rfl size_hist) rfl ?_
      exact ⟨_, rfl, HNew.zero _ _, below5 b6 (by omega) _ _ _ _ _⟩
    | ok x =>
      obtain rfl : h' = x := hx6 x HF.out
      simp only [errO]
      obtain ⟨q0, q1, q2, q3, q4⟩ := m6.blk.cells5
      have O1 := Lib.hid (World.ownsRow.mono m6.r1 (base' := w.heap.size) (by omega))
      have O2 := Lib.hid (World.ownsRow.mono m6.r2 (base' := w.heap.size) (by omega))
      have nR : w.heap.size + 1 ≠ w4.heap.size := by omega
      have nR' : w4.heap.size ≠ w.heap.size + 1 := by omega
      clear m6 hx6
      go_wp2
      refine bodyPost_ret (results_ct rfl _ _ (w.heap.size + 1) 36 _ _ rfl (set5 kR6 _ _ _ _ _) Try.underlying36 rfl size_hist) rfl ?_
      exact ⟨_, rfl, ⟨_, _, rfl, own_set5 O1.out kR6 (by decide) _ _ _ _ _, own_set5 O2.out kR6 (by decide) _ _ _ _ _⟩, below5 b6 (by omega) _ _ _ _ _⟩
  · rw [hist_8 hy]
    unfold smpC at hr ⊢
    obtain ⟨z, hz⟩ : ∃ z, rightS s = z := ⟨_, rfl⟩
    rw [hz] at hr hy
    obtain ⟨n, hn⟩ : ∃ n, is.length = n := ⟨_, rfl⟩
    rw [hn] at hli ⊢
    have KR := Lib.hid hr
    have HY := Lib.hid hy
    clear hr hy hz hn RS RI
    go_enter Try.func34, Try.ntmps34
    go_wp2_with fail
    obtain ⟨W2, e2⟩ : ∃ W, W = (w.alloc (.cells #[.int .i64 s.k, .int .i64 s.cl, .int .i64 s.b, .int .i64 s.t, .int .i64 s.d, .int .i64 s.l, .int .i64 s.p, .int .i64 s.rows, .int .i64 s.cols, .slice A1 s.cells.length c1, .slice A2 s.tgt.length c2, .slice A3 s.wgt.length c3] 72)).alloc (.cells #[.int .i64 0, .int .i64 0, .int .i64 0, .slice none 0 0, .slice none 0 0] 36) := ⟨_, rfl⟩
    rw [← e2]
    obtain ⟨kS, kR, bW, zW⟩ := boxes2' w _ _ _ _ W2 e2
    clear e2
    refine (KR.out _).mono ?_
    rintro e w3 ⟨rfl, hb3⟩
    replace kS := kS.below hb3
    replace kR := kR.below hb3
    replace bW := bW.trans (hb3.mono bW.size)
    clear zW hb3 KR
    obtain ⟨_, _, _, _, _, _, _, _, a8, _, _, _⟩ := kS.cells12
    obtain ⟨p0, p1, p2, p3, p4⟩ := kR.cells5
    have pf := kR.frozen
    cases z with
    | false =>
      go_wp2
      refine bodyPost_ret (results_ct rfl _ _ (w.heap.size + 1) 36 _ _ rfl (set5 kR _ _ _ _ _) Try.underlying36 rfl size_hist) rfl ?_
      exact ⟨_, rfl, HNew.zero _ _, below5 bW (by omega) _ _ _ _ _⟩
    | true =>
      by_cases hc : col < 0
      · have d1 : decide (col < 0) = true := decide_eq_true hc
        clear hc
        go_wp2
        refine bodyPost_ret (results_ct rfl _ _ (w.heap.size + 1) 36 _ _ rfl (set5 kR _ _ _ _ _) Try.underlying36 rfl size_hist) rfl ?_
        exact ⟨_, rfl, HNew.zero _ _, below5 bW (by omega) _ _ _ _ _⟩
      · have d1 : decide (col < 0) = false := decide_eq_false hc
        have d2 : decide (s.cols ≤ col) = true := decide_eq_true (by have h := HY.out; rw [not_and] at h; have := h rfl; omega)
        clear hc
        go_wp2
        refine bodyPost_ret (results_ct rfl _ _ (w.heap.size + 1) 36 _ _ rfl (set5 kR _ _ _ _ _) Try.underlying36 rfl size_hist) rfl ?_
        exact ⟨_, rfl, HNew.zero _ _, below5 bW (by omega) _ _ _ _ _⟩
end
end Go.Proofs.Yteckbgpkoanhfaa.Hb

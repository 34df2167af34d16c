/- The walk of the document's answer, layer 12: Same, of equal heads. -/
import Derived.Test.YteckbgpkoanhfaaHbSame
import Derived.Test.YteckbgpkoanhfaaHbHistI
namespace Go.Proofs.Yteckbgpkoanhfaa.Hb
open Go.RowKit

theorem eq_of_at {α : Type} {d : α} {l m : List α} (hl : l.length = m.length) (h : ∀ i, i < l.length → l.getD i d = m.getD i d) : l = m := by
  apply List.ext_getElem hl
  intro i h1 h2
  have := h i h1
  simpa [List.getD_eq_getElem?_getD, List.getElem?_eq_getElem h1, List.getElem?_eq_getElem h2] using this
set_option maxRecDepth 100000 in
set_option maxHeartbeats 4000000 in
theorem same_body {a b : H} {va vb : Value} {w : World} (ra : RdH w a va) (rb : RdH w b vb) (x1 : a.kind = b.kind) (x2 : a.bins = b.bins) (x3 : a.classes = b.classes) (x4 : a.counts.length = b.counts.length) (x5 : a.moms.length = b.moms.length) : Calls Try.prog 19 #[va, vb] w fun e w' => e = .returned (.bool (decide (a = b))) ∧ Below w.heap.size w w' := by
  obtain ⟨A1, A2, c1, c2, rfl, r1, r2, l1, l2⟩ := ra
  obtain ⟨A3, A4, c3, c4, rfl, r3, r4, l3, l4⟩ := rb
  have DF : ∀ (k : Nat), k < a.counts.length → (a.counts.getD k 0 != b.counts.getD k 0) = true → Ending.returned (.bool false) = .returned (.bool (decide (a = b))) := fun k _ h => decF (fun e => by rw [e] at h; simp at h)
  have DM : ∀ (k : Nat), k < a.moms.length → ¬ mAt a.moms k = mAt b.moms k → Ending.returned (.bool false) = .returned (.bool (decide (a = b))) := fun k _ h => decF (fun e => h (by rw [e]))
  have DT : (∀ i, i < a.counts.length → a.counts.getD i 0 = b.counts.getD i 0) → (∀ i, i < a.moms.length → mAt a.moms i = mAt b.moms i) → Ending.returned (.bool true) = .returned (.bool (decide (a = b))) := fun h1 h2 => by
    have e1 := eq_of_at x4 h1
    have e2 := eq_of_at x5 h2
    rw [decide_eq_true]
    obtain ⟨k, bi, c, cs, ms⟩ := a
    obtain ⟨k', bi', c', cs', ms'⟩ := b
    simp only at x1 x2 x3 e1 e2
    rw [x1, x2, x3, e1, e2]
  unfold hV
  have hq := fun (w : World) x0 x1 x2 y0 y1 y2 => eq_mom 9998 w x0 x1 x2 y0 y1 y2
  have R1 := Lib.hid r1
  have R2 := Lib.hid r2
  have R3 := Lib.hid r3
  have R4 := Lib.hid r4
  obtain ⟨n, hn⟩ : ∃ n, a.counts.length = n := ⟨_, rfl⟩
  obtain ⟨m, hm⟩ : ∃ m, a.moms.length = m := ⟨_, rfl⟩
  have hn' : b.counts.length = n := by rw [← x4, hn]
  have hm' : b.moms.length = m := by rw [← x5, hm]
  have HN := Lib.hid hn
  have HM := Lib.hid hm
  have HN' := Lib.hid hn'
  have HM' := Lib.hid hm'
  have DF' := Lib.hid DF
  have DM' := Lib.hid DM
  have DT' := Lib.hid DT
  replace x1 : (a.kind != b.kind) = false := bne_eq_false_iff_eq.2 x1
  replace x2 : (a.bins != b.bins) = false := bne_eq_false_iff_eq.2 x2
  replace x3 : (a.classes != b.classes) = false := bne_eq_false_iff_eq.2 x3
  have x6 : ((n : Int) != n) = false := bne_eq_false_iff_eq.2 rfl
  have x7 : ((m : Int) != m) = false := bne_eq_false_iff_eq.2 rfl
  rw [hn, hm, hn', hm']
  rw [hn] at l1
  rw [hm] at l2
  clear x4 x5 r1 r2 r3 r4 l3 l4 hn hm hn' hm' DF DM DT
  go_enter Try.func19, Try.ntmps19
  go_wp2
  obtain ⟨W2, e2⟩ : ∃ W2, W2 = (w.alloc (.cells #[.int .i64 a.kind, .int .i64 a.bins, .int .i64 a.classes, .slice A1 n c1, .slice A2 m c2] 36)).alloc (.cells #[.int .i64 b.kind, .int .i64 b.bins, .int .i64 b.classes, .slice A3 n c3, .slice A4 m c4] 36) := ⟨_, rfl⟩
  rw [← e2]
  obtain ⟨k0, k1, kb, ks⟩ := boxes2' w _ _ _ _ W2 e2
  clear e2
  go_loopw [5] (fun iv wr => ∃ k : Nat, k ≤ n ∧ iv = .int .i64 k ∧ Hid (∀ i, i < k → a.counts.getD i 0 = b.counts.getD i 0) ∧ Below W2.heap.size W2 wr) (fun iv _ => n - (intOf iv).toNat)
  case atStart => exact ⟨0, Nat.zero_le _, rfl, Lib.hid (fun i hi => by omega), Below.refl _ _⟩
  case round =>
    obtain ⟨k, hk, rfl, HK, hB⟩ := hrel
    have kk0 := k0.below hB
    have kk1 := k1.below hB
    obtain ⟨p0, p1, p2, p3, p4⟩ := kk0.cells5
    obtain ⟨q0, q1, q2, q3, q4⟩ := kk1.cells5
    clear kk0 kk1
    by_cases hlt : k < n
    · have hb0 := kb.trans (hB.mono kb.size)
      obtain ⟨ad1, rfl, ha⟩ := (R1.out.below hb0).at (k := k) (by rw [HN.out]; exact hlt)
      obtain ⟨ad2, rfl, hb⟩ := (R3.out.below hb0).at (k := k) (by rw [HN'.out]; exact hlt)
      have y1 := ha k (by rw [HN.out]; exact hlt)
      have y2 := hb k (by rw [HN'.out]; exact hlt)
      obtain ⟨u, hu⟩ : ∃ u, a.counts.getD k 0 = u := ⟨_, rfl⟩
      obtain ⟨u', hu'⟩ : ∃ u', b.counts.getD k 0 = u' := ⟨_, rfl⟩
      rw [hu] at y1
      rw [hu'] at y2
      have HU := Lib.hid hu
      have HU' := Lib.hid hu'
      have hlt' : (k : Int) < n := by omega
      clear ha hb hu hu'
      cases huu : (u != u') with
      | true =>
        go_wp2
        go_quiet (fail)
        go_wp2
        go_ret
        exact ⟨DF'.out k (by rw [HN.out]; exact hlt) (by rw [HU.out, HU'.out]; exact huu), below_drewN hb0 _⟩
      | false =>
        have heq : u = u' := bne_eq_false_iff_eq.1 huu
        have HK' : Hid (∀ i, i < k + 1 → a.counts.getD i 0 = b.counts.getD i 0) := Lib.hid (fun i hi => by
          by_cases e : i = k
          · rw [e, HU.out, HU'.out, heq]
          · exact HK.out i (by omega))
        clear heq
        go_wp2
        go_quiet (fail)
        go_wp2
        exact ⟨⟨k + 1, hlt, by go_num, HK', below_drewN hB _⟩, by simp [intOf]; omega⟩
    · obtain rfl : k = n := by omega
      clear hlt
      go_wp2
      go_loopw [6] (fun iv wr2 => ∃ k2 : Nat, k2 ≤ m ∧ iv = .int .i64 k2 ∧ Hid (∀ i, i < k2 → mAt a.moms i = mAt b.moms i) ∧ Below W2.heap.size W2 wr2) (fun iv _ => m - (intOf iv).toNat)
      case atStart => exact ⟨0, Nat.zero_le _, rfl, Lib.hid (fun i hi => by omega), hB⟩
      case round =>
        obtain ⟨k2, hk2, rfl, HK2, hB2⟩ := hrel
        clear p0 p1 p2 p3 p4 q0 q1 q2 q3 q4
        have kk0 := k0.below hB2
        have kk1 := k1.below hB2
        obtain ⟨p0, p1, p2, p3, p4⟩ := kk0.cells5
        obtain ⟨q0, q1, q2, q3, q4⟩ := kk1.cells5
        clear kk0 kk1
        have hb0 := kb.trans (hB2.mono kb.size)
        by_cases hlt : k2 < m
        · obtain ⟨ad1, rfl, ha⟩ := (R2.out.below hb0).at (k := k2) (by rw [HM.out]; exact hlt)
          obtain ⟨ad2, rfl, hb⟩ := (R4.out.below hb0).at (k := k2) (by rw [HM'.out]; exact hlt)
          obtain ⟨y1, y2, y3⟩ := ha k2 (by rw [HM.out]; exact hlt)
          obtain ⟨z1, z2, z3⟩ := hb k2 (by rw [HM'.out]; exact hlt)
          obtain ⟨u, hu⟩ : ∃ u, mAt a.moms k2 = u := ⟨_, rfl⟩
          obtain ⟨u', hu'⟩ : ∃ u', mAt b.moms k2 = u' := ⟨_, rfl⟩
          rw [hu] at y1 y2 y3
          rw [hu'] at z1 z2 z3
          have HU := Lib.hid hu
          have HU' := Lib.hid hu'
          have hlt' : (k2 : Int) < m := by omega
          clear ha hb hu hu'
          by_cases huu : u = u'
          · have HK' : Hid (∀ i, i < k2 + 1 → mAt a.moms i = mAt b.moms i) := Lib.hid (fun i hi => by
              by_cases e : i = k2
              · rw [e, HU.out, HU'.out, huu]
              · exact HK2.out i (by omega))
            subst huu
            have hs : (u.c == u.c && (u.s == u.s && (u.q == u.q && true))) = true := by simp
            go_wp2
            go_quiet (fail)
            go_wp2
            exact ⟨⟨k2 + 1, hlt, by go_num, HK', below_drewN hB2 _⟩, by simp [intOf]; omega⟩
          · have hs : (u.c == u'.c && (u.s == u'.s && (u.q == u'.q && true))) = false := by
              rw [Bool.eq_false_iff]
              intro h
              simp only [Bool.and_true, Bool.and_eq_true, beq_iff_eq] at h
              exact huu (by obtain ⟨_, _, _⟩ := u; obtain ⟨_, _, _⟩ := u'; simp only at h; rw [h.1, h.2.1, h.2.2])
            have D2 := Lib.hid (DM'.out k2 (by rw [HM.out]; exact hlt) (by rw [HU.out, HU'.out]; exact huu))
            clear huu
            go_wp2
            go_quiet (fail)
            go_wp2
            all_goals first
              | (rename_i h; simp only [Bool.not_eq_false'] at h; rw [h.1, h.2.1, h.2.2] at hs; exact absurd hs (by decide))
              | (go_ret; exact ⟨D2.out, below_drewN hb0 _⟩)
        · obtain rfl : k2 = m := by omega
          clear hlt
          go_wp2
          go_ret
          exact ⟨DT'.out (by rw [HN.out]; exact HK.out) (by rw [HM.out]; exact HK2.out), hb0⟩
theorem same_any {a b : H} {va vb : Value} {w : World} (ra : RdH w a va) (rb : RdH w b vb) : Calls Try.prog 19 #[va, vb] w fun e w' => e = .returned (.bool (decide (a = b))) ∧ Below w.heap.size w w' := by
  by_cases h : a.kind = b.kind ∧ a.bins = b.bins ∧ a.classes = b.classes ∧ a.counts.length = b.counts.length ∧ a.moms.length = b.moms.length
  · exact same_body ra rb h.1 h.2.1 h.2.2.1 h.2.2.2.1 h.2.2.2.2
  · exact same_head ra rb h
end Go.Proofs.Yteckbgpkoanhfaa.Hb

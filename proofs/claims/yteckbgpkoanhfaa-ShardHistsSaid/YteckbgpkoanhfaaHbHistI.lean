/- Add, of any histogram; the chapter's example. -/
import Derived.Test.YteckbgpkoanhfaaHbHistG
namespace Go.Proofs.Yteckbgpkoanhfaa.Hb
open Go.RowKit

theorem add_any (h : H) (base g : Nat) (v1 v2 : Value) (bin t k : Int) (w : World) (hm : HM base g h v1 v2 w) (ho : okH h) (htR : inR t) (hkR : inR k) (hl1 : h.counts.length ≤ 9223372036854775807) (hl2 : h.moms.length ≤ 9223372036854775807) :
    Calls Try.prog 21 #[.pointer (some ⟨g, 0, none⟩), .int .i64 bin, .int .i64 t, .int .i64 k] w (AddP h bin t k base g v1 v2 w) := by
  by_cases hr : rightP h
  · by_cases hb : addBad h bin t
    · exact (add_range h base g v1 v2 bin t k w hm hl1 hl2 hr hb).mono fun e w' ⟨h1, h2⟩ => AddP.err (add_5 hr hb) hm h1 h2
    · by_cases hk : k < 0
      · exact (add_neg h base g v1 v2 bin t k w hm hl1 hl2 hr hb hk).mono fun e w' ⟨h1, h2⟩ => AddP.err (add_1 hr hb hk) hm h1 h2
      · by_cases h0 : h.kind = 0
        · exact add_count h base g v1 v2 bin t k w hm ho hkR hl1 hl2 hr hb hk h0
        · exact add_mom h base g v1 v2 bin t k w hm ho htR hkR hl1 hl2 hr hb hk h0
  · exact (add_bad h base g v1 v2 bin t k w hm hl1 hl2 hr).mono fun e w' ⟨h1, h2⟩ => AddP.err (add_8 hr) hm h1 h2
theorem momO_in {f : Nat} {op : Int → Int → Bool → Except Int Int} (hop : IsOp f op) {x y m : Mom} (h : momO op x y = .ok m) : m.ok := by
  unfold momO at h
  cases h1 : op x.c y.c false with
  | error e1 => rw [h1] at h; cases h
  | ok c =>
    rw [h1] at h; simp only at h
    cases h2 : op x.s y.s true with
    | error e1 => rw [h2] at h; cases h
    | ok s =>
      rw [h2] at h; simp only at h
      cases h3 : op x.q y.q false with
      | error e1 => rw [h3] at h; cases h
      | ok q => rw [h3] at h; cases h; exact ⟨hop.ok h1, hop.ok h2, hop.ok h3⟩
/-- What is behind Add stays within. -/
theorem okH_add {h h' : H} {bin t k : Int} (ho : okH h) (e : addO h bin t k = .ok h') : okH h' := by
  by_cases hr : rightP h
  · by_cases hb : addBad h bin t
    · rw [add_5 hr hb] at e; cases e
    · by_cases hk : k < 0
      · rw [add_1 hr hb hk] at e; cases e
      · by_cases h0 : h.kind = 0
        · rw [add_c hr hb hk h0] at e
          cases hl : lim (h.counts.getD (bin * h.classes + t).toNat 0 + k) with
          | none => rw [hl] at e; cases e
          | some n =>
            rw [hl] at e
            cases e
            have := lim_some hl
            refine ⟨fun x hx => ?_, ho.o2⟩
            rcases List.mem_or_eq_of_mem_set hx with h1 | rfl
            · exact ho.o1 x h1
            · rw [this.1]; exact this.2
        · rw [add_m hr hb hk h0] at e
          cases hm : momentO t k with
          | error e1 => rw [hm] at e; cases e
          | ok m =>
            rw [hm] at e
            simp only at e
            cases hm2 : momO opP (h.moms.getD bin.toNat m0) m with
            | error e1 => rw [hm2] at e; cases e
            | ok m' =>
              rw [hm2] at e
              cases e
              refine ⟨ho.o1, fun x hx => ?_⟩
              rcases List.mem_or_eq_of_mem_set hx with h1 | rfl
              · exact ho.o2 x h1
              · exact momO_in plus_is hm2
  · rw [add_8 hr] at e; cases e
theorem okH_new {k b c : Int} {h : H} (e : newO k b c = .ok h) : okH h := by
  have h0 : inR 0 := ⟨by decide, by decide⟩
  by_cases hm : mayP k b c
  · by_cases hk : k = 0
    · rw [new_0 hm hk] at e; cases e
      exact ⟨fun x hx => by rw [(List.mem_replicate.1 hx).2]; exact h0, fun m hx => by simp at hx⟩
    · rw [new_1 hm hk] at e; cases e
      exact ⟨fun x hx => by simp at hx, fun m hx => by rw [(List.mem_replicate.1 hx).2]; exact ⟨h0, h0, h0⟩⟩
  · rw [new_not hm] at e; cases e
theorem eq_mom (d : Nat) (w : World) (x0 x1 x2 y0 y1 y2 : Int) :
    (Op.equalIn (d + 2) 52 (.agg #[.int .i64 x0, .int .i64 x1, .int .i64 x2]) (.agg #[.int .i64 y0, .int .i64 y1, .int .i64 y2])).run Try.prog w = .ok (x0 == y0 && (x1 == y1 && (x2 == y2 && true))) w := by
  refine eqs_of Try.underlying52 (by kernel_rfl) ?_
  refine eqf_cons (by rfl) (by go_simp; rfl) (by go_simp; rfl) (by go_simp) ?_
  refine eqf_cons (by rfl) (by go_simp; rfl) (by go_simp; rfl) (by go_simp) ?_
  exact eqf_cons (by rfl) (by go_simp; rfl) (by go_simp; rfl) (by go_simp) eqf_nil
def fx0 : H := ⟨1, 2, 0, [], [m0, m0]⟩
def fx1 : H := ⟨1, 2, 0, [], [m0, ⟨2, 6, 18⟩]⟩
theorem fx_new : newO 1 2 0 = .ok fx0 := by rw [new_1 (by decide) (by decide)]; rfl
theorem fx_add : addO fx0 1 3 2 = .ok fx1 := by rw [add_m (by decide) (by decide) (by decide) (by decide)]; rfl
theorem fx_ok : okH fx0 := okH_new fx_new
set_option maxRecDepth 100000 in
set_option maxHeartbeats 4000000 in
theorem fixed12_any (w : World) : Calls Try.prog 16 #[] w fun e w' => e = .returned (.bool true) ∧ Below w.heap.size w w' := by
  have hn := fun w => new_any 1 2 0 w
  rw [fx_new] at hn
  have KN := Lib.hid hn
  clear hn
  go_enter Try.func16, Try.ntmps16
  go_wp2_with fail
  refine (KN.out _).mono ?_
  rintro e w1 ⟨v, rfl, ⟨v1, v2, rfl, r1, r2⟩, hb⟩
  simp only [errO, valO] at r1 r2 ⊢
  obtain ⟨gr, cap, rfl, _, gr1, gr2, _⟩ := own_open r2 (by decide)
  obtain ⟨A1, c1, rfl⟩ := own_slice r1
  go_wp2_with fail
  obtain ⟨W2, e2⟩ : ∃ W2, W2 = w1.alloc (.cells #[.int .i64 fx0.kind, .int .i64 fx0.bins, .int .i64 fx0.classes, .slice A1 fx0.counts.length c1, .slice (some ⟨gr, 0, none⟩) fx0.moms.length cap] 36) := ⟨_, rfl⟩
  rw [← e2]
  have hM : HM w.heap.size w1.heap.size fx0 (.slice A1 fx0.counts.length c1) (.slice (some ⟨gr, 0, none⟩) fx0.moms.length cap) W2 := by
    rw [e2]
    exact ⟨Blk.new _ _ _, r1.alloc _, r2.alloc _⟩
  have bW : Below w.heap.size w W2 := by rw [e2]; exact hb.alloc hb.size _
  obtain ⟨B, hB⟩ : ∃ B, w1.heap.size = B := ⟨_, rfl⟩
  rw [hB] at hM ⊢
  clear e2 r1 r2 hB gr2
  refine (add_any fx0 w.heap.size B _ _ 1 3 2 W2 hM fx_ok (by decide) (by decide) (by decide) (by decide)).mono ?_
  rintro e w3 ⟨row, rfl, hM3, hg3, hrow⟩
  rw [fx_add] at hM3 ⊢
  simp only [errO, valO] at hM3 ⊢
  have b3 : Below w.heap.size w w3 := bW.grown hg3 bW.size (fun k hk => by
    rcases hrow with h | h | h
    · rw [h] at hk; cases hk
    · exact (World.ownsRow.lt hM.r1 k (by rw [← h]; exact hk)).1
    · exact (World.ownsRow.lt hM.r2 k (by rw [← h]; exact hk)).1)
  obtain ⟨q0, q1, q2, q3, q4⟩ := hM3.blk.cells5
  have t1 := own_cell hM3.r2 (j := 3) (u := .int .i64 2) rfl
  have t2 := own_cell hM3.r2 (j := 4) (u := .int .i64 6) rfl
  have t3 := own_cell hM3.r2 (j := 5) (u := .int .i64 18) rfl
  have hq := fun (w : World) x0 x1 x2 y0 y1 y2 => eq_mom 9998 w x0 x1 x2 y0 y1 y2
  clear hM hM3 hg3 hrow
  go_wp2
  go_ret
  exact ⟨rfl, b3⟩
end Go.Proofs.Yteckbgpkoanhfaa.Hb

/- The walk of the law HistBounds. -/
import Derived.Test.YteckbgpkoanhfaaHbHistI
import Derived.Test.YteckbgpkoanhfaaHbRead
namespace Go.Proofs.Yteckbgpkoanhfaa.Hb
open Go.RowKit Go.ChangeShapes Go.WideShapes Go.Deep

/-- What rows of one target come to. -/
def hb (t r : Int) : H := ⟨1, 1, 0, [], [⟨r, r * t, r * t * t⟩]⟩
theorem absmul {a b : Int} {A B : Nat} (ha : a.natAbs ≤ A) (hb : b.natAbs ≤ B) : (a * b).natAbs ≤ A * B := by
  rw [Int.natAbs_mul]; exact Nat.mul_le_mul ha hb
theorem inR_abs {a : Int} (h : a.natAbs ≤ 1152921504606846976) : inR a := ⟨by omega, by omega⟩
theorem hb_right (t r : Int) : rightP (hb t r) := ⟨⟨by simp [hb], by simp [hb], .inr ⟨rfl, rfl⟩⟩, .inr ⟨by simp [hb], rfl, rfl⟩⟩
theorem hb_mom {t r : Int} (ht : t.natAbs ≤ 1048576) (h0 : 0 ≤ r) (h1 : r ≤ 1048576) : Mom.ok ⟨r, r * t, r * t * t⟩ := by
  have hr : r.natAbs ≤ 1048576 := by omega
  have a1 := absmul hr ht
  have a2 := absmul a1 ht
  exact ⟨inR_abs (by show r.natAbs ≤ _; omega), inR_abs (by show (r * t).natAbs ≤ _; omega), inR_abs (by show (r * t * t).natAbs ≤ _; omega)⟩
theorem hb_ok {t r : Int} (ht : t.natAbs ≤ 1048576) (h0 : 0 ≤ r) (h1 : r ≤ 1048576) : okH (hb t r) := by
  refine ⟨by simp [hb], fun m hm => ?_⟩
  rw [show m = ⟨r, r * t, r * t * t⟩ from by simpa [hb] using hm]
  exact hb_mom ht h0 h1
theorem hb_add {t r w : Int} (ht : t.natAbs ≤ 1048576) (h0 : 0 ≤ r) (hw : 0 ≤ w) (h1 : r + w ≤ 1048576) : addO (hb t r) 0 t w = .ok (hb t (r + w)) := by
  have hw' : w.natAbs ≤ 1048576 := by omega
  have a1 := absmul ht hw'
  have a2 := absmul ht a1
  obtain ⟨o1, o2, o3⟩ := hb_mom (r := r + w) ht (by omega) h1
  have e1 : r * t + t * w = (r + w) * t := by rw [Int.add_mul, Int.mul_comm t w]
  have e2 : r * t * t + t * (t * w) = (r + w) * t * t := by rw [Int.add_mul, Int.add_mul, Int.mul_comm t (t * w), Int.mul_comm t w]
  rw [add_m (hb_right t r) (by rintro (h | h | ⟨h, _⟩) <;> simp [hb] at h) (by omega) (by simp [hb])]
  rw [momentO_3 (lim_in (inR_abs (by omega))) (lim_in (inR_abs (by omega)))]
  have hm : momO opP ⟨r, r * t, r * t * t⟩ ⟨w, t * w, t * (t * w)⟩ = .ok ⟨r + w, (r + w) * t, (r + w) * t * t⟩ := by
    refine momO_ok ?_ ?_ ?_
    · unfold opP; rw [lim_in o1]
    · unfold opP; rw [e1, lim_in o2]
    · unfold opP; rw [e2, lim_in o3]
  have hg : (hb t r).moms.getD (Int.toNat 0) m0 = ⟨r, r * t, r * t * t⟩ := rfl
  simp only [hg, hm]
  rfl
theorem hb_new (t : Int) : newO 1 1 0 = .ok (hb t 0) := by
  rw [new_1 (by decide) (by decide)]
  simp [hb, m0]

/-- A slice of numbers of 32 bits, read. -/
def RdU (w : World) (A : Option Addr) (l : List Int) : Prop := (∀ x ∈ l, 0 ≤ x ∧ x ≤ 4294967295) ∧ (l = [] ∨ ∃ ad, A = some ad ∧ ∀ i, i < l.length → w.cell? (ad.add i) = some (.int .u32 (l.getD i 0)))
theorem RdU.below {w w1 : World} {A : Option Addr} {l : List Int} (h : RdU w A l) (hb : Below w.heap.size w w1) : RdU w1 A l :=
  ⟨h.1, h.2.imp id fun ⟨ad, e, hc⟩ => ⟨ad, e, fun i hi => (hb.cell (World.block_lt_of_cell? w _ (hc i hi))).trans (hc i hi)⟩⟩
theorem RdU.at {w : World} {A : Option Addr} {l : List Int} (h : RdU w A l) {k : Nat} (hk : k < l.length) : ∃ ad, A = some ad ∧ ∀ i, i < l.length → w.cell? (ad.add i) = some (.int .u32 (l.getD i 0)) := by
  rcases h.2 with rfl | h
  · simp at hk
  · exact h
theorem RdU.bnd {w : World} {A : Option Addr} {l : List Int} (h : RdU w A l) {k : Nat} (hk : k < l.length) : 0 ≤ l.getD k 0 ∧ l.getD k 0 ≤ 4294967295 := by
  rw [List.getD_eq_getElem?_getD, List.getElem?_eq_getElem hk]
  exact h.1 _ (List.getElem_mem hk)
section
variable {T : Type} {enc : TypeId × Value → T} {W : World} {base : Nat} {sp : Nat → Bool} {held : Bool}
set_option maxRecDepth 100000 in
theorem read_u32s {r : Reach} {b0 : Nat} {v : Value} {d : DataW T} {p : List MemPlace} (hv : Value.okWide Try.prog W r b0 50 v) (h : DataW.Trod enc Try.prog W base sp held 50 v d p) : ∃ A l cap, v = .slice A l.length cap ∧ RdU W A l ∧ l.length ≤ 9223372036854775807 := by
  obtain ⟨sa, sl, sc, rfl⟩ := okWide_slice Try.underlying50 hv
  obtain ⟨fuel, h⟩ := h
  have h : DataW.trod enc Try.prog W base sp held fuel 50 [.slice sa sl sc] = some (d, p) := h
  rcases open_slice1 Try.underlying50 (by kernel_rfl) h with ⟨hc, _⟩ | ⟨a, len, cap, m, n, V, D, Pl, hc, hb, hl, hm, hmm, _, hx⟩
  · cases hc
    exact ⟨none, [], 0, rfl, ⟨by simp, .inl rfl⟩, by simp⟩
  · cases hc
    have hml : sl ≤ m := by rw [hmm]; split <;> omega
    have hv : ∀ i, i < sl → ∃ n, V i = .int .u32 n ∧ 0 ≤ n ∧ n ≤ 4294967295 := fun i hi => by
      obtain ⟨_, h2⟩ := hx i (by omega)
      obtain ⟨z, hz, _, hw⟩ := DataW.trod_int Try.underlying28 h2
      simp only [List.cons.injEq, and_true] at hz
      refine ⟨z, hz, ?_⟩
      simp [Lit.wf, IntKind.min, IntKind.max, IntKind.signed, IntKind.bits] at hw
      omega
    refine ⟨some a, (List.range sl).map fun i => match V i with | .int _ z => z | _ => 0, sc, by simp, ⟨?_, .inr ⟨a, rfl, fun i hi => ?_⟩⟩, by simp; unfold maxLen at hm; omega⟩
    · intro x hx'
      obtain ⟨i, hi, rfl⟩ := List.mem_map.1 hx'
      obtain ⟨z, hz, hw⟩ := hv i (by simpa using hi)
      rw [hz]; exact hw
    · have hi' : i < sl := by simpa using hi
      obtain ⟨z, hz, hw⟩ := hv i hi'
      rw [(hx i (by omega)).1, hz]
      simp [List.getD_eq_getElem?_getD, hi', hz]
end
set_option maxRecDepth 100000 in
set_option maxHeartbeats 4000000 in
theorem bounds_small (t : Int) (A : Option Addr) (l : List Int) (cap : Nat) (w : World) (r : RdU w A l) (hl : l.length ≤ 50) (t1 : t ≤ 1048576) (t2 : -1048576 ≤ t) :
    Calls Try.prog 6 #[.int .i64 t, .slice A l.length cap] w fun e w' => e = .returned (.bool true) ∧ Below w.heap.size w w' := by
  have hn := fun w => new_any 1 1 0 w
  rw [hb_new t] at hn
  have KN := Lib.hid hn
  have R := Lib.hid r
  obtain ⟨n, hnn⟩ : ∃ n, l.length = n := ⟨_, rfl⟩
  have HN := Lib.hid hnn
  rw [hnn] at hl ⊢
  clear hn r hnn
  go_enter Try.func6, Try.ntmps6
  go_wp2_with fail
  refine (KN.out _).mono ?_
  rintro e w1 ⟨v, rfl, ⟨v1, v2, rfl, r1, r2⟩, hb1⟩
  simp only [errO, valO] at r1 r2 ⊢
  obtain ⟨gr, cap1, rfl, _, gr1, gr2, _⟩ := own_open r2 (by simp [hb])
  obtain ⟨A1, c1, rfl⟩ := own_slice r1
  go_wp2_with fail
  obtain ⟨W2, e2⟩ : ∃ W2, W2 = w1.alloc (.cells #[.int .i64 (hb t 0).kind, .int .i64 (hb t 0).bins, .int .i64 (hb t 0).classes, .slice A1 (hb t 0).counts.length c1, .slice (some ⟨gr, 0, none⟩) (hb t 0).moms.length cap1] 36) := ⟨_, rfl⟩
  rw [← e2]
  have hM : HM w.heap.size w1.heap.size (hb t 0) (.slice A1 (hb t 0).counts.length c1) (.slice (some ⟨gr, 0, none⟩) (hb t 0).moms.length cap1) W2 := by
    rw [e2]
    exact ⟨Blk.new _ _ _, r1.alloc _, r2.alloc _⟩
  have bW : Below w.heap.size w W2 := by rw [e2]; exact hb1.alloc hb1.size _
  obtain ⟨B, hB⟩ : ∃ B, w1.heap.size = B := ⟨_, rfl⟩
  obtain ⟨v1, hv1⟩ : ∃ v1, Value.slice A1 (hb t 0).counts.length c1 = v1 := ⟨_, rfl⟩
  obtain ⟨v2, hv2⟩ : ∃ v2, Value.slice (some ⟨gr, 0, none⟩) (hb t 0).moms.length cap1 = v2 := ⟨_, rfl⟩
  have HV2 := Lib.hid hv2
  rw [hv1, hv2] at hM ⊢
  rw [hB] at hM ⊢
  have HM0 := Lib.hid hM
  have ht : t.natAbs ≤ 1048576 := by omega
  have htR : inR t := ⟨by omega, by omega⟩
  clear e2 r1 r2 hB gr2 hv1 hv2 hb1 hM KN
  have stepA : ∀ (r x : Int) (W : World), 0 ≤ r → 0 ≤ x → r + x ≤ 1048576 → HM w.heap.size B (hb t r) v1 v2 W → Below w.heap.size w W → Calls Try.prog 21 #[.pointer (some ⟨B, 0, none⟩), .int .i64 0, .int .i64 t, .int .i64 x] W fun e w' => e = .returned (.int .i64 0) ∧ HM w.heap.size B (hb t (r + x)) v1 v2 w' ∧ Below w.heap.size w w' := by
    intro r x W h0 hx h1 hM hW
    refine (add_any (hb t r) w.heap.size B v1 v2 0 t x W hM (hb_ok ht h0 (by omega)) htR ⟨by omega, by omega⟩ (by simp [hb]) (by simp [hb])).mono ?_
    rintro e w3 ⟨row, rfl, hM3, hg3, hrow⟩
    rw [hb_add ht h0 hx h1] at hM3 ⊢
    refine ⟨rfl, hM3, hW.grown hg3 hW.size (fun k hk => ?_)⟩
    rcases hrow with h | h | h
    · rw [h] at hk; cases hk
    · exact (World.ownsRow.lt hM.r1 k (by rw [← h]; exact hk)).1
    · exact (World.ownsRow.lt hM.r2 k (by rw [← h]; exact hk)).1
  have SA := Lib.hid stepA
  clear stepA
  go_loopw [31, 7] (fun iv rv wr => ∃ (k : Nat) (r : Int), k ≤ n ∧ iv = .int .i64 k ∧ rv = .int .i64 r ∧ 0 ≤ r ∧ r ≤ 1048576 ∧ Hid (HM w.heap.size B (hb t r) v1 v2 wr) ∧ Below w.heap.size w wr) (fun iv _ _ => n - (intOf iv).toNat)
  case atStart => exact ⟨0, 0, Nat.zero_le _, rfl, rfl, Int.le_refl _, by omega, HM0, bW⟩
  case round =>
    obtain ⟨k, r, hk, rfl, rfl, h0, h1, hM, hW⟩ := hrel
    by_cases hlt : k < n
    · obtain ⟨ad, rfl, ha⟩ := (R.out.below hW).at (k := k) (by rw [HN.out]; exact hlt)
      have y1 := ha k (by rw [HN.out]; exact hlt)
      obtain ⟨x1, x2⟩ := R.out.bnd (k := k) (by rw [HN.out]; exact hlt)
      obtain ⟨x, hx⟩ : ∃ x, l.getD k 0 = x := ⟨_, rfl⟩
      rw [hx] at y1 x1 x2
      have hlt' : (k : Int) < n := by omega
      have ww : IntKind.i64.wrap x = x := by rw [IntKind.wrap_i64]; omega
      obtain ⟨d, hd⟩ : ∃ d, (1048577 : Int) - r = d := ⟨_, rfl⟩
      have wd : IntKind.i64.wrap d = d := by rw [IntKind.wrap_i64]; omega
      obtain ⟨y, hy⟩ : ∃ y, x.tmod d = y := ⟨_, rfl⟩
      have y0 : 0 ≤ y ∧ y < d := by
        rw [← hy]; exact ⟨Int.tmod_nonneg d x1, Int.tmod_lt_of_pos x (by omega)⟩
      have wy : IntKind.i64.wrap y = y := by rw [IntKind.wrap_i64]; omega
      have d0 : ¬ d = 0 := by omega
      have d0' : (d == 0) = false := beq_eq_false_iff_ne.2 d0
      have wr' : IntKind.i64.wrap (r + y) = r + y := by rw [IntKind.wrap_i64]; omega
      obtain ⟨y2, y3⟩ := y0
      have ry : r + y ≤ 1048576 := by omega
      clear ha hx
      go_wp2_with (go_at_call 21; refine (SA.out r y _ h0 y2 ry hM.out hW).mono ?_; rintro e w3 ⟨rfl, hM3, hW3⟩; have HM3 := Lib.hid hM3; clear hM3)
      exact ⟨⟨k + 1, r + y, hlt, by go_num, rfl, by omega, ry, HM3, hW3⟩, by simp [intOf]; omega⟩
    · obtain rfl : k = n := by omega
      obtain ⟨d, hd⟩ : ∃ d, (1048576 : Int) - r = d := ⟨_, rfl⟩
      have wd : IntKind.i64.wrap d = d := by rw [IntKind.wrap_i64]; omega
      have d0 : 0 ≤ d := by omega
      have rd : r + d ≤ 1048576 := by omega
      have rM : r + d = 1048576 := by omega
      have a1 := absmul (a := 1048576) (A := 1048576) (by omega) ht
      have a2 := absmul a1 ht
      have m1 : IntKind.i64.wrap (1048576 * t) = 1048576 * t := by rw [IntKind.wrap_i64]; omega
      have m2 : IntKind.i64.wrap (1048576 * t * t) = 1048576 * t * t := by rw [IntKind.wrap_i64]; omega
      have hq := fun (w : World) x0 x1 x2 y0 y1 y2 => eq_mom 9998 w x0 x1 x2 y0 y1 y2
      have RM := Lib.hid rM
      have Hv := HV2.out
      subst Hv
      clear hlt a1 a2 ht htR rM
      go_wp2_with (first
        | (go_at_call 21; refine (SA.out r d _ h0 d0 rd hM.out hW).mono ?_; rintro e w3 ⟨rfl, hM3, hW3⟩; rw [RM.out] at hM3)
        | (go_at_call 16; refine (fixed12_any _).mono ?_; rintro e w4 ⟨rfl, hb4⟩; have hM4 := hM3.below hb4; obtain ⟨q0, q1, q2, q3, q4⟩ := hM4.blk.cells5; have c1 := own_cell hM4.r2 (j := 0) (u := .int .i64 1048576) rfl; have c2 := own_cell hM4.r2 (j := 1) (u := .int .i64 (1048576 * t)) rfl; have c3 := own_cell hM4.r2 (j := 2) (u := .int .i64 (1048576 * t * t)) rfl; clear hM4))
      go_ret
      exact ⟨rfl, hW3.trans (hb4.mono hW3.size)⟩
set_option maxRecDepth 100000 in
set_option maxHeartbeats 4000000 in
theorem bounds_big (t : Int) (A : Option Addr) (n cap : Nat) (w : World) (h : 1048576 < t ∨ (t ≤ 1048576 ∧ t < -1048576) ∨ (t ≤ 1048576 ∧ -1048576 ≤ t ∧ 50 < n)) (hn : n ≤ 9223372036854775807) :
    Calls Try.prog 6 #[.int .i64 t, .slice A n cap] w fun e w' => e = .returned (.bool true) ∧ Below w.heap.size w w' := by
  rcases h with x1 | ⟨x1, x2⟩ | ⟨x1, x2, x3⟩
  · have d1 : decide (1048576 < t) = true := decide_eq_true x1
    go_enter Try.func6, Try.ntmps6
    go_wp2_with (go_at_call 16; refine (fixed12_any _).mono ?_; rintro e w4 ⟨rfl, hb4⟩)
    go_ret
    exact ⟨rfl, hb4⟩
  · have d1 : decide (1048576 < t) = false := decide_eq_false (by omega)
    have d2 : decide (t < -1048576) = true := decide_eq_true x2
    go_enter Try.func6, Try.ntmps6
    go_wp2_with (go_at_call 16; refine (fixed12_any _).mono ?_; rintro e w4 ⟨rfl, hb4⟩)
    go_ret
    exact ⟨rfl, hb4⟩
  · have d1 : decide (1048576 < t) = false := decide_eq_false (by omega)
    have d2 : decide (t < -1048576) = false := decide_eq_false (by omega)
    have d3 : decide (50 < (n : Int)) = true := decide_eq_true (by omega)
    go_enter Try.func6, Try.ntmps6
    go_wp2_with (go_at_call 16; refine (fixed12_any _).mono ?_; rintro e w4 ⟨rfl, hb4⟩)
    go_ret
    exact ⟨rfl, hb4⟩
theorem bounds_any (w : World) (t : Int) (_ : (Lit.int .i64 t).wf = true) (v : Value) (r : ∃ A l cap, v = .slice A l.length cap ∧ RdU w A l ∧ l.length ≤ 9223372036854775807) :
    Calls Try.prog 6 #[.int .i64 t, v] w fun e w' => e = .returned (.bool true) ∧ Below w.heap.size w w' := by
  obtain ⟨A, l, cap, rfl, r, hl⟩ := r
  by_cases h : 1048576 < t ∨ (t ≤ 1048576 ∧ t < -1048576) ∨ (t ≤ 1048576 ∧ -1048576 ≤ t ∧ 50 < l.length)
  · exact bounds_big t A l.length cap w h hl
  · exact bounds_small t A l cap w r (by omega) (by omega) (by omega)
end Go.Proofs.Yteckbgpkoanhfaa.Hb

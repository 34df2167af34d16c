/- The walks of layer hist: Add of classes. -/
import Derived.Test.YteckbgpkoanhfaaHbHistE
namespace Go.Proofs.Yteckbgpkoanhfaa.Hb
open Go.RowKit

theorem own_other {w : World} {base base' : Nat} {e e' : TypeId} {size size' n n' g i c : Nat} {v u : Value} {xs xs' : List Value} (h : w.ownsRow base e size v n xs) (h2 : w.ownsRow base' e' size' (.slice (some ⟨g, 0, none⟩) n' c) n' xs') (hte : e' ≠ e) : (w.setCell ⟨g, i, none⟩ u).ownsRow base e size v n xs := by
  rcases h2.2 with ⟨h', _⟩ | ⟨g', cap', cur, h', hb, hg, _⟩
  · simp at h'
  · simp only [Value.slice.injEq, Option.some.injEq, Addr.mk.injEq, and_true, true_and] at h'
    obtain ⟨rfl, rfl⟩ := h'
    exact own_set h hg hte
theorem own_cell {w : World} {base : Nat} {e : TypeId} {size n g c : Nat} {xs : List Value} (h : w.ownsRow base e size (.slice (some ⟨g, 0, none⟩) n c) n xs) {j : Nat} {u : Value} (hj : xs[j]? = some u) : w.cell? ⟨g, j, none⟩ = some u := by
  have := World.ownsRow.cells h (g := g) rfl j u hj
  rw [show (⟨g, 0, none⟩ : Addr).add j = ⟨g, j, none⟩ from by unfold Addr.add; split <;> simp_all] at this
  exact this
theorem row_ne {w : World} {base' : Nat} {e' t : TypeId} {size' n' g gb c : Nat} {cs : Array Value} {xs' : List Value} (hb : Blk w gb cs t) (h2 : w.ownsRow base' e' size' (.slice (some ⟨g, 0, none⟩) n' c) n' xs') (hte : e' ≠ t) : gb ≠ g := by
  rintro rfl
  rcases h2.2 with ⟨h', _⟩ | ⟨g', cap', cur, h', _, hg, _⟩
  · simp at h'
  · simp only [Value.slice.injEq, Option.some.injEq, Addr.mk.injEq, and_true, true_and] at h'
    obtain ⟨rfl, rfl⟩ := h'
    have := (show w.heap[gb]? = _ from hb).symm.trans hg
    simp at this
    exact hte this.2.symm
/-- The numbers of a histogram are within. -/
structure okH (h : H) : Prop where
  o1 : ∀ x ∈ h.counts, inR x
  o2 : ∀ m ∈ h.moms, m.ok
theorem below_row {w w1 w2 : World} {row : Option Nat} (hb : Below w.heap.size w w1) (hg : w1.grownBy w2 row) : w.grownBy w2 row :=
  ⟨hg.os.trans hb.os, hg.tape.trans hb.tape, hg.output.trans hb.output, Nat.le_trans hb.size hg.size, fun k hk hne => (hg.block k (Nat.lt_of_lt_of_le hk hb.size) hne).trans (hb.block k hk)⟩
/-- What Add answers, and what it leaves. -/
def AddP (h : H) (bin t k : Int) (base g : Nat) (v1 v2 : Value) (w : World) (e : Ending) (w' : World) : Prop :=
  ∃ row, e = .returned (.int .i64 (errO (addO h bin t k))) ∧ HM base g (valO h (addO h bin t k)) v1 v2 w' ∧ w.grownBy w' row ∧ (row = none ∨ row = v1.ownBlock ∨ row = v2.ownBlock)
theorem AddP.err {h : H} {bin t k : Int} {base g : Nat} {v1 v2 : Value} {w w' : World} {e : Ending} {x : Int} (hx : addO h bin t k = .error x) (hm : HM base g h v1 v2 w) (h1 : e = .returned (.int .i64 x)) (hb : Below w.heap.size w w') : AddP h bin t k base g v1 v2 w e w' := by
  refine ⟨none, ?_, ?_, ⟨hb.os, hb.tape, hb.output, hb.size, fun k hk _ => hb.block k hk⟩, .inl rfl⟩
  · rw [hx, h1]; rfl
  · rw [hx]; exact hm.below hb
theorem ints_set (l : List Int) (i : Nat) (x : Int) : (ints l).set i (.int .i64 x) = ints (l.set i x) := by simp [ints]

set_option maxRecDepth 100000 in
set_option maxHeartbeats 4000000 in
theorem add_count (h : H) (base g : Nat) (v1 v2 : Value) (bin t k : Int) (w : World) (hm : HM base g h v1 v2 w) (ho : okH h) (hkR : inR k) (hl1 : h.counts.length ≤ 9223372036854775807) (hl2 : h.moms.length ≤ 9223372036854775807) (hr : rightP h) (hbad : ¬ addBad h bin t) (hk : ¬ k < 0) (h0 : h.kind = 0) :
    Calls Try.prog 21 #[.pointer (some ⟨g, 0, none⟩), .int .i64 bin, .int .i64 t, .int .i64 k] w (AddP h bin t k base g v1 v2 w) := by
  have hadd := add_c hr hbad hk h0
  obtain ⟨A1, c1, rfl⟩ := own_slice hm.r1
  obtain ⟨A2, c2, rfl⟩ := own_slice hm.r2
  have ra := fun w => right_any h A1 A2 c1 c2 w hl1 hl2
  rw [show rightB h = true from decide_eq_true hr] at ra
  unfold hV at ra
  obtain ⟨y1, y2, z1, z2⟩ := may_le hr.1
  have zw : IntKind.i64.wrap h.classes = h.classes := by rw [IntKind.wrap_i64]; omega
  have x1 : ¬ bin < 0 := fun e => hbad (.inl e)
  have x2 : ¬ bin ≥ h.bins := fun e => hbad (.inr (.inl e))
  have k0 : (h.kind == 0) = true := beq_iff_eq.2 h0
  have x3 : ¬ t < 0 := fun e => hbad (.inr (.inr ⟨h0, .inl e⟩))
  have x4 : ¬ t ≥ h.classes := fun e => hbad (.inr (.inr ⟨h0, .inr e⟩))
  have hlen : (h.counts.length : Int) = h.bins * h.classes := by rcases hr.2 with ⟨_, e, _⟩ | ⟨e, _⟩ <;> first | exact e | exact absurd h0 e
  obtain ⟨P, hP⟩ : ∃ P : Nat, bin * h.classes = P := ⟨(bin * h.classes).toNat, by have := Int.mul_nonneg (show 0 ≤ bin by omega) z1; omega⟩
  have hPB : (P : Int) + h.classes ≤ h.bins * h.classes := by
    have := Int.mul_le_mul_of_nonneg_right (show bin + 1 ≤ h.bins by omega) z1
    rw [Int.add_mul, hP] at this
    omega
  obtain ⟨tn, rfl⟩ : ∃ tn : Nat, t = tn := ⟨t.toNat, by omega⟩
  obtain ⟨n, hn⟩ : ∃ n, h.counts.length = n := ⟨_, rfl⟩
  have hlt : P + tn < n := by omega
  have hti : (P : Int) + (tn : Int) = ((P + tn : Nat) : Int) := by omega
  obtain ⟨at', hat⟩ : ∃ q, P + tn = q := ⟨_, rfl⟩
  rw [hat] at hti hlt
  have hat2 : (bin * h.classes + (tn : Int)).toNat = at' := by rw [hP, hti]; rfl
  rw [hat2] at hadd
  obtain ⟨x, hx⟩ : ∃ x, h.counts.getD at' 0 = x := ⟨_, rfl⟩
  rw [hx] at hadd
  have hxm : h.counts[at']? = some x := by
    rw [List.getD_eq_getElem?_getD] at hx
    rw [List.getElem?_eq_getElem (by omega)] at hx ⊢
    simpa using hx
  have hxR : inR x := ho.o1 x (List.mem_of_getElem? hxm)
  have hp := fun w => pplus_any x k hxR hkR w
  have hn257 : n ≤ 65792 := by have := right_small hr; omega
  obtain ⟨gr, cap, hv, _, _, _, _⟩ := own_open hm.r1 (by omega)
  simp only [Value.slice.injEq, true_and] at hv
  obtain ⟨rfl, -⟩ := hv
  have HADD := Lib.hid hadd
  have HLEN := Lib.hid hlen
  have HX := Lib.hid hxm
  have RA := Lib.hid ra
  have HR := Lib.hid hr
  have hn1 : (at' : Int) < n := by omega
  rw [hn] at RA
  have HM0 := Lib.hid hm
  have qb := hm.blk
  rw [hn] at qb
  obtain ⟨p0, p1, p2, p3, p4⟩ := qb.cells5
  have x5 : ¬ h.bins ≤ bin := by omega
  have x6 : ¬ h.classes ≤ (tn : Int) := by omega
  have d1 : decide (bin < 0) = false := decide_eq_false x1
  have d2 : decide (h.bins ≤ bin) = false := decide_eq_false x5
  have d3 : decide ((tn : Int) < 0) = false := decide_eq_false x3
  have d4 : decide (h.classes ≤ (tn : Int)) = false := decide_eq_false x6
  clear hm qb hadd hlen hxm hx hat2 hPB ra hr hbad h0 hl1 hl2 ho hkR hxR x2 x4
  cases hlim : lim (x + k) with
  | none =>
    rw [hlim] at hp HADD
    have HP := Lib.hid hp
    clear hp hlim
    go_enter Try.func21, Try.ntmps21
    go_wp2_with (first
      | (go_at_call 20; refine (RA.out _).mono ?_; rintro e w1 ⟨rfl, hb⟩; have hm1 := HM0.out.below hb; have qb := hm1.blk; rw [hn] at qb; obtain ⟨q0, q1, q2, q3, q4⟩ := qb.cells5; have rr := own_cell hm1.r1 (j := at') (u := .int .i64 x) (by have := HX.out; simp [ints, this]); have rn := row_ne hm1.blk hm1.r1 (by decide); have fr := fun i => World.ownsRow.frozenAt hm1.r1 i; have HM1 := Lib.hid hm1; clear hm1 qb)
      | (go_at_call 45; refine (HP.out _).mono ?_; rintro e w2 ⟨rfl, rfl⟩; simp only [res]))
    go_ret
    exact AddP.err HADD.out HM0.out rfl hb
  | some y =>
    rw [hlim] at hp HADD
    have HP := Lib.hid hp
    clear hp hlim
    have e0 : ((0 : Int) == 0) = true := rfl
    go_enter Try.func21, Try.ntmps21
    go_wp2_with (first
      | (go_at_call 20; refine (RA.out _).mono ?_; rintro e w1 ⟨rfl, hb⟩; have hm1 := HM0.out.below hb; have qb := hm1.blk; rw [hn] at qb; obtain ⟨q0, q1, q2, q3, q4⟩ := qb.cells5; have rr := own_cell hm1.r1 (j := at') (u := .int .i64 x) (by have := HX.out; simp [ints, this]); have rn := row_ne hm1.blk hm1.r1 (by decide); have fr := fun i => World.ownsRow.frozenAt hm1.r1 i; have HM1 := Lib.hid hm1; clear hm1 qb)
      | (go_at_call 45; refine (HP.out _).mono ?_; rintro e w2 ⟨rfl, rfl⟩; simp only [res]))
    go_ret
    have hst := World.ownsRow.stored HM1.out.r1 at' (.int .i64 y)
    refine ⟨some gr, by rw [HADD.out]; rfl, ?_, below_row hb hst.2, .inr (.inl rfl)⟩
    rw [HADD.out]
    refine ⟨?_, ?_, ?_⟩
    · exact HM1.out.blk.other (p := ⟨gr, at', none⟩) rn _
    · have := hst.1
      rw [ints_set] at this
      simpa [valO] using this
    · exact own_other HM1.out.r2 HM1.out.r1 (by decide)
end Go.Proofs.Yteckbgpkoanhfaa.Hb

/- The walks of walk.steps, walk.Place and ref20.Place. -/
import Derived.Test.YtbhikceekldenaaHbNode3
import Derived.RangeFuncNested
import Derived.RangeFuncBound
import Derived.RangeFuncCalls
import Derived.RangeFuncLeaves
import Derived.Shelf.Abstract
import Derived.Shelf.RegionOpen
import Derived.OwnWalkIn
import Derived.TacticsInMore
import Derived.LoopNIn
import Derived.LoopIn
import Derived.Maps.AppendAt
import Derived.RangeFuncBox
import Derived.Test.YtbhikceekldenaaHbRound
namespace Go.Proofs.Ytbhikceekldenaa.Hb
set_option linter.unusedVariables false
set_option linter.unusedSimpArgs false
open Go.RowKit Go.Shelf
attribute [local go_sem] Oper.semAt_some

/-- The places to which a walk comes. -/
def pathGo (t : List Nd) (row : List Int) : Nat → Int → List Int
  | 0, _ => []
  | k + 1, a => if a < 0 ∨ (t.length : Int) ≤ a then [] else a :: (if (ndAt t a).f < 0 ∨ (row.length : Int) ≤ (ndAt t a).f then [] else pathGo t row k (nextAt row (ndAt t a)))
theorem path_none {t : List Nd} {row : List Int} : ∀ (k : Nat) (a : Int), (∀ x ∈ pathGo t row k a, (ndAt t x).f ≠ -1) → placeGo t row k a = -1
  | 0, _, _ => rfl
  | k + 1, a, h => by
    unfold pathGo at h
    by_cases h1 : a < 0 ∨ (t.length : Int) ≤ a
    · exact place_out h1
    · rw [if_neg h1] at h
      have h2 := h a (List.mem_cons_self ..)
      by_cases h3 : (ndAt t a).f < 0 ∨ (row.length : Int) ≤ (ndAt t a).f
      · exact place_off h1 h2 h3
      · rw [place_go h1 h2 h3]
        rw [if_neg h3] at h
        exact path_none k _ (fun x hx => h x (List.mem_cons_of_mem _ hx))
theorem path_leaf {t : List Nd} {row : List Int} : ∀ (k : Nat) (a x : Int) (pre : List Int), (pre ++ [x]) <+: pathGo t row k a → (∀ y ∈ pre, (ndAt t y).f ≠ -1) → (ndAt t x).f = -1 → placeGo t row k a = x
  | 0, _, x, pre, h, _, _ => by
    unfold pathGo at h
    have := List.prefix_nil.1 h
    simp at this
  | k + 1, a, x, pre, h, hp, hx => by
    unfold pathGo at h
    by_cases h1 : a < 0 ∨ (t.length : Int) ≤ a
    · rw [if_pos h1] at h
      have := List.prefix_nil.1 h
      simp at this
    · rw [if_neg h1] at h
      cases pre with
      | nil =>
        obtain ⟨r, hr⟩ := h
        simp only [List.nil_append, List.cons_append, List.cons.injEq] at hr
        obtain ⟨rfl, _⟩ := hr
        exact place_leaf h1 hx
      | cons y pre =>
        obtain ⟨r, hr⟩ := h
        simp only [List.cons_append, List.cons.injEq] at hr
        have h2 := hp y (List.mem_cons_self ..)
        rw [hr.1] at h2
        by_cases h3 : (ndAt t a).f < 0 ∨ (row.length : Int) ≤ (ndAt t a).f
        · rw [if_pos h3] at hr
          have := hr.2
          simp at this
        · rw [if_neg h3] at hr
          rw [place_go h1 h2 h3]
          exact path_leaf k _ x pre ⟨r, by simpa using hr.2⟩ (fun z hz => hp z (List.mem_cons_of_mem _ hz)) hx
/-- A place of a tree. -/
abbrev Plc (n : Nat) := { x : Nat // x < n }
theorem path_out {t : List Nd} {row : List Int} {k : Nat} {a : Int} (h : a < 0 ∨ (t.length : Int) ≤ a) : pathGo t row k a = [] := by
  cases k with
  | zero => rfl
  | succ k => rw [pathGo, if_pos h]
theorem path_off {t : List Nd} {row : List Int} {k : Nat} {a : Int} (h : ¬ (a < 0 ∨ (t.length : Int) ≤ a)) (h3 : (ndAt t a).f < 0 ∨ (row.length : Int) ≤ (ndAt t a).f) : pathGo t row (k + 1) a = [a] := by rw [pathGo, if_neg h, if_pos h3]
theorem path_go {t : List Nd} {row : List Int} {k : Nat} {a : Int} (h : ¬ (a < 0 ∨ (t.length : Int) ≤ a)) (h3 : ¬ ((ndAt t a).f < 0 ∨ (row.length : Int) ≤ (ndAt t a).f)) : pathGo t row (k + 1) a = a :: pathGo t row k (nextAt row (ndAt t a)) := by rw [pathGo, if_neg h, if_neg h3]
theorem path_head {t : List Nd} {row : List Int} {k : Nat} {a : Int} (h : ¬ (a < 0 ∨ (t.length : Int) ≤ a)) : [a] <+: pathGo t row (k + 1) a := by
  rw [pathGo, if_neg h]
  exact ⟨_, rfl⟩
/-- What the iterator reads. -/
structure StepP (t : List Nd) (row : List Int) (At Ar : Option Addr) (ct cr : Nat) (B1 B2 : Nat) (w : World) : Prop where
  b1 : w.cell? ⟨B1, 0, none⟩ = some (.slice At t.length ct)
  b2 : w.cell? ⟨B2, 0, none⟩ = some (.slice Ar row.length cr)
  rt : RN w At t
  rr : RI1 w Ar row
  l1 : B1 < w.heap.size
  l2 : B2 < w.heap.size
theorem StepP.below {t : List Nd} {row : List Int} {At Ar : Option Addr} {ct cr : Nat} {B1 B2 : Nat} {w w' : World} (h : StepP t row At Ar ct cr B1 B2 w) (hb : Below w.heap.size w w') : StepP t row At Ar ct cr B1 B2 w' :=
  ⟨(hb.cell (p := ⟨B1, 0, none⟩) h.l1).trans h.b1, (hb.cell (p := ⟨B2, 0, none⟩) h.l2).trans h.b2, h.rt.below hb, h.rr.below hb, Nat.lt_of_lt_of_le h.l1 hb.size, Nat.lt_of_lt_of_le h.l2 hb.size⟩
theorem wrap_64 (x : Int) : IntKind.i64.wrap x = wrap64 x := by rw [IntKind.wrap_i64]; unfold wrap64; omega
def valL {n : Nat} (l : List (Plc n)) : List Int := l.map fun x => ((x.1 : Nat) : Int)
theorem valL_snoc {n : Nat} (l : List (Plc n)) (x : Plc n) : valL (l ++ [x]) = valL l ++ [((x.1 : Nat) : Int)] := by simp [valL]
set_option maxRecDepth 100000 in
set_option maxHeartbeats 4000000 in
theorem steps1_in (m : Nat) (hm : 1 ≤ m) (l B1 B2 : Nat) (t : List Nd) (row : List Int) (At Ar : Option Addr) (ct cr : Nat) (ht : t.length ≤ 1099511627776) (hrl : row.length ≤ 1099511627776)
    (w0 : World) (hS : StepP t row At Ar ct cr B1 B2 w0)
    (J Jx : List (Plc t.length) → World → Prop)
    (nJ : Nat) (hJ : AbidesFrom nJ J)
    (hY : ∀ pre x W, J pre W → pre.length < t.length → YieldAt Fence.wide (m - 1) Try.prog l #[.int .i64 (x.1 : Nat)] W fun e W' =>
      (e = .returned (.bool true) ∧ J (pre ++ [x]) W' ∧ Below w0.heap.size W W') ∨ (e = .returned (.bool false) ∧ Jx (pre ++ [x]) W'))
    (W : World) (hW : Below w0.heap.size w0 W) (h0 : J [] W) :
    CallsIn Fence.wide m Try.prog 107 #[.func (.yield l) #[] #[], .pointer (some ⟨B1, 0, none⟩), .pointer (some ⟨B2, 0, none⟩)] W fun e W' => (∃ v, e = .returned v) ∧
      ((∃ ys : List (Plc t.length), valL ys = pathGo t row t.length 0 ∧ J ys W') ∨ (∃ pre : List (Plc t.length), valL pre <+: pathGo t row t.length 0 ∧ Jx pre W')) := by
  obtain ⟨n, hn⟩ : ∃ n, t.length = n := ⟨_, rfl⟩
  obtain ⟨r, hr⟩ : ∃ r, row.length = r := ⟨_, rfl⟩
  have HN := Lib.hid hn
  have HRL := Lib.hid hr
  have hS0 := hS.below hW
  have HS := Lib.hid hS
  have q1 := hS0.b1
  rw [hn] at q1
  obtain ⟨P, hP⟩ : ∃ P, pathGo t row t.length 0 = P := ⟨_, rfl⟩
  have HP : Hid (pathGo t row n 0 = P) := Lib.hid (by rw [← hn]; exact hP)
  rw [hP]
  have hn2 : n ≤ 1099511627776 := by omega
  have hr2 : r ≤ 1099511627776 := by omega
  have HY := Lib.hid hY
  have HJ := Lib.hid hJ
  have HW := Lib.hid hW
  have H0 := Lib.hid h0
  clear hP hr hS hS0 hY hJ hW h0 ht hrl hn
  refine callsIn_of_wp Try.func107 rfl trivial ?_ rfl
  simp only [Try.ntmps107, List.size_toArray, List.length_cons, List.length_nil, Nat.reduceAdd, Nat.reduceSub, Array.replicate_succ, Array.replicate_zero, List.push_toArray, List.append_toArray, List.nil_append, List.cons_append]
  gi_wp2
  gi_loopw [4, 8] (fun av iv wr => ∃ (k : Nat) (a : Int) (pre : List (Plc t.length)), k ≤ n ∧ iv = .int .i64 k ∧ av = .int .i64 a ∧ J pre wr ∧ Hid (Below w0.heap.size w0 wr ∧ valL pre ++ pathGo t row (n - k) a = P ∧ pre.length = k)) (fun _ iv _ => n - (intOf iv).toNat)
  case atStart => exact ⟨0, 0, [], Nat.zero_le _, rfl, rfl, H0.out, Lib.hid ⟨HW.out, by rw [Nat.sub_zero]; exact HP.out, rfl⟩⟩
  case round =>
    obtain ⟨k, a, pre, hk, rfl, rfl, hJ, HI⟩ := hrel
    have hSw := HS.out.below HI.out.1
    have q1' := hSw.b1
    have q2' := hSw.b2
    rw [HN.out] at q1'
    rw [HRL.out] at q2'
    by_cases hlt : k < n
    · have hlt' : (k : Int) < n := by omega
      by_cases hout : a < 0 ∨ (n : Int) ≤ a
      · have hfin : Hid (valL pre = P) := Lib.hid (by
          have := HI.out.2.1
          rwa [path_out (by rw [HN.out]; exact hout), List.append_nil] at this)
        rcases hout with ho | ho
        · have d1 : decide (a < 0) = true := decide_eq_true ho
          gi_wp2
          refine ⟨fun _ h => (by cases h), ?_⟩
          gi_wp2
          refine bodyPost_ret (results_none rfl _ _ _) rfl ?_
          exact ⟨⟨_, rfl⟩, .inl ⟨pre, hfin.out, hJ⟩⟩
        · have d1 : decide (a < 0) = false := decide_eq_false (by omega)
          have d2 : decide ((n : Int) ≤ a) = true := decide_eq_true ho
          gi_wp2
          refine ⟨fun _ h => (by cases h), ?_⟩
          gi_wp2
          refine bodyPost_ret (results_none rfl _ _ _) rfl ?_
          exact ⟨⟨_, rfl⟩, .inl ⟨pre, hfin.out, hJ⟩⟩
      · obtain ⟨c, hc⟩ := Int.eq_ofNat_of_zero_le (show 0 ≤ a by omega)
        have hcn : c < t.length := by rw [HN.out]; omega
        obtain ⟨fn, tmps, assign, body, hy, hR⟩ := HY.out pre ⟨c, hcn⟩ wr hJ (by rw [HI.out.2.2, HN.out]; exact hlt)
        dsimp only at hy
        subst hc
        have d1 : decide ((c : Int) < 0) = false := decide_eq_false (by omega)
        have d2 : decide ((n : Int) ≤ (c : Int)) = false := decide_eq_false (by omega)
        have d3 : decide (n ≤ c) = false := decide_eq_false (by omega)
        clear hJ q2'
        gi_wp2
        refine hR.mono ?_
        rintro e W3 (⟨rfl, hJ3, hk3⟩ | ⟨rfl, hJx3⟩)
        · have hb3 := HI.out.1.trans hk3
          have hSw3 := HS.out.below hb3
          have q1 := hSw3.b1
          have q2 := hSw3.b2
          rw [HN.out] at q1
          rw [HRL.out] at q2
          obtain ⟨ad, rfl, x, hx, hxok, hat⟩ := hSw3.rt.at (i := c) hcn
          have hnd : Hid (ndAt t (c : Int) = x) := Lib.hid (by
            have := ndAt_get (t := t) (a := (c : Int)) (by omega) (by omega)
            rw [Int.toNat_natCast, hx] at this
            exact (Option.some.inj this).symm)
          have hJ4 := fun o => HJ.out _ _ _ none hJ3 (World.grownBy_alloc W3 o none) (fun r h => by cases h)
          have hB4 : Hid (∀ o, Below w0.heap.size w0 (W3.alloc o)) := Lib.hid (fun o => hb3.alloc hb3.size o)
          have hpre : Hid (valL (pre ++ [⟨c, hcn⟩]) = valL pre ++ [(c : Int)]) := Lib.hid (valL_snoc _ _)
          have HXO := Lib.hid hxok
          have HJ4 := Lib.hid hJ4
          have HRR := Lib.hid hSw3.rr
          obtain ⟨p0, p1, p2, p3, p4, p5⟩ := hat
          have l1 := hSw3.l1
          have l2 := hSw3.l2
          have hB1 : B1 < W3.heap.size := l1
          have hB2 : B2 < W3.heap.size := l2
          obtain ⟨kk, hkk⟩ : ∃ kk, n - k = kk + 1 := ⟨n - k - 1, by omega⟩
          have hno : ¬ ((c : Int) < 0 ∨ (t.length : Int) ≤ (c : Int)) := by omega
          clear hx hxok hJ4 hb3 hSw3 hJ3 hk3 hR hy l1 l2 q1'
          by_cases hoff : x.f < 0 ∨ (r : Int) ≤ x.f
          · have hfin : Hid (valL (pre ++ [⟨c, hcn⟩]) = P) := Lib.hid (by
              have := HI.out.2.1
              rw [hkk, path_off hno (by rw [hnd.out, HRL.out]; exact hoff)] at this
              rw [hpre.out, this])
            obtain ⟨f, b, ll, cc, sx, q⟩ := x
            simp only at p0 p1 p2 p3 p4 p5 hoff
            rcases hoff with ho | ho
            · have d4 : decide (f < 0) = true := decide_eq_true ho
              gi_wp2
              refine bodyPost_ret (results_none rfl _ _ _) rfl ?_
              exact ⟨⟨_, rfl⟩, .inl ⟨_, hfin.out, HJ4.out _⟩⟩
            · have d4 : decide (f < 0) = false := decide_eq_false (by omega)
              have d5 : decide ((r : Int) ≤ f) = true := decide_eq_true ho
              gi_wp2
              refine bodyPost_ret (results_none rfl _ _ _) rfl ?_
              exact ⟨⟨_, rfl⟩, .inl ⟨_, hfin.out, HJ4.out _⟩⟩
          · have hgo : Hid (valL (pre ++ [⟨c, hcn⟩]) ++ pathGo t row (n - (k + 1)) (nextAt row x) = P) := Lib.hid (by
              have := HI.out.2.1
              rw [hkk, path_go hno (by rw [hnd.out, HRL.out]; exact hoff), hnd.out] at this
              rw [hpre.out, show n - (k + 1) = kk by omega, List.append_assoc]
              exact this)
            obtain ⟨fc, hfc⟩ := Int.eq_ofNat_of_zero_le (show 0 ≤ x.f by omega)
            have hfr : fc < row.length := by rw [HRL.out]; omega
            obtain ⟨ad2, rfl, hin, y⟩ := HRR.out.at hfr
            have hnx : Hid (nextAt row x = if row.getD fc 0 > x.b then IntKind.i64.wrap (x.l + 1) else x.l) := Lib.hid (by unfold nextAt; rw [hfc]; rfl)
            obtain ⟨v, hv⟩ : ∃ v, row.getD fc 0 = v := ⟨_, rfl⟩
            rw [hv] at y hnx
            obtain ⟨f, b, ll, cc, sx, q⟩ := x
            simp only at p0 p1 p2 p3 p4 p5 hoff hfc hnx hgo
            subst hfc
            have hfr2 : (fc : Int) < r := by omega
            have d4 : decide ((fc : Int) < 0) = false := decide_eq_false (by omega)
            have d5 : decide ((r : Int) ≤ (fc : Int)) = false := decide_eq_false (by omega)
            have d6 : decide (r ≤ fc) = false := decide_eq_false (by omega)
            have hyB := World.block_lt_of_cell? W3 _ y
            clear hv hoff hin
            by_cases hvb : b < v
            · have d7 : decide (b < v) = true := decide_eq_true hvb
              have hnx2 : Hid (nextAt row { f := (fc : Int), b := b, l := ll, c := cc, s := sx, k := q } = wrap64 (ll + 1)) := Lib.hid (by rw [hnx.out, if_pos hvb, wrap_64])
              have HGO2 : Hid (valL (pre ++ [⟨c, hcn⟩]) ++ pathGo t row (n - (k + 1)) (wrap64 (ll + 1)) = P) := Lib.hid (by rw [← hnx2.out]; exact hgo.out)
              clear hvb hnx hnx2 hgo
              gi_wp2
              refine wpIn_wide.2 ?_
              go_quiet (fail)
              go_wp2_with fail
              gi_wp2
              go_roundw
              case rel => exact ⟨k + 1, _, _, hlt, by go_num, rfl, HJ.out _ _ _ none (HJ4.out _) ⟨rfl, rfl, rfl, Nat.le_refl _, fun _ _ _ => rfl⟩ (fun r h => by cases h), Lib.hid ⟨(hB4.out _).trans ⟨rfl, rfl, rfl, Nat.le_refl _, fun _ _ => rfl⟩, HGO2.out, by rw [List.length_append, HI.out.2.2]; rfl⟩⟩
              case measure => simp [intOf]; omega
            · have d7 : decide (b < v) = false := decide_eq_false hvb
              have hnx2 : Hid (nextAt row { f := (fc : Int), b := b, l := ll, c := cc, s := sx, k := q } = ll) := Lib.hid (by rw [hnx.out, if_neg hvb])
              have HGO2 : Hid (valL (pre ++ [⟨c, hcn⟩]) ++ pathGo t row (n - (k + 1)) (ll) = P) := Lib.hid (by rw [← hnx2.out]; exact hgo.out)
              clear hvb hnx hnx2 hgo
              gi_wp2
              refine wpIn_wide.2 ?_
              go_quiet (fail)
              go_wp2_with fail
              gi_wp2
              go_roundw
              case rel => exact ⟨k + 1, _, _, hlt, by go_num, rfl, HJ.out _ _ _ none (HJ4.out _) ⟨rfl, rfl, rfl, Nat.le_refl _, fun _ _ _ => rfl⟩ (fun r h => by cases h), Lib.hid ⟨(hB4.out _).trans ⟨rfl, rfl, rfl, Nat.le_refl _, fun _ _ => rfl⟩, HGO2.out, by rw [List.length_append, HI.out.2.2]; rfl⟩⟩
              case measure => simp [intOf]; omega
        · gi_wp2
          refine bodyPost_ret (results_none rfl _ _ _) rfl ?_
          refine ⟨⟨_, rfl⟩, .inr ⟨_, ?_, hJx3⟩⟩
          obtain ⟨kk, hkk⟩ : ∃ kk, n - k = kk + 1 := ⟨n - k - 1, by omega⟩
          have := HI.out.2.1
          rw [hkk] at this
          rw [valL_snoc, ← this]
          show valL pre ++ [(c : Int)] <+: _
          exact (List.prefix_append_right_inj _).2 (path_head (by omega))
    · obtain rfl : k = n := by omega
      have hfin : Hid (valL pre = P) := Lib.hid (by
        have := HI.out.2.1
        rwa [Nat.sub_self, pathGo, List.append_nil] at this)
      gi_wp2
      go_end0
      exact ⟨⟨_, rfl⟩, .inl ⟨pre, hfin.out, hJ⟩⟩
theorem steps_stops (m : Nat) (hm : 1 ≤ m) (B1 B2 : Nat) (t : List Nd) (row : List Int) (At Ar : Option Addr) (ct cr : Nat) (ht : t.length ≤ 1099511627776) (hrl : row.length ≤ 1099511627776)
    (w0 : World) (hS : StepP t row At Ar ct cr B1 B2 w0) :
    SeqStopsK Fence.wide m Try.prog 107 #[.pointer (some ⟨B1, 0, none⟩), .pointer (some ⟨B2, 0, none⟩)] (fun x : Plc t.length => #[Value.int .i64 (x.1 : Nat)]) (Below w0.heap.size) (fun ys => valL ys = pathGo t row t.length 0) (fun pre => valL pre <+: pathGo t row t.length 0) t.length w0 :=
  fun l J Jx W hW hJ _ hY h0 => steps1_in m hm l B1 B2 t row At Ar ct cr ht hrl w0 hS J Jx _ hJ hY W hW h0
theorem steps_any (At Ar : Option Addr) (n r ct cr : Nat) (w : World) : Calls Try.prog 85 #[.slice At n ct, .slice Ar r cr] w fun e w' =>
    e = .returned (.func (.func 107) #[] #[.pointer (some ⟨w.heap.size, 0, none⟩), .pointer (some ⟨w.heap.size + 1, 0, none⟩)]) ∧ w' = (w.alloc (.cells #[.slice At n ct] 53)).alloc (.cells #[.slice Ar r cr] 54) := by
  go_enter Try.func85, Try.ntmps85
  go_wp2_with fail
  go_ret
  exact ⟨rfl, rfl⟩
theorem blk_other {W W' : World} {row : Option Nat} {g : Nat} {cs : Array Value} {t : TypeId} (h : Blk W g cs t) (hg : W.grownBy W' row) (hr : ∀ r, row = some r → ∃ o : Obj, W.heap[r]? = some o ∧ o.isCells = false) : Blk W' g cs t := by
  refine (hg.block g h.lt (fun e => ?_)).trans h
  obtain ⟨o, ho, hc⟩ := hr g e.symm
  rw [show W.heap[g]? = _ from h] at ho; cases ho; cases hc
theorem boxes4 (w : World) (X0 X1 X2 X3 : Array Value) (t0 t1 t2 t3 : TypeId) (W : World) (h : W = (((w.alloc (.cells X0 t0)).alloc (.cells X1 t1)).alloc (.cells X2 t2)).alloc (.cells X3 t3)) :
    Blk W w.heap.size X0 t0 ∧ Blk W (w.heap.size + 1) X1 t1 ∧ Blk W (w.heap.size + 1 + 1) X2 t2 ∧ Blk W (w.heap.size + 1 + 1 + 1) X3 t3 ∧ W.heap.size = w.heap.size + 4 ∧ Below w.heap.size w W := by
  subst h
  refine ⟨?_, ?_, ?_, ?_, by simp, ?_⟩
  case refine_5 => exact ((((Below.refl _ w).alloc (Nat.le_refl _) _).alloc (by simp) _).alloc (by simp; omega) _).alloc (by simp; omega) _
  all_goals
    unfold Blk World.alloc
    rw [Array.getElem?_eq_getElem (by simp <;> omega)]
    simp only [Array.getElem_push, Array.size_push]
    congr 1
    simp (disch := omega) only [dif_pos, dif_neg]
def noLeaf {n : Nat} (t : List Nd) (l : List (Plc n)) : Prop := ∀ x ∈ l, (ndAt t ((x.1 : Nat) : Int)).f ≠ -1
theorem noLeaf_val {n : Nat} {t : List Nd} {l : List (Plc n)} (h : noLeaf t l) : ∀ y ∈ valL l, (ndAt t y).f ≠ -1 := by
  intro y hy
  obtain ⟨x, hx, rfl⟩ := List.mem_map.1 hy
  exact h x hx
/-- What the walk to a leaf owns. -/
def PlI (t : List Nd) (B n : Nat) (At : Option Addr) (ct : Nat) (w : World) (pre : List (Plc t.length)) (W : World) : Prop :=
  (Blk W B #[.slice At n ct] 53 ∧ Blk W (B + 1) #[.int .i64 0] 3 ∧ Hid (noLeaf t pre)) ∧ Below B w W
def PlX (t : List Nd) (B : Nat) (w : World) (c : Code) (pre : List (Plc t.length)) (W : World) : Prop :=
  (c = .ret ∧ ∃ (p : List (Plc t.length)) (x : Plc t.length), pre = p ++ [x] ∧ Hid (noLeaf t p ∧ (ndAt t ((x.1 : Nat) : Int)).f = -1) ∧ Blk W (B + 1) #[.int .i64 (x.1 : Nat)] 3) ∧ Below B w W
set_option maxRecDepth 100000 in
set_option maxHeartbeats 4000000 in
theorem place_any (t : List Nd) (row : List Int) (At Ar : Option Addr) (ct cr : Nat) (w : World) (hr : RN w At t) (hrr : RI1 w Ar row) (ht : t.length ≤ 1099511627776) (hrl : row.length ≤ 1099511627776) :
    Calls Try.prog 62 #[.slice At t.length ct, .slice Ar row.length cr] w fun e w' => e = .returned (.int .i64 (placeO t row)) ∧ Below w.heap.size w w' := by
  obtain ⟨W0, hW0⟩ : ∃ W0, W0 = (((w.alloc (.cells #[.slice At t.length ct] 53)).alloc (.cells #[.int .i64 0] 3)).alloc (.cells #[.slice At t.length ct] 53)).alloc (.cells #[.slice Ar row.length cr] 54) := ⟨_, rfl⟩
  obtain ⟨k0, k1, k2, k3, hsz, hbe⟩ := boxes4 w _ _ _ _ _ _ _ _ W0 hW0
  have hSP : StepP t row At Ar ct cr (w.heap.size + 1 + 1) (w.heap.size + 1 + 1 + 1) W0 := ⟨k2.cell 0, k3.cell 0, hr.below hbe, hrr.below hbe, by omega, by omega⟩
  obtain ⟨n, hn⟩ : ∃ n, t.length = n := ⟨_, rfl⟩
  obtain ⟨q, hq⟩ : ∃ q, row.length = q := ⟨_, rfl⟩
  have HST := Lib.hid (steps_stops 4 (by omega) (w.heap.size + 1 + 1) (w.heap.size + 1 + 1 + 1) t row At Ar ct cr ht hrl W0 hSP)
  rw [hn] at k0 k2 hW0 ht ⊢
  rw [hq] at hW0 ⊢
  have HN := Lib.hid hn
  have HR := Lib.hid hr
  have hc : ∀ x : Plc t.length, x.1 < n := fun x => hn ▸ x.2
  clear hn hq hr hrr hSP hrl
  refine (callsIn_wide (n := 5)).1 ?_
  refine callsIn_of_wp_marks Try.func62 rfl trivial ?_ rfl
  simp only [Try.ntmps62, List.size_toArray, List.length_cons, List.length_nil, Nat.reduceAdd, Nat.reduceSub, Array.replicate_succ, Array.replicate_zero, List.push_toArray, List.append_toArray, List.nil_append, List.cons_append]
  gi_wp2
  refine ⟨trivial, ?_⟩
  refine (callsIn_wide.2 (steps_any _ _ _ _ _ _ _)).mono ?_
  rintro e w' ⟨rfl, rfl⟩
  gi_wp2
  rw [← hW0]
  have HBE := Lib.hid hbe
  have HSZ := Lib.hid hsz
  clear hW0 k2 k3 hbe hsz
  refine wpIn_rangeFunc_ownF rfl (by omega) (gf := 107) (lb := #[.pointer (some ⟨w.heap.size + 1 + 1, 0, none⟩), .pointer (some ⟨w.heap.size + 1 + 1 + 1, 0, none⟩)]) rfl trivial (enters_of Try.func107 (by kernel_rfl) rfl)
    HST.out belowK_t (belowK_b (Nat.le_refl _)) (Below.refl _ _) (fun _ => rfl)
    (PlI t w.heap.size n At ct w) (PlX t w.heap.size w)
    (OwnFrom.and (Own.from (fun s A B row hs hg hr => ⟨blk_other hs.1 hg hr, blk_other hs.2.1 hg hr, hs.2.2⟩) _) (ownFrom_below (Nat.le_refl _) (by have := HSZ.out; omega)))
    (fun c => OwnFrom.and (Own.from (fun s A B row hs hg hr => by
      obtain ⟨h1, p, x, h2, h3, h4⟩ := hs
      exact ⟨h1, p, x, h2, h3, blk_other h4 hg hr⟩) _) (ownFrom_below (Nat.le_refl _) (by have := HSZ.out; omega)))
    ⟨⟨k0, k1, Lib.hid (fun x hx => by cases hx)⟩, HBE.out⟩
    (fun x => { tmps := #[.slice At n ct, .slice Ar q cr, .pointer (some ⟨w.heap.size, 0, none⟩), undef, .pointer (some ⟨w.heap.size + 1, 0, none⟩), .int .i64 (x.1 : Nat), .slice At n ct, .slice Ar q cr, .func (.func 107) #[] #[.pointer (some ⟨w.heap.size + 1 + 1, 0, none⟩), .pointer (some ⟨w.heap.size + 1 + 1 + 1, 0, none⟩)], .int .i64 (x.1 : Nat), undef, undef, undef, undef, undef, undef, undef], defers := [] }) ?assign ?body ?done ?stop
  case assign =>
    intro l x W K hK
    gi_wp2
    exact hK
  case body =>
    rintro l pre x W ⟨⟨b0, b1, hne⟩, hB⟩ _
    obtain ⟨ad, rfl, y, hy, hyok, hat⟩ := (HR.out.below hB).at (i := x.1) x.2
    have hnd : Hid (ndAt t ((x.1 : Nat) : Int) = y) := Lib.hid (by
      have := ndAt_get (t := t) (a := ((x.1 : Nat) : Int)) (by omega) (by have := x.2; omega)
      rw [Int.toNat_natCast, hy] at this
      exact (Option.some.inj this).symm)
    obtain ⟨p0, p1, p2, p3, p4, p5⟩ := hat
    have c0 := b0.cell 0
    have c1 := b1.cell 0
    have c2 := b1.frozen 0
    simp only [List.getElem?_toArray, List.getElem?_cons_zero, List.getElem?_cons_succ] at c0 c1
    have hx1 := hc x
    have hx2 : ((x.1 : Nat) : Int) < (n : Int) := by omega
    by_cases hlf : y.f = -1
    · have d1 : (y.f == -1) = true := beq_iff_eq.2 hlf
      have HLF : Hid ((ndAt t ((x.1 : Nat) : Int)).f = -1) := Lib.hid (by rw [hnd.out]; exact hlf)
      have B1 := Lib.hid b1
      have hl1 := b1.lt
      clear hlf hy hyok b0 b1
      gi_wp2
      exact ⟨KeepsOthers.setCell _ _ _, ⟨rfl, pre, x, rfl, Lib.hid ⟨hne.out, HLF.out⟩, B1.out.set 0 _⟩, hB.setCell (p := ⟨w.heap.size + 1, 0, none⟩) (by show w.heap.size ≤ w.heap.size + 1; omega) _⟩
    · have d1 : (y.f == -1) = false := beq_eq_false_iff_ne.2 hlf
      have HNE : Hid (noLeaf t (pre ++ [x])) := Lib.hid (fun z hz => by
        rcases List.mem_append.1 hz with hz | hz
        · exact hne.out z hz
        · simp at hz; subst hz; rw [hnd.out]; exact hlf)
      have BB := Lib.hid (And.intro b0 b1)
      clear hlf hy hyok b0 b1
      gi_wp2
      exact ⟨KeepsOthers.refl _, Below.refl _ _, ⟨BB.out.1, BB.out.2, HNE⟩, hB⟩
  case done =>
    rintro D ys W hD hys ⟨⟨b0, b1, hne⟩, hB⟩ hK
    have hpl : Hid (placeO t row = -1) := Lib.hid (path_none t.length 0 (by rw [← hys]; exact noLeaf_val hne.out))
    have c1 := b1.cell 0
    have c2 := b1.frozen 0
    simp only [List.getElem?_toArray, List.getElem?_cons_zero, List.getElem?_cons_succ] at c1
    clear hys
    gi_wp2
    have hK' := (KeepsOthers.setCell W ⟨w.heap.size + 1, 0, none⟩ (.int .i64 (-1))).same D _ hK rfl
    refine ⟨by simp, .inl ⟨_, _, rfl, run_takeDeferred hK', ?_⟩⟩
    have hc5 := cell_kept (World.cell?_setCell_same' W ⟨w.heap.size + 1, 0, none⟩ (.int .i64 (-1)) (by rw [c1]; rfl)) (grownBy_putObj' _ D (.deferred none)) (fun r e => by cases e; exact ⟨_, hK', rfl⟩)
    refine ⟨.int .i64 (-1), ?_, by rw [hpl.out], ?_⟩
    · simp [results, Try.f62, go_sem, hc5]
    · have hB2 := hB.setCell (p := ⟨w.heap.size + 1, 0, none⟩) (by show w.heap.size ≤ w.heap.size + 1; omega) (.int .i64 (-1))
      exact hB2.trans (belowK_b (w := w) (Nat.le_refl _) _ D _ _ (by have := HSZ.out; omega) hK' rfl rfl)
  case stop =>
    rintro D c pre W hD hpre ⟨⟨rfl, p, x, rfl, hx, b1⟩, hB⟩ hK
    have hpl : Hid (placeO t row = ((x.1 : Nat) : Int)) := Lib.hid (by
      rw [valL_snoc] at hpre
      exact path_leaf t.length 0 _ (valL p) hpre (noLeaf_val hx.out.1) hx.out.2)
    have c1 := b1.cell 0
    simp only [List.getElem?_toArray, List.getElem?_cons_zero, List.getElem?_cons_succ] at c1
    gi_wp2
    refine ⟨by simp, .inl ⟨_, _, rfl, run_takeDeferred hK, ?_⟩⟩
    have hc5 := cell_kept c1 (grownBy_putObj' _ D (.deferred none)) (fun r e => by cases e; exact ⟨_, hK, rfl⟩)
    refine ⟨.int .i64 ((x.1 : Nat) : Int), ?_, by rw [hpl.out], ?_⟩
    · simp [results, Try.f62, go_sem, hc5]
    · exact hB.trans (belowK_b (w := w) (Nat.le_refl _) _ D _ _ (by have := HSZ.out; omega) hK rfl rfl)
end Go.Proofs.Ytbhikceekldenaa.Hb

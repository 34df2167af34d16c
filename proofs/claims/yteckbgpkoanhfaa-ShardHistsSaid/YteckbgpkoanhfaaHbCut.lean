/- The walk of shard.Cut: its parts, one behind the other. -/
import Derived.RangeFuncNested
import Derived.RangeFuncBound
import Derived.RangeFuncCalls
import Derived.RangeFuncLeaves
import Derived.Shelf.Abstract
import Derived.Shelf.RegionOpen
import Derived.WalkKit
import Derived.OwnWalkIn
import Derived.TacticsInMore
import Derived.LoopNIn
import Derived.LoopIn
import Derived.Maps.AppendAt
import Derived.RangeFuncBox
import Derived.WalkSmall
import Derived.Deep.Onto
import Derived.Lib.Hide
import Derived.Test.YteckbgpkoanhfaaProg
import Derived.Test.YteckbgpkoanhfaaHbSpan
namespace Go.Proofs.Yteckbgpkoanhfaa.Hb
open Go.RowKit Go.Shelf
attribute [local go_sem] Oper.semAt_some

set_option maxRecDepth 100000 in
set_option maxHeartbeats 1000000 in
theorem spans1_in (F : Fence) (m : Nat) (hf : F.fn 65) (hro : F.round = none) (hm : 1 ≤ m) (l B1 B2 n₀ : Nat) (n p : Int) (hn : 0 ≤ n) (hn2 : n ≤ 9223372036854775807) (hp : 1 ≤ p) (hp2 : p ≤ 64)
    (J Jx : List (Int × Int) → World → Prop)
    (hY : ∀ pre x W, J pre W → pre.length < p.toNat → YieldAt F (m - 1) Try.prog l #[.agg #[.int .i64 x.1, .int .i64 x.2]] W fun e W' =>
      (e = .returned (.bool true) ∧ J (pre ++ [x]) W' ∧ Below n₀ W W') ∨ (e = .returned (.bool false) ∧ Jx (pre ++ [x]) W'))
    (W : World) (hb1 : B1 < n₀) (hb2 : B2 < n₀) (hc1 : W.cell? ⟨B1, 0, none⟩ = some (.int .i64 p)) (hc2 : W.cell? ⟨B2, 0, none⟩ = some (.int .i64 n)) (h0 : J [] W) :
    CallsIn F m Try.prog 65 #[.func (.yield l) #[] #[], .pointer (some ⟨B1, 0, none⟩), .pointer (some ⟨B2, 0, none⟩)] W fun e W' => (∃ v, e = .returned v) ∧
      ((∃ ys, ys = upto n p p.toNat ∧ J ys W') ∨ (∃ pre, pre <+: upto n p p.toNat ∧ Jx pre W')) := by
  have hpz : (p == 0) = false := beq_eq_false_iff_ne.2 (by omega)
  refine callsIn_of_wp Try.func65 rfl hf ?_ hro
  simp only [Try.ntmps65, List.size_toArray, List.length_cons, List.length_nil, Nat.reduceAdd, Nat.reduceSub, Array.replicate_succ, Array.replicate_zero, List.push_toArray, List.append_toArray, List.nil_append, List.cons_append]
  gi_wp2
  gi_loopw [4, 8] (fun f c wr => ∃ k : Nat, k ≤ p.toNat ∧ f = .int .i64 (fromAt n p k) ∧ c = .int .i64 k ∧ J (upto n p k) wr ∧ Below n₀ W wr) (fun _ c _ => p.toNat - (intOf c).toNat)
  case atStart => exact ⟨0, Nat.zero_le _, by rw [fromAt_zero n p (by omega)], rfl, h0, Below.refl _ _⟩
  case round =>
    obtain ⟨k, hk, rfl, rfl, hJ, hB⟩ := hrel
    have hc1' := (hB.cell (p := ⟨B1, 0, none⟩) hb1).trans hc1
    have hc2' := (hB.cell (p := ⟨B2, 0, none⟩) hb2).trans hc2
    by_cases hlt : (k : Int) < p
    · obtain ⟨fn, tmps, assign, body, hy, hR⟩ := hY (upto n p k) (fromAt n p k, fromAt n p (k + 1)) wr hJ (by rw [upto_length]; omega)
      have d1 := div_le n p hn (by omega)
      have f1 := fromAt_nonneg n p hn (by omega) k
      have f2 := fromAt_le n p hn (by omega) (k + 1) (by omega)
      have f3 := fromAt_nonneg n p hn (by omega) (k + 1)
      have hk2 : k + 1 ≤ p.toNat := by omega
      by_cases hm' : (k : Int) < n % p
      · have hs := fromAt_succ_lt n p k hm'
        have f4 : fromAt n p k + n / p + 1 ≤ 9223372036854775807 := by omega
        have f5 : fromAt n p k + n / p ≤ 9223372036854775807 := by omega
        rw [hs] at hy
        rw [hs] at hR
        have HS := Lib.hid hs
        clear hs f2 f3
        gi_wp2
        refine hR.mono ?_
        rintro e W3 (⟨rfl, hJ3, hk3⟩ | ⟨rfl, hJx3⟩)
        · gi_wp2
          go_roundw
          case rel => exact ⟨k + 1, hk2, by rw [HS.out], by go_num, by rw [upto_succ, HS.out]; exact hJ3, hB.trans hk3⟩
          case measure => simp [intOf]; omega
        · gi_wp2
          refine bodyPost_ret (results_none rfl _ _ _) rfl ?_
          exact ⟨⟨_, rfl⟩, .inr ⟨upto n p k ++ [(fromAt n p k, fromAt n p k + n / p + 1)], by rw [← HS.out, ← upto_succ]; exact upto_prefix _ _ _ _ hk2, hJx3⟩⟩
      · have hs := fromAt_succ_ge n p k (by omega)
        have f5 : fromAt n p k + n / p ≤ 9223372036854775807 := by omega
        rw [hs] at hy
        rw [hs] at hR
        have HS := Lib.hid hs
        clear hs f2 f3
        gi_wp2
        refine hR.mono ?_
        rintro e W3 (⟨rfl, hJ3, hk3⟩ | ⟨rfl, hJx3⟩)
        · gi_wp2
          go_roundw
          case rel => exact ⟨k + 1, hk2, by rw [HS.out], by go_num, by rw [upto_succ, HS.out]; exact hJ3, hB.trans hk3⟩
          case measure => simp [intOf]; omega
        · gi_wp2
          refine bodyPost_ret (results_none rfl _ _ _) rfl ?_
          exact ⟨⟨_, rfl⟩, .inr ⟨upto n p k ++ [(fromAt n p k, fromAt n p k + n / p)], by rw [← HS.out, ← upto_succ]; exact upto_prefix _ _ _ _ hk2, hJx3⟩⟩
    · obtain rfl : k = p.toNat := by omega
      gi_wp2
      go_end0
      exact ⟨⟨_, rfl⟩, .inl hJ⟩

theorem spans_stops (F : Fence) (m : Nat) (hf : F.fn 65) (hro : F.round = none) (hm : 1 ≤ m) (B1 B2 n₀ : Nat) (n p : Int) (hn : 0 ≤ n) (hn2 : n ≤ 9223372036854775807) (hp : 1 ≤ p) (hp2 : p ≤ 64)
    (w : World) (hb1 : B1 < n₀) (hb2 : B2 < n₀) (hn₀ : n₀ ≤ w.heap.size) (hc1 : w.cell? ⟨B1, 0, none⟩ = some (.int .i64 p)) (hc2 : w.cell? ⟨B2, 0, none⟩ = some (.int .i64 n)) :
    SeqStopsK F m Try.prog 65 #[.pointer (some ⟨B1, 0, none⟩), .pointer (some ⟨B2, 0, none⟩)] (fun x : Int × Int => #[Value.agg #[.int .i64 x.1, .int .i64 x.2]]) (Below n₀) (fun ys => ys = upto n p p.toNat) (fun pre => pre <+: upto n p p.toNat) p.toNat w :=
  fun l J Jx W hW _ _ hY h0 =>
    spans1_in F m hf hro hm l B1 B2 n₀ n p hn hn2 hp hp2 J Jx hY W hb1 hb2 ((hW.cell (p := ⟨B1, 0, none⟩) (by show B1 < _; omega)).trans hc1) ((hW.cell (p := ⟨B2, 0, none⟩) (by show B2 < _; omega)).trans hc2) h0

set_option maxHeartbeats 1000000 in
theorem spans_in (F : Fence) (m : Nat) (hf : F.fn 42) (hro : F.round = none) (n p : Int) (w : World) :
    CallsIn F m Try.prog 42 #[.int .i64 n, .int .i64 p] w fun e w' => e = .returned (.func (.func 65) #[] #[.pointer (some ⟨w.heap.size + 1, 0, none⟩), .pointer (some ⟨w.heap.size, 0, none⟩)]) ∧ w' = (w.alloc (.cells #[.int .i64 n] 3)).alloc (.cells #[.int .i64 p] 3) := by
  refine callsIn_of_wp Try.func42 rfl hf ?_ hro
  simp only [Try.ntmps42, List.size_toArray, List.length_cons, List.length_nil, Nat.reduceAdd, Nat.reduceSub, Array.replicate_succ, Array.replicate_zero, List.push_toArray, List.append_toArray, List.nil_append, List.cons_append]
  gi_wp2
  go_ret
  exact ⟨rfl, rfl⟩

def spanCells (l : List (Int × Int)) : List Value := l.flatMap fun x => [.int .i64 x.1, .int .i64 x.2]
theorem spanCells_snoc (l : List (Int × Int)) (x : Int × Int) : spanCells (l ++ [x]) = spanCells l ++ [.int .i64 x.1, .int .i64 x.2] := by simp [spanCells]

theorem info_span : (Try.prog.info? 25).map (fun i => (i.zero, i.size, i.bytes)) = some (some (.agg #[(.int .i64 0), (.int .i64 0)]), 2, 16) := by kernel_rfl

set_option maxRecDepth 100000 in
set_option maxHeartbeats 2000000 in
theorem append_in (F : Fence) (m : Nat) (h64 : F.fn 64) (h65 : F.fn 65) (hro : F.round = none) (hm : 4 ≤ m) (B1 B2 : Nat) (n p : Int) (hn : 0 ≤ n) (hn2 : n ≤ 9223372036854775807) (hp : 1 ≤ p) (hp2 : p ≤ 64)
    (w : World) (hb1 : B1 < w.heap.size) (hb2 : B2 < w.heap.size) (hc1 : w.cell? ⟨B1, 0, none⟩ = some (.int .i64 p)) (hc2 : w.cell? ⟨B2, 0, none⟩ = some (.int .i64 n)) :
    CallsIn F m Try.prog 64 #[.slice none 0 0, .func (.func 65) #[] #[.pointer (some ⟨B1, 0, none⟩), .pointer (some ⟨B2, 0, none⟩)]] w fun e W' =>
      ∃ v, e = .returned v ∧ W'.ownsRow w.heap.size 25 2 v p.toNat (spanCells (upto n p p.toNat)) ∧ Below w.heap.size w W' := by
  have h1 : 1 ≤ m := by omega
  obtain ⟨i0, hi, hz0, hz1, hz2⟩ := info_parts info_span
  refine callsIn_of_wp_marks Try.func64 rfl h64 ?_ hro
  simp only [Try.ntmps64, List.size_toArray, List.length_cons, List.length_nil, Nat.reduceAdd, Nat.reduceSub, Array.replicate_succ, Array.replicate_zero, List.push_toArray, List.append_toArray, List.nil_append, List.cons_append]
  gi_wp2
  have bO := Boxed.new w 22 (.slice none 0 0)
  have hB0 : Below w.heap.size w (w.alloc (.cells #[.slice none 0 0] 22)) := (Below.refl _ w).alloc (Nat.le_refl _) _
  refine wpIn_rangeFunc_ownH hro h1 (gf := 65) (lb := #[.pointer (some ⟨B1, 0, none⟩), .pointer (some ⟨B2, 0, none⟩)]) rfl h65 (enters_of Try.func65 (by kernel_rfl) rfl)
    (spans_stops F (m - 1) h65 hro (by omega) B1 B2 w.heap.size n p hn hn2 hp hp2 _ hb1 hb2 (by simp) ((hB0.cell (p := ⟨B1, 0, none⟩) hb1).trans hc1) ((hB0.cell (p := ⟨B2, 0, none⟩) hb2).trans hc2)) belowK_t (belowK_b (by simp)) (Below.refl _ _) (fun _ => rfl)
    (fun pre W => (∃ v, Boxed W w.heap.size 22 v ∧ W.ownsRow w.heap.size 25 2 v pre.length (spanCells pre) ∧ True) ∧ Below w.heap.size w W)
    (fun _ _ _ => False)
    (OwnFrom.and (Own.from (holdsRow_own w.heap.size w.heap.size 22 25 2 (fun pre : List (Int × Int) => pre.length) spanCells (fun _ _ => True)) _) (ownFrom_below (Nat.le_refl _) (by simp)))
    (fun _ _ _ _ _ hs _ _ => hs)
    ⟨⟨_, bO, World.ownsRow_nil _ _ _ _, trivial⟩, hB0⟩
    (fun x a' W => ∃ Bx, w.heap.size < Bx ∧ W.heap[Bx]? = some (.cells #[.int .i64 x.1, .int .i64 x.2] 25 (0, 0)) ∧ a' = { tmps := #[.slice none 0 0, .func (.func 65) #[] #[.pointer (some ⟨B1, 0, none⟩), .pointer (some ⟨B2, 0, none⟩)], .pointer (some ⟨w.heap.size, 0, none⟩), undef, .slice none 0 0, .pointer (some ⟨Bx, 0, none⟩), .func (.func 65) #[] #[.pointer (some ⟨B1, 0, none⟩), .pointer (some ⟨B2, 0, none⟩)], .agg #[.int .i64 x.1, .int .i64 x.2], undef, undef, undef, undef, undef], defers := [] })
    (fun x a' _ X Y row hs hg hr => by
      obtain ⟨Bx, h1, h2, h3⟩ := hs
      refine ⟨Bx, h1, (hg.block Bx (Array.getElem?_eq_some_iff.1 h2).1 (fun e => ?_)).trans h2, h3⟩
      obtain ⟨_, o, ho, hc⟩ := hr Bx e.symm
      rw [h2] at ho; cases ho; cases hc)
    ?assign ?body ?done ?stop
  case assign =>
    rintro l pre x W K ⟨⟨v, hv, hrow, _⟩, hB⟩ hK
    gi_wp2
    exact hK _ _ ((KeepsOthers.alloc _ _).from _) ((Below.refl _ W).alloc hB.size _) ⟨⟨v, hv.alloc _, hrow.alloc _, trivial⟩, hB.alloc hB.size _⟩ ⟨W.heap.size, hv.lt, World.alloc_heap_new W _, rfl⟩
  case body =>
    rintro l pre x a' W hl ⟨r, hr⟩ ⟨⟨v, hv, hrow, _⟩, hB⟩ ⟨Bx, hBx, bX, rfl⟩ hlt
    have hc := hv.cell
    have hx0 := cell_of_row W Bx 0 _ _ _ bX
    have hx1 := cell_of_row W Bx 1 _ _ _ bX
    gi_wp2_with (gi_at_builtin; refine wpListIn_append_own _ rfl _ _ 22 rfl w.heap.size 25 i0 (.agg #[(.int .i64 0), (.int .i64 0)]) 2 16 Try.underlying22 hi hz0 hz1 hz2 rfl (by decide) _ _ _ rfl (hrow.alloc _) ⟨W.heap.size, 0, none⟩ 1 1 [.int .i64 x.1, .int .i64 x.2] rfl rfl (cell_two_new _ _ _ _) (by simp [Value.oneCell']) (by unfold maxLen; omega) (by omega) (by have := hB.size; simp; omega) ?_; intro v' w1 hown' hgrow _; obtain ⟨g', cap', rfl⟩ := ownsRow_succ hown'; obtain ⟨hv1, hv2, hr2, hk2, hb2⟩ := hv.appended (by decide) hrow hB.size (Nat.le_refl _) hown' hgrow; have hc1 := hv1.cell; have hf1 := hv1.frozen)
    exact ⟨hk2.from _, hb2, ⟨_, hv2, by rw [spanCells_snoc]; simpa using hr2, trivial⟩, hB.trans hb2⟩
  case done =>
    rintro D ys W hD rfl ⟨⟨v, hv, hrow, _⟩, hB⟩ hK
    have hc := hv.cell
    gi_wp2
    refine ⟨by simp, .inl ⟨_, _, rfl, run_takeDeferred hK, ?_⟩⟩
    refine ⟨_, results_tmp rfl _ _ _, v, rfl, ?_, hB.trans (belowK_b (w := w) (Nat.le_refl _) W D _ _ (by simp at hD; omega) hK rfl rfl)⟩
    have := ownsRow_putObj hrow (.deferred none) hK rfl
    rwa [upto_length] at this
  case stop =>
    rintro D c pre W _ _ h _
    exact h.elim

def Spans (n p : Int) (w : World) (e : Ending) (w' : World) : Prop := ∃ v, e = .returned v ∧ w'.ownsRow w.heap.size 25 2 v p.toNat (spanCells (upto n p p.toNat)) ∧ Below w.heap.size w w'

theorem append_any (B1 B2 : Nat) (n p : Int) (hn : 0 ≤ n) (hn2 : n ≤ 9223372036854775807) (hp : 1 ≤ p) (hp2 : p ≤ 64)
    (w : World) (hb1 : B1 < w.heap.size) (hb2 : B2 < w.heap.size) (hc1 : w.cell? ⟨B1, 0, none⟩ = some (.int .i64 p)) (hc2 : w.cell? ⟨B2, 0, none⟩ = some (.int .i64 n)) :
    Calls Try.prog 64 #[.slice none 0 0, .func (.func 65) #[] #[.pointer (some ⟨B1, 0, none⟩), .pointer (some ⟨B2, 0, none⟩)]] w (Spans n p w) :=
  (callsIn_wide (n := 9)).1 (append_in Fence.wide 9 trivial trivial rfl (by omega) B1 B2 n p hn hn2 hp hp2 w hb1 hb2 hc1 hc2)

theorem cut_yes (n p : Int) (hn : 0 ≤ n) (hn2 : n ≤ 9223372036854775807) (hp : 1 ≤ p) (hp2 : p ≤ 64) (w : World) :
    Calls Try.prog 13 #[.int .i64 n, .int .i64 p] w (Spans n p w) := by
  have h1 : decide (n < 0) = false := decide_eq_false (by omega)
  have h2 : decide (1 ≤ p) = true := decide_eq_true (by omega)
  have h3 : decide (p ≤ 64) = true := decide_eq_true (by omega)
  go_enter Try.func13, Try.ntmps13
  go_wp2_with (first | (go_at_call 64; refine (append_any _ _ n p hn hn2 hp hp2 _ (by simp) (by simp; omega) (by simp) (by simp)).mono ?_; rintro e w' ⟨v, rfl, ho, hb⟩) | go_in)
  go_ret
  refine ⟨v, rfl, World.ownsRow.mono ho (by simp; omega), ?_⟩
  exact (((Below.refl _ _).alloc (Nat.le_refl _) _).alloc (by simp) _).trans (hb.mono (by simp; omega))

theorem cut_no (n p : Int) (h : n < 0 ∨ p < 1 ∨ 64 < p) (w : World) :
    Calls Try.prog 13 #[.int .i64 n, .int .i64 p] w fun e w' => e = .returned (.slice none 0 0) ∧ w = w' := by
  by_cases h1 : n < 0
  · have h1' : decide (n < 0) = true := decide_eq_true h1
    clear h h1
    go_enter Try.func13, Try.ntmps13
    go_wp2
    go_ret
    exact ⟨rfl, rfl⟩
  · have h1' : decide (n < 0) = false := decide_eq_false h1
    by_cases h2 : 1 ≤ p
    · have h2' : decide (1 ≤ p) = true := decide_eq_true h2
      have h3' : decide (p ≤ 64) = false := decide_eq_false (by omega)
      clear h h1 h2
      go_enter Try.func13, Try.ntmps13
      go_wp2
      go_ret
      exact ⟨rfl, rfl⟩
    · have h2' : decide (1 ≤ p) = false := decide_eq_false h2
      clear h h1 h2
      go_enter Try.func13, Try.ntmps13
      go_wp2
      go_ret
      exact ⟨rfl, rfl⟩
end Go.Proofs.Yteckbgpkoanhfaa.Hb

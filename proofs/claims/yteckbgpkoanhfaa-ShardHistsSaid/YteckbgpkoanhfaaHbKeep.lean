/- The parts of shard.Parts: an iterator that keeps two cells. -/
import Derived.Test.YteckbgpkoanhfaaHbCut
namespace Go.Proofs.Yteckbgpkoanhfaa.Hb
set_option linter.unusedVariables false
open Go.RowKit Go.Shelf
attribute [local go_sem] Oper.semAt_some

/-- A part of n things. -/
abbrev Spn (n : Int) := { x : Int × Int // 0 ≤ x.1 ∧ x.1 ≤ x.2 ∧ x.2 ≤ n }
/-- Two blocks are kept. -/
def KP (B1 B2 : Nat) (A B : World) : Prop := B.heap[B1]? = A.heap[B1]? ∧ B.heap[B2]? = A.heap[B2]?
theorem KP.refl (B1 B2 : Nat) (A : World) : KP B1 B2 A A := ⟨rfl, rfl⟩
theorem KP.trans {B1 B2 : Nat} {A B C : World} (h : KP B1 B2 A B) (k : KP B1 B2 B C) : KP B1 B2 A C := ⟨k.1.trans h.1, k.2.trans h.2⟩
theorem cell_heap {A B : World} {b i : Nat} (h : B.heap[b]? = A.heap[b]?) : B.cell? ⟨b, i, none⟩ = A.cell? ⟨b, i, none⟩ := by simp only [World.cell?, h]
theorem KP.put {B1 B2 : Nat} {w : World} (h1 : B1 < w.heap.size) (h2 : B2 < w.heap.size) (W : World) (l : Nat) (o o' : Obj) (hl : w.heap.size ≤ l) (h : W.heap[l]? = some o) (_ : o.isCells = false) (_ : o.isWalk = false) : KP B1 B2 W (W.putObj l o') :=
  ⟨World.putObj_heap_other (by omega), World.putObj_heap_other (by omega)⟩
theorem spn_ok (n p : Int) (hn : 0 ≤ n) (hp : 1 ≤ p) (k : Nat) (hk : (k : Int) < p) : 0 ≤ fromAt n p k ∧ fromAt n p k ≤ fromAt n p (k + 1) ∧ fromAt n p (k + 1) ≤ n := by
  have d1 := div_le n p hn (by omega)
  refine ⟨fromAt_nonneg n p hn (by omega) k, ?_, fromAt_le n p hn (by omega) (k + 1) (by omega)⟩
  by_cases h : (k : Int) < n % p
  · have := fromAt_succ_lt n p k h; omega
  · have := fromAt_succ_ge n p k (by omega); omega

set_option maxRecDepth 100000 in
set_option maxHeartbeats 1000000 in
theorem spans1_keep (F : Fence) (m : Nat) (hf : F.fn 65) (hro : F.round = none) (hm : 1 ≤ m) (l B1 B2 : Nat) (n p : Int) (hn : 0 ≤ n) (hn2 : n ≤ 9223372036854775807) (hp : 1 ≤ p) (hp2 : p ≤ 64)
    (J Jx : List (Spn n) → World → Prop)
    (hY : ∀ pre x W, J pre W → pre.length < p.toNat → YieldAt F (m - 1) Try.prog l #[.agg #[.int .i64 x.1.1, .int .i64 x.1.2]] W fun e W' =>
      (e = .returned (.bool true) ∧ J (pre ++ [x]) W' ∧ KP B1 B2 W W') ∨ (e = .returned (.bool false) ∧ Jx (pre ++ [x]) W'))
    (W : World) (hc1 : W.cell? ⟨B1, 0, none⟩ = some (.int .i64 p)) (hc2 : W.cell? ⟨B2, 0, none⟩ = some (.int .i64 n)) (h0 : J [] W) :
    CallsIn F m Try.prog 65 #[.func (.yield l) #[] #[], .pointer (some ⟨B1, 0, none⟩), .pointer (some ⟨B2, 0, none⟩)] W fun e W' => (∃ v, e = .returned v) ∧
      ((∃ ys, ys.map Subtype.val = upto n p p.toNat ∧ J ys W') ∨ (∃ pre, pre.map Subtype.val <+: upto n p p.toNat ∧ Jx pre W')) := by
  have hpz : (p == 0) = false := beq_eq_false_iff_ne.2 (by omega)
  refine callsIn_of_wp Try.func65 rfl hf ?_ hro
  simp only [Try.ntmps65, List.size_toArray, List.length_cons, List.length_nil, Nat.reduceAdd, Nat.reduceSub, Array.replicate_succ, Array.replicate_zero, List.push_toArray, List.append_toArray, List.nil_append, List.cons_append]
  gi_wp2
  gi_loopw [4, 8] (fun f c wr => ∃ (k : Nat) (pre : List (Spn n)), k ≤ p.toNat ∧ pre.map Subtype.val = upto n p k ∧ f = .int .i64 (fromAt n p k) ∧ c = .int .i64 k ∧ J pre wr ∧ KP B1 B2 W wr) (fun _ c _ => p.toNat - (intOf c).toNat)
  case atStart => exact ⟨0, [], Nat.zero_le _, rfl, by rw [fromAt_zero n p (by omega)], rfl, h0, KP.refl _ _ _⟩
  case round =>
    obtain ⟨k, pre, hk, hpre, rfl, rfl, hJ, hB⟩ := hrel
    have hlen : pre.length = k := by rw [← upto_length n p k, ← hpre, List.length_map]
    have hc1' := (cell_heap hB.1).trans hc1
    have hc2' := (cell_heap hB.2).trans hc2
    by_cases hlt : (k : Int) < p
    · have hsp := spn_ok n p hn hp k hlt
      obtain ⟨x, hx⟩ : ∃ x : Spn n, x.1 = (fromAt n p k, fromAt n p (k + 1)) := ⟨⟨_, hsp⟩, rfl⟩
      obtain ⟨fn, tmps, assign, body, hy, hR⟩ := hY pre x wr hJ (by omega)
      have HPR := Lib.hid (show (pre ++ [x]).map Subtype.val = upto n p (k + 1) by rw [List.map_append, hpre, upto_succ, ← hx]; rfl)
      rw [hx] at hy
      dsimp only at hy
      clear hx hsp
      have d1 := div_le n p hn (by omega)
      have f1 := fromAt_nonneg n p hn (by omega) k
      have f2 := fromAt_le n p hn (by omega) (k + 1) (by omega)
      have f3 := fromAt_nonneg n p hn (by omega) (k + 1)
      have hk2 : k + 1 ≤ p.toNat := by omega
      by_cases hm' : (k : Int) < n % p
      · have hs := fromAt_succ_lt n p k hm'
        have f4 : fromAt n p k + n / p + 1 ≤ 9223372036854775807 := by omega
        have f5 : fromAt n p k + n / p ≤ 9223372036854775807 := by omega
        rw [hs] at hy
        have HS := Lib.hid hs
        clear hs f2 f3
        gi_wp2
        refine hR.mono ?_
        rintro e W3 (⟨rfl, hJ3, hk3⟩ | ⟨rfl, hJx3⟩)
        · gi_wp2
          go_roundw
          case rel => exact ⟨k + 1, _, hk2, HPR.out, by rw [HS.out], by go_num, hJ3, hB.trans hk3⟩
          case measure => simp [intOf]; omega
        · gi_wp2
          refine bodyPost_ret (results_none rfl _ _ _) rfl ?_
          exact ⟨⟨_, rfl⟩, .inr ⟨_, by rw [HPR.out]; exact upto_prefix _ _ _ _ hk2, hJx3⟩⟩
      · have hs := fromAt_succ_ge n p k (by omega)
        have f5 : fromAt n p k + n / p ≤ 9223372036854775807 := by omega
        rw [hs] at hy
        have HS := Lib.hid hs
        clear hs f2 f3
        gi_wp2
        refine hR.mono ?_
        rintro e W3 (⟨rfl, hJ3, hk3⟩ | ⟨rfl, hJx3⟩)
        · gi_wp2
          go_roundw
          case rel => exact ⟨k + 1, _, hk2, HPR.out, by rw [HS.out], by go_num, hJ3, hB.trans hk3⟩
          case measure => simp [intOf]; omega
        · gi_wp2
          refine bodyPost_ret (results_none rfl _ _ _) rfl ?_
          exact ⟨⟨_, rfl⟩, .inr ⟨_, by rw [HPR.out]; exact upto_prefix _ _ _ _ hk2, hJx3⟩⟩
    · obtain rfl : k = p.toNat := by omega
      gi_wp2
      go_end0
      exact ⟨⟨_, rfl⟩, .inl ⟨pre, hpre, hJ⟩⟩

theorem spans_keep (F : Fence) (m : Nat) (hf : F.fn 65) (hro : F.round = none) (hm : 1 ≤ m) (B1 B2 : Nat) (n p : Int) (hn : 0 ≤ n) (hn2 : n ≤ 9223372036854775807) (hp : 1 ≤ p) (hp2 : p ≤ 64)
    (w : World) (hb1 : B1 < w.heap.size) (hb2 : B2 < w.heap.size) (hc1 : w.cell? ⟨B1, 0, none⟩ = some (.int .i64 p)) (hc2 : w.cell? ⟨B2, 0, none⟩ = some (.int .i64 n)) :
    SeqStopsK F m Try.prog 65 #[.pointer (some ⟨B1, 0, none⟩), .pointer (some ⟨B2, 0, none⟩)] (fun x : Spn n => #[Value.agg #[.int .i64 x.1.1, .int .i64 x.1.2]]) (KP B1 B2) (fun ys => ys.map Subtype.val = upto n p p.toNat) (fun pre => pre.map Subtype.val <+: upto n p p.toNat) p.toNat w :=
  fun l J Jx W hW _ _ hY h0 =>
    spans1_keep F m hf hro hm l B1 B2 n p hn hn2 hp hp2 J Jx hY W ((hW.cell (p := ⟨B1, 0, none⟩) hb1).trans hc1) ((hW.cell (p := ⟨B2, 0, none⟩) hb2).trans hc2) h0
end Go.Proofs.Yteckbgpkoanhfaa.Hb

/- The walk of node.depths. -/
import Derived.Test.YtbhikceekldenaaHbNode2
import Derived.Deep.RegionHeld3
import Derived.Deep.DeepCutAuto
import Derived.Laws.OwnMore
import Derived.Maps.AppendAt
import Derived.WalkMore
import Derived.Deep.AppendLies
namespace Go.Proofs.Ytbhikceekldenaa.Hb
set_option linter.unusedVariables false
set_option linter.unusedSimpArgs false
open Go.RowKit

theorem made_one (n : Nat) (hn : 1 ≤ n) (h : n ≤ 1099511627776) : ∃ mc : Array Value, mc.size = n ∧ mc.toList.take 1 = [.int .i64 0] ∧
    ∀ w : World, (Instr.makeSlice 54 (.int .i64 1) (.int .i64 n)).run Try.prog w = .ok (.slice (some ⟨w.heap.size, 0, none⟩) 1 n) (w.alloc (.cells mc 3)) := by
  obtain ⟨i0, hi, hz0, hz1, hz2⟩ := info_parts info_int
  refine ⟨madeCells (Value.int .i64 0).cells n, size_madeCells _ _, ?_, fun w => ?_⟩
  · have : (Value.int .i64 0).cells = #[.int .i64 0] := rfl
    rw [this, toList_madeCells_one]
    obtain ⟨m, rfl⟩ : ∃ m, n = m + 1 := ⟨n - 1, by omega⟩
    simp [List.replicate_succ]
  · have := run_make (P := Try.prog) w 54 3 i0 (.int .i64 0) Try.underlying54 hi hz0 .i64 .i64 1 n (by omega) (by omega) (by rw [hz2]; omega) (by omega)
    rw [hz1] at this
    simpa using this
theorem depGo_break {L : Nat} {n : Nd} {r : List Nd} {i : Nat} {out : List Int} (h : out.length ≤ i) : depGo L (n :: r) i out = none := by rw [depGo, if_pos h]
theorem depGo_leaf {L : Nat} {n : Nd} {r : List Nd} {i : Nat} {out : List Int} (h : ¬ out.length ≤ i) (h2 : n.f = -1) : depGo L (n :: r) i out = depGo L r (i + 1) out := by rw [depGo, if_neg h, if_pos h2]
theorem depGo_no {L : Nat} {n : Nd} {r : List Nd} {i : Nat} {out : List Int} (h2 : ¬ n.f = -1) (h3 : n.l ≠ out.length ∨ L < out.length + 2) : depGo L (n :: r) i out = none := by
  rw [depGo, if_neg h2, if_pos h3, ite_self]
theorem depGo_two {L : Nat} {n : Nd} {r : List Nd} {i : Nat} {out : List Int} (h : ¬ out.length ≤ i) (h2 : ¬ n.f = -1) (h3 : ¬ (n.l ≠ out.length ∨ L < out.length + 2)) : depGo L (n :: r) i out = depGo L r (i + 1) (out ++ [out.getD i 0 + 1, out.getD i 0 + 1]) := by rw [depGo, if_neg h, if_neg h2, if_neg h3]
theorem cell_two (w : World) (a b : Value) (t : TypeId) : ∀ j u, [a, b][j]? = some u → (w.alloc (.cells #[a, b] t)).cell? ((⟨w.heap.size, 0, none⟩ : Addr).add j) = some u := by
  intro j u hj
  have k := (Blk.new w #[a, b] t).cell j
  rw [show (⟨w.heap.size, 0, none⟩ : Addr).add j = ⟨w.heap.size, j, none⟩ from by unfold Addr.add; split <;> simp_all]
  rw [k]
  simpa using hj
theorem drop_nd {t : List Nd} {k : Nat} {x : Nd} (h : t[k]? = some x) : t.drop k = x :: t.drop (k + 1) := by
  obtain ⟨hk, rfl⟩ := List.getElem?_eq_some_iff.1 h
  exact List.drop_eq_getElem_cons hk
structure DepI (t : List Nd) (N k m : Nat) (w : World) (D : Option (List Int)) (o : Value) (wr : World) : Prop where
  out : ∃ out : List Int, out.length = m ∧ depGo t.length (t.drop k) k out = D ∧ (∀ x ∈ out, 0 ≤ x ∧ x ≤ m) ∧ wr.ownsRow N 3 1 o m (ints out)
  m1 : 1 ≤ m
  mn : m ≤ t.length
  be : Below N w wr
set_option warningAsError false in
set_option maxRecDepth 100000 in
set_option maxHeartbeats 4000000 in
theorem depths_any (t : List Nd) (A : Option Addr) (cap : Nat) (w : World) (hr : RN w A t) (hl : t.length ≤ 1099511627776) : Calls Try.prog 70 #[.slice A t.length cap] w fun e w' =>
    ∃ v, e = .returned v ∧ w'.ownsRow w.heap.size 3 1 v (depthsO t).length (ints (depthsO t)) ∧ Below w.heap.size w w' := by
  obtain ⟨n, hn⟩ : ∃ n, t.length = n := ⟨_, rfl⟩
  rw [hn] at hl ⊢
  by_cases h0 : n = 0
  · subst h0
    have e0 : t = [] := List.length_eq_zero_iff.1 hn
    subst e0
    go_enter Try.func70, Try.ntmps70
    go_wp2_with fail
    go_step3
    go_wp2_with fail
    rw [Exit.noGoto_ret]
    go_ret
    exact ⟨_, rfl, World.ownsRow_nil _ _ _ _, Below.refl _ _⟩
  obtain ⟨D, hD⟩ : ∃ D, depGo t.length t 0 [0] = D := ⟨_, rfl⟩
  have HD : Hid (depthsO t = D.getD []) := Lib.hid (by unfold depthsO; rw [if_neg (fun e => h0 (by rw [← hn, e]; rfl)), hD])
  have HGO := Lib.hid hD
  obtain ⟨mc, hm1, hm2, hm3⟩ := made_one n (by omega) hl
  have HM1 := Lib.hid hm1
  have HM2 := Lib.hid hm2
  have HN := Lib.hid hn
  have HRN := Lib.hid hr
  obtain ⟨N, hN⟩ : ∃ N, w.heap.size = N := ⟨_, rfl⟩
  have HNN := Lib.hid hN
  have hn0 : ((n : Int) == 0) = false := beq_eq_false_iff_ne.2 (by omega)
  have hn0' : (n == 0) = false := beq_eq_false_iff_ne.2 h0
  have hn1 : 0 < n := by omega
  rw [hN]
  clear hD hm1 hm2 hn hr hN h0
  go_enter Try.func70, Try.ntmps70
  go_wp2_with fail
  go_step3
  go_wp2_with fail
  go_step3
  go_wp2_with fail
  clear hm3 hn0 hn0'
  go_loopw [3, 14] (fun o iv wr => ∃ k m g c : Nat, k ≤ n ∧ iv = .int .i64 k ∧ o = .slice (some ⟨g, 0, none⟩) m c ∧ DepI t N k m w D (.slice (some ⟨g, 0, none⟩) m c) wr) (fun _ iv _ => n - (intOf iv).toNat)
  case atStart =>
    refine ⟨0, 1, w.heap.size, n, by omega, rfl, rfl, ⟨[0], rfl, by rw [List.drop_zero]; exact HGO.out, by simp, rfl, .inr ⟨w.heap.size, n, mc, rfl, by rw [HNN.out]; exact Nat.le_refl _, World.alloc_heap_new w _, by omega, by unfold maxLen; omega, by rw [HM1.out]; omega, HM2.out⟩⟩, Nat.le_refl _, by rw [HN.out]; omega, (Below.refl _ _).alloc (by rw [HNN.out]; exact Nat.le_refl _) _⟩
  case round =>
    obtain ⟨k, m, g, c, hk, rfl, rfl, hI⟩ := hrel
    have b1 := hI.m1
    have b2 : m ≤ n := by have := hI.mn; rw [HN.out] at this; exact this
    have HI := Lib.hid hI
    clear hI
    by_cases hlt : k < n
    · have hlt' : (k : Int) < n := by omega
      have hbe : Below w.heap.size w wr := by rw [HNN.out]; exact HI.out.be
      obtain ⟨ad, rfl, x, hx, hxok, hat⟩ := (HRN.out.below hbe).at (i := k) (by rw [HN.out]; exact hlt)
      have HDR := Lib.hid (drop_nd hx)
      obtain ⟨p0, p1, p2, p3, p4, p5⟩ := hat
      have HXO := Lib.hid hxok
      have hNs : N ≤ wr.heap.size := by have := HI.out.be.size; have := HNN.out; omega
      clear hx hbe hxok
      by_cases hmk : m ≤ k
      · have e1 : decide ((m : Int) ≤ k) = true := decide_eq_true (by omega)
        have e2 : decide (m ≤ k) = true := decide_eq_true hmk
        have e3 : ((m : Int) != n) = true := bne_iff_ne.2 (by omega)
        have e4 : (m != n) = true := bne_iff_ne.2 (by omega)
        go_wp2_with fail
        rw [Exit.noGoto_ret]
        go_ret
        obtain ⟨out, h1, h2, h3, h4⟩ := HI.out.out
        rw [HDR.out, depGo_break (by omega)] at h2
        refine ⟨_, rfl, ?_, HI.out.be.alloc hNs _⟩
        rw [HD.out, ← h2, Option.getD_none]
        exact World.ownsRow_nil _ _ _ _
      · have hmk' : k < m := by omega
        have e1 : decide ((m : Int) ≤ k) = false := decide_eq_false (by omega)
        have e2 : decide (m ≤ k) = false := decide_eq_false hmk
        obtain ⟨f, b, l, cc, s, q⟩ := x
        obtain ⟨lf, hlf⟩ : ∃ lf, (f == -1) = lf := ⟨_, rfl⟩
        have KL := Lib.hid (fun w => nleaf_any ⟨f, b, l, cc, s, q⟩ w)
        simp only [ndV] at KL
        rw [hlf] at KL
        have HLF := Lib.hid hlf
        clear hlf hmk
        simp only at p0 p1 p2 p3 p4 p5
        go_wp2_with fail
        refine (KL.out _).mono ?_
        rintro e w2 ⟨rfl, hb⟩
        have kA := (Blk.new wr #[.int .i64 f, .int .i64 b, .int .i64 l, .int .i64 cc, .int .i64 s, .int .i64 q] 88).below hb
        have hb2 : Below wr.heap.size wr w2 := ((Below.refl _ wr).alloc (Nat.le_refl _) _).trans (hb.mono (by simp))
        obtain ⟨q0, q1, q2, q3, q4, q5⟩ := kA.cells6
        have hB2 := HI.out.be.trans (hb2.mono hNs)
        have HB2 := Lib.hid hB2
        have hOwn : Hid (∃ out : List Int, out.length = m ∧ depGo t.length (t.drop k) k out = D ∧ (∀ x ∈ out, 0 ≤ x ∧ x ≤ m) ∧ w2.ownsRow N 3 1 (.slice (some ⟨g, 0, none⟩) m c) m (ints out)) := Lib.hid (by
          obtain ⟨out, h1, h2, h3, h4⟩ := HI.out.out
          exact ⟨out, h1, h2, h3, own_below h4 hb2⟩)
        have hs2 : N ≤ w2.heap.size := Nat.le_trans hNs hb2.size
        clear hb hb2 p0 p1 p2 p3 p4 p5 kA hB2
        cases lf with
        | true =>
          go_wp2_with fail
          go_roundw
          case rel =>
            refine ⟨k + 1, m, g, c, hlt, by go_num, rfl, ?_, b1, by rw [HN.out]; exact b2, HB2.out⟩
            obtain ⟨out, h1, h2, h3, h4⟩ := hOwn.out
            rw [HDR.out, depGo_leaf (by omega) (beq_iff_eq.1 HLF.out)] at h2
            exact ⟨out, h1, h2, h3, h4⟩
          case measure => simp [intOf]; omega
        | false =>
          have hfn : ¬ f = -1 := beq_eq_false_iff_ne.1 HLF.out
          by_cases hlm : l = m
          · by_cases hroom : n < m + 2
            · have HLM := Lib.hid hlm
              have e3 : (l != (m : Int)) = false := by simpa using hlm
              have e4 : decide ((n : Int) < (m : Int) + 2) = true := decide_eq_true (by omega)
              have HFN := Lib.hid hfn
              clear hlm hfn
              go_wp2_with fail
              rw [Exit.noGoto_ret]
              go_ret
              obtain ⟨out, h1, h2, h3, h4⟩ := hOwn.out
              rw [HDR.out, depGo_no HFN.out (.inr (by rw [HN.out, h1]; exact hroom))] at h2
              refine ⟨_, rfl, ?_, HB2.out⟩
              rw [HD.out, ← h2, Option.getD_none]
              exact World.ownsRow_nil _ _ _ _
            · obtain ⟨y, hy⟩ : ∃ y, Hid (∃ out : List Int, out.length = m ∧ depGo t.length (t.drop k) k out = D ∧ (∀ x ∈ out, 0 ≤ x ∧ x ≤ m) ∧ w2.ownsRow N 3 1 (.slice (some ⟨g, 0, none⟩) m c) m (ints out) ∧ out.getD k 0 = y) := by
                obtain ⟨out, h1, h2, h3, h4⟩ := hOwn.out
                exact ⟨_, Lib.hid ⟨out, h1, h2, h3, h4, rfl⟩⟩
              have z0 : w2.cell? ⟨g, k, none⟩ = some (.int .i64 y) := by
                obtain ⟨out, h1, h2, h3, h4, h5⟩ := hy.out
                rw [World.ownsRow.cellAt h4 k (by omega), ints_get (by omega), h5]
              have hyb : 0 ≤ y ∧ y ≤ m := by
                obtain ⟨out, h1, h2, h3, h4, h5⟩ := hy.out
                rw [← h5, List.getD_eq_getElem?_getD, List.getElem?_eq_getElem (by omega)]
                exact h3 _ (List.getElem_mem _)
              obtain ⟨hy0, hy1⟩ := hyb
              have e3 : (l != (m : Int)) = false := by simpa using hlm
              have e4 : decide ((n : Int) < (m : Int) + 2) = false := decide_eq_false (by omega)
              have HLM := Lib.hid hlm
              have HFN := Lib.hid hfn
              have hw1 : IntKind.i64.wrap (y + 1) = y + 1 := by rw [IntKind.wrap_i64]; omega
              obtain ⟨i0, hi0, hz0, hz1, hz2⟩ := info_parts info_int
              obtain ⟨out, h1, h2, h3, h4, h5⟩ := hy.out
              have HO := Lib.hid h4
              have HO1 := Lib.hid h1
              have HO2 := Lib.hid h2
              have HO3 := Lib.hid h3
              have HO5 := Lib.hid h5
              clear hlm hfn hOwn h1 h2 h3 h4 h5
              go_wp2_with fail
              go_region_held3 (fun _ => True) (first | exact trivial | go_keep)
                ((refine step_append_lies _ (by rfl) _ _ 54 (by rfl) N 3 i0 (.int .i64 0) 1 8 Try.underlying54 hi0 hz0 hz1 hz2 rfl (by decide) (.slice (some ⟨g, 0, none⟩) m c) m (ints out) (by rfl) (by exact HO.out.alloc _) _ 2 2 [.int .i64 (y + 1), .int .i64 (y + 1)] (by rfl) (by rfl) (by exact cell_two _ _ _ _) (by simp [Value.oneCell']) (by decide) (by unfold maxLen; omega) (by omega) (by simp; omega) _ rfl ?_; intro g' c' w3 hown3 hg3 hat3 hlt3))
              all_goals
                go_wp2_with fail
                go_roundw
                case rel =>
                  refine ⟨k + 1, m + 2, g', c', hlt, by go_num, rfl, ?_, by omega, by rw [HN.out]; omega, ?_⟩
                  · have h2 := HO2.out
                    rw [HDR.out, depGo_two (by rw [HO1.out]; omega) HFN.out (by show ¬ (l ≠ (out.length : Int) ∨ t.length < out.length + 2); rw [HN.out, HO1.out]; have := HLM.out; omega), HO5.out] at h2
                    refine ⟨out ++ [y + 1, y + 1], by simp [HO1.out], h2, ?_, by simpa [ints] using hown3⟩
                    intro x hx
                    rcases List.mem_append.1 hx with hx | hx
                    · have := HO3.out x hx; omega
                    · simp at hx; subst hx; omega
                  · exact ((HB2.out.drew).alloc (by simp; omega) _).grown hg3 (by simp; omega) (fun q e => (World.ownsRow.lt HO.out q e).1)
                case measure => simp [intOf]; omega
          · have HLM := Lib.hid hlm
            have e3 : (l != (m : Int)) = true := by simpa using hlm
            have HFN := Lib.hid hfn
            clear hlm hfn
            go_wp2_with fail
            rw [Exit.noGoto_ret]
            go_ret
            obtain ⟨out, h1, h2, h3, h4⟩ := hOwn.out
            rw [HDR.out, depGo_no HFN.out (.inl (by rw [h1]; exact HLM.out))] at h2
            refine ⟨_, rfl, ?_, HB2.out⟩
            rw [HD.out, ← h2, Option.getD_none]
            exact World.ownsRow_nil _ _ _ _
    · obtain rfl : k = n := by omega
      have hf : Hid (∀ out : List Int, out.length = m → depGo t.length (t.drop k) k out = D → (m = k → D = some out) ∧ (m ≠ k → D = none)) := Lib.hid (fun out h1 h2 => by
        rw [List.drop_of_length_le (by rw [HN.out]; exact Nat.le_refl _), depGo, h1, HN.out] at h2
        exact ⟨fun e => by rw [if_pos e] at h2; exact h2.symm, fun e => by rw [if_neg e] at h2; exact h2.symm⟩)
      by_cases hmk : m = k
      · subst hmk
        have e1 : ((m : Int) != m) = false := by simp
        have e2 : (m != m) = false := by simp
        go_wp2_with fail
        go_ret
        obtain ⟨out, h1, h2, h3, h4⟩ := HI.out.out
        have hd := (hf.out out h1 h2).1 (by trivial)
        refine ⟨_, rfl, ?_, HI.out.be⟩
        rw [HD.out, hd, Option.getD_some, h1]
        exact h4
      · have e1 : ((m : Int) != k) = true := bne_iff_ne.2 (by omega)
        have e2 : (m != k) = true := bne_iff_ne.2 hmk
        have HMK := Lib.hid hmk
        clear hmk
        go_wp2_with fail
        rw [Exit.noGoto_ret]
        go_ret
        obtain ⟨out, h1, h2, h3, h4⟩ := HI.out.out
        have hd := (hf.out out h1 h2).2 HMK.out
        refine ⟨_, rfl, ?_, HI.out.be⟩
        rw [HD.out, hd, Option.getD_none]
        exact World.ownsRow_nil _ _ _ _
end Go.Proofs.Ytbhikceekldenaa.Hb

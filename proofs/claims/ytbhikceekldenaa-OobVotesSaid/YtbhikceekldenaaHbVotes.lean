/- The walk of oob.Votes. -/
import Derived.Test.YtbhikceekldenaaHbMay
namespace Go.Proofs.Ytbhikceekldenaa.Hb
set_option linter.unusedVariables false
set_option linter.unusedSimpArgs false
open Go.RowKit

def voteC : Option Int → List Value
  | none => [.bool false, .int .i64 0]
  | some v => [.bool true, .int .i64 v]
theorem voteC_len (v : Option Int) : (voteC v).length = 2 := by cases v <;> rfl
def votesR (g : Grv) : List (Option Int) := if mayG g then votesO g else []
theorem votes_len (g : Grv) : (votesO g).length = g.rows.toNat := by simp [votesO]
theorem votes_at {g : Grv} {i : Nat} (h : i < g.rows.toNat) : (votesO g)[i]? = some (voteAt g i) := by
  unfold votesO; rw [List.getElem?_map, List.getElem?_range h]; rfl
theorem flatV_set (x : Option Int) (v : Int) : ∀ (l r : List (Option Int)), (((l ++ x :: r).flatMap voteC).set (l.length * 2) (.bool true)).set (l.length * 2 + 1) (.int .i64 v) = (l ++ some v :: r).flatMap voteC
  | [], r => by cases x <;> rfl
  | y :: l, r => by
    have ih := flatV_set x v l r
    rw [List.cons_append, List.flatMap_cons, List.cons_append, List.flatMap_cons, ← ih]
    obtain ⟨a, b, hab⟩ : ∃ a b, voteC y = [a, b] := by cases y <;> exact ⟨_, _, rfl⟩
    rw [hab, List.length_cons, show (l.length + 1) * 2 = l.length * 2 + 1 + 1 by omega]
    rfl
theorem flatV_len : ∀ (l : List (Option Int)), (l.flatMap voteC).length = l.length * 2
  | [] => rfl
  | x :: l => by rw [List.flatMap_cons, List.length_append, voteC_len, flatV_len l, List.length_cons]; omega
theorem flatV_get : ∀ (l : List (Option Int)) (i j : Nat) (x : Option Int), l[i]? = some x → j < 2 → (l.flatMap voteC)[i * 2 + j]? = (voteC x)[j]?
  | [], i, j, x, h, _ => by simp at h
  | y :: l, i, j, x, h, hj => by
    rw [List.flatMap_cons]
    rcases i with _ | i
    · simp at h; subst h
      rw [Nat.zero_mul, Nat.zero_add, List.getElem?_append_left (by rw [voteC_len]; exact hj)]
    · rw [List.getElem?_append_right (by rw [voteC_len]; omega), voteC_len, show (i + 1) * 2 + j - 2 = i * 2 + j by omega]
      exact flatV_get l i j x (by simpa using h) hj
theorem info_vote : (Try.prog.info? 45).map (fun i => (i.zero, i.size, i.bytes)) = some (some (.agg #[.bool false, .int .i64 0]), 2, 16) := by kernel_rfl
theorem made_votes (n : Nat) : (madeCells (Value.agg #[.bool false, .int .i64 0]).cells (n * 2)).toList = (List.replicate n (none : Option Int)).flatMap voteC := by
  apply List.ext_getElem?
  intro i
  by_cases hi : i < n * 2
  · have h1 : (List.replicate n (none : Option Int))[i / 2]? = some none := by rw [List.getElem?_replicate]; simp; omega
    have h2 := flatV_get _ (i / 2) (i % 2) none h1 (by omega)
    rw [show i / 2 * 2 + i % 2 = i by omega] at h2
    rw [h2]
    have e : (Value.agg #[.bool false, .int .i64 0]).cells = #[.bool false, .int .i64 0] := rfl
    rw [e, madeCells, Array.getElem?_toList, Array.getElem?_map, Array.getElem?_range]
    simp only [hi, if_true, Option.map_some]
    rcases Nat.mod_two_eq_zero_or_one i with h | h
    · simp [h, voteC]
    · simp [h, voteC]
  · have h1 : ((List.replicate n (none : Option Int)).flatMap voteC)[i]? = none := by
      rw [List.getElem?_eq_none_iff, flatV_len, List.length_replicate]; omega
    rw [h1, List.getElem?_eq_none_iff, Array.length_toList, size_madeCells]
    omega
theorem leaves_any (g : Grv) (Ac At Aw Ag : Option Addr) (cc ct cw cg : Nat) (w : World) : Calls Try.prog 36 #[.agg (grvA g Ac At Aw Ag cc ct cw cg)] w fun e w' =>
    e = .returned (.func (.func 60) #[] #[.pointer (some ⟨w.heap.size, 0, none⟩)]) ∧ w' = w.alloc (.cells (grvA g Ac At Aw Ag cc ct cw cg) 38) := by
  obtain ⟨V, hV⟩ : ∃ V, grvA g Ac At Aw Ag cc ct cw cg = V := ⟨_, rfl⟩
  rw [hV]
  go_enter Try.func36, Try.ntmps36
  go_wp2_with fail
  go_ret
  exact ⟨rfl, rfl⟩
theorem leaves_ok {w : World} {g : Grv} {Ac At Aw Ag : Option Addr} (hmay : mayG g = true) (hok : OkG g) (hr : RG w g Ac At Aw Ag) (i : Nat) : ∀ x ∈ leavesO g i, x.ok := by
  intro x hx
  obtain ⟨a1, a2, _⟩ := may_is hmay
  obtain ⟨_, _, c1, c2, _⟩ := head_is a1
  obtain ⟨j, t, y, e1, e2, rfl⟩ := leaves_mem _ _ _ _ _ hx
  obtain ⟨_, hrt⟩ := trees_is a2 j t y e1 e2
  have hl := hok.tt t (List.mem_of_getElem? e1)
  obtain ⟨p1, p2, p3⟩ := place_right hrt (by omega) (rowO g.rows g.cols g.cells i) (by rw [row_len]; omega)
  obtain ⟨_, _, t', _, _, f1, _, _, _, f2⟩ := hr.rt.at (i := j) (List.getElem?_eq_some_iff.1 e1).1
  rw [e1] at f1
  cases f1
  exact f2.ok _ (List.mem_of_getElem? (ndAt_get p1 p2))
theorem votes_step {vs : List (Option Int)} {n k : Nat} (hl : vs.length = n) (hk : k < n) : ∃ x, vs[k]? = some x ∧ vs.take (k + 1) ++ List.replicate (n - (k + 1)) none = vs.take k ++ x :: List.replicate (n - (k + 1)) none ∧ vs.take k ++ List.replicate (n - k) none = vs.take k ++ none :: List.replicate (n - (k + 1)) none := by
  have hk' : k < vs.length := by omega
  refine ⟨vs[k], List.getElem?_eq_getElem hk', ?_, ?_⟩
  · rw [List.take_succ_eq_append_getElem hk', List.append_assoc]; rfl
  · rw [show n - k = (n - (k + 1)) + 1 by omega, List.replicate_succ]
set_option maxRecDepth 100000 in
set_option maxHeartbeats 8000000 in
theorem votes_any (g : Grv) (Ac At Aw Ag : Option Addr) (cc ct cw cg : Nat) (w : World) (hok : OkG g) (hr : RG w g Ac At Aw Ag) :
    Calls Try.prog 16 #[.agg (grvA g Ac At Aw Ag cc ct cw cg)] w fun e w' => ∃ v, e = .returned (.tuple #[v, .int .i64 (if mayG g then 0 else 8)]) ∧ w'.ownsRow w.heap.size 45 2 v (votesR g).length ((votesR g).flatMap voteC) ∧ Below w.heap.size w w' := by
  have KM := Lib.hid (fun w hr => may_any g Ac At Aw Ag cc ct cw cg w hok hr)
  have KL := Lib.hid (fun w => leaves_any g Ac At Aw Ag cc ct cw cg w)
  obtain ⟨GV, hGV⟩ : ∃ V, grvA g Ac At Aw Ag cc ct cw cg = V := ⟨_, rfl⟩
  have HRG := Lib.hid hr
  cases hmay : mayG g with
  | false =>
    have e : votesR g = [] := by unfold votesR; rw [hmay]; rfl
    rw [e]
    rw [hmay] at KM
    rw [hGV] at KM ⊢
    have hsz : (Try.prog.info? 38).map (·.size) = some GV.size := by rw [← hGV]; kernel_rfl
    clear e hGV hmay
    have HF : Hid ((if false = true then (0 : Int) else 8) = 8) := Lib.hid rfl
    rw [HF.out]
    go_enter Try.func16, Try.ntmps16
    go_upto_region 1 with (fail)
    have kB := Blk.new w GV 38
    have HBE := Lib.hid ((Below.refl w.heap.size w).alloc (Nat.le_refl _) (.cells GV 38))
    go_wp2_with (refine wpList_load_row rfl 38 (.tmp 1) rfl w.heap.size rfl 38 GV (0, 0) _ kB Try.underlying38 rfl hsz ?_)
    refine (KM.out _ (HRG.out.below HBE.out)).mono ?_
    rintro e w1 ⟨rfl, hb⟩
    go_wp2_with fail
    go_ret2
    exact ⟨_, rfl, World.ownsRow_nil _ _ _ _, HBE.out.trans (hb.mono HBE.out.size)⟩
  | true =>
    have e : votesR g = votesO g := by unfold votesR; rw [hmay]; rfl
    rw [e]
    have HF : Hid ((if true = true then (0 : Int) else 8) = 0) := Lib.hid rfl
    rw [HF.out]
    rw [hmay] at KM
    obtain ⟨m1, m2, _⟩ := may_is hmay
    obtain ⟨_, hmat, _, _, hlen, _⟩ := head_is m1
    obtain ⟨n, hn⟩ := Int.eq_ofNat_of_zero_le hmat.1.1
    have hnb : n ≤ 16777216 := by have := hmat.1.2; omega
    have hnt : g.rows.toNat = n := by omega
    have hvl := votes_len g
    rw [hnt] at hvl
    have HVA := Lib.hid (fun i (hi : i < n) => votes_at (g := g) (i := i) (by rw [hnt]; exact hi))
    have KL1 := Lib.hid (fun (i B : Nat) (w : World) (hi : i < n) hr hB => leaves1_any g Ac At Aw Ag cc ct cw cg i B w hmay hok (by omega) hr hB)
    have HLO := Lib.hid (fun w hr i => leaves_ok (w := w) (Ac := Ac) (At := At) (Aw := Aw) (Ag := Ag) hmay hok hr i)
    have HLN := Lib.hid (fun i => Nat.le_trans (leaves_len (rowO g.rows g.cols g.cells i) i g.trees g.weights) hok.lt)
    have KV := Lib.hid (fun (i : Nat) (A : Option Addr) (c : Nat) (w : World) hr => vote_any g.k g.cl g.b g.t g.d g.l g.p (leavesO g i) A c w hr (by have := HLN.out i; unfold leavesO; omega))
    have HVO := Lib.hid (fun (i : Nat) (h0 : leavesO g i ≠ []) => vote_at hmay (fun t ht => by have := hok.tt t ht; omega) hok.lt h0)
    have hgA : grvA g Ac At Aw Ag cc ct cw cg = #[.int .i64 g.k, .int .i64 g.cl, .int .i64 g.b, .int .i64 g.t, .int .i64 g.d, .int .i64 g.l, .int .i64 g.p, .int .i64 n, .int .i64 g.cols, .slice Ac g.cells.length cc, .slice At g.trees.length ct, .slice Aw g.weights.length cw, .slice Ag g.tgt.length cg] := by unfold grvA; rw [hn]
    have HGA := Lib.hid (hGV ▸ hgA)
    rw [hGV] at KM KL KL1 ⊢
    have hsz : (Try.prog.info? 38).map (·.size) = some GV.size := by rw [← hGV]; kernel_rfl
    obtain ⟨VS, hVS⟩ : ∃ VS, votesO g = VS := ⟨_, rfl⟩
    rw [hVS] at hvl HVA ⊢
    rw [hvl]
    have HVL := Lib.hid hvl
    obtain ⟨i0, hi0, hz0, hz1, hz2⟩ := info_parts info_vote
    unfold cfgA at KV
    obtain ⟨k, hk⟩ : ∃ x, g.k = x := ⟨_, rfl⟩
    obtain ⟨cl, hcl⟩ : ∃ x, g.cl = x := ⟨_, rfl⟩
    obtain ⟨b, hb⟩ : ∃ x, g.b = x := ⟨_, rfl⟩
    obtain ⟨t, ht⟩ : ∃ x, g.t = x := ⟨_, rfl⟩
    obtain ⟨d, hd⟩ : ∃ x, g.d = x := ⟨_, rfl⟩
    obtain ⟨l, hl⟩ : ∃ x, g.l = x := ⟨_, rfl⟩
    obtain ⟨p, hp⟩ : ∃ x, g.p = x := ⟨_, rfl⟩
    rw [hk, hcl, hb, ht, hd, hl, hp] at KV HGA
    rw [hk, hcl] at HVO
    have HVT : Hid (∀ i, voteAt g i = if leavesO g i = [] then none else some (voteO k cl (leavesO g i)).1) := Lib.hid (fun i => by unfold voteAt; rw [hk, hcl])
    clear e hGV hmay m1 m2 hmat hlen hn hnt hvl hgA hVS hok hr hk hcl hb ht hd hl hp
    go_enter Try.func16, Try.ntmps16
    go_upto_region 1 with (fail)
    have kB := Blk.new w GV 38
    have HBE := Lib.hid ((Below.refl w.heap.size w).alloc (Nat.le_refl _) (.cells GV 38))
    go_wp2_with (refine wpList_load_row rfl 38 (.tmp 1) rfl w.heap.size rfl 38 GV (0, 0) _ kB Try.underlying38 rfl hsz ?_)
    refine (KM.out _ (HRG.out.below HBE.out)).mono ?_
    rintro e w1 ⟨rfl, hb⟩
    have HBE1 := Lib.hid (HBE.out.trans (hb.mono HBE.out.size))
    replace kB := kB.below hb
    clear hb
    go_upto_region 3 with (fail)
    go_wp2_with (refine wpList_load_row rfl 38 (.tmp 1) rfl w.heap.size rfl 38 GV (0, 0) _ kB Try.underlying38 rfl hsz ?_)
    refine (KL.out _).mono ?_
    rintro e w2 ⟨rfl, rfl⟩
    have kB2 := Lib.hid (kB.below ((Below.refl _ w1).alloc (Nat.le_refl _) (.cells GV 38)))
    have kL2 := Lib.hid (Blk.new w1 GV 38)
    have HBE2 := Lib.hid (HBE1.out.alloc HBE1.out.size (.cells GV 38))
    have hBL : w.heap.size < w1.heap.size := by have := kB.lt; omega
    obtain ⟨W2, hW2⟩ : ∃ W, w1.alloc (.cells GV 38) = W := ⟨_, rfl⟩
    have hs2 : W2.heap.size = w1.heap.size + 1 := by rw [← hW2]; simp
    rw [hW2] at kB2 kL2 HBE2 ⊢
    have HS2 := Lib.hid hs2
    clear hs2
    have y7 : W2.cell? ⟨w.heap.size, 7, none⟩ = some (.int .i64 (n : Int)) := by have := kB2.out.cell 7; rw [HGA.out] at this; exact this
    have hlB := kB2.out.lt
    clear kB hsz hW2
    go_wp2_with (at_make; refine wpList_make_full _ rfl _ _ 34 rfl W2.heap.size 45 i0 (.agg #[.bool false, .int .i64 0]) 2 Try.underlying34 hi0 hz0 hz1 .i64 .i64 _ _ n rfl rfl rfl rfl (by rw [hz2]; omega) (by unfold maxLen; omega) (by simp) ?_; intro w3 hown hgrow)
    rw [made_votes] at hown
    have kB3 := Lib.hid (kB2.out.below ⟨hgrow.os, hgrow.tape, hgrow.output, hgrow.size, fun i hi => hgrow.block i hi (by simp)⟩)
    have kL3 := Lib.hid (kL2.out.below ⟨hgrow.os, hgrow.tape, hgrow.output, hgrow.size, fun i hi => hgrow.block i hi (by simp)⟩)
    have HBE3 := Lib.hid (HBE2.out.grown hgrow HBE2.out.size (fun q e => by cases e))
    have HOW := Lib.hid hown
    clear hown hgrow y7 hlB
    go_loopw [21] (fun iv wr => ∃ j : Nat, j ≤ n ∧ iv = .int .i64 j ∧ Hid (wr.ownsRow W2.heap.size 45 2 (.slice (some ⟨W2.heap.size, 0, none⟩) n n) n ((VS.take j ++ List.replicate (n - j) none).flatMap voteC)) ∧ Hid (Blk wr w.heap.size GV 38 ∧ Blk wr w1.heap.size GV 38 ∧ Below w.heap.size w wr)) (fun iv _ => n - (intOf iv).toNat)
    case atStart => exact ⟨0, Nat.zero_le _, rfl, Lib.hid (by rw [List.take_zero, Nat.sub_zero, List.nil_append]; exact HOW.out), Lib.hid ⟨kB3.out, kL3.out, HBE3.out⟩⟩
    case round =>
      obtain ⟨j, hj, rfl, HO, HX⟩ := hrel
      by_cases hlt : j < n
      · have hlt' : (j : Int) < n := by omega
        obtain ⟨x, hx1, hx2, hx3⟩ := votes_step HVL.out hlt
        have hxv : x = voteAt g j := by have := HVA.out j hlt; rw [hx1] at this; exact Option.some.inj this
        have HR2 := Lib.hid (HRG.out.below HX.out.2.2)
        have KL2 := Lib.hid (KL1.out j w1.heap.size wr hlt HR2.out HX.out.2.1)
        have HX2 := Lib.hid hx2
        have HX3 := Lib.hid hx3
        obtain ⟨L, hL⟩ : ∃ L, leavesO g j = L := ⟨_, rfl⟩
        have HLO2 := Lib.hid (HLO.out wr HR2.out j)
        have HVO2 := Lib.hid (HVO.out j)
        have KV2 := Lib.hid (KV.out j)
        have hxv2 := HVT.out j
        rw [hL] at KL2 HLO2 HVO2 KV2 hxv2
        obtain ⟨m, hm⟩ : ∃ m, L.length = m := ⟨_, rfl⟩
        rw [hm] at KL2 KV2
        have HM := Lib.hid hm
        have HXV := Lib.hid (hxv.trans hxv2)
        clear hx1 hx2 hx3 hxv hxv2 hL hm
        go_wp2_with fail
        refine KL2.out.mono ?_
        rintro e w4 ⟨v, rfl, ho, hb⟩
        obtain ⟨a4, c4, rfl⟩ := own_slice ho
        have HO4 := Lib.hid (own_below HO.out hb)
        have HX4 : Hid (Blk w4 w.heap.size GV 38 ∧ Blk w4 w1.heap.size GV 38 ∧ Below w.heap.size w w4) := Lib.hid ⟨HX.out.1.below hb, HX.out.2.1.below hb, HX.out.2.2.trans (hb.mono HX.out.2.2.size)⟩
        have HRN : Hid (RN w4 a4 L) := Lib.hid (RN.own (by have := ho; rw [← HM.out] at this; exact this) HLO2.out)
        clear ho hb
        by_cases hm0 : m = 0
        · have HXN : Hid (x = none) := Lib.hid (by rw [HXV.out, if_pos (List.length_eq_zero_iff.1 (by rw [HM.out]; exact hm0))])
          subst hm0
          go_wp2_with fail
          go_roundw
          case rel =>
            refine ⟨j + 1, hlt, by go_num, Lib.hid ?_, HX4⟩
            rw [HX2.out, HXN.out, ← HX3.out]
            exact HO4.out
          case measure => simp [intOf]; omega
        · have hL0 : L ≠ [] := fun e => hm0 (by rw [← HM.out, e]; rfl)
          obtain ⟨v, hv1, _, _⟩ := HVO2.out hL0
          have HXS : Hid (x = some v) := Lib.hid (by rw [HXV.out, if_neg hL0, hv1])
          have KV3 := Lib.hid (KV2.out a4 c4 w4 HRN.out)
          rw [hv1] at KV3
          simp only [resP] at KV3
          have d0 : ((m : Int) == 0) = false := beq_eq_false_iff_ne.2 (by omega)
          have d1 : (m == 0) = false := beq_eq_false_iff_ne.2 hm0
          have gg := HX4.out.1
          rw [HGA.out] at gg
          obtain ⟨q0, q1, q2, q3, q4, q5, q6, q7, q8, q9, q10, q11, q12⟩ := gg.cells13
          have hlB := gg.lt
          clear gg hL0 hv1 hm0
          go_wp2_with fail
          refine KV3.out.mono ?_
          rintro e w5 ⟨rfl, hb⟩
          have HO5 := Lib.hid (own_below HO4.out hb)
          have HX5 : Hid (Blk w5 w.heap.size GV 38 ∧ Blk w5 w1.heap.size GV 38 ∧ Below w.heap.size w w5) := Lib.hid ⟨HX4.out.1.below hb, HX4.out.2.1.below hb, HX4.out.2.2.trans (hb.mono HX4.out.2.2.size)⟩
          have hO5 := HO5.out
          rw [HX3.out] at hO5
          have hlk : (VS.take j).length = j := by rw [List.length_take, HVL.out]; omega
          have hmid : (VS.take j ++ none :: List.replicate (n - (j + 1)) none)[j]? = some none := by
            rw [List.getElem?_append_right (by omega), hlk, Nat.sub_self]; rfl
          have z0 : w5.cell? ⟨W2.heap.size, j * 2, none⟩ = some (.bool false) := (World.ownsRow.cellAt hO5 (j * 2) (by omega)).trans (flatV_get _ j 0 none hmid (by omega))
          have z1 : w5.cell? ⟨W2.heap.size, j * 2 + 1, none⟩ = some (.int .i64 0) := (World.ownsRow.cellAt hO5 (j * 2 + 1) (by omega)).trans (flatV_get _ j 1 none hmid (by omega))
          have z2 := fun i => World.ownsRow.frozenAt hO5 i
          have HNEW : Hid (((w5.setCell ⟨W2.heap.size, j * 2, none⟩ (.bool true)).setCell ⟨W2.heap.size, j * 2 + 1, none⟩ (.int .i64 v)).ownsRow W2.heap.size 45 2 (.slice (some ⟨W2.heap.size, 0, none⟩) n n) n ((VS.take j ++ some v :: List.replicate (n - (j + 1)) none).flatMap voteC)) := Lib.hid (by
            have s2 := (World.ownsRow.stored (World.ownsRow.stored hO5 (j * 2) (.bool true)).1 (j * 2 + 1) (.int .i64 v)).1
            have e2 := flatV_set none v (VS.take j) (List.replicate (n - (j + 1)) none)
            rw [hlk] at e2
            rw [e2] at s2
            exact s2)
          have hg5 : W2.heap.size < w5.heap.size := (World.ownsRow.lt hO5 _ rfl).2
          clear q0 q1 q2 q3 q4 q5 q6 q7 q8 q9 q10 q11 q12 hlB hb hO5 hlk hmid
          go_wp2_with fail
          go_roundw
          case rel =>
            refine ⟨j + 1, hlt, by go_num, Lib.hid ?_, Lib.hid ⟨?_, ?_, ?_⟩⟩
            · rw [HX2.out, HXS.out]; exact HNEW.out
            · exact (HX5.out.1.other (p := ⟨W2.heap.size, j * 2, none⟩) (by have := HS2.out; show w.heap.size ≠ W2.heap.size; omega) _).other (p := ⟨W2.heap.size, j * 2 + 1, none⟩) (by have := HS2.out; show w.heap.size ≠ W2.heap.size; omega) _
            · exact (HX5.out.2.1.other (p := ⟨W2.heap.size, j * 2, none⟩) (by have := HS2.out; show w1.heap.size ≠ W2.heap.size; omega) _).other (p := ⟨W2.heap.size, j * 2 + 1, none⟩) (by have := HS2.out; show w1.heap.size ≠ W2.heap.size; omega) _
            · exact (HX5.out.2.2.setCell (p := ⟨W2.heap.size, j * 2, none⟩) HBE2.out.size _).setCell (p := ⟨W2.heap.size, j * 2 + 1, none⟩) HBE2.out.size _
          case measure => simp [intOf]; omega
      · obtain rfl : n = j := by omega
        go_wp2_with fail
        go_ret2
        refine ⟨_, rfl, ?_, HX.out.2.2⟩
        have := HO.out
        rw [Nat.sub_self, List.replicate_zero, List.append_nil, List.take_of_length_le (by rw [HVL.out]; exact Nat.le_refl _)] at this
        show wr.ownsRow w.heap.size 45 2 (.slice (some ⟨W2.heap.size, 0, none⟩) n n) n _
        exact World.ownsRow.mono this HBE2.out.size
end Go.Proofs.Ytbhikceekldenaa.Hb

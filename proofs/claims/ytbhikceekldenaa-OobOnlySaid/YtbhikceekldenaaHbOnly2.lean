/- The walk of the law OobOnly. -/
import Derived.Test.YtbhikceekldenaaHbOnly
namespace Go.Proofs.Ytbhikceekldenaa.Hb
set_option linter.unusedVariables false
set_option linter.unusedSimpArgs false
open Go.RowKit

set_option maxRecDepth 100000 in
set_option maxHeartbeats 2000000 in
theorem only_great (g : Grv) (place : Int) (o : List Nd) (Ac At Aw Ag Ao : Option Addr) (cc ct cw cg co : Nat) (w : World) (hr : RG w g Ac At Aw Ag) (l1 : g.trees.length ≤ 9223372036854775807) (l2 : g.weights.length ≤ 9223372036854775807)
    (h : greatG g = true ∨ 100 < o.length ∨ g.trees.length = 0) :
    Calls Try.prog 5 #[.agg (grvA g Ac At Aw Ag cc ct cw cg), .int .u8 place, .slice Ao o.length co] w (True0 w) := by
  have KG := Lib.hid (fun w hr => great_any g Ac At Aw Ag cc ct cw cg w hr l1 l2)
  have HRG := Lib.hid hr
  obtain ⟨GV, hGV⟩ : ∃ V, grvA g Ac At Aw Ag cc ct cw cg = V := ⟨_, rfl⟩
  have hsz : (Try.prog.info? 31).map (·.size) = some GV.size := by rw [← hGV]; kernel_rfl
  have hg10 : GV[10]? = some (.slice At g.trees.length ct) := by rw [← hGV]; rfl
  obtain ⟨nt, hnt⟩ : ∃ n, g.trees.length = n := ⟨_, rfl⟩
  obtain ⟨no, hno⟩ : ∃ n, o.length = n := ⟨_, rfl⟩
  rw [hGV] at KG
  rw [hnt] at h hg10
  rw [hno] at h
  rw [hGV, hno]
  clear hGV hnt hno hr l1 l2
  cases hgr : greatG g with
  | true =>
    rw [hgr] at KG
    clear hgr h
    go_enter Try.func5, Try.ntmps5
    go_upto_region 1 with (fail)
    have kB := Blk.new w GV 31
    have HBE := Lib.hid ((Below.refl w.heap.size w).alloc (Nat.le_refl _) (.cells GV 31))
    go_wp2_with (refine wpList_load_row rfl 31 (.tmp 3) rfl w.heap.size rfl 31 GV (0, 0) _ kB Try.underlying31 rfl hsz ?_)
    refine (KG.out _ (HRG.out.below HBE.out)).mono ?_
    rintro e w1 ⟨rfl, hb⟩
    have HBE1 := Lib.hid (HBE.out.trans (hb.mono HBE.out.size))
    clear hb kB
    go_wp2_with fail
    refine (fixed25_any _).mono ?_
    rintro e w2 ⟨rfl, hb⟩
    have HBE2 := Lib.hid (HBE1.out.trans (hb.mono HBE1.out.size))
    clear hb
    go_wp2_with fail
    go_ret
    exact ⟨rfl, HBE2.out⟩
  | false =>
    rw [hgr] at KG
    rw [hgr] at h
    by_cases h1 : 100 < no
    · have d1 : decide (100 < no) = true := decide_eq_true h1
      have d1' : decide ((100 : Int) < no) = true := decide_eq_true (by omega)
      clear hgr h h1
      go_enter Try.func5, Try.ntmps5
      go_upto_region 1 with (fail)
      have kB := Blk.new w GV 31
      have HBE := Lib.hid ((Below.refl w.heap.size w).alloc (Nat.le_refl _) (.cells GV 31))
      go_wp2_with (refine wpList_load_row rfl 31 (.tmp 3) rfl w.heap.size rfl 31 GV (0, 0) _ kB Try.underlying31 rfl hsz ?_)
      refine (KG.out _ (HRG.out.below HBE.out)).mono ?_
      rintro e w1 ⟨rfl, hb⟩
      have HBE1 := Lib.hid (HBE.out.trans (hb.mono HBE.out.size))
      clear hb kB
      go_wp2_with fail
      refine (fixed25_any _).mono ?_
      rintro e w2 ⟨rfl, hb⟩
      have HBE2 := Lib.hid (HBE1.out.trans (hb.mono HBE1.out.size))
      clear hb
      go_wp2_with fail
      go_ret
      exact ⟨rfl, HBE2.out⟩
    · have d1 : decide (100 < no) = false := decide_eq_false h1
      have d1' : decide ((100 : Int) < no) = false := decide_eq_false (by omega)
      have hn0 : nt = 0 := by
        rcases h with h | h | h
        · cases h
        · exact absurd h h1
        · exact h
      subst hn0
      clear hgr h h1
      go_enter Try.func5, Try.ntmps5
      go_upto_region 1 with (fail)
      have kB := Blk.new w GV 31
      have HBE := Lib.hid ((Below.refl w.heap.size w).alloc (Nat.le_refl _) (.cells GV 31))
      go_wp2_with (refine wpList_load_row rfl 31 (.tmp 3) rfl w.heap.size rfl 31 GV (0, 0) _ kB Try.underlying31 rfl hsz ?_)
      refine (KG.out _ (HRG.out.below HBE.out)).mono ?_
      rintro e w1 ⟨rfl, hb⟩
      have HBE1 := Lib.hid (HBE.out.trans (hb.mono HBE.out.size))
      have q10 := (kB.below hb).cell 10
      rw [hg10] at q10
      have hlB := (kB.below hb).lt
      clear hb kB
      go_wp2_with fail
      refine (fixed25_any _).mono ?_
      rintro e w2 ⟨rfl, hb⟩
      have HBE2 := Lib.hid (HBE1.out.trans (hb.mono HBE1.out.size))
      clear hb
      go_wp2_with fail
      go_ret
      exact ⟨rfl, HBE2.out⟩
set_option maxRecDepth 100000 in
set_option maxHeartbeats 8000000 in
theorem only_any (g : Grv) (place : Int) (hp0 : 0 ≤ place) (hp1 : place ≤ 255) (o : List Nd) (Ac At Aw Ag Ao : Option Addr) (cc ct cw cg co : Nat) (w : World) (hr : RG w g Ac At Aw Ag) (hro : RN w Ao o) (hco : o.length ≤ co) (hco2 : co ≤ 9223372036854775807)
    (hgr : greatG g = false) (ho100 : o.length ≤ 100) (hn0 : g.trees.length ≠ 0) :
    Calls Try.prog 5 #[.agg (grvA g Ac At Aw Ag cc ct cw cg), .int .u8 place, .slice Ao o.length co] w (True0 w) := by
  have hok := great_ok hgr
  have KG := Lib.hid (fun w hr => great_any g Ac At Aw Ag cc ct cw cg w hr (by have := hok.lt; omega) hok.lw)
  rw [hgr] at KG
  obtain ⟨k, hk⟩ := Int.eq_ofNat_of_zero_le (show 0 ≤ place % (g.trees.length : Int) from Int.emod_nonneg _ (by omega))
  have hkn : k < g.trees.length := by have := Int.emod_lt_of_pos place (show (0 : Int) < g.trees.length by omega); omega
  obtain ⟨hg, hhg⟩ : ∃ x, onlyG k o g = x := ⟨_, rfl⟩
  have hokh : OkG hg := by
    rw [← hhg]
    exact ⟨hok.lc, by show (g.trees.set k o).length ≤ _; rw [List.length_set]; exact hok.lt, hok.lw, hok.lg, fun t ht => by
      rcases List.mem_or_eq_of_mem_set ht with h | h
      · exact hok.tt t h
      · subst h; omega, hok.ww⟩
  have KV := Lib.hid (fun w hr => votes_any g Ac At Aw Ag cc ct cw cg w hok hr)
  have KW := Lib.hid (fun (a : Option Addr) (c : Nat) w hr => votes_any hg Ac a Aw Ag cc c cw cg w hokh hr)
  have KGr := Lib.hid (fun w => grove_any g Ac At Aw Ag cc ct cw cg w)
  have KGh := Lib.hid (fun (a : Option Addr) (c : Nat) w => grove_any hg Ac a Aw Ag cc c cw cg w)
  obtain ⟨GV, hGV⟩ : ∃ V, grvA g Ac At Aw Ag cc ct cw cg = V := ⟨_, rfl⟩
  have hsz : (Try.prog.info? 31).map (·.size) = some GV.size := by rw [← hGV]; kernel_rfl
  obtain ⟨nt, hnt⟩ : ∃ n, g.trees.length = n := ⟨_, rfl⟩
  obtain ⟨no, hno⟩ : ∃ n, o.length = n := ⟨_, rfl⟩
  obtain ⟨HV, hHV⟩ : ∃ HV : Value → Array Value, HV = fun v => #[.int .i64 g.k, .int .i64 g.cl, .int .i64 g.b, .int .i64 g.t, .int .i64 g.d, .int .i64 g.l, .int .i64 g.p, .int .i64 g.rows, .int .i64 g.cols, .slice Ac g.cells.length cc, v, .slice Aw g.weights.length cw, .slice Ag g.tgt.length cg] := ⟨_, rfl⟩
  have hht : hg.trees = g.trees.set k o := by rw [← hhg]; rfl
  have hHg : ∀ (a : Option Addr) (c : Nat), grvA hg Ac a Aw Ag cc c cw cg = HV (.slice a nt c) := fun a c => by
    rw [hHV, ← hnt, ← hhg]
    unfold grvA onlyG
    simp only [List.length_set]
  have hGg : GV = HV (.slice At nt ct) := by rw [hHV, ← hnt, ← hGV]; rfl
  have HRH : Hid (∀ (w' : World) (a : Option Addr), Below w.heap.size w w' → RT w' a hg.trees → RG w' hg Ac a Aw Ag) := Lib.hid (fun w' a hb h => by
    have h2 := hr.below hb
    rw [← hhg] at h ⊢
    exact ⟨h2.rc, h, h2.rw, h2.rg⟩)
  have HRG := Lib.hid hr
  have HRO := Lib.hid hro
  obtain ⟨adT, vals, rfl, hv1, hv2, hv3⟩ := RT.vals hr.rt (by omega)
  have hro2 : rowK w 6 ndR o [.slice Ao o.length co] := ⟨Ao, co, rfl, hco, hco2, hro⟩
  have hvl : vals.length = g.trees.length := hv2.1
  have HV1 := Lib.hid hv1
  have HV2 : Hid (InT w (vals.set k (.slice Ao o.length co)) hg.trees) := Lib.hid (by rw [← hhg]; exact hv2.set k hro2)
  have HMG : Hid (mayG g = true → mayG hg = true → ∃ n : Nat, (n : Int) = g.rows ∧ (votesR g).length = n ∧ (votesR hg).length = n ∧ ∃ wk, g.weights[k]? = some wk ∧ wk.length = n ∧ ∀ (i : Nat), i < n → ∃ x y, (votesR g)[i]? = some x ∧ (votesR hg)[i]? = some y ∧ x.isSome = y.isSome ∧ (wk.getD i 0 ≠ 0 → x = y)) := Lib.hid (fun h1 h2 => by
    obtain ⟨a1, a2, _⟩ := may_is h1
    obtain ⟨_, hmat, _, _, hl, _⟩ := head_is a1
    obtain ⟨n, hn⟩ := Int.eq_ofNat_of_zero_le hmat.1.1
    have e1 : votesR g = votesO g := by unfold votesR; rw [h1]; rfl
    have e2 : votesR hg = votesO hg := by unfold votesR; rw [h2]; rfl
    have hrh : hg.rows = g.rows := by rw [← hhg]; rfl
    have hkw : k < g.weights.length := by omega
    have hwk := (trees_is a2 k _ _ (List.getElem?_eq_getElem hkn) (List.getElem?_eq_getElem hkw)).1
    refine ⟨n, hn.symm, by rw [e1, votes_len]; omega, by rw [e2, votes_len, hrh]; omega, _, List.getElem?_eq_getElem hkw, by omega, fun i hi => ?_⟩
    refine ⟨voteAt g i, voteAt hg i, by rw [e1]; exact votes_at (by omega), by rw [e2]; exact votes_at (by rw [hrh]; omega), ?_, fun hw => ?_⟩
    · rw [← hhg]; exact (only_there h1 i).symm
    · rw [← hhg]; exact (only_vote (List.getElem?_eq_getElem hkw) hw).symm)
  have HROW := Lib.hid (fun h => great_rows hgr h)
  have HNT := Lib.hid hnt
  have HNO := Lib.hid hno
  have HHG := Lib.hid hHg
  have HHV := Lib.hid hHV
  have HGG := Lib.hid hGg
  have HHT := Lib.hid hht
  rw [hGV] at KG KV KGr ⊢
  rw [hnt] at hk hkn hn0 hvl
  rw [hno] at ho100 hco HV2 ⊢
  have hnt10 : nt ≤ 10 := by have := (great_not hgr).1; unfold greatH at this; omega
  have e1 : decide (100 < no) = false := decide_eq_false (by omega)
  have e1' : decide ((100 : Int) < no) = false := decide_eq_false (by omega)
  have e2 : (nt == 0) = false := beq_eq_false_iff_ne.2 hn0
  have e2' : ((nt : Int) == 0) = false := beq_eq_false_iff_ne.2 (by omega)
  have hw8 : IntKind.i64.wrap place = place := by rw [IntKind.wrap_i64]; omega
  have hntp : 0 < nt := by omega
  obtain ⟨i0, hi0, hz0, hz1, hz2⟩ := info_parts info_tree
  obtain ⟨E1, hE1⟩ : ∃ E : Int, (if mayG g then 0 else 8) = E := ⟨_, rfl⟩
  obtain ⟨E2, hE2⟩ : ∃ E : Int, (if mayG hg then 0 else 8) = E := ⟨_, rfl⟩
  have HE1 : Hid ((E1 = 0 ∧ mayG g = true) ∨ E1 = 8) := Lib.hid (by cases h : mayG g <;> rw [h] at hE1 <;> simp at hE1 <;> simp [← hE1])
  have HE2 : Hid ((E2 = 0 ∧ mayG hg = true) ∨ E2 = 8) := Lib.hid (by cases h : mayG hg <;> rw [h] at hE2 <;> simp at hE2 <;> simp [← hE2])
  rw [hE1] at KV
  rw [hE2] at KW
  obtain ⟨VA, hVA⟩ : ∃ VA, votesR g = VA := ⟨_, rfl⟩
  obtain ⟨VB, hVB⟩ : ∃ VB, votesR hg = VB := ⟨_, rfl⟩
  rw [hVA] at KV HMG
  rw [hVB] at KW HMG
  obtain ⟨na, hna⟩ : ∃ n, VA.length = n := ⟨_, rfl⟩
  obtain ⟨nb, hnb⟩ : ∃ n, VB.length = n := ⟨_, rfl⟩
  rw [hna] at KV HMG
  rw [hnb] at KW HMG
  clear hok hhg hokh hGV hnt hno hht hHV hHg hGg hr hro hgr hn0 hE1 hE2 hVA hVB hna hnb
  go_enter Try.func5, Try.ntmps5
  go_upto_region 1 with (fail)
  have kB := Blk.new w GV 31
  have HBE := Lib.hid ((Below.refl w.heap.size w).alloc (Nat.le_refl _) (.cells GV 31))
  go_wp2_with (refine wpList_load_row rfl 31 (.tmp 3) rfl w.heap.size rfl 31 GV (0, 0) _ kB Try.underlying31 rfl hsz ?_)
  refine (KG.out _ (HRG.out.below HBE.out)).mono ?_
  rintro e w1 ⟨rfl, hb⟩
  have HBE1 := Lib.hid (HBE.out.trans (hb.mono HBE.out.size))
  have kB1 := kB.below hb
  have KB1 := Lib.hid kB1
  rw [HGG.out, HHV.out] at kB1
  obtain ⟨q0, q1, q2, q3, q4, q5, q6, q7, q8, q9, q10, q11, q12⟩ := kB1.cells13
  have hlB := kB1.lt
  have HN12 := Lib.hid hlB
  clear hb kB kB1
  go_upto_region 5 with (fail)
  have kH1 := Blk.new w1 (HV (.slice (some adT) nt ct)) 31
  have KB2 := Lib.hid (KB1.out.below ((Below.refl _ _).alloc (Nat.le_refl _) (.cells (HV (.slice (some adT) nt ct)) 31)))
  have HBE2 := Lib.hid (HBE1.out.alloc HBE1.out.size (.cells (HV (.slice (some adT) nt ct)) 31))
  obtain ⟨u1, hu1⟩ : ∃ W, w1.alloc (.cells (HV (.slice (some adT) nt ct)) 31) = W := ⟨_, rfl⟩
  have hs1 : u1.heap.size = w1.heap.size + 1 := by rw [← hu1]; simp
  have hu1' := hu1
  rw [HHV.out] at hu1'
  rw [hu1] at kH1 KB2 HBE2
  simp only at hu1'
  rw [hu1']
  have HS1 := Lib.hid hs1
  have KH1 := Lib.hid kH1
  rw [HHV.out] at kH1
  have kB2 := KB2.out
  rw [HGG.out, HHV.out] at kB2
  clear q0 q1 q2 q3 q4 q5 q6 q7 q8 q9 q10 q11 q12 hlB hs1 hu1 hu1' KB1
  have q10 : u1.cell? ⟨w.heap.size, 10, none⟩ = some (.slice (some adT) nt ct) := kB2.cell 10
  have hlB := kB2.lt
  have hlH := kH1.lt
  clear kB2
  obtain ⟨v0, hv0⟩ : ∃ v0, vals[k]? = some v0 := ⟨_, List.getElem?_eq_getElem (by omega)⟩
  have HV0 := Lib.hid hv0
  have hkn' : (k : Int) < nt := by omega
  clear hv0
  go_upto_region 7 with (at_builtin; refine wpList_append_lies _ rfl _ _ 27 rfl u1.heap.size 53 i0 (.slice none 0 0) 1 24 Try.underlying27 hi0 hz0 hz1 hz2 rfl (by decide) _ _ _ rfl (World.ownsRow_made u1 #[] 0 (Nat.le_refl _) (Nat.zero_le _) rfl) adT nt ct vals rfl (by omega) (fun j u hu => ((HBE2.out.alloc HBE2.out.size _).cell (World.block_lt_of_cell? w _ (HV1.out j u hu))).trans (HV1.out j u hu)) hv3 hntp (by unfold maxLen; omega) (by omega) (by simp) _ rfl ?_; intro g3 c3 w3 hown3 hg3 hat3 hlt3; rw [Nat.zero_add, List.nil_append] at hown3; rw [Nat.zero_add]; have HB3 : Below u1.heap.size u1 w3 := ((Below.refl u1.heap.size u1).alloc (Nat.le_refl _) _).grown hg3 (by simp) (fun q e => by cases e; exact Nat.le_refl _); have kH3 := KH1.out.below HB3; rw [HHV.out] at kH3; have y10 : w3.cell? ⟨w1.heap.size, 10, none⟩ = some (.slice (some adT) nt ct) := kH3.cell 10; have y13 := fun i => kH3.frozen i; have hl3 := kH3.lt; have z0 := (World.ownsRow.cellAt hown3 k (by omega)).trans HV0.out; have z13 := fun i => World.ownsRow.frozenAt hown3 i; have hg3u := (World.ownsRow.lt hown3 g3 rfl).1; have hne1 : w1.heap.size ≠ g3 := (by have := HS1.out; omega); have hne2 : g3 ≠ w1.heap.size := hne1.symm; have HOWN3 := Lib.hid hown3; have HBB3 := Lib.hid HB3; clear hown3 HB3 kH3 hg3 hat3 hg3u)
  have hg3u := (World.ownsRow.lt HOWN3.out g3 rfl).1
  have hNg3 : w.heap.size ≠ g3 := by have := HS1.out; have := HN12.out; omega
  have KB3 : Hid (Blk ((w3.setCell ⟨w1.heap.size, 10, none⟩ (.slice (some ⟨g3, 0, none⟩) nt c3)).setCell ⟨g3, k, none⟩ (.slice Ao no co)) w.heap.size GV 31) := Lib.hid
    (((KB2.out.below HBB3.out).other (p := ⟨w1.heap.size, 10, none⟩) (by have := HN12.out; show w.heap.size ≠ w1.heap.size; omega) _).other (p := ⟨g3, k, none⟩) hNg3 _)
  have KH3 : Hid (Blk ((w3.setCell ⟨w1.heap.size, 10, none⟩ (.slice (some ⟨g3, 0, none⟩) nt c3)).setCell ⟨g3, k, none⟩ (.slice Ao no co)) w1.heap.size (HV (.slice (some ⟨g3, 0, none⟩) nt c3)) 31) := Lib.hid (by
    have h := (KH1.out.below HBB3.out).set 10 (.slice (some ⟨g3, 0, none⟩) nt c3)
    have e : (HV (.slice (some adT) nt ct)).setIfInBounds 10 (.slice (some ⟨g3, 0, none⟩) nt c3) = HV (.slice (some ⟨g3, 0, none⟩) nt c3) := by rw [HHV.out]; rfl
    rw [e] at h
    exact h.other (p := ⟨g3, k, none⟩) hne1 _)
  have HBE3 : Hid (Below w.heap.size w ((w3.setCell ⟨w1.heap.size, 10, none⟩ (.slice (some ⟨g3, 0, none⟩) nt c3)).setCell ⟨g3, k, none⟩ (.slice Ao no co))) := Lib.hid
    (((HBE2.out.trans (HBB3.out.mono HBE2.out.size)).setCell (p := ⟨w1.heap.size, 10, none⟩) HBE1.out.size _).setCell (p := ⟨g3, k, none⟩) (by have := HBE2.out.size; show w.heap.size ≤ g3; omega) _)
  have HRT : Hid (RT ((w3.setCell ⟨w1.heap.size, 10, none⟩ (.slice (some ⟨g3, 0, none⟩) nt c3)).setCell ⟨g3, k, none⟩ (.slice Ao no co)) (some ⟨g3, 0, none⟩) hg.trees) := Lib.hid (by
    have h1 := own_set HOWN3.out (p := ⟨w1.heap.size, 10, none⟩) (.slice (some ⟨g3, 0, none⟩) nt c3) (by have := HS1.out; show w1.heap.size < u1.heap.size; omega)
    have h2 := (World.ownsRow.stored h1 k (.slice Ao no co)).1
    have hl : hg.trees.length = nt := by rw [HHT.out, List.length_set, HNT.out]
    have h3 : (((w3.setCell ⟨w1.heap.size, 10, none⟩ (.slice (some ⟨g3, 0, none⟩) nt c3)).setCell ⟨g3, k, none⟩ (.slice Ao no co))).ownsRow u1.heap.size 53 1 (.slice (some ⟨g3, 0, none⟩) hg.trees.length c3) hg.trees.length (vals.set k (.slice Ao no co)) := by rw [hl]; exact h2
    exact RT.own h3 (HV2.out.below HBE3.out))
  obtain ⟨u2, hu2⟩ : ∃ W, (w3.setCell ⟨w1.heap.size, 10, none⟩ (.slice (some ⟨g3, 0, none⟩) nt c3)).setCell ⟨g3, k, none⟩ (.slice Ao no co) = W := ⟨_, rfl⟩
  rw [hu2] at KB3 KH3 HBE3 HRT ⊢
  have HRh := Lib.hid (HRH.out u2 _ HBE3.out HRT.out)
  have HRg := Lib.hid (HRG.out.below HBE3.out)
  have KW2 := Lib.hid (fun w hr => KW.out (some ⟨g3, 0, none⟩) c3 w hr)
  have KGh2 := Lib.hid (fun w => KGh.out (some ⟨g3, 0, none⟩) c3 w)
  obtain ⟨HW, hHW⟩ : ∃ HW, HV (.slice (some ⟨g3, 0, none⟩) nt c3) = HW := ⟨_, rfl⟩
  rw [HHG.out, hHW] at KW2 KGh2
  have kB := KB3.out
  have kH := KH3.out
  rw [hHW] at kH
  have hszh : (Try.prog.info? 31).map (·.size) = some HW.size := by rw [← hHW, HHV.out]; kernel_rfl
  clear hu2 hHW z0 z13 y10 y13 hl3 hne1 hne2 hlt3 hNg3 hg3u q10 hlB hlH kH1 HBB3 HOWN3 KW KGh e1 e1' e2 e2' hw8 hk
  go_wp2_with (refine wpList_load_row rfl 31 (.tmp 3) rfl w.heap.size rfl 31 GV (0, 0) _ kB Try.underlying31 rfl hsz ?_)
  refine (KGr.out _).mono ?_
  rintro e v1 ⟨rfl, hb⟩
  have HB1 := Lib.hid (HBE3.out.trans (hb.mono HBE3.out.size))
  have HRg1 := Lib.hid (HRg.out.below hb)
  have HRh1 := Lib.hid (HRh.out.below hb)
  have KB4 := Lib.hid (kB.below hb)
  replace kH := kH.below hb
  clear hb kB
  go_wp2_with fail
  refine (KV.out _ HRg1.out).mono ?_
  rintro e v2 ⟨va, rfl, hoa, hb⟩
  obtain ⟨Aa, ca, rfl⟩ := own_slice hoa
  have HOA := Lib.hid hoa
  have HB2 := Lib.hid (HB1.out.trans (hb.mono HB1.out.size))
  have HRh2 := Lib.hid (HRh1.out.below hb)
  have KB5 := Lib.hid (KB4.out.below hb)
  replace kH := kH.below hb
  clear hb hoa
  go_upto_region 8 with (fail)
  go_wp2_with (refine wpList_load_row rfl 31 (.tmp 8) rfl w1.heap.size rfl 31 HW (0, 0) _ kH Try.underlying31 rfl hszh ?_)
  refine (KGh2.out _).mono ?_
  rintro e v3 ⟨rfl, hb⟩
  have HB3 := Lib.hid (HB2.out.trans (hb.mono HB2.out.size))
  have HRh3 := Lib.hid (HRh2.out.below hb)
  have KB6 := Lib.hid (KB5.out.below hb)
  have HOA3 := Lib.hid (own_below HOA.out hb)
  clear hb kH
  go_wp2_with fail
  refine (KW2.out _ HRh3.out).mono ?_
  rintro e v4 ⟨vb, rfl, hob, hb⟩
  obtain ⟨Ab, cb, rfl⟩ := own_slice hob
  have HOB := Lib.hid hob
  have HB4 := Lib.hid (HB3.out.trans (hb.mono HB3.out.size))
  have KB7 := Lib.hid (KB6.out.below hb)
  have HOA4 := Lib.hid (own_below HOA3.out hb)
  clear hb hob
  rcases HE1.out with ⟨rfl, hm1⟩ | rfl
  · rcases HE2.out with ⟨rfl, hm2⟩ | rfl
    · obtain ⟨n, hn, ea, eb, wk, hwk, hwl, hall⟩ := HMG.out hm1 hm2
      have hn100 : n ≤ 100 := by have := (HROW.out hm1).2; omega
      have ea' := ea.symm
      have eb' := eb.symm
      subst ea' eb'
      have gg := KB7.out
      rw [HGG.out, HHV.out] at gg
      obtain ⟨q0, q1, q2, q3, q4, q5, q6, q7, q8, q9, q10, q11, q12⟩ := gg.cells13
      rw [← hn] at q7
      have hlB := gg.lt
      have HWK := Lib.hid (And.intro hwk hwl)
      have HALL := Lib.hid hall
      have hq := fun (w : World) x0 y0 x1 y1 => eq_vote 9998 w x0 y0 x1 y1
      have d1 : ((n : Int) != (n : Int)) = false := by simp
      clear gg hwk hwl hall hn hm1 hm2 ea eb
      go_wp2_with fail
      clear q0 q1 q2 q3 q4 q5 q6 q7 q8 q9 q10 q11 q12 hlB d1
      go_loopw [96] (fun iv wr => ∃ i : Nat, i ≤ n ∧ iv = .int .i64 i ∧ Hid (Below v4.heap.size v4 wr)) (fun iv _ => n - (intOf iv).toNat)
      case atStart => exact ⟨0, Nat.zero_le _, rfl, Lib.hid (Below.refl _ _)⟩
      case round =>
        obtain ⟨i, hi, rfl, HBw⟩ := hrel
        by_cases hlt : i < n
        · have hlt' : (i : Int) < n := by omega
          obtain ⟨x, y, hx, hy, hxy, hwx⟩ := HALL.out i hlt
          obtain ⟨adw, eAw, wk', Bw, capw, hw1, hw2, hw3, hw4, hw5⟩ := (HRG.out.below (HB4.out.trans (HBw.out.mono HB4.out.size))).rw.at (i := k) (List.getElem?_eq_some_iff.1 HWK.out.1).1
          have ewk : wk' = wk := by have := HWK.out.1; rw [hw1] at this; exact Option.some.inj this
          subst ewk
          have hkw := (List.getElem?_eq_some_iff.1 HWK.out.1).1
          obtain ⟨adx, eBw, hxin, yw⟩ := hw5.at (i := i) (by rw [HWK.out.2]; exact hlt)
          obtain ⟨wt, hwt⟩ : ∃ x, wk'.getD i 0 = x := ⟨_, rfl⟩
          rw [hwt] at yw hwx
          rw [HWK.out.2] at hw2
          have gg := KB7.out.below HBw.out
          rw [HGG.out, HHV.out] at gg
          have q11 : wr.cell? ⟨w.heap.size, 11, none⟩ = some (.slice Aw g.weights.length cw) := gg.cell 11
          have hlB := gg.lt
          obtain ⟨nw, hnw⟩ : ∃ n, g.weights.length = n := ⟨_, rfl⟩
          rw [hnw] at q11 hkw
          have hkw' : (k : Int) < nw := by omega
          obtain ⟨ga, capa, eva, _, _, hga, hca⟩ := own_open (own_below HOA4.out HBw.out) (by omega)
          obtain ⟨gb, capb, evb, _, _, hgb, hcb⟩ := own_open (own_below HOB.out HBw.out) (by omega)
          simp only [Value.slice.injEq] at eva evb
          obtain ⟨rfl, _, rfl⟩ := eva
          obtain ⟨rfl, _, rfl⟩ := evb
          subst eAw
          have a0 := hca (i * 2) _ ((flatV_get VA i 0 x hx (by omega)).trans (by cases x <;> rfl : (voteC x)[0]? = some (.bool x.isSome)))
          have a1 := hca (i * 2 + 1) _ ((flatV_get VA i 1 x hx (by omega)).trans (by cases x <;> rfl : (voteC x)[1]? = some (.int .i64 (x.getD 0))))
          have b0 := hcb (i * 2) _ ((flatV_get VB i 0 y hy (by omega)).trans (by cases y <;> rfl : (voteC y)[0]? = some (.bool y.isSome)))
          have b1 := hcb (i * 2 + 1) _ ((flatV_get VB i 1 y hy (by omega)).trans (by cases y <;> rfl : (voteC y)[1]? = some (.int .i64 (y.getD 0))))
          rw [← hxy] at b0
          have HXY := Lib.hid hwx
          obtain ⟨xs, hxs⟩ : ∃ z, x.isSome = z := ⟨_, rfl⟩
          obtain ⟨xv, hxv⟩ : ∃ z, x.getD 0 = z := ⟨_, rfl⟩
          obtain ⟨yv, hyv⟩ : ∃ z, y.getD 0 = z := ⟨_, rfl⟩
          have HVV : Hid (wt ≠ 0 → xv = yv) := Lib.hid (fun h => by rw [← hxv, ← hyv, hwx h])
          rw [hxs] at a0 b0
          rw [hxv] at a1
          rw [hyv] at b1
          subst eBw
          clear hca hcb hx hy hxy hwx hw1 hw3 hw4 hw5 hxin hwt gg hnw hxs hxv hyv HXY
          by_cases hw0 : wt = 0
          · have d2 : (wt != 0) = false := by simpa using hw0
            clear hw0
            cases xs with
            | true =>
              go_wp2_with fail
              go_quiet (fail)
              go_wp2_with fail
              go_quiet (fail)
              go_wp2_with fail
              go_roundw
              case rel => exact ⟨i + 1, hlt, by go_num, Lib.hid (HBw.out.trans ⟨rfl, rfl, rfl, Nat.le_refl _, fun _ _ => rfl⟩)⟩
              case measure => simp [intOf]; omega
            | false =>
              go_wp2_with fail
              go_quiet (fail)
              go_wp2_with fail
              go_quiet (fail)
              go_wp2_with fail
              go_roundw
              case rel => exact ⟨i + 1, hlt, by go_num, Lib.hid (HBw.out.trans ⟨rfl, rfl, rfl, Nat.le_refl _, fun _ _ => rfl⟩)⟩
              case measure => simp [intOf]; omega
          · have d2 : (wt != 0) = true := bne_iff_ne.2 hw0
            have hvv := HVV.out hw0
            subst hvv
            clear hw0
            cases xs with
            | true =>
              go_wp2_with fail
              go_quiet (fail)
              go_wp2_with fail
              go_quiet (fail)
              go_wp2_with fail
              go_roundw
              case rel => exact ⟨i + 1, hlt, by go_num, Lib.hid (HBw.out.trans ⟨rfl, rfl, rfl, Nat.le_refl _, fun _ _ => rfl⟩)⟩
              case measure => simp [intOf]; omega
            | false =>
              go_wp2_with fail
              go_quiet (fail)
              go_wp2_with fail
              go_quiet (fail)
              go_wp2_with fail
              go_roundw
              case rel => exact ⟨i + 1, hlt, by go_num, Lib.hid (HBw.out.trans ⟨rfl, rfl, rfl, Nat.le_refl _, fun _ _ => rfl⟩)⟩
              case measure => simp [intOf]; omega
        · obtain rfl : n = i := by omega
          go_wp2_with fail
          refine (fixed25_any _).mono ?_
          rintro e v5 ⟨rfl, hb⟩
          have HB5 := Lib.hid ((HB4.out.trans (HBw.out.mono HB4.out.size)).trans (hb.mono (HB4.out.trans (HBw.out.mono HB4.out.size)).size))
          clear hb
          go_wp2_with fail
          go_ret
          exact ⟨rfl, HB5.out⟩
    · go_wp2_with fail
      refine (fixed25_any _).mono ?_
      rintro e v5 ⟨rfl, hb⟩
      have HB5 := Lib.hid (HB4.out.trans (hb.mono HB4.out.size))
      clear hb
      go_wp2_with fail
      go_ret
      exact ⟨rfl, HB5.out⟩
  · rcases HE2.out with ⟨rfl, hm2⟩ | rfl
    · go_wp2_with fail
      refine (fixed25_any _).mono ?_
      rintro e v5 ⟨rfl, hb⟩
      have HB5 := Lib.hid (HB4.out.trans (hb.mono HB4.out.size))
      clear hb
      go_wp2_with fail
      go_ret
      exact ⟨rfl, HB5.out⟩
    · go_wp2_with fail
      refine (fixed25_any _).mono ?_
      rintro e v5 ⟨rfl, hb⟩
      have HB5 := Lib.hid (HB4.out.trans (hb.mono HB4.out.size))
      clear hb
      go_wp2_with fail
      go_ret
      exact ⟨rfl, HB5.out⟩
end Go.Proofs.Ytbhikceekldenaa.Hb

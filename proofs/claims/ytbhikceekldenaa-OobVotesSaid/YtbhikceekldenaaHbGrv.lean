/- Groves as they are read; the walk of oob.leaves. -/
import Derived.Test.YtbhikceekldenaaHbPlace
import Derived.Test.YtbhikceekldenaaHbMRow
import Derived.Test.YtbhikceekldenaaHbVote
namespace Go.Proofs.Ytbhikceekldenaa.Hb
set_option linter.unusedVariables false
set_option linter.unusedSimpArgs false
open Go.RowKit

def grvA (g : Grv) (Ac At Aw Ag : Option Addr) (cc ct cw cg : Nat) : Array Value :=
  #[.int .i64 g.k, .int .i64 g.cl, .int .i64 g.b, .int .i64 g.t, .int .i64 g.d, .int .i64 g.l, .int .i64 g.p, .int .i64 g.rows, .int .i64 g.cols, .slice Ac g.cells.length cc, .slice At g.trees.length ct, .slice Aw g.weights.length cw, .slice Ag g.tgt.length cg]
structure RG (w : World) (g : Grv) (Ac At Aw Ag : Option Addr) : Prop where
  rc : RC w Ac g.cells
  rt : RT w At g.trees
  rw : RW w Aw g.weights
  rg : RI1 w Ag g.tgt
structure OkG (g : Grv) : Prop where
  lc : g.cells.length ≤ 9223372036854775807
  lt : g.trees.length ≤ 1048576
  lw : g.weights.length ≤ 9223372036854775807
  lg : g.tgt.length ≤ 9223372036854775807
  tt : ∀ t ∈ g.trees, t.length ≤ 1099511627776
  ww : ∀ x ∈ g.weights, x.length ≤ 9223372036854775807
theorem RG.below {w w1 : World} {g : Grv} {Ac At Aw Ag : Option Addr} (h : RG w g Ac At Aw Ag) (hb : Below w.heap.size w w1) : RG w1 g Ac At Aw Ag := ⟨h.rc.below hb, h.rt.below hb, h.rw.below hb, h.rg.below hb⟩
theorem Blk.cells13 {w : World} {g : Nat} {a b c d e f h i j k l m n : Value} {t : TypeId} (x : Blk w g #[a, b, c, d, e, f, h, i, j, k, l, m, n] t) :
    w.cell? ⟨g, 0, none⟩ = some a ∧ w.cell? ⟨g, 1, none⟩ = some b ∧ w.cell? ⟨g, 2, none⟩ = some c ∧ w.cell? ⟨g, 3, none⟩ = some d ∧ w.cell? ⟨g, 4, none⟩ = some e ∧ w.cell? ⟨g, 5, none⟩ = some f ∧
    w.cell? ⟨g, 6, none⟩ = some h ∧ w.cell? ⟨g, 7, none⟩ = some i ∧ w.cell? ⟨g, 8, none⟩ = some j ∧ w.cell? ⟨g, 9, none⟩ = some k ∧ w.cell? ⟨g, 10, none⟩ = some l ∧ w.cell? ⟨g, 11, none⟩ = some m ∧ w.cell? ⟨g, 12, none⟩ = some n :=
  ⟨x.cell 0, x.cell 1, x.cell 2, x.cell 3, x.cell 4, x.cell 5, x.cell 6, x.cell 7, x.cell 8, x.cell 9, x.cell 10, x.cell 11, x.cell 12⟩
theorem info_node : (Try.prog.info? 88).map (fun i => (i.zero, i.size, i.bytes)) = some (some (.agg #[.int .i64 0, .int .i64 0, .int .i64 0, .int .i64 0, .int .i64 0, .int .i64 0]), 6, 48) := by kernel_rfl
theorem cell_six (w : World) (a b c d e f : Value) (t : TypeId) : ∀ j u, [a, b, c, d, e, f][j]? = some u → (w.alloc (.cells #[a, b, c, d, e, f] t)).cell? ((⟨w.heap.size, 0, none⟩ : Addr).add j) = some u := by
  intro j u hj
  have k := (Blk.new w #[a, b, c, d, e, f] t).cell j
  rw [show (⟨w.heap.size, 0, none⟩ : Addr).add j = ⟨w.heap.size, j, none⟩ from by unfold Addr.add; split <;> simp_all]
  rw [k]
  simpa using hj
/-- A row of numbers that is owned is read. -/
theorem RI1.own {w : World} {base n c : Nat} {A : Option Addr} {l : List Int} (h : w.ownsRow base 3 1 (.slice A n c) l.length (ints l)) (ho : ∀ x ∈ l, in64 x) : RI1 w A l := by
  intro hl
  obtain ⟨g, cap, hv, _, _, _, hc⟩ := own_open h hl
  simp only [Value.slice.injEq] at hv
  obtain ⟨rfl, _, _⟩ := hv
  refine ⟨_, rfl, fun i y hy => ⟨[.int .i64 y], rfl, ⟨rfl, ho y (List.mem_of_getElem? hy)⟩, fun j u hj => ?_⟩⟩
  have hi : i < l.length := (List.getElem?_eq_some_iff.1 hy).1
  rcases j with _ | j
  · simp at hj; subst hj
    rw [Nat.mul_one, Nat.add_zero, show (⟨g, 0, none⟩ : Addr).add i = ⟨g, i, none⟩ from by unfold Addr.add; split <;> simp_all]
    refine hc i _ ?_
    rw [ints_get hi, List.getD_eq_getElem?_getD, hy]; rfl
  · simp at hj
theorem ndC_len (x : Nd) : (ndC x).length = 6 := rfl
theorem flat_get : ∀ (l : List Nd) (i j : Nat) (x : Nd), l[i]? = some x → j < 6 → (l.flatMap ndC)[i * 6 + j]? = (ndC x)[j]?
  | [], i, j, x, h, _ => by simp at h
  | y :: l, i, j, x, h, hj => by
    rw [List.flatMap_cons]
    rcases i with _ | i
    · simp at h; subst h
      rw [Nat.zero_mul, Nat.zero_add, List.getElem?_append_left (by rw [ndC_len]; exact hj)]
    · rw [List.getElem?_append_right (by rw [ndC_len]; omega), ndC_len, show (i + 1) * 6 + j - 6 = i * 6 + j by omega]
      exact flat_get l i j x (by simpa using h) hj
/-- Nodes that are owned are read. -/
theorem RN.own {w : World} {base n c : Nat} {A : Option Addr} {l : List Nd} (h : w.ownsRow base 88 6 (.slice A n c) l.length (l.flatMap ndC)) (ho : ∀ x ∈ l, x.ok) : RN w A l := by
  intro hl
  obtain ⟨g, cap, hv, _, _, _, hc⟩ := own_open h hl
  simp only [Value.slice.injEq] at hv
  obtain ⟨rfl, _, _⟩ := hv
  refine ⟨_, rfl, fun i y hy => ⟨ndC y, rfl, ⟨rfl, ho y (List.mem_of_getElem? hy)⟩, fun j u hj => ?_⟩⟩
  have hj6 : j < 6 := by have := (List.getElem?_eq_some_iff.1 hj).1; rwa [ndC_len] at this
  rw [show (⟨g, 0, none⟩ : Addr).add (i * 6 + j) = ⟨g, i * 6 + j, none⟩ from by unfold Addr.add; split <;> simp_all]
  exact hc _ _ (by rw [flat_get l i j y hy hj6]; exact hj)
theorem RN.ok {w : World} {A : Option Addr} {l : List Nd} (h : RN w A l) : ∀ x ∈ l, x.ok := by
  intro x hx
  obtain ⟨i, hi, rfl⟩ := List.getElem_of_mem hx
  obtain ⟨_, _, x, h1, h2, _⟩ := h.at hi
  rw [List.getElem?_eq_getElem hi] at h1
  cases h1; exact h2
theorem row_in {rows cols : Int} {cells : List Int} {i : Nat} (h : ∀ x ∈ cells, 0 ≤ x ∧ x ≤ 65535) : ∀ x ∈ rowO rows cols cells i, 0 ≤ x ∧ x ≤ 65535 := by
  intro x hx
  obtain ⟨j, _, rfl⟩ := List.mem_map.1 hx
  rw [List.getD_eq_getElem?_getD]
  cases hq : cells[j * rows.toNat + i]? with
  | none => simp
  | some y => exact h y (List.mem_of_getElem? hq)
theorem leaves_skip {row : List Int} {i k : Nat} {ts : List (List Nd)} {ws : List (List Int)} {t : List Nd} {x : List Int} (h1 : ts[k]? = some t) (h2 : ws[k]? = some x) (h : x.getD i 0 ≠ 0) : leavesGo row i (ts.drop k) (ws.drop k) = leavesGo row i (ts.drop (k + 1)) (ws.drop (k + 1)) := by
  obtain ⟨hk1, rfl⟩ := List.getElem?_eq_some_iff.1 h1
  obtain ⟨hk2, rfl⟩ := List.getElem?_eq_some_iff.1 h2
  rw [List.drop_eq_getElem_cons hk1, List.drop_eq_getElem_cons hk2, leavesGo, if_pos h]
theorem leaves_take {row : List Int} {i k : Nat} {ts : List (List Nd)} {ws : List (List Int)} {t : List Nd} {x : List Int} (h1 : ts[k]? = some t) (h2 : ws[k]? = some x) (h : x.getD i 0 = 0) : leavesGo row i (ts.drop k) (ws.drop k) = ndAt t (placeO t row) :: leavesGo row i (ts.drop (k + 1)) (ws.drop (k + 1)) := by
  obtain ⟨hk1, rfl⟩ := List.getElem?_eq_some_iff.1 h1
  obtain ⟨hk2, rfl⟩ := List.getElem?_eq_some_iff.1 h2
  rw [List.drop_eq_getElem_cons hk1, List.drop_eq_getElem_cons hk2, leavesGo, if_neg (by simpa using h)]
set_option maxRecDepth 100000 in
set_option maxHeartbeats 4000000 in
theorem leaves1_any (g : Grv) (Ac At Aw Ag : Option Addr) (cc ct cw cg : Nat) (i B : Nat) (w : World) (hmay : mayG g = true) (hok : OkG g) (hi : (i : Int) < g.rows) (hr : RG w g Ac At Aw Ag) (hB : Blk w B (grvA g Ac At Aw Ag cc ct cw cg) 38) :
    Calls Try.prog 60 #[.int .i64 i, .pointer (some ⟨B, 0, none⟩)] w fun e w' => ∃ v, e = .returned v ∧ w'.ownsRow w.heap.size 88 6 v (leavesO g i).length ((leavesO g i).flatMap ndC) ∧ Below w.heap.size w w' := by
  obtain ⟨m1, m2, _⟩ := may_is hmay
  obtain ⟨_, hmat, hc1, hc2, hlen, _⟩ := head_is m1
  have hmb : matB g.rows g.cols g.cells.length = true := decide_eq_true hmat
  have KR := Lib.hid (fun w hr => mrow_any g.rows g.cols g.cells Ac cc i w hmb hr hi)
  have HTR := Lib.hid (fun (k : Nat) (t : List Nd) (x : List Int) h1 h2 => trees_is m2 k t x h1 h2)
  have hrl : (rowO g.rows g.cols g.cells i).length = g.cols.toNat := row_len _ _ _ _
  have HRI := Lib.hid (row_in (rows := g.rows) (cols := g.cols) (i := i) hr.rc.1)
  have HL0 : Hid (leavesGo (rowO g.rows g.cols g.cells i) i (g.trees.drop 0) (g.weights.drop 0) = leavesO g i) := Lib.hid (by rw [List.drop_zero, List.drop_zero]; rfl)
  obtain ⟨L, hL⟩ : ∃ L, leavesO g i = L := ⟨_, rfl⟩
  obtain ⟨R, hR⟩ : ∃ R, rowO g.rows g.cols g.cells i = R := ⟨_, rfl⟩
  rw [hR] at KR hrl HRI HL0
  rw [hL] at HL0 ⊢
  have HLL : Hid (L.length ≤ g.trees.length) := Lib.hid (by rw [← hL]; exact leaves_len _ _ _ _)
  have HOK := Lib.hid hok
  have HRG := Lib.hid hr
  obtain ⟨k, cl, b, t, d, l, p, rows, cols, cells, trees, weights, tgt⟩ := g
  simp only at *
  unfold grvA at hB
  simp only at hB
  obtain ⟨nc, hnc⟩ : ∃ n, cells.length = n := ⟨_, rfl⟩
  obtain ⟨nt, hnt⟩ : ∃ n, trees.length = n := ⟨_, rfl⟩
  obtain ⟨nw, hnw⟩ : ∃ n, weights.length = n := ⟨_, rfl⟩
  obtain ⟨ng, hng⟩ : ∃ n, tgt.length = n := ⟨_, rfl⟩
  rw [hnc] at KR
  rw [hnt] at HLL hlen
  rw [hnw] at hlen
  rw [hnc, hnt, hnw, hng] at hB
  subst hlen
  obtain ⟨q0, q1, q2, q3, q4, q5, q6, q7, q8, q9, q10, q11, q12⟩ := hB.cells13
  have hlB := hB.lt
  have HNT := Lib.hid hnt
  have HNW := Lib.hid hnw
  have hntb : nw ≤ 1048576 := by have := HOK.out.lt; simp only at this; omega
  have HB := Lib.hid hB
  have HRL := Lib.hid hrl
  have hcb : cols.toNat ≤ 1024 := by omega
  have HCOL : Hid (cols ≤ (cols.toNat : Int)) := Lib.hid (by omega)
  have HI := Lib.hid hi
  obtain ⟨i0, hi0, hz0, hz1, hz2⟩ := info_parts info_node
  clear hmay hok hr hB m1 m2 hmat hmb hrl hL hR hnc hnt hnw hng hc1 hc2 hi
  go_enter Try.func60, Try.ntmps60
  go_wp2_with fail
  refine (KR.out _ HRG.out.rc).mono ?_
  rintro e w1 ⟨v, rfl, ho, hb⟩
  obtain ⟨Ar, cr, rfl⟩ := own_slice ho
  have HRR : Hid (RI1 w1 Ar R) := Lib.hid (RI1.own (by rw [HRL.out]; exact ho) (fun x hx => by have := HRI.out x hx; unfold in64; omega))
  have HB1 := Lib.hid (HB.out.below hb)
  have HBW := Lib.hid hb
  have HRG1 := Lib.hid (HRG.out.below hb)
  clear q0 q1 q2 q3 q4 q5 q6 q7 q8 q9 q10 q11 q12 hlB ho hb
  obtain ⟨q0, q1, q2, q3, q4, q5, q6, q7, q8, q9, q10, q11, q12⟩ := HB1.out.cells13
  go_wp2_with fail
  clear q0 q1 q2 q3 q4 q5 q6 q7 q8 q9 q10 q11 q12
  go_loopw [5, 16] (fun o iv wr => ∃ (k m : Nat) (a : Option Addr) (c : Nat), k ≤ nw ∧ m ≤ k ∧ iv = .int .i64 k ∧ o = .slice a m c ∧ Hid (∃ pre : List Nd, pre.length = m ∧ pre ++ leavesGo R i (trees.drop k) (weights.drop k) = L ∧ wr.ownsRow w1.heap.size 88 6 (.slice a m c) m (pre.flatMap ndC)) ∧ Hid (Below w1.heap.size w1 wr)) (fun _ iv _ => nw - (intOf iv).toNat)
  case atStart => exact ⟨0, 0, none, 0, Nat.zero_le _, Nat.le_refl _, rfl, rfl, Lib.hid ⟨[], rfl, HL0.out, World.ownsRow_nil _ _ _ _⟩, Lib.hid (Below.refl _ _)⟩
  case round =>
    obtain ⟨k, m, a, c, hk, hmk, rfl, rfl, HO, HBE⟩ := hrel
    by_cases hlt : k < nw
    · have hlt' : (k : Int) < nw := by omega
      have kB := HB1.out.below HBE.out
      obtain ⟨q0, q1, q2, q3, q4, q5, q6, q7, q8, q9, q10, q11, q12⟩ := kB.cells13
      have hlB := kB.lt
      have HR2 := Lib.hid (HRG1.out.below HBE.out)
      obtain ⟨adt, rfl, tr, Bt, capt, ht1, ht2, ht3, ht4, ht5⟩ := HR2.out.rt.at (i := k) (by rw [HNT.out]; exact hlt)
      obtain ⟨adw, rfl, wk, Bw, capw, hw1, hw2, hw3, hw4, hw5⟩ := HR2.out.rw.at (i := k) (by rw [HNW.out]; exact hlt)
      obtain ⟨htr1, htr2⟩ := HTR.out k tr wk ht1 hw1
      have hiw : i < wk.length := by have := HI.out; omega
      obtain ⟨adx, rfl, hxin, hx⟩ := hw5.at hiw
      obtain ⟨nwk, hnwk⟩ : ∃ n, wk.length = n := ⟨_, rfl⟩
      rw [hnwk] at hw2 hiw
      have hiw' : (i : Int) < nwk := by omega
      obtain ⟨x, hxx⟩ : ∃ x, wk.getD i 0 = x := ⟨_, rfl⟩
      rw [hxx] at hx
      have htl := HOK.out.tt tr (List.mem_of_getElem? ht1)
      by_cases hx0 : x = 0
      · have HSK := Lib.hid (leaves_take (row := R) ht1 hw1 (i := i) (by rw [hxx]; exact hx0))
        obtain ⟨pl1, pl2, pl3⟩ := place_right htr2 (by omega) R (by rw [HRL.out]; exact HCOL.out)
        have HNX : Hid (ndAt tr (placeO tr R)).ok := Lib.hid (ht5.ok _ (List.mem_of_getElem? (ndAt_get pl1 pl2)))
        obtain ⟨pN, hpN⟩ := Int.eq_ofNat_of_zero_le pl1
        have KP := Lib.hid (fun w hr hrr => place_any tr R Bt Ar capt cr w hr hrr htl (by rw [HRL.out]; omega))
        have hget := ndAt_get pl1 pl2
        rw [hpN] at KP hget HSK HNX pl2
        rw [Int.toNat_natCast] at hget
        rw [HRL.out] at KP
        obtain ⟨ntr, hntr⟩ : ∃ n, tr.length = n := ⟨_, rfl⟩
        rw [hntr] at KP ht2 ht3 pl2 htl
        have hpn2 : pN < ntr := by omega
        have HRN := Lib.hid ht5
        have HNTR := Lib.hid hntr
        have HGET := Lib.hid hget
        subst hx0
        clear ht1 hw1 htr1 htr2 hxin hnwk hxx pl1 pl3 hpN hntr ht5 hw5 kB hget
        go_wp2_with fail
        refine (KP.out _ HRN.out (HRR.out.below HBE.out)).mono ?_
        rintro e w2 ⟨rfl, hb⟩
        obtain ⟨adn, rfl, y, hy, hyok, hat⟩ := (HRN.out.below hb).at (i := pN) (by rw [HNTR.out]; exact hpn2)
        have hye : ndAt tr (pN : Int) = y := by have := HGET.out; rw [hy] at this; exact (Option.some.inj this).symm
        rw [hye] at HSK
        obtain ⟨p0, p1, p2, p3, p4, p5⟩ := hat
        have HO2 : Hid (∃ pre : List Nd, pre.length = m ∧ pre ++ leavesGo R i (trees.drop k) (weights.drop k) = L ∧ w2.ownsRow w1.heap.size 88 6 (.slice a m c) m (pre.flatMap ndC)) := Lib.hid (by
          obtain ⟨pre, h1, h2, h3⟩ := HO.out
          exact ⟨pre, h1, h2, own_below h3 hb⟩)
        have HBE2 := Lib.hid (HBE.out.trans (hb.mono HBE.out.size))
        have hs2 : w1.heap.size ≤ w2.heap.size := HBE2.out.size
        obtain ⟨pre, h1, h2, h3⟩ := HO2.out
        have HP1 := Lib.hid h1
        have HP2 := Lib.hid h2
        have HP3 := Lib.hid h3
        obtain ⟨f, b2, ll, cc2, sx, q⟩ := y
        simp only at p0 p1 p2 p3 p4 p5
        have d0 : decide (0 ≤ (pN : Int)) = true := decide_eq_true (by omega)
        clear hb hy hyok hye h1 h2 h3 HO HO2 ht2 hw2 hx q0 q1 q2 q3 q4 q5 q6 q7 q8 q9 q10 q11 q12 hlB
        go_wp2_with (at_builtin; refine wpList_append_lies _ rfl _ _ 53 rfl w1.heap.size 88 i0 (.agg #[.int .i64 0, .int .i64 0, .int .i64 0, .int .i64 0, .int .i64 0, .int .i64 0]) 6 48 Try.underlying53 hi0 hz0 hz1 hz2 rfl (by decide) _ _ _ rfl (HP3.out.alloc _) ⟨w2.heap.size, 0, none⟩ 1 1 [.int .i64 f, .int .i64 b2, .int .i64 ll, .int .i64 cc2, .int .i64 sx, .int .i64 q] rfl rfl (cell_six _ _ _ _ _ _ _ _) (by simp [Value.oneCell']) (by decide) (by unfold maxLen; omega) (by omega) (by simp; omega) _ rfl ?_; intro g3 c3 w3 hown3 hg3 hat3 hlt3)
        go_roundw
        case rel =>
          refine ⟨k + 1, m + 1, _, c3, hlt, by omega, by go_num, rfl, Lib.hid ⟨pre ++ [⟨f, b2, ll, cc2, sx, q⟩], by simp [HP1.out], ?_, ?_⟩, Lib.hid ?_⟩
          · have := HP2.out
            rw [HSK.out] at this
            rw [List.append_assoc]; exact this
          · rw [List.flatMap_append]; exact hown3
          · exact (HBE2.out.alloc (by omega) _).grown hg3 (by simp; omega) (fun q e => (World.ownsRow.lt HP3.out q e).1)
        case measure => simp [intOf]; omega
      · have HSK := Lib.hid (leaves_skip (row := R) ht1 hw1 (i := i) (by rw [hxx]; exact hx0))
        have d1 : (x != 0) = true := bne_iff_ne.2 hx0
        clear ht1 hw1 htr1 htr2 hxin hnwk hxx ht5 hw5 kB hx0
        go_wp2_with fail
        go_roundw
        case rel =>
          refine ⟨k + 1, m, a, c, hlt, by omega, by go_num, rfl, Lib.hid ?_, HBE⟩
          obtain ⟨pre, h1, h2, h3⟩ := HO.out
          exact ⟨pre, h1, by rw [← HSK.out]; exact h2, h3⟩
        case measure => simp [intOf]; omega
    · obtain rfl : k = nw := by omega
      go_wp2_with fail
      go_ret
      obtain ⟨pre, h1, h2, h3⟩ := HO.out
      have e0 : leavesGo R i (trees.drop k) (weights.drop k) = [] := by
        rw [List.drop_of_length_le (by rw [HNT.out]; exact Nat.le_refl _)]
        rfl
      rw [e0, List.append_nil] at h2
      subst h2
      refine ⟨_, rfl, ?_, HBW.out.trans (HBE.out.mono HBW.out.size)⟩
      rw [h1]
      exact World.ownsRow.mono h3 HBW.out.size
end Go.Proofs.Ytbhikceekldenaa.Hb

/- The program's k of n. -/
import Derived.Test.YtbhikceekldenaaHbDealPg
import Derived.Test.YtbhikceekldenaaHbDealRc
import Derived.Test.YtbhikceekldenaaHbShelf
import Derived.Sort.OwnSortedInts
namespace Go.Proofs.Ytbhikceekldenaa.Hb
set_option linter.unusedVariables false
open Go.RowKit Go.Sort Go.Proofs

theorem isFn_Choose : ∀ (args : Array Value) (w : World), (callFunc 54 args).run Try.prog w = .ok (.enter 54 args) w := isFn_of Try.func54 (by kernel_rfl) (by kernel_rfl)
theorem bndChoose_in (n m : Nat) (hn : n ≤ 1048576) (hm : m ≤ n) : ∀ z ∈ bndChoose n m, 0 < z ∧ z ≤ 1048576 := by
  intro z hz
  simp only [bndChoose, List.mem_map, List.mem_range] at hz
  obtain ⟨i, hi, rfl⟩ := hz
  omega
theorem sortedO_is (l : List Int) : (l.mergeSort fun x y => decide (x ≤ y)) = sortedO l := by
  refine sorted_one ((List.mergeSort_perm l _).trans (sorted_perm l).symm) ?_ (sorted_sorted l)
  have := List.pairwise_mergeSort (le := fun x y : Int => decide (x ≤ y)) (fun a b c h1 h2 => by simp at *; omega) (fun a b => by simp; omega) l
  exact this.imp (fun h => of_decide_eq_true h)
theorem sort_any (w : World) (base g n c : Nat) (l : List Int) (hl : l.length ≤ 1048576) (h : OwnI w base g n c l) :
    Calls Try.prog 56 #[.slice (some ⟨g, 0, none⟩) n c] w fun e w' => e = .returned (.tuple #[]) ∧ OwnI w' base g n c (sortedO l) ∧ w.grownBy w' (some g) := by
  have hn := h.len
  rcases h.2 with ⟨h0, _⟩ | ⟨g', cap', cur, e, hb, hg, h1, h2, h3, h4⟩
  · cases h0
  · simp only [Value.slice.injEq, Option.some.injEq, Addr.mk.injEq, and_true, true_and] at e
    obtain ⟨rfl, rfl⟩ := e
    have hH : Holds (Value.int .i64) w g 0 l.toArray := holds_of_blockI hg (by rw [hn, ← Nat.mul_one n, h4]; rfl)
    have k := sh_slices_Sort_int g 0 c l w hH (Array.getElem?_eq_some_iff.1 hg).1 (by omega)
    rw [hn] at k
    refine k.mono ?_
    rintro e w' ⟨rfl, nn, os, rfl⟩
    rw [sortedO_is]
    refine ⟨rfl, ?_, grownBy_sortedI _⟩
    have := ownsRow_sortedI (n := nn) (os := os) (ss := l) (ts := sortedO l) (sorted_len l) hb hg (by omega) h2 (by omega)
    rw [hn] at this
    exact this
set_option maxRecDepth 100000 in
set_option maxHeartbeats 2000000 in
theorem choose_any {v : Value} {b N0 : Nat} {num : Nat → Int} {J : Nat → World → Prop} (S : Src v b N0 num J) (n m : Nat) (hn : n ≤ 1048576) (hm : m ≤ n) (k : Nat) (hk : k ≤ 1048576) (w : World) (hN : N0 ≤ w.heap.size) (hJ : J k w) :
    Calls Try.prog 29 #[v, .int .i64 n, .int .i64 m] w (RetD (mapR (fun q => sortedO (q.take m)) (runO num stepChoose (bndChoose n m) 0 (rowI n) k)) J b w) := by
  obtain ⟨i0, hi, hz0, hz1, hz2⟩ := info_parts info_int
  have h1 : decide ((n : Int) < 0) = false := decide_eq_false (by omega)
  have h2 : decide (1048576 < (n : Int)) = false := decide_eq_false (by omega)
  have h3 : decide ((m : Int) < 0) = false := decide_eq_false (by omega)
  have h4 : decide (n < m) = false := decide_eq_false (by omega)
  have HJ := Lib.hid hJ
  have HS := Lib.hid S
  have HNN := Lib.hid hN
  have HKK := Lib.hid hk
  obtain ⟨R, hR⟩ : ∃ R, runO num stepChoose (bndChoose n m) 0 (rowI n) k = R := ⟨_, rfl⟩
  rw [hR]
  have HRR := Lib.hid hR
  clear hJ S hN hk hR
  go_enter Try.func29, Try.ntmps29
  go_wp2_with fail
  refine (row_any n hn _).mono ?_
  rintro e w1 ⟨g, c, rfl, ho, hb1⟩
  rw [rowI_len] at ho ⊢
  have HO := Lib.hid ho
  clear ho
  go_wp2_with fail
  have n0 := World.ownsRow.lt HO.out g rfl
  have s1 := hb1.size
  obtain ⟨W2, e2⟩ : ∃ W, W = w1.alloc (.cells #[.slice (some ⟨g, 0, none⟩) n c] 54) := ⟨_, rfl⟩
  rw [← e2]
  have kP : Blk W2 w1.heap.size #[.slice (some ⟨g, 0, none⟩) n c] 54 := by rw [e2]; exact Blk.new w1 _ _
  have hb2 : Below w1.heap.size w1 W2 := by rw [e2]; exact (Below.refl _ w1).alloc (Nat.le_refl _) _
  have ho2 : OwnI W2 w.heap.size g n c (rowI n) := own_below HO.out hb2
  have hbw : Below w.heap.size w W2 := hb1.trans (hb2.mono s1)
  clear e2 hb2
  obtain ⟨gp, hgp⟩ : ∃ gp, w1.heap.size = gp := ⟨_, rfl⟩
  rw [hgp] at kP n0 s1 ⊢
  have HGP := Lib.hid hgp
  clear hgp
  have X0 : Hid (Blk W2 gp #[.slice (some ⟨g, 0, none⟩) n c] 54 ∧ OwnI W2 w.heap.size g n c (rowI n) ∧ Below w.heap.size w W2) := Lib.hid ⟨kP, ho2, hbw⟩
  clear kP ho2 hbw
  go_loopw [9, 31] (fun o iv wr => ∃ j : Nat, j ≤ m ∧ iv = .int .i64 j ∧ Hid (wr.ownsRow w.heap.size 3 1 o j (ints ((bndChoose n m).take j)) ∧ (∀ q, o.ownBlock = some q → q ≠ g ∧ w.heap.size ≤ q)) ∧ Hid (Blk wr gp #[.slice (some ⟨g, 0, none⟩) n c] 54 ∧ OwnI wr w.heap.size g n c (rowI n) ∧ Below w.heap.size w wr)) (fun _ iv _ => m - (intOf iv).toNat)
  case atStart => exact ⟨0, Nat.zero_le _, rfl, Lib.hid ⟨World.ownsRow_nil _ _ _ _, fun q h => by cases h⟩, X0⟩
  case round =>
    obtain ⟨j, hj, rfl, HROW, X⟩ := hrel
    have gpw := X.out.1.lt
    by_cases hlt : j < m
    · have hlt' : (j : Int) < m := by omega
      obtain ⟨z, hz⟩ : ∃ z : Nat, (n : Int) - j = z := ⟨n - j, by omega⟩
      have hz2' : z ≤ 1048576 := by omega
      have hget : (bndChoose n m).getD j 0 = (z : Int) := by rw [bndChoose_get n m j hlt]; omega
      have htk : (bndChoose n m).take (j + 1) = (bndChoose n m).take j ++ [(z : Int)] := by rw [take_succ' (by rw [bndChoose_len]; exact hlt), hget]
      have HT := Lib.hid htk
      clear hget htk
      go_wp2_with (at_builtin; refine Hid.out ?_)
      refine Lib.hid ?_
      refine wpList_append_own_at _ rfl _ _ 54 rfl w.heap.size 3 i0 (.int .i64 0) 1 8 Try.underlying54 hi hz0 hz1 hz2 rfl (by decide) u9 j _ rfl (HROW.out.1.alloc _) ⟨wr.heap.size, 0, none⟩ 1 1 [.int .i64 z] rfl rfl (cell_one_new _ _ _) (by simp [Value.oneCell']) (by unfold maxLen; omega) (by omega) (by have := X.out.2.2.size; simp; omega) ?_
      intro v' w3 hown' hgrow _ hat
      have hgb : ∀ q, u9.ownBlock = some q → q ≠ gp := fun q hq => by
        rcases HROW.out.1.2 with ⟨rfl, _⟩ | ⟨g', cap', cur, rfl, _, hg', _⟩
        · cases hq
        · have := Option.some.inj hq
          simp only at this
          subst this
          intro e
          subst e
          have := (show wr.heap[g']? = _ from X.out.1).symm.trans hg'
          cases this
      have kP3 := blk_grown (X.out.1.below ((Below.refl _ _).alloc (Nat.le_refl _) (.cells #[.int .i64 z] 3))) hgrow (fun e => (hgb _ e.symm) rfl)
      have ho3 : OwnI w3 w.heap.size g n c (rowI n) := World.ownsRow.kept (X.out.2.1.alloc _) hgrow (.inr (fun e => (HROW.out.2 _ e.symm).1 rfl))
      have hb3 : Below w.heap.size w w3 := (X.out.2.2.alloc X.out.2.2.size _).grown hgrow (by have := X.out.2.2.size; simp; omega) (fun q e => (HROW.out.2 q e).2)
      have hob3 : ∀ q, v'.ownBlock = some q → q ≠ g ∧ w.heap.size ≤ q := fun q hq => by
        rcases hat with h | h
        · exact HROW.out.2 q (h ▸ hq)
        · rw [h] at hq
          have := Option.some.inj hq
          have h2 := (World.ownsRow.lt X.out.2.1 g rfl)
          have h3 := X.out.2.2.size
          simp at this
          omega
      have X3 : Hid (Blk w3 gp #[.slice (some ⟨g, 0, none⟩) n c] 54 ∧ OwnI w3 w.heap.size g n c (rowI n) ∧ Below w.heap.size w w3) := Lib.hid ⟨kP3, ho3, hb3⟩
      have R3 : Hid (w3.ownsRow w.heap.size 3 1 v' (j + 1) (ints ((bndChoose n m).take (j + 1))) ∧ (∀ q, v'.ownBlock = some q → q ≠ g ∧ w.heap.size ≤ q)) := Lib.hid ⟨by rw [HT.out, ints_snoc]; exact hown', hob3⟩
      clear hown' hgrow hat kP3 ho3 hb3 hob3 hgb
      go_wp2_with fail
      go_roundw
      case rel => exact ⟨j + 1, hlt, by go_num, R3, X3⟩
      case measure => simp [intOf]; omega
    · obtain rfl : j = m := by omega
      obtain ⟨hrow, hob⟩ := HROW.out
      obtain ⟨A, cap, rfl⟩ := own_slice hrow
      have hjl : (bndChoose n j).length = j := bndChoose_len n j
      have ht : (bndChoose n j).take j = bndChoose n j := List.take_of_length_le (by rw [hjl]; exact Nat.le_refl _)
      rw [ht] at hrow
      have hrd : RdI wr A (bndChoose n j) := RdI.own (n := j) (c := cap) (by rw [hjl]; exact hrow) (fun x hx => by have := bndChoose_in n j hn hm x hx; unfold inR; omega)
      have f : IPf w b N0 g gp A := ⟨HS.out.hb, HNN.out, n0.1, s1, by omega, fun ad e => by
        subst e
        exact hob _ rfl⟩
      have hp : IP w b N0 g n c gp A (bndChoose n j) (rowI n) wr := ⟨Nat.le_trans HNN.out X.out.2.2.size, X.out.2.1, by have := X.out.1.cell 0; exact this, hrd, grown_below X.out.2.2⟩
      have KD := draws_any HS.out 54 isFn_Choose #[.pointer (some ⟨gp, 0, none⟩)] (bndChoose n j) A cap stepChoose
        (fun _ q W => IP w b N0 g n c gp A (bndChoose n j) q W) (bndChoose_in n j hn hm) (by rw [bndChoose_len]; omega)
        (fun _ _ _ h => h.hN) (fun _ _ _ _ h hg => h.src f hg) (fun _ _ _ h => h.rd)
        (fun i q x W hi h0 h1 h => by
          obtain ⟨y, rfl⟩ : ∃ y : Nat, x = y := ⟨x.toNat, by omega⟩
          rw [bndChoose_len] at hi
          rw [bndChoose_get n j i hi] at h1
          refine (doChoose_any w.heap.size g gp n c q i y W (by omega) hn h.own f.pg h.cp).mono ?_
          rintro e2 W' ⟨hu, ho, hg⟩
          have hput := h.put f (q' := stepChoose q i (y : Int)) ho hg
          exact ⟨hu, hput.1, hput.2⟩)
        k HKK.out (rowI n) wr (HS.out.keep _ _ _ HJ.out (X.out.2.2.mono HNN.out)) hp
      rw [hjl, HRR.out] at KD
      have KDH := Lib.hid KD
      have F := Lib.hid f
      have hqin : ∀ q Rk, R = (some q, Rk) → q.length = n := fun q Rk e => by
        have := run_inv (step := stepChoose) (fun _ p => p.length = n) (bndChoose n j) 0 k (rowI n) q Rk (fun _ _ r _ _ _ _ hP => by unfold stepChoose; rw [swap_len]; exact hP) (fun z hz => (bndChoose_in n j hn hm z hz).1) (rowI_len n) (by rw [HRR.out, e])
        exact this
      clear KD hrow hob hrd hp hjl f X ht HROW
      go_wp2_with fail
      refine KDH.out.mono ?_
      rintro e w5 ⟨rfl, hJ5, i5, q5, hI5, hq5⟩
      have HQI := Lib.hid hqin
      clear HRR KDH hqin
      obtain ⟨Ro, Rk⟩ := R
      cases Ro with
      | none =>
        have HH : Hid (w.grownBy w5 (some b) ∧ J Rk w5) := Lib.hid ⟨hI5.gr, hJ5⟩
        clear hI5 hq5 hJ5
        unfold errR
        go_wp2_with fail
        go_ret2
        exact ⟨HH.out.1, HH.out.2, rfl⟩
      | some q =>
        obtain ⟨rfl, _⟩ := hq5 q rfl
        have c5 := hI5.cp
        have hcap := own_cap hI5.own
        have hjc : (j : Int) ≤ c := by omega
        have ht := own_take hI5.own j hm
        have hql := hI5.own.len
        have kc := sh_slices_Clone_int g 0 j c (q5.take j) w5 (by rw [List.length_take]; omega) (by omega) (fun i hi => by
          rw [List.length_take] at hi
          rw [Nat.zero_add]
          have := ht.at (i := i) (by omega)
          exact this)
        rw [List.take_take, Nat.min_self] at kc
        have KC := Lib.hid kc
        have HI5 := Lib.hid hI5
        have HJ5 := Lib.hid hJ5
        have HQL := Lib.hid hql
        clear hI5 hq5 hJ5 ht kc hql
        unfold errR
        go_wp2_with fail
        refine KC.out.mono ?_
        rintro e w6 ⟨v6, rfl, ho6, hv6, hb6⟩
        obtain ⟨g6, c6, rfl⟩ := own_some ho6 hv6
        have hl6 : (q5.take j).length = j := by rw [List.length_take, HQL.out]; omega
        have k6 := sort_any w6 w5.heap.size g6 j c6 (q5.take j) (by omega) ho6
        have K6 := Lib.hid k6
        have g6l := (World.ownsRow.lt ho6 g6 rfl).1
        have HB6 := Lib.hid hb6
        have HL6 := Lib.hid hl6
        clear ho6 hv6 hb6 k6 hl6
        go_wp2_with fail
        refine K6.out.mono ?_
        rintro e w7 ⟨rfl, ho7, hg7⟩
        have HO7 := Lib.hid ho7
        have HG7 := Lib.hid hg7
        clear ho7 hg7
        go_wp2_with fail
        go_ret2
        have hb0 := HS.out.hb
        have hN0 := HNN.out
        have hs5 := HI5.out.gr.size
        have hg57 : w5.grownBy w7 (some g6) := ⟨HG7.out.os.trans HB6.out.os, HG7.out.tape.trans HB6.out.tape, HG7.out.output.trans HB6.out.output, Nat.le_trans HB6.out.size HG7.out.size, fun i hi hr => (HG7.out.block i (Nat.lt_of_lt_of_le hi HB6.out.size) hr).trans (HB6.out.block i hi)⟩
        have hbel : Below w5.heap.size w5 w7 := ⟨hg57.os, hg57.tape, hg57.output, hg57.size, fun i hi => hg57.block i hi (fun e => by have := Option.some.inj e; omega)⟩
        refine ⟨grown_trans HI5.out.gr (grown_below hbel), HS.out.keep _ _ _ HJ5.out (hbel.mono HI5.out.hN), g6, c6, ?_, ?_⟩
        · rw [sorted_len, HL6.out]; rfl
        · rw [sorted_len, HL6.out]
          exact World.ownsRow.mono HO7.out hs5
end Go.Proofs.Ytbhikceekldenaa.Hb

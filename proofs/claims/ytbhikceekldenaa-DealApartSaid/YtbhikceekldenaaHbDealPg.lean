/- The program's permutation. -/
import Derived.Test.YtbhikceekldenaaHbDealRp
import Derived.Test.YtbhikceekldenaaHbDealSort
namespace Go.Proofs.Ytbhikceekldenaa.Hb
set_option linter.unusedVariables false
open Go.RowKit

theorem RdI.grown {W W' : World} {A : Option Addr} {l : List Int} {row : Option Nat} (h : RdI W A l) (hg : W.grownBy W' row) (hne : ∀ ad, A = some ad → some ad.block ≠ row) : RdI W' A l :=
  ⟨h.1, h.2.imp id fun ⟨ad, e, hc⟩ => ⟨ad, e, fun i hi => by
    have hlt := World.block_lt_of_cell? W _ (hc i hi)
    rw [← hc i hi]
    exact World.cell?_of_block (hg.block _ hlt (by rw [add_block]; exact hne ad e))⟩⟩
theorem grown_c {w w' : World} {row : Option Nat} (h : w.grownBy w' row) {p : Addr} {v : Value} (hne : some p.block ≠ row) (hc : w.cell? p = some v) : w'.cell? p = some v :=
  (World.cell?_of_block (h.block p.block (World.block_lt_of_cell? w _ hc) hne)).trans hc
/-- What the program's dealing hands back. -/
def RetD (R : Option (List Int) × Nat) (J : Nat → World → Prop) (b : Nat) (w : World) (e : Ending) (w' : World) : Prop :=
  w.grownBy w' (some b) ∧ J R.2 w' ∧ match R.1 with
  | none => e = .returned (.tuple #[.slice none 0 0, .int .i64 7])
  | some q => ∃ g c, e = .returned (.tuple #[.slice (some ⟨g, 0, none⟩) q.length c, .int .i64 0]) ∧ OwnI w' w.heap.size g q.length c q
/-- What holds while numbers are dealt into a row. -/
structure IP (w : World) (b N0 g n c gp : Nat) (A : Option Addr) (bs : List Int) (q : List Int) (W : World) : Prop where
  hN : N0 ≤ W.heap.size
  own : OwnI W w.heap.size g n c q
  cp : W.cell? ⟨gp, 0, none⟩ = some (.slice (some ⟨g, 0, none⟩) n c)
  rd : RdI W A bs
  gr : w.grownBy W (some b)
structure IPf (w : World) (b N0 g gp : Nat) (A : Option Addr) : Prop where
  b0 : b < N0
  n0 : N0 ≤ w.heap.size
  g0 : w.heap.size ≤ g
  p0 : w.heap.size ≤ gp
  pg : gp ≠ g
  ag : ∀ ad, A = some ad → ad.block ≠ g ∧ w.heap.size ≤ ad.block
theorem IP.src {w : World} {b N0 g n c gp : Nat} {A : Option Addr} {bs q : List Int} {W W' : World} (f : IPf w b N0 g gp A) (h : IP w b N0 g n c gp A bs q W) (hg : W.grownBy W' (some b)) : IP w b N0 g n c gp A bs q W' where
  hN := Nat.le_trans h.hN hg.size
  own := World.ownsRow.kept h.own hg (.inr (fun e => by have := Option.some.inj e; have := f.g0; have := f.b0; have := f.n0; simp at *; omega))
  cp := grown_c hg (fun e => by have := Option.some.inj e; have := f.p0; have := f.b0; have := f.n0; simp at *; omega) h.cp
  rd := h.rd.grown hg (fun ad e e2 => by have := Option.some.inj e2; have := (f.ag ad e).2; have := f.b0; have := f.n0; omega)
  gr := grown_trans h.gr hg
theorem IP.put {w : World} {b N0 g n c gp : Nat} {A : Option Addr} {bs q q' : List Int} {W W' : World} (f : IPf w b N0 g gp A) (h : IP w b N0 g n c gp A bs q W) (ho : OwnI W' w.heap.size g n c q') (hg : W.grownBy W' (some g)) : IP w b N0 g n c gp A bs q' W' ∧ Below N0 W W' := by
  refine ⟨⟨Nat.le_trans h.hN hg.size, ho, grown_c hg (fun e => f.pg (Option.some.inj e)) h.cp, h.rd.grown hg (fun ad e e2 => (f.ag ad e).1 (Option.some.inj e2)), ?_⟩, ?_⟩
  · exact ⟨hg.os.trans h.gr.os, hg.tape.trans h.gr.tape, hg.output.trans h.gr.output, Nat.le_trans h.gr.size hg.size, fun i hi hr => (hg.block i (Nat.lt_of_lt_of_le hi h.gr.size) (fun e => by have := Option.some.inj e; have := f.g0; omega)).trans (h.gr.block i hi hr)⟩
  · exact ⟨hg.os, hg.tape, hg.output, hg.size, fun i hi => hg.block i (Nat.lt_of_lt_of_le hi h.hN) (fun e => by have := Option.some.inj e; have := f.g0; have := f.n0; omega)⟩
theorem isFn_of {P : Program} {F : FuncId} {fn : Func} (h : P.funcs[F]? = some fn) (hn : (fn.name == "runtime.NumGoroutine") = false) (hb : fn.body.isNone = false) (args : Array Value) (w : World) : (callFunc F args).run P w = .ok (.enter F args) w := by
  have hn' := beq_eq_false_iff_ne.1 hn
  have hb' : ¬ fn.body = none := by intro e; rw [e] at hb; cases hb
  simp [callFunc, h, hn', hb']
theorem isFn_Perm : ∀ (args : Array Value) (w : World), (callFunc 51 args).run Try.prog w = .ok (.enter 51 args) w := isFn_of Try.func51 (by kernel_rfl) (by kernel_rfl)
theorem own_set' {w : World} {base : Nat} {e t : TypeId} {size n g i : Nat} {v u : Value} {xs : List Value} {cs : Array Value} (h : w.ownsRow base e size v n xs) (hb : Blk w g cs t) (hte : t ≠ e) : (w.setCell ⟨g, i, none⟩ u).ownsRow base e size v n xs := by
  refine h.kept (row := some g) ⟨rfl, rfl, rfl, by simp [World.setCell], fun k _ hk => Below.heap_setCell _ _ _ k (fun e => hk (by rw [e]))⟩ ?_
  rcases h.2 with ⟨rfl, _⟩ | ⟨g', cap, cur, rfl, _, hgb, _⟩
  · exact .inl rfl
  · refine .inr fun e' => ?_
    obtain rfl : g' = g := by simpa [Value.ownBlock] using e'
    have := (show w.heap[g']? = _ from hb).symm.trans hgb
    simp only [Option.some.injEq, Obj.cells.injEq] at this
    exact hte this.2.1
theorem take_succ' {l : List Int} {j : Nat} (h : j < l.length) : l.take (j + 1) = l.take j ++ [l.getD j 0] := by
  rw [List.take_add_one, List.getD_eq_getElem?_getD, List.getElem?_eq_getElem h]; rfl
theorem bndPerm_in (n : Nat) (hn : n ≤ 1048576) : ∀ z ∈ bndPerm n, 0 < z ∧ z ≤ 1048576 := by
  intro z hz
  simp only [bndPerm, List.mem_map, List.mem_range] at hz
  obtain ⟨i, hi, rfl⟩ := hz
  omega
set_option maxRecDepth 100000 in
set_option maxHeartbeats 2000000 in
theorem perm_any {v : Value} {b N0 : Nat} {num : Nat → Int} {J : Nat → World → Prop} (S : Src v b N0 num J) (n : Nat) (hn : n ≤ 1048576) (k : Nat) (hk : k ≤ 1048576) (w : World) (hN : N0 ≤ w.heap.size) (hJ : J k w) :
    Calls Try.prog 26 #[v, .int .i64 n] w (RetD (runO num (stepPerm n) (bndPerm n) 0 (rowI n) k) J b w) := by
  obtain ⟨i0, hi, hz0, hz1, hz2⟩ := info_parts info_int
  have h1 : decide ((n : Int) < 0) = false := decide_eq_false (by omega)
  have h2 : decide (1048576 < (n : Int)) = false := decide_eq_false (by omega)
  have HJ := Lib.hid hJ
  have HS := Lib.hid S
  have HNN := Lib.hid hN
  have HKK := Lib.hid hk
  obtain ⟨R, hR⟩ : ∃ R, runO num (stepPerm n) (bndPerm n) 0 (rowI n) k = R := ⟨_, rfl⟩
  rw [hR]
  have HRR := Lib.hid hR
  clear hJ S hN hk hR
  go_enter Try.func26, Try.ntmps26
  go_wp2_with fail
  refine (row_any n hn _).mono ?_
  rintro e w1 ⟨g, c, rfl, ho, hb1⟩
  rw [rowI_len] at ho ⊢
  have HO := Lib.hid ho
  clear ho
  go_wp2_with fail
  have n0 := World.ownsRow.lt HO.out g rfl
  have s1 := hb1.size
  obtain ⟨W2, e2⟩ : ∃ W, W = (w1.alloc (.cells #[.slice (some ⟨g, 0, none⟩) n c] 54)).alloc (.cells #[.slice none 0 0] 54) := ⟨_, rfl⟩
  rw [← e2]
  have kP : Blk W2 w1.heap.size #[.slice (some ⟨g, 0, none⟩) n c] 54 := by rw [e2]; exact (Blk.new w1 _ _).below ((Below.refl _ _).alloc (Nat.le_refl _) _)
  have kB : Blk W2 (w1.heap.size + 1) #[.slice none 0 0] 54 := by rw [e2]; have := Blk.new (w1.alloc (.cells #[.slice (some ⟨g, 0, none⟩) n c] 54)) #[.slice none 0 0] 54; simpa using this
  have hb2 : Below w1.heap.size w1 W2 := by rw [e2]; exact ((Below.refl _ w1).alloc (Nat.le_refl _) _).alloc (by simp) _
  have ho2 : OwnI W2 w.heap.size g n c (rowI n) := own_below HO.out hb2
  have hbw : Below w.heap.size w W2 := hb1.trans (hb2.mono s1)
  have s2 : W2.heap.size = w1.heap.size + 1 + 1 := by rw [e2]; simp
  clear e2 hb2
  obtain ⟨gp, hgp⟩ : ∃ gp, w1.heap.size = gp := ⟨_, rfl⟩
  rw [hgp] at kP kB s2 n0 s1 ⊢
  have HGP := Lib.hid hgp
  clear hgp
  have X0 : Hid (Blk W2 gp #[.slice (some ⟨g, 0, none⟩) n c] 54 ∧ OwnI W2 w.heap.size g n c (rowI n) ∧ Below w.heap.size w W2) := Lib.hid ⟨kP, ho2, hbw⟩
  have B0 := Lib.hid kB
  clear kP kB ho2 hbw
  go_loopw [8] (fun iv wr => ∃ j : Nat, j ≤ n - 1 ∧ iv = .int .i64 ((n : Int) - j) ∧ (∃ o, Blk wr (gp + 1) #[o] 54 ∧ wr.ownsRow w.heap.size 3 1 o j (ints ((bndPerm n).take j)) ∧ (∀ q, o.ownBlock = some q → q ≠ g ∧ w.heap.size ≤ q)) ∧ Hid (Blk wr gp #[.slice (some ⟨g, 0, none⟩) n c] 54 ∧ OwnI wr w.heap.size g n c (rowI n) ∧ Below w.heap.size w wr)) (fun iv _ => (intOf iv).toNat)
  case atStart => exact ⟨0, Nat.zero_le _, by go_num, ⟨_, B0.out, World.ownsRow_nil _ _ _ _, fun q h => by cases h⟩, X0⟩
  case round =>
    obtain ⟨j, hj, rfl, ⟨o, kB, hrow, hob⟩, X⟩ := hrel
    have gpw := X.out.1.lt
    by_cases hlt : j < n - 1
    · obtain ⟨z, hz⟩ : ∃ z : Nat, (n : Int) - j = z := ⟨n - j, by omega⟩
      rw [hz]
      have hz1' : (1 : Int) < z := by omega
      have hz2' : z ≤ 1048576 := by omega
      have hget : (bndPerm n).getD j 0 = (z : Int) := by rw [bndPerm_get n j hlt]; omega
      have htk : (bndPerm n).take (j + 1) = (bndPerm n).take j ++ [(z : Int)] := by rw [take_succ' (by rw [bndPerm_len]; exact hlt), hget]
      have HT := Lib.hid htk
      have HZ := Lib.hid hz
      have HROW := Lib.hid hrow
      have HOB := Lib.hid hob
      have HKB := Lib.hid kB
      have gbw := kB.lt
      have q0 := kB.cell 0
      simp only [List.getElem?_toArray, List.getElem?_cons_zero] at q0
      clear hget htk hz hrow hob kB
      go_wp2_with (at_builtin; refine Hid.out ?_)
      refine Lib.hid ?_
      refine wpList_append_own_at _ rfl _ _ 54 rfl w.heap.size 3 i0 (.int .i64 0) 1 8 Try.underlying54 hi hz0 hz1 hz2 rfl (by decide) o j _ rfl (HROW.out.alloc _) ⟨wr.heap.size, 0, none⟩ 1 1 [.int .i64 z] rfl rfl (cell_one_new _ _ _) (by simp [Value.oneCell']) (by unfold maxLen; omega) (by omega) (by have := X.out.2.2.size; simp; omega) ?_
      intro v' w3 hown' hgrow _ hat
      obtain ⟨g3, c3, ev, _⟩ := own_open hown' (by omega)
      subst ev
      have hgb : ∀ q, o.ownBlock = some q → q ≠ gp ∧ q ≠ gp + 1 := fun q hq => by
        rcases HROW.out.2 with ⟨rfl, _⟩ | ⟨g', cap', cur, rfl, _, hg', _⟩
        · cases hq
        · have := Option.some.inj hq
          simp only at this
          subst this
          refine ⟨fun e => ?_, fun e => ?_⟩
          · subst e
            have := (show wr.heap[g']? = _ from X.out.1).symm.trans hg'
            cases this
          · subst e
            have := (show wr.heap[gp + 1]? = _ from HKB.out).symm.trans hg'
            cases this
      have kP3 := blk_grown (X.out.1.below ((Below.refl _ _).alloc (Nat.le_refl _) (.cells #[.int .i64 z] 3))) hgrow (fun e => (hgb _ e.symm).1 rfl)
      have kB3 := blk_grown (HKB.out.below ((Below.refl _ _).alloc (Nat.le_refl _) (.cells #[.int .i64 z] 3))) hgrow (fun e => (hgb _ e.symm).2 rfl)
      have ho3 : OwnI w3 w.heap.size g n c (rowI n) := World.ownsRow.kept (X.out.2.1.alloc _) hgrow (.inr (fun e => (HOB.out _ e.symm).1 rfl))
      have hb3 : Below w.heap.size w w3 := (X.out.2.2.alloc X.out.2.2.size _).grown hgrow (by have := X.out.2.2.size; simp; omega) (fun q e => (HOB.out q e).2)
      have hob3 : ∀ q, (Value.slice (some ⟨g3, 0, none⟩) (j + 1) c3).ownBlock = some q → q ≠ g ∧ w.heap.size ≤ q := fun q hq => by
        rcases hat with h | h
        · exact HOB.out q (h ▸ hq)
        · rw [h] at hq
          have := Option.some.inj hq
          have h2 := (World.ownsRow.lt X.out.2.1 g rfl)
          have h3 := X.out.2.2.size
          simp at this
          omega
      have pf := kB3.frozen
      have p0 := kB3.cell 0
      simp only [List.getElem?_toArray, List.getElem?_cons_zero] at p0
      have X3 : Hid (Blk (w3.setCell ⟨gp + 1, 0, none⟩ (.slice (some ⟨g3, 0, none⟩) (j + 1) c3)) gp #[.slice (some ⟨g, 0, none⟩) n c] 54 ∧ OwnI (w3.setCell ⟨gp + 1, 0, none⟩ (.slice (some ⟨g3, 0, none⟩) (j + 1) c3)) w.heap.size g n c (rowI n) ∧ Below w.heap.size w (w3.setCell ⟨gp + 1, 0, none⟩ (.slice (some ⟨g3, 0, none⟩) (j + 1) c3))) := Lib.hid ⟨kP3.other (by show gp ≠ gp + 1; omega) _, own_set' ho3 kB3 (by decide), hb3.setCell (by show w.heap.size ≤ gp + 1; omega) _⟩
      have R3 : Hid (∃ o, Blk (w3.setCell ⟨gp + 1, 0, none⟩ (.slice (some ⟨g3, 0, none⟩) (j + 1) c3)) (gp + 1) #[o] 54 ∧ (w3.setCell ⟨gp + 1, 0, none⟩ (.slice (some ⟨g3, 0, none⟩) (j + 1) c3)).ownsRow w.heap.size 3 1 o (j + 1) (ints ((bndPerm n).take (j + 1))) ∧ (∀ q, o.ownBlock = some q → q ≠ g ∧ w.heap.size ≤ q)) := Lib.hid ⟨_, kB3.set 0 _, by rw [HT.out, ints_snoc]; exact own_set' hown' kB3 (by decide), hob3⟩
      clear hown' hgrow hat kP3 kB3 ho3 hb3 hob3 hgb q0
      go_wp2_with fail
      go_roundw
      case rel => exact ⟨j + 1, hlt, by have := HZ.out; congr 1; omega, R3.out, X3⟩
      case measure => simp [intOf]; omega
    · have hd : decide (1 < (n : Int) - j) = false := decide_eq_false (by omega)
      obtain ⟨A, cap, rfl⟩ := own_slice hrow
      have hjl : (bndPerm n).length = j := by rw [bndPerm_len]; omega
      rw [← hjl, List.take_length] at hrow
      have hrd : RdI wr A (bndPerm n) := RdI.own (n := j) (c := cap) (by rw [hjl] at hrow ⊢; exact hrow) (fun x hx => by have := bndPerm_in n hn x hx; unfold inR; omega)
      have f : IPf w b N0 g gp A := ⟨HS.out.hb, HNN.out, n0.1, s1, by omega, fun ad e => by
        subst e
        exact hob _ rfl⟩
      have hp : IP w b N0 g n c gp A (bndPerm n) (rowI n) wr := ⟨Nat.le_trans HNN.out X.out.2.2.size, X.out.2.1, by have := X.out.1.cell 0; exact this, hrd, grown_below X.out.2.2⟩
      have q0 := kB.cell 0
      simp only [List.getElem?_toArray, List.getElem?_cons_zero] at q0
      have hgb : gp + 1 ≠ g := by omega
      have hgb2 : gp + 1 ≠ b := by have := HS.out.hb; have := HNN.out; omega
      have KD := draws_any HS.out 51 isFn_Perm #[.pointer (some ⟨gp + 1, 0, none⟩), .pointer (some ⟨gp, 0, none⟩)] (bndPerm n) A cap (stepPerm n)
        (fun _ q W => IP w b N0 g n c gp A (bndPerm n) q W ∧ W.cell? ⟨gp + 1, 0, none⟩ = some (.slice A (bndPerm n).length cap)) (bndPerm_in n hn) (by rw [bndPerm_len]; omega)
        (fun _ _ _ h => h.1.hN) (fun _ _ _ _ h hg => ⟨h.1.src f hg, grown_c hg (fun e => hgb2 (Option.some.inj e)) h.2⟩) (fun _ _ _ h => h.1.rd)
        (fun i q x W hi h0 h1 h => by
          obtain ⟨y, rfl⟩ : ∃ y : Nat, x = y := ⟨x.toNat, by omega⟩
          rw [bndPerm_len] at hi
          rw [bndPerm_get n i hi] at h1
          obtain ⟨ad, e, ha⟩ := h.1.rd.at (k := i) (by rw [bndPerm_len]; exact hi)
          have hbi := ha i (by rw [bndPerm_len]; exact hi)
          rw [bndPerm_get n i hi, show ((n - i : Nat) : Int) = ((n - 1 - i : Nat) : Int) + 1 by omega] at hbi
          have hcl := h.2
          rw [e] at hcl
          refine (doPerm_any w.heap.size g gp (gp + 1) n c q ad _ cap i (n - 1 - i) y W (by rw [bndPerm_len]; exact hi) (by omega) (by omega) hn h.1.own f.pg h.1.cp hcl hbi).mono ?_
          rintro e2 W' ⟨hu, ho, hg⟩
          have hput := h.1.put f (q' := stepPerm n q i (y : Int)) ho hg
          exact ⟨hu, ⟨hput.1, grown_c hg (fun e => hgb (Option.some.inj e)) h.2⟩, hput.2⟩)
        k HKK.out (rowI n) wr (HS.out.keep _ _ _ HJ.out (X.out.2.2.mono HNN.out)) ⟨hp, by rw [hjl]; exact q0⟩
      rw [hjl] at KD
      rw [HRR.out] at KD
      have KDH := Lib.hid KD
      have F := Lib.hid f
      clear KD hrow hob hrd hp hjl f kB X
      go_wp2_with fail
      refine KDH.out.mono ?_
      rintro e w5 ⟨rfl, hJ5, i5, q5, hI5, hq5⟩
      clear HRR KDH
      obtain ⟨Ro, Rk⟩ := R
      cases Ro with
      | none =>
        have HH : Hid (w.grownBy w5 (some b) ∧ J Rk w5) := Lib.hid ⟨hI5.1.gr, hJ5⟩
        clear hI5 hq5 hJ5
        unfold errR
        go_wp2_with fail
        go_ret2
        exact ⟨HH.out.1, HH.out.2, rfl⟩
      | some q =>
        obtain ⟨rfl, _⟩ := hq5 q rfl
        have HH : Hid (w.grownBy w5 (some b) ∧ J Rk w5 ∧ OwnI w5 w.heap.size g n c q5) := Lib.hid ⟨hI5.1.gr, hJ5, hI5.1.own⟩
        have c5 := hI5.1.cp
        clear hI5 hq5 hJ5
        unfold errR
        go_wp2_with fail
        go_ret2
        have hql := HH.out.2.2.len
        exact ⟨HH.out.1, HH.out.2.1, g, c, by rw [hql]; rfl, by rw [hql]; exact HH.out.2.2⟩
end Go.Proofs.Ytbhikceekldenaa.Hb

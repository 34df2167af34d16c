/- The walks of layer hist: rows of moments made one. -/
import Derived.Test.YteckbgpkoanhfaaHbHistR
import Derived.Deep.RegionHeld3
import Derived.Deep.DeepCutAuto
namespace Go.Proofs.Yteckbgpkoanhfaa.Hb
open Go.RowKit

theorem info_mom : (Try.prog.info? 52).map (fun i => (i.zero, i.size, i.bytes)) = some (some (.agg #[(.int .i64 0), (.int .i64 0), (.int .i64 0)]), 3, 24) := by kernel_rfl
def momC (l : List Mom) : List Value := l.flatMap fun m => [.int .i64 m.c, .int .i64 m.s, .int .i64 m.q]
theorem momC_snoc (l : List Mom) (m : Mom) : momC (l ++ [m]) = momC l ++ [.int .i64 m.c, .int .i64 m.s, .int .i64 m.q] := by simp [momC]
theorem momO_err {op : Int → Int → Bool → Except Int Int} {f : Nat} (hop : IsOp f op) {x y : Mom} {e : Int} (h : momO op x y = .error e) : (e != 0) = true := by
  unfold momO at h
  cases h1 : op x.c y.c false with
  | error e1 => rw [h1] at h; cases h; rcases hop.err h1 with rfl | rfl <;> rfl
  | ok c =>
    rw [h1] at h; simp only at h
    cases h2 : op x.s y.s true with
    | error e1 => rw [h2] at h; cases h; rcases hop.err h2 with rfl | rfl <;> rfl
    | ok s =>
      rw [h2] at h; simp only at h
      cases h3 : op x.q y.q false with
      | error e1 => rw [h3] at h; cases h; rcases hop.err h3 with rfl | rfl <;> rfl
      | ok q => rw [h3] at h; cases h
theorem mAt_snoc {l : List Mom} {x : Mom} {i : Nat} (h : i < l.length) : mAt (l ++ [x]) i = mAt l i := by
  unfold mAt; rw [List.getD_eq_getElem?_getD, List.getElem?_append_left h, List.getD_eq_getElem?_getD]
theorem mAt_last {l : List Mom} {x : Mom} : mAt (l ++ [x]) l.length = x := by simp [mAt, List.getD_eq_getElem?_getD]

/-- What a row made of two comes to. -/
def RowsM (r : Except Int (List Mom)) (w : World) (e : Ending) (w' : World) : Prop :=
  ∃ v, e = .returned (.tuple #[v, .int .i64 (errO r)]) ∧ w'.ownsRow w.heap.size 52 3 v (valO [] r).length (momC (valO [] r)) ∧ Below w.heap.size w w'

theorem bcell {W w1 : World} (hb : Below W.heap.size W w1) : (∀ b o, b < W.heap.size → w1.cell? ⟨b, o, none⟩ = W.cell? ⟨b, o, none⟩) ∧ (∀ b o, b < W.heap.size → w1.frozen? ⟨b, o, none⟩ = W.frozen? ⟨b, o, none⟩) :=
  ⟨fun b o h => hb.cell (p := ⟨b, o, none⟩) h, fun b o h => hb.frozen (p := ⟨b, o, none⟩) h⟩
theorem keepc {W W' : World} {a : Addr} {v : Value} (hb : Below W.heap.size W W') (h : W.cell? a = some v) : W'.cell? a = some v := (hb.cell (World.block_lt_of_cell? W a h)).trans h
theorem cell_three_new (w : World) (a b c : Value) (t : TypeId) : ∀ j u, [a, b, c][j]? = some u → (w.alloc (.cells #[a, b, c] t)).cell? ((⟨w.heap.size, 0, none⟩ : Addr).add j) = some u := by
  intro j u hj
  match j, hj with
  | 0, hj => simp at hj; subst hj; simp [Addr.add]
  | 1, hj => simp at hj; subst hj; simp [Addr.add]
  | 2, hj => simp at hj; subst hj; simp [Addr.add]
  | j + 3, hj => simp at hj
theorem relA {wr w1 : World} {X : Obj} {t : TypeId} (z0 z1 z2 a b c : Value) (hb : Below ((wr.alloc X).alloc (.cells #[z0, z1, z2] t)).drew.heap.size ((wr.alloc X).alloc (.cells #[z0, z1, z2] t)).drew w1) :
    Blk (((w1.setCell ⟨wr.heap.size + 1, 0, none⟩ a).setCell ⟨wr.heap.size + 1, 1, none⟩ b).setCell ⟨wr.heap.size + 1, 2, none⟩ c) (wr.heap.size + 1) #[a, b, c] t ∧ wr.heap.size ≤ wr.heap.size + 1 ∧
    Below wr.heap.size wr (((w1.setCell ⟨wr.heap.size + 1, 0, none⟩ a).setCell ⟨wr.heap.size + 1, 1, none⟩ b).setCell ⟨wr.heap.size + 1, 2, none⟩ c) := by
  have h0 : Blk ((wr.alloc X).alloc (.cells #[z0, z1, z2] t)).drew (wr.heap.size + 1) #[z0, z1, z2] t := by
    have := Blk.new (wr.alloc X) #[z0, z1, z2] t
    rw [World.size_alloc] at this
    exact this
  have h1 := (((h0.below hb).set 0 a).set 1 b).set 2 c
  have e : (((#[z0, z1, z2] : Array Value).setIfInBounds 0 a).setIfInBounds 1 b).setIfInBounds 2 c = #[a, b, c] := rfl
  rw [e] at h1
  have h2 : Below wr.heap.size wr ((wr.alloc X).alloc (.cells #[z0, z1, z2] t)).drew := (((Below.refl _ wr).alloc (Nat.le_refl _) _).alloc (by simp) _).drew
  exact ⟨h1, by omega, (((h2.trans (hb.mono h2.size)).setCell (p := ⟨wr.heap.size + 1, 0, none⟩) (by show wr.heap.size ≤ wr.heap.size + 1; omega) _).setCell (p := ⟨wr.heap.size + 1, 1, none⟩) (by show wr.heap.size ≤ wr.heap.size + 1; omega) _).setCell (p := ⟨wr.heap.size + 1, 2, none⟩) (by show wr.heap.size ≤ wr.heap.size + 1; omega) _⟩
theorem relB {wr w1 : World} {X : Obj} {t : TypeId} (a b c : Value) (hb : Below (wr.alloc X).drew.heap.size (wr.alloc X).drew w1) :
    Blk (w1.alloc (.cells #[a, b, c] t)) w1.heap.size #[a, b, c] t ∧ wr.heap.size ≤ w1.heap.size ∧ Below wr.heap.size wr (w1.alloc (.cells #[a, b, c] t)) := by
  have h2 : Below wr.heap.size wr (wr.alloc X).drew := ((Below.refl _ wr).alloc (Nat.le_refl _) _).drew
  have h3 := h2.trans (hb.mono h2.size)
  exact ⟨Blk.new _ _ _, h3.size, h3.alloc h3.size _⟩

set_option maxRecDepth 100000 in
set_option maxHeartbeats 2000000 in
theorem rowsM_any (f : Nat) (op : Int → Int → Bool → Except Int Int) (hop : IsOp f op) (a b : List Mom) (A1 A2 : Option Addr) (c1 c2 g : Nat) (hab : a.length ≤ b.length) (hm : a.length ≤ 1099511627776) (w : World) (h1 : RdM w A1 a) (h2 : RdM w A2 b) (hc : w.cell? ⟨g, 0, none⟩ = some (.func (.func f) #[] #[])) :
    Calls Try.prog 75 #[.slice A1 a.length c1, .slice A2 b.length c2, .func (.func 67) #[] #[.pointer (some ⟨g, 0, none⟩)]] w (RowsM (rowsO (momO op) a b) w) := by
  obtain ⟨i0, hi, hz0, hz1, hz2⟩ := info_parts info_mom
  obtain ⟨n, hn⟩ : ∃ n, a.length = n := ⟨_, rfl⟩
  obtain ⟨m, hmm⟩ : ∃ m, b.length = m := ⟨_, rfl⟩
  rw [hn, hmm] at hab
  rw [hn] at hm
  have HN := Lib.hid hn
  have HM := Lib.hid hmm
  rw [hn, hmm]
  clear hn hmm
  have HR1 := Lib.hid h1
  have HR2 := Lib.hid h2
  have HC := Lib.hid hc
  clear h1 h2 hc
  go_enter Try.func75, Try.ntmps75
  go_wp2
  go_loopw [8, 15] (fun o iv wr => ∃ (k : Nat) (l : List Mom), k ≤ n ∧ iv = .int .i64 k ∧ Hid (l.length = k) ∧ Hid (∀ i, i < k → momO op (mAt a i) (mAt b i) = .ok (mAt l i)) ∧ wr.ownsRow w.heap.size 52 3 o k (momC l) ∧ Below w.heap.size w wr) (fun _ iv _ => n - (intOf iv).toNat)
  case atStart => exact ⟨0, [], Nat.zero_le _, rfl, Lib.hid rfl, Lib.hid (fun i hi => by omega), World.ownsRow_nil _ _ _ _, Below.refl _ _⟩
  case round =>
    obtain ⟨k, l, hk, rfl, HL, HK, hrow, hB⟩ := hrel
    have hBs := hB.size
    by_cases hlt : k < n
    · have ha := (HR1.out.below hB).at (k := k) (by rw [HN.out]; exact hlt)
      obtain ⟨ad1, rfl, ha⟩ := ha
      have hb := (HR2.out.below hB).at (k := k) (by rw [HM.out]; omega)
      obtain ⟨ad2, rfl, hb⟩ := hb
      obtain ⟨x1, x2, x3⟩ := ha k (by rw [HN.out]; exact hlt)
      obtain ⟨y1, y2, y3⟩ := hb k (by rw [HM.out]; omega)
      have i1 := HR1.out.okAt (k := k) (by rw [HN.out]; exact hlt)
      have i2 := HR2.out.okAt (k := k) (by rw [HM.out]; omega)
      have hkm : k < m := by omega
      have hg := (hB.cell (World.block_lt_of_cell? w _ HC.out)).trans HC.out
      obtain ⟨u, hu⟩ : ∃ u, mAt a k = u := ⟨_, rfl⟩
      obtain ⟨u', hu'⟩ : ∃ u', mAt b k = u' := ⟨_, rfl⟩
      rw [hu] at x1 x2 x3 i1
      rw [hu'] at y1 y2 y3 i2
      have KC := Lib.hid (fun (W : World) (hW : W.cell? ⟨g, 0, none⟩ = some (.func (.func f) #[] #[])) => moments1_any f op hop u u' i1 i2 g W hW)
      clear ha hb i1 i2
      obtain ⟨z1, z2, z3, z4, hz⟩ : ∃ z1 z2 z3 z4, momE (momO op u u') = .tuple #[.agg #[.int .i64 z1, .int .i64 z2, .int .i64 z3], .int .i64 z4] := ⟨_, _, _, _, rfl⟩
      have HZ := Lib.hid hz
      have HU := Lib.hid hu
      have HU' := Lib.hid hu'
      clear hz hu hu'
      have ad2l : (ad2.add (k * 3)).block < wr.heap.size := World.block_lt_of_cell? wr _ y1
      have gl : g < wr.heap.size := World.block_lt_of_cell? wr _ hg
      have n1 : (ad2.add (k * 3)).block ≠ wr.heap.size + 1 := by omega
      have n2 : wr.heap.size + 1 ≠ (ad2.add (k * 3)).block := by omega
      have n3 : g ≠ wr.heap.size + 1 := by omega
      have n4 : wr.heap.size + 1 ≠ g := by omega
      go_upto_region 5 with (fail)
      go_cut [11, 12] (fun p ev wc => ∃ B, p = .pointer (some ⟨B, 0, none⟩) ∧ ev = .int .i64 z4 ∧ Blk wc B #[.int .i64 z1, .int .i64 z2, .int .i64 z3] 52 ∧ wr.heap.size ≤ B ∧ Below wr.heap.size wr wc)
      case first =>
        go_region_held3 (fun W => W.cell? ⟨wr.heap.size, 0, none⟩ = some (.int .i64 u.c) ∧ W.cell? ⟨wr.heap.size, 1, none⟩ = some (.int .i64 u.s) ∧ W.cell? ⟨wr.heap.size, 2, none⟩ = some (.int .i64 u.q) ∧ W.cell? (ad2.add (k * 3)) = some (.int .i64 u'.c) ∧ W.cell? ⟨(ad2.add (k * 3)).block, (ad2.add (k * 3)).off + 1, none⟩ = some (.int .i64 u'.s) ∧ W.cell? ⟨(ad2.add (k * 3)).block, (ad2.add (k * 3)).off + 2, none⟩ = some (.int .i64 u'.q) ∧ W.cell? ⟨g, 0, none⟩ = some (.func (.func f) #[] #[])) (go_keep)
          (first | (go_at_call 67; refine (KC.out _ (by simp [*])).mono ?_; rintro e w1 ⟨rfl, hb1⟩; rw [HZ.out]; obtain ⟨hcc, hff⟩ := bcell hb1; have q0 : w1.cell? ⟨wr.heap.size, 0, none⟩ = some (.int .i64 u.c) := keepc hb1 (by simp [*]); have q1 : w1.cell? ⟨wr.heap.size, 1, none⟩ = some (.int .i64 u.s) := keepc hb1 (by simp [*]); have q2 : w1.cell? ⟨wr.heap.size, 2, none⟩ = some (.int .i64 u.q) := keepc hb1 (by simp [*]); have q3 : w1.cell? (ad2.add (k * 3)) = some (.int .i64 u'.c) := keepc hb1 (by simp [*]); have q4 : w1.cell? ⟨(ad2.add (k * 3)).block, (ad2.add (k * 3)).off + 1, none⟩ = some (.int .i64 u'.s) := keepc hb1 (by simp [*]); have q5 : w1.cell? ⟨(ad2.add (k * 3)).block, (ad2.add (k * 3)).off + 2, none⟩ = some (.int .i64 u'.q) := keepc hb1 (by simp [*]); have q6 : w1.cell? ⟨g, 0, none⟩ = some (.func (.func f) #[] #[]) := keepc hb1 (by simp [*])))
        all_goals
          go_wp2
          go_meet
          case rel => first | exact ⟨_, rfl, rfl, relA _ _ _ _ _ _ hb1⟩ | exact ⟨_, rfl, rfl, relB _ _ _ hb1⟩
      case rest =>
        obtain ⟨B, rfl, rfl, hBk, hB1, hB2⟩ := hcut
        have hz := HZ.out
        have hrow1 := hrow.kept (row := none) ⟨hB2.os, hB2.tape, hB2.output, hB2.size, fun i hi _ => hB2.block i hi⟩ (by
          rcases hrow.2 with ⟨rfl, _⟩ | ⟨g, cap, cur, rfl, _, hgb, _⟩
          · exact .inl rfl
          · exact .inr (by simp [Value.ownBlock]))
        have hB3 := hB.trans (hB2.mono hBs)
        have hBs3 := hB3.size
        have v1 := hBk.cell 0
        have v2 := hBk.cell 1
        have v3 := hBk.cell 2
        simp only [List.getElem?_toArray, List.getElem?_cons_zero, List.getElem?_cons_succ] at v1 v2 v3
        cases hop1 : momO op u u' with
        | error e1 =>
          rw [hop1] at hz
          simp only [momE, momV, valO, errO, m0, Value.tuple.injEq, Array.mk.injEq, List.cons.injEq, Value.agg.injEq, Value.int.injEq, and_true, true_and] at hz
          obtain ⟨⟨rfl, rfl, rfl⟩, rfl⟩ := hz
          have ee := momO_err hop hop1
          have HF := Lib.hid (rows_err (op := momO op) m0 e1 k a b l (by rw [HN.out, HM.out]; exact hab) (by rw [HN.out]; exact hlt) HK.out (by
            have := hop1
            rw [← HU.out, ← HU'.out] at this
            exact this))
          clear hop1
          go_wp2
          go_ret2
          refine ⟨.slice none 0 0, ?_, ?_, hB3⟩
          · rw [HF.out]; rfl
          · rw [HF.out]; exact World.ownsRow_nil _ _ _ _
        | ok z =>
          rw [hop1] at hz
          simp only [momE, momV, valO, errO, Value.tuple.injEq, Array.mk.injEq, List.cons.injEq, Value.agg.injEq, Value.int.injEq, and_true, true_and] at hz
          obtain ⟨⟨rfl, rfl, rfl⟩, rfl⟩ := hz
          have HK' : Hid (∀ i, i < k + 1 → momO op (mAt a i) (mAt b i) = .ok (mAt (l ++ [z]) i)) := Lib.hid (fun i hi => by
            by_cases e : i = k
            · subst e
              rw [HU.out, HU'.out, hop1]
              have := HL.out
              conv => rhs; rw [show i = l.length from this.symm, mAt_last]
            · rw [mAt_snoc (by rw [HL.out]; omega)]
              exact HK.out i (by omega))
          have HL' : Hid ((l ++ [z]).length = k + 1) := Lib.hid (by simp [HL.out])
          have e0 : ((0 : Int) != 0) = false := rfl
          clear hop1
          go_wp2_with (at_builtin; refine wpList_append_own _ rfl _ _ 34 rfl w.heap.size 52 i0 (.agg #[(.int .i64 0), (.int .i64 0), (.int .i64 0)]) 3 24 Try.underlying34 hi hz0 hz1 hz2 rfl (by decide) _ _ _ rfl (hrow1.alloc _) ⟨wc.heap.size, 0, none⟩ 1 1 [.int .i64 z.c, .int .i64 z.s, .int .i64 z.q] rfl rfl (cell_three_new _ _ _ _ _) (by simp [Value.oneCell']) (by unfold maxLen; omega) (by omega) (by simp; omega) ?_; intro v' w1 hown' hgrow _)
          go_roundw
          case rel => exact ⟨k + 1, l ++ [z], hlt, by go_num, HL', HK', by rw [momC_snoc]; exact hown', (hB3.alloc hBs3 _).grown hgrow (by simp; omega) (fun j e => (hrow1.lt j e).1)⟩
          case measure => simp [intOf]; omega
    · obtain rfl : k = n := by omega
      have HF := Lib.hid (rows_ok (op := momO op) m0 a b l (by rw [HN.out, HM.out]; exact hab) (by rw [HN.out, HL.out]) (by rw [HN.out]; exact HK.out))
      clear hlt
      go_wp2
      go_ret2
      refine ⟨u8, ?_, ?_, hB⟩
      · rw [HF.out]; rfl
      · rw [HF.out]
        show wr.ownsRow _ _ _ _ l.length (momC l)
        rw [HL.out]; exact hrow
end Go.Proofs.Yteckbgpkoanhfaa.Hb

/- The walks of layer hist: rows made one. -/
import Derived.Test.YteckbgpkoanhfaaHbHistM
import Derived.Maps.AppendAt
namespace Go.Proofs.Yteckbgpkoanhfaa.Hb
open Go.RowKit

/-- A slice of numbers, read. -/
def RdI (w : World) (A : Option Addr) (l : List Int) : Prop := (∀ x ∈ l, inR x) ∧ (l = [] ∨ ∃ ad, A = some ad ∧ ∀ i, i < l.length → w.cell? (ad.add i) = some (.int .i64 (l.getD i 0)))
theorem RdI.below {w w1 : World} {A : Option Addr} {l : List Int} (h : RdI w A l) (hb : Below w.heap.size w w1) : RdI w1 A l :=
  ⟨h.1, h.2.imp id fun ⟨ad, e, hc⟩ => ⟨ad, e, fun i hi => (hb.cell (World.block_lt_of_cell? w _ (hc i hi))).trans (hc i hi)⟩⟩
theorem RdI.at {w : World} {A : Option Addr} {l : List Int} (h : RdI w A l) {k : Nat} (hk : k < l.length) : ∃ ad, A = some ad ∧ ∀ i, i < l.length → w.cell? (ad.add i) = some (.int .i64 (l.getD i 0)) := by
  rcases h.2 with rfl | h
  · simp at hk
  · exact h
theorem RdI.inR {w : World} {A : Option Addr} {l : List Int} (h : RdI w A l) {k : Nat} (hk : k < l.length) : Hb.inR (l.getD k 0) := by
  rw [List.getD_eq_getElem?_getD, List.getElem?_eq_getElem hk]
  exact h.1 _ (List.getElem_mem hk)
/-- A slice of moments, read. -/
def mAt (l : List Mom) (i : Nat) : Mom := l.getD i m0
def RdM (w : World) (A : Option Addr) (l : List Mom) : Prop := (∀ x ∈ l, x.ok) ∧ (l = [] ∨ ∃ ad : Addr, A = some ad ∧ ∀ i, i < l.length →
  w.cell? (ad.add (i * 3)) = some (.int .i64 (mAt l i).c) ∧ w.cell? ⟨(ad.add (i * 3)).block, (ad.add (i * 3)).off + 1, none⟩ = some (.int .i64 (mAt l i).s) ∧ w.cell? ⟨(ad.add (i * 3)).block, (ad.add (i * 3)).off + 2, none⟩ = some (.int .i64 (mAt l i).q))
theorem RdM.below {w w1 : World} {A : Option Addr} {l : List Mom} (h : RdM w A l) (hb : Below w.heap.size w w1) : RdM w1 A l :=
  ⟨h.1, h.2.imp id fun ⟨ad, e, hc⟩ => ⟨ad, e, fun i hi => by
    obtain ⟨c1, c2, c3⟩ := hc i hi
    exact ⟨(hb.cell (World.block_lt_of_cell? w _ c1)).trans c1, (hb.cell (World.block_lt_of_cell? w _ c2)).trans c2, (hb.cell (World.block_lt_of_cell? w _ c3)).trans c3⟩⟩⟩
theorem RdM.at {w : World} {A : Option Addr} {l : List Mom} (h : RdM w A l) {k : Nat} (hk : k < l.length) : ∃ ad : Addr, A = some ad ∧ ∀ i, i < l.length →
  w.cell? (ad.add (i * 3)) = some (.int .i64 (mAt l i).c) ∧ w.cell? ⟨(ad.add (i * 3)).block, (ad.add (i * 3)).off + 1, none⟩ = some (.int .i64 (mAt l i).s) ∧ w.cell? ⟨(ad.add (i * 3)).block, (ad.add (i * 3)).off + 2, none⟩ = some (.int .i64 (mAt l i).q) := by
  rcases h.2 with rfl | h
  · simp at hk
  · exact h
theorem RdM.okAt {w : World} {A : Option Addr} {l : List Mom} (h : RdM w A l) {k : Nat} (hk : k < l.length) : (mAt l k).ok := by
  unfold mAt
  rw [List.getD_eq_getElem?_getD, List.getElem?_eq_getElem hk]
  exact h.1 _ (List.getElem_mem hk)

theorem both1_any (f : Nat) (op : Int → Int → Bool → Except Int Int) (hop : IsOp f op) (x y : Int) (hx : inR x) (hy : inR y) (g : Nat) (w : World) (hc : w.cell? ⟨g, 0, none⟩ = some (.func (.func f) #[] #[])) :
    Calls Try.prog 74 #[.int .i64 x, .int .i64 y, .pointer (some ⟨g, 0, none⟩)] w fun e w' => e = .returned (intE (op x y false)) ∧ w = w' := by
  have hf := hop.f
  have k1 := hop.calls x y false w hx hy
  obtain ⟨a, b, hab⟩ : ∃ a b, intE (op x y false) = .tuple #[.int .i64 a, .int .i64 b] := ⟨_, _, rfl⟩
  rw [hab] at k1 ⊢
  have K1 := Lib.hid k1
  clear k1 hab hx hy
  go_enter Try.func74, Try.ntmps74
  go_wp2_with fail
  refine K1.out.mono ?_
  rintro e w1 ⟨rfl, rfl⟩
  go_wp2
  go_ret2
  exact ⟨rfl, rfl⟩

theorem info_i64 : (Try.prog.info? 2).map (fun i => (i.zero, i.size, i.bytes)) = some (some (.int .i64 0), 1, 8) := by kernel_rfl
def ints (l : List Int) : List Value := l.map (Value.int .i64)
theorem getD_snoc {l : List Int} {x : Int} {i : Nat} (h : i < l.length) : (l ++ [x]).getD i 0 = l.getD i 0 := by
  rw [List.getD_eq_getElem?_getD, List.getElem?_append_left h, List.getD_eq_getElem?_getD]
theorem getD_last {l : List Int} {x : Int} : (l ++ [x]).getD l.length 0 = x := by simp [List.getD_eq_getElem?_getD]

/-- What a row made of two comes to. -/
def RowsI (r : Except Int (List Int)) (w : World) (e : Ending) (w' : World) : Prop :=
  ∃ v, e = .returned (.tuple #[v, .int .i64 (errO r)]) ∧ w'.ownsRow w.heap.size 2 1 v (valO [] r).length (ints (valO [] r)) ∧ Below w.heap.size w w'

set_option maxRecDepth 100000 in
set_option maxHeartbeats 2000000 in
theorem rowsI_any (f : Nat) (op : Int → Int → Bool → Except Int Int) (hop : IsOp f op) (a b : List Int) (A1 A2 : Option Addr) (c1 c2 g : Nat) (hab : a.length ≤ b.length) (hm : a.length ≤ 17592186044416) (w : World) (h1 : RdI w A1 a) (h2 : RdI w A2 b) (hc : w.cell? ⟨g, 0, none⟩ = some (.func (.func f) #[] #[])) :
    Calls Try.prog 73 #[.slice A1 a.length c1, .slice A2 b.length c2, .func (.func 74) #[] #[.pointer (some ⟨g, 0, none⟩)]] w (RowsI (rowsO (fun x y => op x y false) a b) w) := by
  obtain ⟨i0, hi, hz0, hz1, hz2⟩ := info_parts info_i64
  obtain ⟨n, hn⟩ : ∃ n, a.length = n := ⟨_, rfl⟩
  obtain ⟨m, hmm⟩ : ∃ m, b.length = m := ⟨_, rfl⟩
  rw [hn, hmm] at hab
  rw [hn] at hm
  have HN := Lib.hid hn
  have HM := Lib.hid hmm
  rw [hn, hmm]
  clear hn hmm
  have HR1 := Lib.hid h1
  have HR2 := Lib.hid h2
  have HC := Lib.hid hc
  clear h1 h2 hc
  go_enter Try.func73, Try.ntmps73
  go_wp2
  go_loopw [8, 15] (fun o iv wr => ∃ (k : Nat) (l : List Int), k ≤ n ∧ iv = .int .i64 k ∧ Hid (l.length = k) ∧ Hid (∀ i, i < k → op (a.getD i 0) (b.getD i 0) false = .ok (l.getD i 0)) ∧ wr.ownsRow w.heap.size 2 1 o k (ints l) ∧ Below w.heap.size w wr) (fun _ iv _ => n - (intOf iv).toNat)
  case atStart => exact ⟨0, [], Nat.zero_le _, rfl, Lib.hid rfl, Lib.hid (fun i hi => by omega), World.ownsRow_nil _ _ _ _, Below.refl _ _⟩
  case round =>
    obtain ⟨k, l, hk, rfl, HL, HK, hrow, hB⟩ := hrel
    have hBs := hB.size
    by_cases hlt : k < n
    · have ha := (HR1.out.below hB).at (k := k) (by rw [HN.out]; exact hlt)
      obtain ⟨ad1, rfl, ha⟩ := ha
      have hb := (HR2.out.below hB).at (k := k) (by rw [HM.out]; omega)
      obtain ⟨ad2, rfl, hb⟩ := hb
      have x1 := ha k (by rw [HN.out]; exact hlt)
      have x2 := hb k (by rw [HM.out]; omega)
      have i1 := HR1.out.inR (k := k) (by rw [HN.out]; exact hlt)
      have i2 := HR2.out.inR (k := k) (by rw [HM.out]; omega)
      have hkm : k < m := by omega
      have hg := (hB.cell (World.block_lt_of_cell? w _ HC.out)).trans HC.out
      have kc := both1_any f op hop _ _ i1 i2 g wr hg
      obtain ⟨u, hu⟩ : ∃ u, a.getD k 0 = u := ⟨_, rfl⟩
      obtain ⟨u', hu'⟩ : ∃ u', b.getD k 0 = u' := ⟨_, rfl⟩
      rw [hu] at x1
      rw [hu'] at x2
      rw [hu, hu'] at kc
      clear ha hb i1 i2 hg
      cases hop1 : op u u' false with
      | error e1 =>
        rw [hop1] at kc
        have KC := Lib.hid kc
        have ee : (e1 != 0) = true := by rcases hop.err hop1 with rfl | rfl <;> rfl
        have HF := Lib.hid (rows_err (op := fun x y => op x y false) 0 e1 k a b l (by rw [HN.out, HM.out]; exact hab) (by rw [HN.out]; exact hlt) HK.out (by rw [hu, hu']; exact hop1))
        clear kc hop1 hu hu'
        go_wp2_with (go_at_call 74; refine KC.out.mono ?_; rintro e w1 ⟨rfl, rfl⟩; simp only [intE, valO, errO])
        go_ret2
        refine ⟨.slice none 0 0, ?_, ?_, hB⟩
        · rw [HF.out]; rfl
        · rw [HF.out]; exact World.ownsRow_nil _ _ _ _
      | ok z =>
        rw [hop1] at kc
        have KC := Lib.hid kc
        have HK' : Hid (∀ i, i < k + 1 → op (a.getD i 0) (b.getD i 0) false = .ok ((l ++ [z]).getD i 0)) := Lib.hid (fun i hi => by
          by_cases e : i = k
          · subst e
            rw [hu, hu', hop1]
            have := HL.out
            conv => rhs; rw [show i = l.length from this.symm, getD_last]
          · rw [getD_snoc (by rw [HL.out]; omega)]
            exact HK.out i (by omega))
        have HL' : Hid ((l ++ [z]).length = k + 1) := Lib.hid (by simp [HL.out])
        have e0 : ((0 : Int) != 0) = false := rfl
        clear kc hop1 hu hu'
        go_wp2_with (first | (go_at_call 74; refine KC.out.mono ?_; rintro e w1 ⟨rfl, rfl⟩; simp only [intE, valO, errO]) | (at_builtin; refine wpList_append_own _ rfl _ _ 33 rfl w.heap.size 2 i0 (.int .i64 0) 1 8 Try.underlying33 hi hz0 hz1 hz2 rfl (by decide) _ _ _ rfl (hrow.alloc _) ⟨wr.heap.size, 0, none⟩ 1 1 [.int .i64 z] rfl rfl (cell_one_new _ _ _) (by simp [Value.oneCell']) (by unfold maxLen; omega) (by omega) (by simp; omega) ?_; intro v' w1 hown' hgrow _))
        go_roundw
        case rel => exact ⟨k + 1, l ++ [z], hlt, by go_num, HL', HK', by rw [ints, List.map_append]; exact hown', (hB.alloc hBs _).grown hgrow (by simp; omega) (fun j e => (hrow.lt j e).1)⟩
        case measure => simp [intOf]; omega
    · obtain rfl : k = n := by omega
      have HF := Lib.hid (rows_ok (op := fun x y => op x y false) 0 a b l (by rw [HN.out, HM.out]; exact hab) (by rw [HN.out, HL.out]) (by rw [HN.out]; exact HK.out))
      clear hlt
      go_wp2
      go_ret2
      refine ⟨u8, ?_, ?_, hB⟩
      · rw [HF.out]; rfl
      · rw [HF.out]
        show wr.ownsRow _ _ _ _ l.length (ints l)
        rw [HL.out]; exact hrow
end Go.Proofs.Yteckbgpkoanhfaa.Hb

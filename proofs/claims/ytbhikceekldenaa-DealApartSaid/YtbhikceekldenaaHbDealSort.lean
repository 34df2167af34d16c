/- The document's sort. -/
import Derived.Test.YtbhikceekldenaaHbDealRow
import Derived.Test.YtbhikceekldenaaHbSortP
import Derived.Maps.AppendAt
import Derived.Deep.RegionHeld3
import Derived.Deep.DrawnRows
import Derived.Deep.QuietTactic
import Derived.BigQuiet
namespace Go.Proofs.Ytbhikceekldenaa.Hb
set_option linter.unusedVariables false
open Go.RowKit
attribute [local go_sem ↓] Go.wp_at_zero Go.wp_at_succ

/-- append, as a step of a region that draws its order. -/
theorem step_append_own {P : Program} {w : World} {ops : Array Oper} {o : Oper} {a : Act} {K : Act → World → Prop} {Q : Exit → Act → World → Prop} {E : Prop} (hgd : o.guard = none) (s x : Operand) (t : TypeId)
    (ho : o.op = .call { callee := .builtin .append, args := #[s, x], argTypes := #[t, t] })
    (base : Nat) (e : TypeId) (i : TypeInfo) (z : Value) (size bytes : Nat) (ht : P.underlying t = some (.slice e)) (hi : P.info? e = some i) (hz : i.zero = some z)
    (hsize : i.size = size) (hby : i.bytes = bytes) (hzs : z.cells.size = size) (hsz : 0 < size)
    (v : Value) (n : Nat) (xs : List Value) (hs : a.eval s = v) (hown : w.ownsRow base e size v n xs)
    (ad : Addr) (m c : Nat) (news : List Value) (hx : a.eval x = .slice (some ad) m c) (hl : news.length = m * size) (hnews : ∀ j u, news[j]? = some u → w.cell? (ad.add j) = some u) (h1 : ∀ u ∈ news, u.oneCell' = true)
    (h63 : n + m ≤ maxLen) (hbytes : (n + m) * bytes ≤ 140737488355328) (hbase : base ≤ w.heap.size)
    (h : ∀ v' w', w'.ownsRow base e size v' (n + m) (xs ++ news) → w.grownBy w' v.ownBlock → K (a.put o.dst v') w') :
    if Region.wanted o (yielded ops a.tmps) = true then Oper.wp P o a w K Q else E := by
  have hw : Region.wanted o (yielded ops a.tmps) = true := by simp [Region.wanted, hgd]
  rw [if_pos hw]
  obtain ⟨v', w', hrun, h2, h3, _⟩ := run_append_own w base t o.type e i z size bytes ht hi hz hsize hby hzs hsz v n xs hown ad m c news hl hnews h1 h63 hbytes hbase
  unfold Oper.wp
  simp [execOp, ho, resolve, invoke, builtin, hs, hx, hrun, Result.andThen]
  exact h v' w' h2 h3
theorem own_take {w : World} {base : Nat} {g n c : Nat} {l : List Int} (h : OwnI w base g n c l) (k : Nat) (hk : k ≤ n) : OwnI w base g k c (l.take k) := by
  refine ⟨by rw [ints_len, List.length_take, OwnI.len h]; omega, ?_⟩
  rcases h.2 with ⟨h0, _⟩ | ⟨g', cap, cur, e, hb, hg, h1, h2, h3, h4⟩
  · cases h0
  · simp only [Value.slice.injEq, Option.some.injEq, Addr.mk.injEq, and_true, true_and] at e
    obtain ⟨rfl, rfl⟩ := e
    refine .inr ⟨g, c, cur, rfl, hb, hg, by omega, h2, h3, ?_⟩
    have : ints (l.take k) = (ints l).take k := by simp [ints, List.map_take]
    rw [this, ← h4, List.take_take]
    congr 1
    omega
theorem ints_one' (l : List Int) : ∀ u ∈ ints l, u.oneCell' = true := by
  intro u hu
  simp only [ints, List.mem_map] at hu
  obtain ⟨x, _, rfl⟩ := hu
  rfl
theorem own_some {w : World} {base : Nat} {e : TypeId} {size : Nat} {v : Value} {n : Nat} {xs : List Value} (h : w.ownsRow base e size v n xs) (hv : v ≠ .slice none 0 0) : ∃ g c, v = .slice (some ⟨g, 0, none⟩) n c := by
  rcases h.2 with ⟨rfl, _⟩ | ⟨g, cap, cur, rfl, _⟩
  · exact absurd rfl hv
  · exact ⟨g, cap, rfl⟩
theorem tf (p : Prop) : p = True ∨ p = False := (Classical.em p).imp eq_true eq_false
theorem own_cap {w : World} {base g n c : Nat} {l : List Int} (h : OwnI w base g n c l) : n ≤ c := by
  rcases h.2 with ⟨h0, _⟩ | ⟨g', cap', cur, e, _, _, h1, _⟩
  · cases h0
  · simp only [Value.slice.injEq, Option.some.injEq, Addr.mk.injEq, and_true, true_and] at e
    omega
theorem own_drop_cells {w : World} {base g n c : Nat} {l : List Int} (h : OwnI w base g n c l) {k : Nat} (hk : k ≤ n) : ∀ j u, (ints (l.drop k))[j]? = some u → w.cell? ((⟨g, k, none⟩ : Addr).add j) = some u := by
  intro j u hj
  have hl := OwnI.len h
  have hjl : j < n - k := by
    have := (List.getElem?_eq_some_iff.1 hj).1
    rw [ints_len, List.length_drop] at this
    omega
  have e : (⟨g, k, none⟩ : Addr).add j = ⟨g, k + j, none⟩ := by unfold Addr.add; split <;> simp_all
  rw [e, OwnI.at h (show k + j < n by omega)]
  rw [ints_get (by rw [List.length_drop]; omega)] at hj
  rw [← hj]
  congr 2
  simp [List.getD_eq_getElem?_getD, List.getElem?_drop]
theorem grown_cell {w w' : World} {g : Nat} (h : w.grownBy w' (some g)) {p : Addr} {v : Value} (hne : p.block ≠ g) (hc : w.cell? p = some v) : w'.cell? p = some v :=
  (World.cell?_of_block (h.block p.block (World.block_lt_of_cell? w _ hc) (fun e => hne (Option.some.inj e)))).trans hc
theorem grown_low {w w' : World} {base : Nat} {e : TypeId} {size n : Nat} {v : Value} {xs : List Value} (ho : w.ownsRow base e size v n xs) (h : w.grownBy w' v.ownBlock) {p : Addr} {u : Value} (hp : p.block < base) (hc : w.cell? p = some u) : w'.cell? p = some u :=
  (World.cell?_of_block (h.block p.block (World.block_lt_of_cell? w _ hc) (fun e => by have := (World.ownsRow.lt ho _ e.symm).1; omega))).trans hc
theorem cell_alloc {w : World} {p : Addr} {v : Value} (hc : w.cell? p = some v) (o : Obj) : (w.alloc o).cell? p = some v :=
  (World.cell?_of_block (Below.heap_alloc _ _ _ (World.block_lt_of_cell? w _ hc))).trans hc
theorem own_cells {w : World} {base g n c : Nat} {l : List Int} (h : OwnI w base g n c l) : ∀ j u, (ints l)[j]? = some u → w.cell? ((⟨g, 0, none⟩ : Addr).add j) = some u := by
  have := own_drop_cells h (k := 0) (Nat.zero_le _)
  rwa [List.drop_zero] at this
theorem own_drop_nil {w : World} {base g n c : Nat} {l : List Int} (h : OwnI w base g n c l) {k : Nat} (hk : k ≤ n) (hck : c = k) (a : Addr) : ∀ j u, (ints (l.drop k))[j]? = some u → w.cell? (a.add j) = some u := by
  intro j u hj
  have hl := OwnI.len h
  have := own_cap h
  have := (List.getElem?_eq_some_iff.1 hj).1
  rw [ints_len, List.length_drop] at this
  omega
set_option maxRecDepth 100000 in
set_option maxHeartbeats 4000000 in
theorem rsorted_any (A : Option Addr) (cap : Nat) (l : List Int) (hl : l.length ≤ 1048576) (w : World) (hr : RdI w A l) :
    Calls Try.prog 57 #[.slice A l.length cap] w (RetRow (sortedO l) w) := by
  obtain ⟨i0, hi, hz0, hz1, hz2⟩ := info_parts info_int
  obtain ⟨n, hn⟩ : ∃ n, l.length = n := ⟨_, rfl⟩
  rw [hn] at hl ⊢
  have HN := Lib.hid hn
  have HU := Lib.hid hr
  clear hn hr
  go_enter Try.func57, Try.ntmps57
  go_wp2
  go_loopw [3, 4] (fun o iv wr => ∃ i : Nat, i ≤ n ∧ iv = .int .i64 i ∧ (∃ g c, o = .slice (some ⟨g, 0, none⟩) i c ∧ Hid (OwnI wr w.heap.size g i c (sortedO (l.take i)))) ∧ Below w.heap.size w wr) (fun _ iv _ => n - (intOf iv).toNat)
  case atStart => exact ⟨0, Nat.zero_le _, rfl, ⟨_, _, rfl, World.ownsRow_made w #[] 0 (Nat.le_refl _) (by unfold maxLen; omega) rfl⟩, (Below.refl _ _).alloc (Nat.le_refl _) _⟩
  case round =>
    obtain ⟨i, hi', rfl, ⟨g, c, rfl, HO⟩, hB⟩ := hrel
    by_cases hlt : i < n
    · have hlt' : (i : Int) < n := by omega
      obtain ⟨ad, rfl, ha⟩ := HU.out.at (k := i) (by rw [HN.out]; exact hlt)
      have y0 := ha i (by rw [HN.out]; exact hlt)
      have adlt := World.block_lt_of_cell? w _ y0
      have y := (hB.cell (p := ad.add i) adlt).trans y0
      obtain ⟨x, hx⟩ : ∃ x, l.getD i 0 = x := ⟨_, rfl⟩
      rw [hx] at y y0
      have HX := Lib.hid hx
      obtain ⟨S, hS⟩ : ∃ S, sortedO (l.take i) = S := ⟨_, rfl⟩
      rw [hS] at HO
      have HS := Lib.hid hS
      clear ha hx hS
      go_wp2_with fail
      go_loopw [5] (fun kv w2 => ∃ k : Nat, k ≤ i ∧ kv = .int .i64 k ∧ Hid (insK S x k = insK S x i) ∧ Hid (OwnI w2 w.heap.size g i c S) ∧ Below w.heap.size w w2) (fun kv _ => (intOf kv).toNat)
      case atStart => exact ⟨i, Nat.le_refl _, rfl, Lib.hid rfl, HO, hB⟩
      case round =>
        clear y HO hB
        obtain ⟨k, hk, rfl, HK, HO, hB⟩ := hrel
        have y := (hB.cell (p := ad.add i) adlt).trans y0
        by_cases hgo : 0 < k ∧ x < S.getD (k - 1) 0
        · obtain ⟨j, rfl⟩ : ∃ j, k = j + 1 := ⟨k - 1, by omega⟩
          obtain ⟨h0, hxj⟩ := hgo
          rw [Nat.add_sub_cancel] at hxj
          have hji : j < i := by omega
          have c1 := HO.out.at hji
          obtain ⟨pj, hpj⟩ : ∃ pj, S.getD j 0 = pj := ⟨_, rfl⟩
          have hn : insK S x j = insK S x i := by rw [← HK.out, insK, if_pos hxj]
          rw [hpj] at c1 hxj
          have hd : decide (x < pj) = true := decide_eq_true hxj
          have hw : IntKind.i64.wrap (((j + 1 : Nat) : Int) - 1) = j := by rw [IntKind.wrap_i64]; omega
          have hw' : IntKind.i64.wrap ((j : Int) + 1 - 1) = j := by rw [IntKind.wrap_i64]; omega
          have h0' : (0 : Int) < ((j + 1 : Nat) : Int) := by omega
          have hji' : (j : Int) < i := by omega
          have HNN := Lib.hid hn
          clear hn hpj hxj
          go_wp2_with fail
          go_quiet (fail)
          have HO2 : Hid (OwnI (wr.drewN nq) w.heap.size g i c S) := Lib.hid (own_drewN HO.out _)
          have hB2 : Below w.heap.size w (wr.drewN nq) := hB.trans ⟨rfl, rfl, rfl, Nat.le_refl _, fun _ _ => rfl⟩
          go_wp2_with fail
          go_roundw
          case rel => exact ⟨j, by omega, by go_num, HNN, HO2, hB2⟩
          case measure => simp [intOf]
        · have hkk : insK S x i = k := by
            rw [← HK.out]
            rcases Nat.eq_zero_or_pos k with h0 | h0
            · rw [h0]; rfl
            · obtain ⟨j, rfl⟩ : ∃ j, k = j + 1 := ⟨k - 1, by omega⟩
              rw [insK, if_neg (fun h => hgo ⟨h0, by rw [Nat.add_sub_cancel]; exact h⟩)]
          have HKK := Lib.hid hkk
          have hgo' := Lib.hid hgo
          clear hkk hgo
          by_cases hk0 : k = 0
          · have HK0 := Lib.hid hk0
            have hd : decide (0 < k) = false := decide_eq_false (by omega)
            have c1 : True := trivial
            clear hk0
            go_wp2_with fail
            go_quiet (fail)
            obtain ⟨W2, e2⟩ : ∃ W2, W2 = wr.drewN nq := ⟨_, rfl⟩
            rw [← e2]
            have HO2 : Hid (OwnI W2 w.heap.size g i c S) := by rw [e2]; exact Lib.hid (own_drewN HO.out _)
            have hB2 : Below w.heap.size w W2 := by rw [e2]; exact hB.trans ⟨rfl, rfl, rfl, Nat.le_refl _, fun _ _ => rfl⟩
            have gl := World.ownsRow.lt HO2.out g rfl
            have hic := own_cap HO2.out
            have hicI : (i : Int) ≤ c := by omega
            have hki : (k : Int) ≤ i := by omega
            have hS2 := hB2.size
            have hl0 := hB2.alloc hS2 (.cells #[] 3)
            have hcells := own_drop_cells (HO2.out.alloc (.cells #[] 3)) (k := k) hk
            have hcells0 := own_drop_nil (HO2.out.alloc (.cells #[] 3)) (k := k) hk
            have hown0 := World.ownsRow_made W2 (e := 3) (base := w.heap.size) (size := 1) #[] 0 hS2 (by unfold maxLen; omega) rfl
            have HC := Lib.hid hcells
            have HC0 := Lib.hid hcells0
            have HW := Lib.hid hown0
            have HL := Lib.hid (show (ints (S.drop k)).length = (i - k) * 1 by rw [ints_len, List.length_drop, OwnI.len HO2.out, Nat.mul_one])
            clear e2 c1 hB HO y hcells hcells0 hown0
            rcases tf (c = k) with hq | hq
            all_goals
              go_wp2_with (at_builtin; refine Hid.out ?_)
              refine Lib.hid ?_
              refine wpList_append_own_at _ rfl _ _ 54 rfl w.heap.size 3 i0 (.int .i64 0) 1 8 Try.underlying54 hi hz0 hz1 hz2 rfl (by decide) _ 0 [] rfl HW.out _ (i - k) _ (ints (S.drop k)) rfl HL.out (by first | exact HC0.out (of_eq_true hq) _ | exact HC.out) (ints_one' _) (by unfold maxLen; omega) (by omega) (Nat.le_trans hS2 (by simp)) ?_
              intro v' w3 hown' hgrow hnil hat
              obtain ⟨gr, cr, rfl⟩ := own_some hown' (fun e => by have := (hnil.1 e).1; cases this)
              rw [Nat.zero_add, List.nil_append] at hown' 
              replace hgrow : (W2.alloc (.cells #[] 3)).grownBy w3 (some W2.heap.size) := hgrow
              have hgr : gr ≠ g := by
                rcases hat with h | h
                · have := Option.some.inj h; simp at this; omega
                · have := Option.some.inj h; simp at this; omega
              have hB3 : Below w.heap.size w w3 := hl0.grown hgrow (by simp; omega) (fun q e => by have := Option.some.inj e; omega)
              have HO3 : Hid (OwnI w3 w.heap.size g i c S) := Lib.hid (World.ownsRow.kept (HO2.out.alloc (.cells #[] 3)) hgrow (.inr (fun e => by have := Option.some.inj e; simp at this; omega)))
              have HR3 : Hid (OwnI w3 w.heap.size gr (i - k) cr (S.drop k)) := Lib.hid hown'
              have y := (hB3.cell (p := ad.add i) adlt).trans y0
              have HT : Hid (OwnI w3 w.heap.size g k c (S.take k)) := Lib.hid (own_take HO3.out k hk)
              have hS3 := hB3.size
              have gl3 := (World.ownsRow.lt HO3.out g rfl).1
              have hkc : (k : Int) ≤ c := by omega
              have hgadd : (ad.add i).block ≠ g := by omega
              clear hown' hgrow hnil hat hl0 hq
              go_wp2_with fail
              go_region_held3 (fun w' => w'.cell? (ad.add i) = some (.int .i64 x))
                (first
                  | go_keep
                  | exact y4
                  | exact y5)
                (first
                  | (refine step_append_own (by rfl) _ _ 54 (by rfl) w.heap.size 3 i0 (.int .i64 0) 1 8 Try.underlying54 hi hz0 hz1 hz2 rfl (by decide) (.slice (some ⟨g, 0, none⟩) k c) k (ints (S.take k)) (by rfl) (HT.out.alloc _) ⟨w3.heap.size, 0, none⟩ 1 1 [.int .i64 x] (by rfl) (by rfl) (cell_one_new _ _ _) (by simp [Value.oneCell']) (by unfold maxLen; omega) (by omega) (by simp; omega) ?_; intro v1 w4 hown1 hg1; have y4 : w4.cell? (ad.add i) = some (.int .i64 x) := grown_cell hg1 hgadd (by first | exact cell_alloc y _ | exact cell_alloc (w := w3.drew) y _ | exact cell_alloc (w := w3.drewN _) y _))
                  | (refine step_append_own (by rfl) _ _ 54 (by rfl) w.heap.size 3 i0 (.int .i64 0) 1 8 Try.underlying54 hi hz0 hz1 hz2 rfl (by decide) v1 (k + 1) (ints (S.take k) ++ [.int .i64 x]) (by rfl) hown1 ⟨gr, 0, none⟩ (i - k) cr (ints (S.drop k)) (by rfl) HL.out (own_cells (World.ownsRow.kept (by exact HR3.out.alloc _) hg1 (.inr (fun e => by have := Option.some.inj e; simp at this; omega)))) (ints_one' _) (by unfold maxLen; omega) (by omega) (by have := hg1.size; simp at this; omega) ?_; intro v2 w5 hown2 hg2; have y5 : w5.cell? (ad.add i) = some (.int .i64 x) := grown_low hown1 hg2 adlt y4))
              obtain ⟨g2, c2, e2, _⟩ := own_open hown2 (by omega)
              subst e2
              have hB5 : Below w.heap.size w w5 := by
                refine Below.grown (w := w4) ?_ hg2 (by have := hg1.size; simp at this; omega) (fun q e => (World.ownsRow.lt hown1 q e).1)
                exact Below.grown (hB3.drew.alloc hS3 _) hg1 (by simp; omega) (fun q e => (World.ownsRow.lt HT.out q e).1)
              have hsnoc : sortedO (l.take (i + 1)) = S.take k ++ [x] ++ S.drop k := by
                have hlt2 : i < l.length := by rw [HN.out]; exact hlt
                have hx2 := HX.out
                rw [List.getD_eq_getElem?_getD, List.getElem?_eq_getElem hlt2] at hx2
                have ht : l.take (i + 1) = l.take i ++ [x] := by rw [List.take_add_one, List.getElem?_eq_getElem hlt2, ← hx2]; rfl
                have hSl : S.length = i := OwnI.len HO2.out
                rw [ht, sorted_snoc, HS.out, insO, hSl, HKK.out]
              have hnum : k + 1 + (i - k) = i + 1 := by omega
              have HNX : Hid (OwnI w5 w.heap.size g2 (i + 1) c2 (sortedO (l.take (i + 1)))) := by
                rw [hsnoc]
                rw [hnum] at hown2
                have e3 : ints (S.take k ++ [x] ++ S.drop k) = ints (S.take k) ++ [.int .i64 x] ++ ints (S.drop k) := by simp [ints]
                show World.ownsRow _ _ _ _ _ _ _
                rw [e3]
                exact hown2
              rw [hnum]
              clear hown2 hown1 hg1 hg2 hsnoc hnum y4 y5 y
              go_wp2_with fail
              go_roundw
              case rel => exact ⟨i + 1, hlt, by go_num, ⟨g2, c2, rfl, HNX⟩, hB5⟩
              case measure => simp [intOf]; omega
          · obtain ⟨j, hj⟩ : ∃ j, k = j + 1 := ⟨k - 1, by omega⟩
            have hji : j < i := by omega
            have c1 := HO.out.at hji
            obtain ⟨pj, hpj⟩ : ∃ pj, S.getD j 0 = pj := ⟨_, rfl⟩
            rw [hpj] at c1
            have hd : decide (x < pj) = false := decide_eq_false (fun h => hgo'.out ⟨by omega, by rw [hj, Nat.add_sub_cancel, hpj]; exact h⟩)
            have hw : IntKind.i64.wrap ((k : Int) - 1) = j := by rw [IntKind.wrap_i64]; omega
            have h0' : decide (0 < k) = true := decide_eq_true (by omega)
            have hji' : (j : Int) < i := by omega
            have HJ := Lib.hid hj
            clear hj hpj
            go_wp2_with fail
            go_quiet (fail)
            clear hw hd
            obtain ⟨W2, e2⟩ : ∃ W2, W2 = wr.drewN nq := ⟨_, rfl⟩
            rw [← e2]
            have HO2 : Hid (OwnI W2 w.heap.size g i c S) := by rw [e2]; exact Lib.hid (own_drewN HO.out _)
            have hB2 : Below w.heap.size w W2 := by rw [e2]; exact hB.trans ⟨rfl, rfl, rfl, Nat.le_refl _, fun _ _ => rfl⟩
            have gl := World.ownsRow.lt HO2.out g rfl
            have hic := own_cap HO2.out
            have hicI : (i : Int) ≤ c := by omega
            have hki : (k : Int) ≤ i := by omega
            have hS2 := hB2.size
            have hl0 := hB2.alloc hS2 (.cells #[] 3)
            have hcells := own_drop_cells (HO2.out.alloc (.cells #[] 3)) (k := k) hk
            have hcells0 := own_drop_nil (HO2.out.alloc (.cells #[] 3)) (k := k) hk
            have hown0 := World.ownsRow_made W2 (e := 3) (base := w.heap.size) (size := 1) #[] 0 hS2 (by unfold maxLen; omega) rfl
            have HC := Lib.hid hcells
            have HC0 := Lib.hid hcells0
            have HW := Lib.hid hown0
            have HL := Lib.hid (show (ints (S.drop k)).length = (i - k) * 1 by rw [ints_len, List.length_drop, OwnI.len HO2.out, Nat.mul_one])
            clear e2 c1 hB HO y hcells hcells0 hown0
            rcases tf (c = k) with hq | hq
            all_goals
              go_wp2_with (at_builtin; refine Hid.out ?_)
              refine Lib.hid ?_
              refine wpList_append_own_at _ rfl _ _ 54 rfl w.heap.size 3 i0 (.int .i64 0) 1 8 Try.underlying54 hi hz0 hz1 hz2 rfl (by decide) _ 0 [] rfl HW.out _ (i - k) _ (ints (S.drop k)) rfl HL.out (by first | exact HC0.out (of_eq_true hq) _ | exact HC.out) (ints_one' _) (by unfold maxLen; omega) (by omega) (Nat.le_trans hS2 (by simp)) ?_
              intro v' w3 hown' hgrow hnil hat
              obtain ⟨gr, cr, rfl⟩ := own_some hown' (fun e => by have := (hnil.1 e).1; cases this)
              rw [Nat.zero_add, List.nil_append] at hown' 
              replace hgrow : (W2.alloc (.cells #[] 3)).grownBy w3 (some W2.heap.size) := hgrow
              have hgr : gr ≠ g := by
                rcases hat with h | h
                · have := Option.some.inj h; simp at this; omega
                · have := Option.some.inj h; simp at this; omega
              have hB3 : Below w.heap.size w w3 := hl0.grown hgrow (by simp; omega) (fun q e => by have := Option.some.inj e; omega)
              have HO3 : Hid (OwnI w3 w.heap.size g i c S) := Lib.hid (World.ownsRow.kept (HO2.out.alloc (.cells #[] 3)) hgrow (.inr (fun e => by have := Option.some.inj e; simp at this; omega)))
              have HR3 : Hid (OwnI w3 w.heap.size gr (i - k) cr (S.drop k)) := Lib.hid hown'
              have y := (hB3.cell (p := ad.add i) adlt).trans y0
              have HT : Hid (OwnI w3 w.heap.size g k c (S.take k)) := Lib.hid (own_take HO3.out k hk)
              have hS3 := hB3.size
              have gl3 := (World.ownsRow.lt HO3.out g rfl).1
              have hkc : (k : Int) ≤ c := by omega
              have hgadd : (ad.add i).block ≠ g := by omega
              clear hown' hgrow hnil hat hl0 hq
              go_wp2_with fail
              go_region_held3 (fun w' => w'.cell? (ad.add i) = some (.int .i64 x))
                (first
                  | go_keep
                  | exact y4
                  | exact y5)
                (first
                  | (refine step_append_own (by rfl) _ _ 54 (by rfl) w.heap.size 3 i0 (.int .i64 0) 1 8 Try.underlying54 hi hz0 hz1 hz2 rfl (by decide) (.slice (some ⟨g, 0, none⟩) k c) k (ints (S.take k)) (by rfl) (HT.out.alloc _) ⟨w3.heap.size, 0, none⟩ 1 1 [.int .i64 x] (by rfl) (by rfl) (cell_one_new _ _ _) (by simp [Value.oneCell']) (by unfold maxLen; omega) (by omega) (by simp; omega) ?_; intro v1 w4 hown1 hg1; have y4 : w4.cell? (ad.add i) = some (.int .i64 x) := grown_cell hg1 hgadd (by first | exact cell_alloc y _ | exact cell_alloc (w := w3.drew) y _ | exact cell_alloc (w := w3.drewN _) y _))
                  | (refine step_append_own (by rfl) _ _ 54 (by rfl) w.heap.size 3 i0 (.int .i64 0) 1 8 Try.underlying54 hi hz0 hz1 hz2 rfl (by decide) v1 (k + 1) (ints (S.take k) ++ [.int .i64 x]) (by rfl) hown1 ⟨gr, 0, none⟩ (i - k) cr (ints (S.drop k)) (by rfl) HL.out (own_cells (World.ownsRow.kept (by exact HR3.out.alloc _) hg1 (.inr (fun e => by have := Option.some.inj e; simp at this; omega)))) (ints_one' _) (by unfold maxLen; omega) (by omega) (by have := hg1.size; simp at this; omega) ?_; intro v2 w5 hown2 hg2; have y5 : w5.cell? (ad.add i) = some (.int .i64 x) := grown_low hown1 hg2 adlt y4))
              obtain ⟨g2, c2, e2, _⟩ := own_open hown2 (by omega)
              subst e2
              have hB5 : Below w.heap.size w w5 := by
                refine Below.grown (w := w4) ?_ hg2 (by have := hg1.size; simp at this; omega) (fun q e => (World.ownsRow.lt hown1 q e).1)
                exact Below.grown (hB3.drew.alloc hS3 _) hg1 (by simp; omega) (fun q e => (World.ownsRow.lt HT.out q e).1)
              have hsnoc : sortedO (l.take (i + 1)) = S.take k ++ [x] ++ S.drop k := by
                have hlt2 : i < l.length := by rw [HN.out]; exact hlt
                have hx2 := HX.out
                rw [List.getD_eq_getElem?_getD, List.getElem?_eq_getElem hlt2] at hx2
                have ht : l.take (i + 1) = l.take i ++ [x] := by rw [List.take_add_one, List.getElem?_eq_getElem hlt2, ← hx2]; rfl
                have hSl : S.length = i := OwnI.len HO2.out
                rw [ht, sorted_snoc, HS.out, insO, hSl, HKK.out]
              have hnum : k + 1 + (i - k) = i + 1 := by omega
              have HNX : Hid (OwnI w5 w.heap.size g2 (i + 1) c2 (sortedO (l.take (i + 1)))) := by
                rw [hsnoc]
                rw [hnum] at hown2
                have e3 : ints (S.take k ++ [x] ++ S.drop k) = ints (S.take k) ++ [.int .i64 x] ++ ints (S.drop k) := by simp [ints]
                show World.ownsRow _ _ _ _ _ _ _
                rw [e3]
                exact hown2
              rw [hnum]
              clear hown2 hown1 hg1 hg2 hsnoc hnum y4 y5 y
              go_wp2_with fail
              go_roundw
              case rel => exact ⟨i + 1, hlt, by go_num, ⟨g2, c2, rfl, HNX⟩, hB5⟩
              case measure => simp [intOf]; omega
    · obtain rfl : i = n := by omega
      go_wp2
      go_ret
      unfold RetRow
      rw [sorted_len, HN.out]
      have := HO.out
      rw [← HN.out, List.take_length, HN.out] at this
      exact ⟨_, _, rfl, this, hB⟩
end Go.Proofs.Ytbhikceekldenaa.Hb

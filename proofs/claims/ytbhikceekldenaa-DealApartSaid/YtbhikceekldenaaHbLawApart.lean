/- The walk of the law DealApart. -/
import Derived.Test.YtbhikceekldenaaHbApartP
import Derived.Test.YtbhikceekldenaaHbLaw03
import Derived.Deep.RegionHeld3
import Derived.Deep.DrawnRows
namespace Go.Proofs.Ytbhikceekldenaa.Hb
set_option linter.unusedVariables false
open Go.RowKit
attribute [local go_sem ↓] Go.wp_at_zero Go.wp_at_succ

def u64s (l : List Int) : List Value := l.map (Value.int .u64)
def u8s (l : List Int) : Array Value := (l.map (Value.int .u8)).toArray
theorem u64s_snoc (l : List Int) (x : Int) : u64s (l ++ [x]) = u64s l ++ [.int .u64 x] := by simp [u64s]
theorem info_u64 : (Try.prog.info? 72).map (fun i => (i.zero, i.size, i.bytes)) = some (some (.int .u64 0), 1, 8) := by kernel_rfl
theorem u8s_get {l : List Int} {i : Nat} (h : i < l.length) : (u8s l)[i]? = some (.int .u8 (l.getD i 0)) := by
  unfold u8s
  rw [List.getElem?_toArray, List.getElem?_map, List.getElem?_eq_getElem h, List.getD_eq_getElem?_getD, List.getElem?_eq_getElem h]
  rfl
/-- The draws of six bytes. -/
def drawsOf (a : List Int) : List Int := (List.range 6).map fun i => a.getD i 0 % (7 - (i : Int))
theorem drawsOf_len (a : List Int) : (drawsOf a).length = 6 := by simp [drawsOf]
theorem drawsOf_get (a : List Int) (i : Nat) (h : i < 6) : (drawsOf a).getD i 0 = a.getD i 0 % (7 - (i : Int)) := by
  rw [List.getD_eq_getElem?_getD, List.getElem?_eq_getElem (by rw [drawsOf_len]; exact h)]
  simp [drawsOf]
theorem drawsOf_ok (a : List Int) : okD 7 (drawsOf a) 0 := by
  have h : ∀ (i : Nat) (x : Int), i < 6 → 0 ≤ x % (7 - (i : Int)) ∧ x % (7 - (i : Int)) + i < 7 := fun i x hi => by
    have := Int.emod_nonneg x (show (7 : Int) - i ≠ 0 by omega)
    have := Int.emod_lt_of_pos x (show (0 : Int) < 7 - i by omega)
    omega
  exact ⟨(h 0 _ (by omega)).1, (h 0 _ (by omega)).2, (h 1 _ (by omega)).1, (h 1 _ (by omega)).2, (h 2 _ (by omega)).1, (h 2 _ (by omega)).2, (h 3 _ (by omega)).1, (h 3 _ (by omega)).2, (h 4 _ (by omega)).1, (h 4 _ (by omega)).2, (h 5 _ (by omega)).1, (h 5 _ (by omega)).2, trivial⟩
theorem drawsOf_in (a : List Int) : ∀ x ∈ drawsOf a, 0 ≤ x ∧ x ≤ 18446744073709551615 := by
  intro x hx
  simp only [drawsOf, List.mem_map, List.mem_range] at hx
  obtain ⟨i, hi, rfl⟩ := hx
  have := Int.emod_nonneg (a.getD i 0) (show (7 : Int) - i ≠ 0 by omega)
  have := Int.emod_lt_of_pos (a.getD i 0) (show (0 : Int) < 7 - i by omega)
  omega
theorem fold_len (n : Nat) : ∀ (xs : List Int) (i : Nat) (p : List Int), (foldP n xs i p).length = p.length
  | [], _, _ => rfl
  | x :: xs, i, p => by rw [foldP, fold_len n xs, stepPerm, swap_len]
theorem perm_len7 (X : List Int) : (foldP 7 X 0 (rowI 7)).length = 7 := by rw [fold_len, rowI_len]
theorem fold_in7 (X : List Int) (ho : okD 7 X 0) (hl : X.length = 6) : ∀ x ∈ foldP 7 X 0 (rowI 7), inR x :=
  (permR_in (num := numL X) (n := 7) (k := 0) (by omega) (perm_low (by omega) X ho hl)).1
/-- append, as a step of a region that draws its order; and where the row lies. -/
theorem step_append_at {P : Program} {w : World} {ops : Array Oper} {o : Oper} {a : Act} {K : Act → World → Prop} {Q : Exit → Act → World → Prop} {E : Prop} (hgd : o.guard = none) (s x : Operand) (t : TypeId)
    (ho : o.op = .call { callee := .builtin .append, args := #[s, x], argTypes := #[t, t] })
    (base : Nat) (e : TypeId) (i : TypeInfo) (z : Value) (size bytes : Nat) (ht : P.underlying t = some (.slice e)) (hi : P.info? e = some i) (hz : i.zero = some z)
    (hsize : i.size = size) (hby : i.bytes = bytes) (hzs : z.cells.size = size) (hsz : 0 < size)
    (v : Value) (n : Nat) (xs : List Value) (hs : a.eval s = v) (hown : w.ownsRow base e size v n xs)
    (ad : Addr) (m c : Nat) (news : List Value) (hx : a.eval x = .slice (some ad) m c) (hl : news.length = m * size) (hnews : ∀ j u, news[j]? = some u → w.cell? (ad.add j) = some u) (h1 : ∀ u ∈ news, u.oneCell' = true)
    (h63 : n + m ≤ maxLen) (hbytes : (n + m) * bytes ≤ 140737488355328) (hbase : base ≤ w.heap.size)
    (h : ∀ v' w', w'.ownsRow base e size v' (n + m) (xs ++ news) → w.grownBy w' v.ownBlock → (v'.ownBlock = v.ownBlock ∨ v'.ownBlock = some w.heap.size) → K (a.put o.dst v') w') :
    if Region.wanted o (yielded ops a.tmps) = true then Oper.wp P o a w K Q else E := by
  have hw : Region.wanted o (yielded ops a.tmps) = true := by simp [Region.wanted, hgd]
  rw [if_pos hw]
  obtain ⟨v', w', hrun, h2, h3, _, h4⟩ := run_append_own_at w base t o.type e i z size bytes ht hi hz hsize hby hzs hsz v n xs hown ad m c news hl hnews h1 h63 hbytes hbase
  unfold Oper.wp
  simp [execOp, ho, resolve, invoke, builtin, hs, hx, hrun, Result.andThen]
  exact h v' w' h2 h3 h4
theorem news_a (w : World) (o : Obj) (x : Value) (t : TypeId) : ∀ j u, [x][j]? = some u → ((w.alloc (.cells #[x] t)).alloc o).cell? ((⟨w.heap.size, 0, none⟩ : Addr).add j) = some u := fun j u h => cell_alloc (cell_one_new w x t j u h) o
theorem news_b (w : World) (o : Obj) (x : Value) (t : TypeId) : ∀ j u, [x][j]? = some u → ((w.alloc o).alloc (.cells #[x] t)).cell? ((⟨w.heap.size + 1, 0, none⟩ : Addr).add j) = some u := fun j u h => by
  have := cell_one_new (w.alloc o) x t j u h
  simpa using this
theorem news_k {W w5 : World} {row : Option Nat} {g : Nat} {x : Value} (hn : ∀ j u, [x][j]? = some u → W.cell? ((⟨g, 0, none⟩ : Addr).add j) = some u) (hg : W.grownBy w5 row) (hne : some g ≠ row) : ∀ j u, [x][j]? = some u → w5.cell? ((⟨g, 0, none⟩ : Addr).add j) = some u :=
  fun j u h => grown_c hg (by rw [add_block]; exact hne) (hn j u h)
theorem grown_lowb {W w' : World} {row : Option Nat} {N : Nat} {p : Addr} {u : Value} (hg : W.grownBy w' row) (hrow : ∀ q, row = some q → N ≤ q) (hp : p.block < N) (hc : W.cell? p = some u) : w'.cell? p = some u :=
  grown_c hg (fun e => by have := hrow _ e.symm; omega) hc
theorem u64s_get {l : List Int} {i : Nat} (h : i < l.length) : (u64s l)[i]? = some (.int .u64 (l.getD i 0)) := by
  unfold u64s
  rw [List.getElem?_map, List.getElem?_eq_getElem h, List.getD_eq_getElem?_getD, List.getElem?_eq_getElem h]
  rfl
theorem bool_and_eq {X Y : List Int} {i : Nat} (hx : i < X.length) (hy : i < Y.length) : (decide (X.take i = Y.take i) && (X.getD i 0 == Y.getD i 0)) = decide (X.take (i + 1) = Y.take (i + 1)) := by
  rw [take_succ' hx, take_succ' hy]
  have : (X.take i ++ [X.getD i 0] = Y.take i ++ [Y.getD i 0]) ↔ (X.take i = Y.take i ∧ X.getD i 0 = Y.getD i 0) := by
    constructor
    · intro h
      have := List.append_inj h (by rw [List.length_take, List.length_take]; omega)
      exact ⟨this.1, by simpa using this.2⟩
    · rintro ⟨h1, h2⟩; rw [h1, h2]
  rw [decide_eq_decide.2 this, Bool.decide_and]
  congr 1
set_option maxRecDepth 100000 in
set_option maxHeartbeats 4000000 in
theorem apart_any (a b : List Int) (ha : a.length = 6) (hb : b.length = 6) (ra : ∀ x ∈ a, 0 ≤ x ∧ x ≤ 255) (rb : ∀ x ∈ b, 0 ≤ x ∧ x ≤ 255) (w : World) : Calls Try.prog 11 #[.agg (u8s a), .agg (u8s b)] w (True0 w) := by
  obtain ⟨i0, hi0, hz0, hz1, hz2⟩ := info_parts info_u64
  obtain ⟨X, hX⟩ : ∃ X, drawsOf a = X := ⟨_, rfl⟩
  obtain ⟨Y, hY⟩ : ∃ Y, drawsOf b = Y := ⟨_, rfl⟩
  have HX := Lib.hid hX
  have HY := Lib.hid hY
  obtain ⟨ca, hca⟩ : ∃ c, u8s a = c := ⟨_, rfl⟩
  obtain ⟨cb, hcb⟩ : ∃ c, u8s b = c := ⟨_, rfl⟩
  rw [hca, hcb]
  have HCA := Lib.hid hca
  have HCB := Lib.hid hcb
  have HA := Lib.hid ha
  have HB := Lib.hid hb
  have HRA := Lib.hid ra
  have HRB := Lib.hid rb
  clear hX hY hca hcb ha hb ra rb
  go_enter Try.func11, Try.ntmps11
  go_wp2_with fail
  obtain ⟨W2, e2⟩ : ∃ W, W = (w.alloc (.cells ca 71)).alloc (.cells cb 71) := ⟨_, rfl⟩
  rw [← e2]
  have kA : Blk W2 w.heap.size ca 71 := by rw [e2]; exact (Blk.new w _ _).below ((Below.refl _ _).alloc (Nat.le_refl _) _)
  have kB : Blk W2 (w.heap.size + 1) cb 71 := by rw [e2]; have := Blk.new (w.alloc (.cells ca 71)) cb 71; simpa using this
  have b2 : Below w.heap.size w W2 := by rw [e2]; exact ((Below.refl _ w).alloc (Nat.le_refl _) _).alloc (by simp) _
  obtain ⟨N, hN⟩ : ∃ N, W2.heap.size = N := ⟨_, rfl⟩
  have hNw : w.heap.size + 1 < N := by rw [← hN]; exact kB.lt
  have KA := Lib.hid kA
  have KB := Lib.hid kB
  have HB2 := Lib.hid b2
  have HN := Lib.hid hN
  clear e2 kA kB b2 hN
  go_loopw [5, 6, 7, 14] (fun o5 o6 sv iv wr => ∃ i : Nat, i ≤ 6 ∧ iv = .int .i64 i ∧ (∃ sb, sv = .bool sb ∧ Hid (sb = decide (X.take i = Y.take i))) ∧ Hid (wr.ownsRow N 72 1 o5 i (u64s (X.take i)) ∧ wr.ownsRow N 72 1 o6 i (u64s (Y.take i)) ∧ ∀ q, o5.ownBlock = some q → o6.ownBlock ≠ some q) ∧ Below N W2 wr) (fun _ _ _ iv _ => 6 - (intOf iv).toNat)
  case atStart => exact ⟨0, Nat.zero_le _, rfl, ⟨true, rfl, Lib.hid (by rw [List.take_zero, List.take_zero]; rfl)⟩, Lib.hid ⟨World.ownsRow_nil _ _ _ _, World.ownsRow_nil _ _ _ _, fun q h => by cases h⟩, Below.refl _ _⟩
  case round =>
    obtain ⟨i, hi, rfl, ⟨sb, rfl, HSB⟩, HR, hB⟩ := hrel
    have hs := hB.size
    have hNs := HN.out
    have hlX : X.length = 6 := by rw [← HX.out, drawsOf_len]
    have hlY : Y.length = 6 := by rw [← HY.out, drawsOf_len]
    have HLX := Lib.hid hlX
    have HLY := Lib.hid hlY
    clear hlX hlY
    by_cases hlt : i < 6
    · have hlt' : (i : Int) < 6 := by omega
      have y1 : wr.cell? ⟨w.heap.size, i, none⟩ = some (.int .u8 (a.getD i 0)) := by
        rw [hB.cell (p := ⟨w.heap.size, i, none⟩) (by show w.heap.size < N; omega), KA.out.cell i, ← HCA.out]
        exact u8s_get (by rw [HA.out]; exact hlt)
      have y2 : wr.cell? ⟨w.heap.size + 1, i, none⟩ = some (.int .u8 (b.getD i 0)) := by
        rw [hB.cell (p := ⟨w.heap.size + 1, i, none⟩) (by show w.heap.size + 1 < N; omega), KB.out.cell i, ← HCB.out]
        exact u8s_get (by rw [HB.out]; exact hlt)
      have hgx : X.getD i 0 = a.getD i 0 % (7 - (i : Int)) := by rw [← HX.out, drawsOf_get a i hlt]
      have hgy : Y.getD i 0 = b.getD i 0 % (7 - (i : Int)) := by rw [← HY.out, drawsOf_get b i hlt]
      have hma : a.getD i 0 ∈ a := by rw [List.getD_eq_getElem?_getD, List.getElem?_eq_getElem (by rw [HA.out]; exact hlt)]; exact List.getElem_mem _
      have hmb : b.getD i 0 ∈ b := by rw [List.getD_eq_getElem?_getD, List.getElem?_eq_getElem (by rw [HB.out]; exact hlt)]; exact List.getElem_mem _
      have ha2 := HRA.out _ hma
      have hb2 := HRB.out _ hmb
      obtain ⟨av, hav⟩ : ∃ av, a.getD i 0 = av := ⟨_, rfl⟩
      obtain ⟨bv, hbv⟩ : ∃ bv, b.getD i 0 = bv := ⟨_, rfl⟩
      rw [hav] at y1 hgx ha2
      rw [hbv] at y2 hgy hb2
      obtain ⟨av0, av1⟩ := ha2
      obtain ⟨bv0, bv1⟩ := hb2
      obtain ⟨xv, hxv⟩ : ∃ xv, av % (7 - (i : Int)) = xv := ⟨_, rfl⟩
      obtain ⟨yv, hyv⟩ : ∃ yv, bv % (7 - (i : Int)) = yv := ⟨_, rfl⟩
      obtain ⟨d, hd⟩ : ∃ d, 7 - (i : Int) = d := ⟨_, rfl⟩
      have hd0 : 0 < d := by omega
      have hd7 : d ≤ 7 := by omega
      have hdz : (d == 0) = false := beq_eq_false_iff_ne.2 (by omega)
      have GX := Lib.hid hgx
      have GY := Lib.hid hgy
      have XV := Lib.hid hxv
      have YV := Lib.hid hyv
      have hw1 : IntKind.i64.wrap (7 - (i : Int)) = 7 - (i : Int) := by rw [IntKind.wrap_i64]; omega
      have hw2 : IntKind.u64.wrap (7 - (i : Int)) = 7 - (i : Int) := by rw [IntKind.wrap_u64]; omega
      have hb7 : 0 < 7 - (i : Int) := by omega
      have hz7 : (7 - (i : Int) == 0) = false := beq_eq_false_iff_ne.2 (by omega)
      have HD := Lib.hid hd
      rw [hd] at XV YV
      clear hgx hgy hma hmb hav hbv hxv hyv hd
      have hl1 : (ints ([] : List Int)) = [] := rfl
      have ne56 : ∀ q, u5.ownBlock = some q → u6.ownBlock ≠ some q := HR.out.2.2
      have yN1 : (⟨w.heap.size, i, none⟩ : Addr).block < N := by show w.heap.size < N; omega
      have yN2 : (⟨w.heap.size + 1, i, none⟩ : Addr).block < N := by show w.heap.size + 1 < N; omega
      go_wp2_with fail
      rw [HD.out]
      clear hb7 hz7 hw1 hw2
      have rw5 : ∀ q, u5.ownBlock = some q → N ≤ q ∧ q < wr.heap.size := fun q e => World.ownsRow.lt HR.out.1 q e
      have rw6 : ∀ q, u6.ownBlock = some q → N ≤ q ∧ q < wr.heap.size := fun q e => World.ownsRow.lt HR.out.2.1 q e
      have hne : u6.ownBlock = none ∨ u6.ownBlock ≠ u5.ownBlock := by
        cases h6 : u6.ownBlock with
        | none => exact .inl rfl
        | some q => exact .inr (fun e => ne56 q e.symm h6)
      have RW5 := Lib.hid rw5
      have RW6 := Lib.hid rw6
      have HNE := Lib.hid hne
      have hsN : N ≤ wr.heap.size := by omega
      have tx : av.tmod d = xv := by rw [Int.tmod_eq_emod_of_nonneg av0]; exact XV.out
      have ty : bv.tmod d = yv := by rw [Int.tmod_eq_emod_of_nonneg bv0]; exact YV.out
      have mx : av % d = xv := XV.out
      have my : bv % d = yv := YV.out
      have hd1 : ¬ d = 0 := by omega
      have hwa : IntKind.u64.wrap av = av := by rw [IntKind.wrap_u64]; omega
      have hwb : IntKind.u64.wrap bv = bv := by rw [IntKind.wrap_u64]; omega
      clear hne rw5 rw6 ne56
      go_region_held3 (fun w' => w'.cell? ⟨w.heap.size, i, none⟩ = some (.int .u8 av) ∧ w'.cell? ⟨w.heap.size + 1, i, none⟩ = some (.int .u8 bv))
        (first
          | go_keep
          | exact z6
          | exact z5)
        (first
          | (refine step_append_at (by rfl) _ _ 58 (by rfl) N 72 i0 (.int .u64 0) 1 8 Try.underlying58 hi0 hz0 hz1 hz2 rfl (by decide) u5 i (u64s (X.take i)) (by rfl) (by first | exact HR.out.1.alloc _ | exact (HR.out.1.alloc _).alloc _) _ 1 1 [.int .u64 xv] (by rfl) (by rfl) (by first | exact cell_one_new _ _ _ | exact news_a _ _ _ _ | exact news_b _ _ _ _) (by simp [Value.oneCell']) (by unfold maxLen; omega) (by omega) (by simp; omega) ?_; intro v5 w5 hown5 hg5 hat5; have z5 : w5.cell? ⟨w.heap.size, i, none⟩ = some (.int .u8 av) ∧ w5.cell? ⟨w.heap.size + 1, i, none⟩ = some (.int .u8 bv) := ⟨grown_lowb hg5 (fun q e => (RW5.out q e).1) yN1 (by first | exact cell_alloc y1 _ | exact cell_alloc (cell_alloc y1 _) _ | exact cell_alloc (w := wr.drew) y1 _ | exact cell_alloc (cell_alloc (w := wr.drew) y1 _) _), grown_lowb hg5 (fun q e => (RW5.out q e).1) yN2 (by first | exact cell_alloc y2 _ | exact cell_alloc (cell_alloc y2 _) _ | exact cell_alloc (w := wr.drew) y2 _ | exact cell_alloc (cell_alloc (w := wr.drew) y2 _) _)⟩)
          | (refine step_append_at (by rfl) _ _ 58 (by rfl) N 72 i0 (.int .u64 0) 1 8 Try.underlying58 hi0 hz0 hz1 hz2 rfl (by decide) u6 i (u64s (Y.take i)) (by rfl) (by first | exact (World.ownsRow.kept (by exact HR.out.2.1.alloc _) hg5 HNE.out).alloc _ | exact World.ownsRow.kept (by exact (HR.out.2.1.alloc _).alloc _) hg5 HNE.out) _ 1 1 [.int .u64 yv] (by rfl) (by rfl) (by first | exact cell_one_new _ _ _ | exact news_k (by exact news_b _ _ _ _) hg5 (fun e => by have := (RW5.out _ e.symm).2; omega) | exact news_k (by exact news_a _ _ _ _) hg5 (fun e => by have := (RW5.out _ e.symm).2; omega)) (by simp [Value.oneCell']) (by unfold maxLen; omega) (by omega) (by have := hg5.size; simp at this ⊢; omega) ?_; intro v6 w6 hown6 hg6 hat6; have z6 : w6.cell? ⟨w.heap.size, i, none⟩ = some (.int .u8 av) ∧ w6.cell? ⟨w.heap.size + 1, i, none⟩ = some (.int .u8 bv) := ⟨grown_lowb hg6 (fun q e => (RW6.out q e).1) yN1 (by first | exact z5.1 | exact cell_alloc z5.1 _), grown_lowb hg6 (fun q e => (RW6.out q e).1) yN2 (by first | exact z5.2 | exact cell_alloc z5.2 _)⟩))
      all_goals
        obtain ⟨g5, c5, e5, _⟩ := own_open hown5 (by omega)
        subst e5
        obtain ⟨g6, c6, e6, _⟩ := own_open hown6 (by omega)
        subst e6
        have k5 : u5.ownBlock = some g5 ∨ wr.heap.size ≤ g5 := by
          rcases hat5 with h | h
          · exact .inl h.symm
          · have := Option.some.inj h
            simp at this
            exact .inr (by omega)
        have k6 : u6.ownBlock = some g6 ∨ w5.heap.size ≤ g6 := by
          rcases hat6 with h | h
          · exact .inl h.symm
          · have := Option.some.inj h
            simp at this
            exact .inr (by omega)
        have nE : ∀ q, u6.ownBlock = some q → q ≠ g5 := fun q e e2 => by
          subst e2
          rcases k5 with h | h
          · rcases HNE.out with h2 | h2
            · rw [h2] at e; cases e
            · exact h2 (e.trans h.symm)
          · have := (RW6.out q e).2
            omega
        have l5 := (World.ownsRow.lt hown5 g5 rfl).2
        have hdis : g5 ≠ g6 := fun e => by
          rcases k6 with h | h
          · exact nE g6 h e.symm
          · omega
        have hXi : i < X.length := by rw [HLX.out]; exact hlt
        have hYi : i < Y.length := by rw [HLY.out]; exact hlt
        have tX : X.take (i + 1) = X.take i ++ [xv] := by rw [take_succ' hXi, GX.out, HD.out, XV.out]
        have tY : Y.take (i + 1) = Y.take i ++ [yv] := by rw [take_succ' hYi, GY.out, HD.out, YV.out]
        have own5 : w6.ownsRow N 72 1 (.slice (some ⟨g5, 0, none⟩) (i + 1) c5) (i + 1) (u64s (X.take (i + 1))) := by
          rw [tX, u64s_snoc]
          first
          | exact World.ownsRow.kept hown5 hg6 (.inr (fun e => nE g5 e.symm rfl))
          | exact World.ownsRow.kept (hown5.alloc _) hg6 (.inr (fun e => nE g5 e.symm rfl))
        have own6 : w6.ownsRow N 72 1 (.slice (some ⟨g6, 0, none⟩) (i + 1) c6) (i + 1) (u64s (Y.take (i + 1))) := by
          rw [tY, u64s_snoc]
          exact hown6
        have b5 : Below N W2 w5 := by
          first
          | exact ((hB.alloc (by omega) _).drew).grown hg5 (by simp; omega) (fun q e => (RW5.out q e).1)
          | exact (((hB.alloc (by omega) _).alloc (by simp; omega) _).drew).grown hg5 (by simp; omega) (fun q e => (RW5.out q e).1)
        have s5 := hg5.size
        have b6 : Below N W2 w6 := by
          first
          | exact b5.grown hg6 (by simp at s5; omega) (fun q e => (RW6.out q e).1)
          | exact (b5.alloc (by simp at s5; omega) _).grown hg6 (by simp at s5 ⊢; omega) (fun q e => (RW6.out q e).1)
        have x5 := World.ownsRow.cellAt own5 i (by omega)
        have x6 := World.ownsRow.cellAt own6 i (by omega)
        rw [u64s_get (by rw [List.length_take]; omega), List.getD_eq_getElem?_getD, List.getElem?_take_of_lt (by omega), ← List.getD_eq_getElem?_getD, GX.out, HD.out, XV.out] at x5
        rw [u64s_get (by rw [List.length_take]; omega), List.getD_eq_getElem?_getD, List.getElem?_take_of_lt (by omega), ← List.getD_eq_getElem?_getD, GY.out, HD.out, YV.out] at x6
        have hsb := bool_and_eq hXi hYi
        rw [← HSB.out, GX.out, GY.out, HD.out, XV.out, YV.out] at hsb
        have HX2 : Hid (w6.ownsRow N 72 1 (.slice (some ⟨g5, 0, none⟩) (i + 1) c5) (i + 1) (u64s (X.take (i + 1))) ∧ w6.ownsRow N 72 1 (.slice (some ⟨g6, 0, none⟩) (i + 1) c6) (i + 1) (u64s (Y.take (i + 1))) ∧ ∀ q, (Value.slice (some ⟨g5, 0, none⟩) (i + 1) c5).ownBlock = some q → (Value.slice (some ⟨g6, 0, none⟩) (i + 1) c6).ownBlock ≠ some q) := Lib.hid ⟨own5, own6, fun q e1 e2 => hdis ((Option.some.inj e1).trans (Option.some.inj e2).symm)⟩
        have hi1 : (i : Int) < ((i + 1 : Nat) : Int) := by omega
        have hi2 : (i : Int) < (i : Int) + 1 := by omega
        clear hown5 hown6 hg5 hg6 hat5 hat6 k5 k6 nE z5 z6 own5 own6 b5 s5 tX tY hXi hYi tx ty mx my hwa hwb
        cases sb with
        | false =>
          have HF : Hid (false = decide (X.take (i + 1) = Y.take (i + 1))) := Lib.hid (by rw [← hsb]; rfl)
          clear hsb
          go_wp2_with fail
          go_quiet (fail)
          have b7 : Below N W2 (w6.drewN nq) := b6.trans ⟨rfl, rfl, rfl, Nat.le_refl _, fun _ _ => rfl⟩
          go_wp2_with fail
          go_roundw
          case rel => exact ⟨i + 1, hlt, by go_num, ⟨false, rfl, HF⟩, HX2, b7⟩
          case measure => simp [intOf]; omega
        | true =>
          have HF : Hid ((xv == yv) = decide (X.take (i + 1) = Y.take (i + 1))) := Lib.hid (by rw [← hsb]; rfl)
          obtain ⟨xy, hxy⟩ : ∃ z, (xv == yv) = z := ⟨_, rfl⟩
          rw [hxy] at HF
          clear hsb
          go_wp2_with fail
          go_quiet (fail)
          have b7 : Below N W2 (w6.drewN nq) := b6.trans ⟨rfl, rfl, rfl, Nat.le_refl _, fun _ _ => rfl⟩
          go_wp2_with fail
          go_roundw
          case rel => exact ⟨i + 1, hlt, by go_num, ⟨xy, rfl, HF⟩, HX2, b7⟩
          case measure => simp [intOf]; omega
    · obtain rfl : i = 6 := by omega
      obtain ⟨g5, c5, e5, _⟩ := own_open HR.out.1 (by omega)
      subst e5
      obtain ⟨g6, c6, e6, _⟩ := own_open HR.out.2.1 (by omega)
      subst e6
      have tX : X.take 6 = X := List.take_of_length_le (by rw [HLX.out]; exact Nat.le_refl _)
      have tY : Y.take 6 = Y := List.take_of_length_le (by rw [HLY.out]; exact Nat.le_refl _)
      have hsb := HSB.out
      rw [tX, tY] at hsb
      have o5 := HR.out.1
      have o6 := HR.out.2.1
      rw [tX] at o5
      rw [tY] at o6
      have inX : ∀ x ∈ X, 0 ≤ x ∧ x ≤ 18446744073709551615 := by rw [← HX.out]; exact drawsOf_in a
      have inY : ∀ x ∈ Y, 0 ≤ x ∧ x ≤ 18446744073709551615 := by rw [← HY.out]; exact drawsOf_in b
      have okX : okD 7 X 0 := by rw [← HX.out]; exact drawsOf_ok a
      have okY : okD 7 Y 0 := by rw [← HY.out]; exact drawsOf_ok b
      have l5 := (World.ownsRow.lt o5 g5 rfl)
      have l6 := (World.ownsRow.lt o6 g6 rfl)
      have k1 := perm_any (srcL wr.heap.size (wr.heap.size + 1) (some ⟨g5, 0, none⟩) c5 X (Nat.lt_succ_self _) (by rw [HLX.out]; omega) inX (fun ad e _ => by have := Option.some.inj e; subst this; show g5 < _; omega)) 7 (by omega) 0 (by omega) (wr.alloc (.cells #[.slice (some ⟨g5, 0, none⟩) 6 c5, .int .i64 0] 62)) (by simp)
        ⟨by rw [HLX.out]; exact Blk.new _ _ _, .inr ⟨_, rfl, by show g5 ≠ _; omega, fun j hj => by
          rw [HLX.out] at hj
          have := World.ownsRow.cellAt (o5.alloc (.cells #[.slice (some ⟨g5, 0, none⟩) 6 c5, .int .i64 0] 62)) j (by omega)
          rw [show (⟨g5, 0, none⟩ : Addr).add j = ⟨g5, j, none⟩ from by unfold Addr.add; split <;> simp_all, this, u64s_get (by rw [HLX.out]; exact hj)]⟩⟩
      obtain ⟨P, hP⟩ : ∃ P, foldP 7 X 0 (rowI 7) = P := ⟨_, rfl⟩
      obtain ⟨Q, hQ⟩ : ∃ Q, foldP 7 Y 0 (rowI 7) = Q := ⟨_, rfl⟩
      have HPQ : Hid (decide (P = Q) = sb ∧ (∀ x ∈ P, inR x) ∧ (∀ x ∈ Q, inR x) ∧ P.length = 7 ∧ Q.length = 7) := Lib.hid ⟨by rw [← hP, ← hQ, perm_apart X Y okX okY HLX.out HLY.out, ← hsb], by rw [← hP]; exact fold_in7 X okX HLX.out, by rw [← hQ]; exact fold_in7 Y okY HLY.out, by rw [← hP]; exact perm_len7 X, by rw [← hQ]; exact perm_len7 Y⟩
      have HQ := Lib.hid hQ
      rw [perm_low (by omega) X okX HLX.out, hP] at k1
      have K1 := Lib.hid k1
      have O5 := Lib.hid o5
      have O6 := Lib.hid o6
      have INY := Lib.hid inY
      have OKX := Lib.hid okX
      have OKY := Lib.hid okY
      have HSB2 := Lib.hid hsb
      clear k1 o5 o6 inX inY okX okY hsb HSB tX tY HR hP hQ
      go_wp2_with fail
      refine K1.out.mono ?_
      rintro e w7 ⟨hg7, _, g7, c7, rfl, ho7⟩
      have b7 : Below N W2 w7 := grown_below' (hB.alloc (by omega) _) hg7 (by simp; omega) (by omega)
      have O67 := World.ownsRow.kept (O6.out.alloc (.cells #[.slice (some ⟨g5, 0, none⟩) 6 c5, .int .i64 0] 62)) hg7 (.inr (fun e => by have := Option.some.inj e; simp at this; omega))
      have l67 := (World.ownsRow.lt O67 g6 rfl).2
      have hsz7 := hg7.size
      simp only [World.size_alloc] at hsz7
      have HO7 := Lib.hid ho7
      have k2 := perm_any (srcL w7.heap.size (w7.heap.size + 1) (some ⟨g6, 0, none⟩) c6 Y (Nat.lt_succ_self _) (by rw [HLY.out]; omega) INY.out (fun ad e _ => by have := Option.some.inj e; subst this; show g6 < _; omega)) 7 (by omega) 0 (by omega) (w7.alloc (.cells #[.slice (some ⟨g6, 0, none⟩) 6 c6, .int .i64 0] 62)) (by simp)
        ⟨by rw [HLY.out]; exact Blk.new _ _ _, .inr ⟨_, rfl, by show g6 ≠ _; omega, fun j hj => by
          rw [HLY.out] at hj
          have := World.ownsRow.cellAt (O67.alloc (.cells #[.slice (some ⟨g6, 0, none⟩) 6 c6, .int .i64 0] 62)) j (by omega)
          rw [show (⟨g6, 0, none⟩ : Addr).add j = ⟨g6, j, none⟩ from by unfold Addr.add; split <;> simp_all, this, u64s_get (by rw [HLY.out]; exact hj)]⟩⟩
      rw [perm_low (by omega) Y OKY.out HLY.out, HQ.out] at k2
      have K2 := Lib.hid k2
      clear k2 hg7 O67 ho7 K1
      go_wp2_with fail
      refine K2.out.mono ?_
      rintro e w8 ⟨hg8, _, g8, c8, rfl, ho8⟩
      have sN7 : N ≤ w7.heap.size := by omega
      have b8 : Below N W2 w8 := grown_below' (b7.alloc sN7 _) hg8 (by simp; omega) sN7
      have HO8 := Lib.hid ho8
      have HO78 := Lib.hid (World.ownsRow.kept (HO7.out.alloc (.cells #[.slice (some ⟨g6, 0, none⟩) 6 c6, .int .i64 0] 62)) hg8 (.inr (fun e => by have := Option.some.inj e; have h9 := (World.ownsRow.lt HO7.out g7 rfl).2; simp at this; omega)))
      clear hg8 ho8 K2 HO7
      go_wp2_with fail
      refine (fixed3_any _).mono ?_
      rintro e w9 ⟨rfl, hb9⟩
      have b9 : Below N W2 w9 := b8.trans (hb9.mono (by have := b8.size; omega))
      have HO79 := own_below HO78.out hb9
      have HO89 := own_below HO8.out hb9
      have ks := same3_any (some ⟨g7, 0, none⟩) (some ⟨g8, 0, none⟩) c7 c8 P Q w9 (own_rd HO79 HPQ.out.2.1) (own_rd HO89 HPQ.out.2.2.1) (by have := HPQ.out.2.2.2.1; omega) (by have := HPQ.out.2.2.2.2; omega)
      rw [HPQ.out.1] at ks
      have KS := Lib.hid ks
      clear ks hb9 HO79 HO89 HO78 HO8
      go_wp2_with fail
      refine KS.out.mono ?_
      rintro e w10 ⟨rfl, hb10⟩
      have b10 : Below N W2 w10 := b9.trans (hb10.mono (by have := b9.size; omega))
      have hqq : (sb == sb) = true := beq_self_eq_true sb
      clear hb10
      go_wp2_with fail
      go_ret
      exact ⟨rfl, HB2.out.trans (b10.mono (by omega))⟩
end Go.Proofs.Ytbhikceekldenaa.Hb

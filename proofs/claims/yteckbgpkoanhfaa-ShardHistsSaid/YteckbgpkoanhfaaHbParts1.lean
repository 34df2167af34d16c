/- The walk of shard.Parts. -/
import Derived.Test.YteckbgpkoanhfaaHbPartsO
import Derived.Deep.DeepCutAuto
import Derived.Sort.CutIn
import Derived.Test.YteckbgpkoanhfaaHbRound
namespace Go.Proofs.Yteckbgpkoanhfaa.Hb
set_option linter.unusedVariables false
set_option linter.unusedSimpArgs false
open Go.RowKit Go.Shelf
attribute [local go_sem] Oper.semAt_some

theorem smay_any (p : Int) (w : World) : Calls Try.prog 40 #[.int .i64 p] w fun e w' => e = .returned (.bool (decide (1 ≤ p ∧ p ≤ 64))) ∧ w = w' := by
  go_enter Try.func40, Try.ntmps40
  go_wp2
  all_goals
    go_ret
    refine ⟨ret_bool ?_, rfl⟩
    first
    | (refine (decide_eq_false ?_).symm; omega)
    | (refine (decide_eq_true ?_).symm; omega)
    | (refine decide_eq_decide.2 ?_; omega)
    | (rw [Bool.eq_iff_iff]; simp; omega)
theorem boxes8 (w : World) (X0 X1 X2 X3 X4 X5 X6 X7 : Array Value) (t0 t1 t2 t3 t4 t5 t6 t7 : TypeId) (W : World) (h : W = (((((((w.alloc (.cells X0 t0)).alloc (.cells X1 t1)).alloc (.cells X2 t2)).alloc (.cells X3 t3)).alloc (.cells X4 t4)).alloc (.cells X5 t5)).alloc (.cells X6 t6)).alloc (.cells X7 t7)) :
    Blk W w.heap.size X0 t0 ∧ Blk W (w.heap.size + 1) X1 t1 ∧ Blk W (w.heap.size + 1 + 1) X2 t2 ∧ Blk W (w.heap.size + 1 + 1 + 1) X3 t3 ∧ Blk W (w.heap.size + 1 + 1 + 1 + 1) X4 t4 ∧ Blk W (w.heap.size + 1 + 1 + 1 + 1 + 1) X5 t5 ∧ Blk W (w.heap.size + 1 + 1 + 1 + 1 + 1 + 1) X6 t6 ∧ Blk W (w.heap.size + 1 + 1 + 1 + 1 + 1 + 1 + 1) X7 t7 ∧ W.heap.size = w.heap.size + 8 ∧ Below w.heap.size w W := by
  subst h
  refine ⟨?_, ?_, ?_, ?_, ?_, ?_, ?_, ?_, by simp, ?_⟩
  case refine_9 => exact ((((((((Below.refl _ w).alloc (Nat.le_refl _) _).alloc (by simp) _).alloc (by simp; omega) _).alloc (by simp; omega) _).alloc (by simp; omega) _).alloc (by simp; omega) _).alloc (by simp; omega) _).alloc (by simp; omega) _
  all_goals
    unfold Blk World.alloc
    rw [Array.getElem?_eq_getElem (by simp <;> omega)]
    simp only [Array.getElem_push, Array.size_push]
    congr 1
    simp (disch := omega) only [dif_pos, dif_neg]
def aggL : Value → List Value
  | .agg cs => cs.toList
  | v => [v]
theorem own_apart {w : World} {b1 b2 : Nat} {e1 e2 : TypeId} {s1 s2 n1 n2 : Nat} {v1 v2 : Value} {x1 x2 : List Value} (h1 : w.ownsRow b1 e1 s1 v1 n1 x1) (h2 : w.ownsRow b2 e2 s2 v2 n2 x2) (hne : e1 ≠ e2) : ∀ k, v2.ownBlock = some k → ¬ v1.ownBlock = some k := by
  intro k hk hv
  rcases h1.2 with ⟨rfl, _⟩ | ⟨q, cap, cur, rfl, _, hh, _⟩
  · simp [Value.ownBlock] at hv
  · rcases h2.2 with ⟨rfl, _⟩ | ⟨q', cap', cur', rfl, _, hh', _⟩
    · simp [Value.ownBlock] at hk
    · have e1 : q = k := by simpa [Value.ownBlock] using hv
      have e2 : q' = k := by simpa [Value.ownBlock] using hk
      subst e1 e2
      rw [hh] at hh'
      simp at hh'
      exact hne hh'.2
theorem own_ne2 {w w' : World} {base : Nat} {row : Option Nat} (hg : w.grownBy w' row) {e : TypeId} {size n : Nat} {v : Value} {xs : List Value} (h : w.ownsRow base e size v n xs) (hr : ∀ k, row = some k → ¬ v.ownBlock = some k) : w'.ownsRow base e size v n xs := by
  refine h.kept hg ?_
  rcases h.2 with ⟨rfl, _⟩ | ⟨g, cap, cur, rfl, hb, _⟩
  · exact .inl rfl
  · right
    intro e
    exact hr g (by rw [← e]; rfl) rfl
theorem cell_five (w : World) (a b c d e : Value) (t : TypeId) : ∀ j u, [a, b, c, d, e][j]? = some u → (w.alloc (.cells #[a, b, c, d, e] t)).cell? ((⟨w.heap.size, 0, none⟩ : Addr).add j) = some u := by
  intro j u hj
  have k := (Blk.new w #[a, b, c, d, e] t).cell j
  rw [show (⟨w.heap.size, 0, none⟩ : Addr).add j = ⟨w.heap.size, j, none⟩ from by unfold Addr.add; split <;> simp_all]
  rw [k]
  simpa using hj
theorem info_hist : (Try.prog.info? 36).map (fun i => (i.zero, i.size, i.bytes)) = some (some (.agg #[.int .i64 0, .int .i64 0, .int .i64 0, .slice none 0 0, .slice none 0 0]), 5, 72) := by kernel_rfl
theorem keeps_below {W wc : World} (h : Below W.heap.size W wc) : KeepsOthers W wc := ⟨h.size, fun k o hk _ => (h.block k (Array.getElem?_eq_some_iff.1 hk).1).trans hk⟩
theorem keeps5 {W wc : World} {g : Nat} (h : KeepsOthers W wc) (a b c d e : Value) : KeepsOthers W (((((wc.setCell ⟨g, 0, none⟩ a).setCell ⟨g, 1, none⟩ b).setCell ⟨g, 2, none⟩ c).setCell ⟨g, 3, none⟩ d).setCell ⟨g, 4, none⟩ e) :=
  ((((h.trans (KeepsOthers.setCell _ _ _)).trans (KeepsOthers.setCell _ _ _)).trans (KeepsOthers.setCell _ _ _)).trans (KeepsOthers.setCell _ _ _)).trans (KeepsOthers.setCell _ _ _)
theorem HNew.mono {b b' : Nat} {h : H} {w : World} {v : Value} (x : HNew b h w v) (hb : b' ≤ b) : HNew b' h w v := by
  obtain ⟨v1, v2, rfl, o1, o2⟩ := x
  exact ⟨v1, v2, rfl, World.ownsRow.mono o1 hb, World.ownsRow.mono o2 hb⟩
theorem HNew.below {b : Nat} {h : H} {w w' : World} {v : Value} (x : HNew b h w v) (hb : Below w.heap.size w w') : HNew b h w' v := by
  obtain ⟨v1, v2, rfl, o1, o2⟩ := x
  exact ⟨v1, v2, rfl, own_below o1 hb, own_below o2 hb⟩
/-- Two results that lie in memory. -/
theorem results_cc {P : Program} {fn : Func} {p q : Tmp} {ty uy : TypeId} (h : fn.results = #[.cell p ty, .cell q uy]) (tmps : Array Value) (w : World) (g g2 : Nat) (t t2 : TypeId) (cs : Array Value) (u : Value) (d : TypeDesc)
    (hp : tmps.getD p undef = .pointer (some ⟨g, 0, none⟩)) (hq : tmps.getD q undef = .pointer (some ⟨g2, 0, none⟩)) (hg : Blk w g cs t) (hg2 : Blk w g2 #[u] t2)
    (hu : P.underlying ty = some d) (hd : (match d with | .struct _ | .array _ _ => true | _ => false) = true) (hi : (P.info? ty).map (·.size) = some cs.size)
    (hu2 : P.underlying uy = some (.int .i64)) :
    (results fn tmps).run P w = .ok (.tuple #[.agg cs, u]) w := by
  have hp' : tmps[p]?.getD undef = .pointer (some ⟨g, 0, none⟩) := by simpa using hp
  have hq' : tmps[q]?.getD undef = .pointer (some ⟨g2, 0, none⟩) := by simpa using hq
  have hc : w.cell? ⟨g2, 0, none⟩ = some u := hg2.cell 0
  have hl : (loadVar uy ⟨g2, 0, none⟩).run P w = .ok u w := by
    simp [loadVar, go_sem, isAgg, run_underlying hu2, hc]
  simp [results, h, hp', hq', asAddr, run_loadVar_row w g t ty cs (0, 0) d hg hu hd hi, hl]
/-- The histograms that have come. -/
structure HR (N : Nat) (W : World) (hs : List H) (vs : List Value) : Prop where
  len : vs.length = hs.length
  at' : ∀ (i : Nat) (h : H) (v : Value), hs[i]? = some h → vs[i]? = some v → HNew N h W v
theorem own_nocell {W W' : World} {row : Option Nat} {base : Nat} {e : TypeId} {size n : Nat} {v : Value} {xs : List Value} (h : W.ownsRow base e size v n xs) (hg : W.grownBy W' row) (hr : ∀ r, row = some r → ∃ o : Obj, W.heap[r]? = some o ∧ o.isCells = false) : W'.ownsRow base e size v n xs := by
  refine h.kept hg ?_
  rcases h.2 with ⟨rfl, _⟩ | ⟨g, cap, cur, rfl, _, hgb, _⟩
  · exact .inl rfl
  · refine .inr fun e' => ?_
    obtain ⟨o, ho, hc⟩ := hr g (by simpa [Value.ownBlock] using e'.symm)
    rw [hgb] at ho; cases ho; cases hc
theorem blk_other {W W' : World} {row : Option Nat} {g : Nat} {cs : Array Value} {t : TypeId} (h : Blk W g cs t) (hg : W.grownBy W' row) (hr : ∀ r, row = some r → ∃ o : Obj, W.heap[r]? = some o ∧ o.isCells = false) : Blk W' g cs t := by
  refine (hg.block g h.lt (fun e => ?_)).trans h
  obtain ⟨o, ho, hc⟩ := hr g e.symm
  rw [show W.heap[g]? = _ from h] at ho; cases ho; cases hc
theorem HNew.other {N : Nat} {h : H} {v : Value} {W W' : World} {row : Option Nat} (x : HNew N h W v) (hg : W.grownBy W' row) (hr : ∀ r, row = some r → ∃ o : Obj, W.heap[r]? = some o ∧ o.isCells = false) : HNew N h W' v := by
  obtain ⟨v1, v2, rfl, o1, o2⟩ := x
  exact ⟨v1, v2, rfl, own_nocell o1 hg hr, own_nocell o2 hg hr⟩
/-- What lies fixed while the parts come. -/
structure PF (N : Nat) (sc : Array Value) (col : Int) (Ar : Option Addr) (n cr : Nat) (p : Int) (W : World) : Prop where
  b0 : Blk W N sc 72
  b1 : Blk W (N + 1) #[.int .i64 col] 3
  b2 : Blk W (N + 1 + 1) #[.slice Ar n cr] 70
  b6 : Blk W (N + 1 + 1 + 1 + 1 + 1 + 1) #[.int .i64 n] 3
  b7 : Blk W (N + 1 + 1 + 1 + 1 + 1 + 1 + 1) #[.int .i64 p] 3
structure PI (N : Nat) (f : Int × Int → Except Int H) (sc : Array Value) (col : Int) (Ar : Option Addr) (n cr : Nat) (p : Int) (w : World) (pre : List (Int × Int)) (hs : List H) (vs : List Value) (v : Value) (W : World) : Prop where
  pf : PF N sc col Ar n cr p W
  b3 : Blk W (N + 1 + 1 + 1) #[.int .i64 0, .int .i64 0, .int .i64 0, .slice none 0 0, .slice none 0 0] 36
  b4 : Blk W (N + 1 + 1 + 1 + 1) #[.int .i64 0] 37
  b5 : Boxed W (N + 1 + 1 + 1 + 1 + 1) 103 v
  row : W.ownsRow (N + 8) 36 5 v pre.length (vs.flatMap aggL)
  sz : N + 8 ≤ W.heap.size
  hr : HR N W hs vs
  len : vs.length = pre.length
  ok : pre.map f = hs.map .ok
  be : Below N w W
theorem agg_at : ∀ (vs : List Value) (i t : Nat) (v : Value), (∀ u ∈ vs, (aggL u).length = 5) → vs[i]? = some v → t < 5 → (vs.flatMap aggL)[i * 5 + t]? = (aggL v)[t]?
  | [], i, t, v, _, h, _ => by simp at h
  | u :: vs, 0, t, v, ha, h, ht => by
    simp at h
    subst h
    rw [List.flatMap_cons, Nat.zero_mul, Nat.zero_add, List.getElem?_append_left (by rw [ha u (by simp)]; exact ht)]
  | u :: vs, i + 1, t, v, ha, h, ht => by
    have hu := ha u (by simp)
    rw [List.flatMap_cons, List.getElem?_append_right (by rw [hu]; omega), hu, show (i + 1) * 5 + t - 5 = i * 5 + t by omega]
    exact agg_at vs i t v (fun x hx => ha x (by simp [hx])) (by simpa using h) ht
theorem HR.all {N : Nat} {W : World} {hs : List H} {vs : List Value} (r : HR N W hs vs) : ∀ u ∈ vs, (aggL u).length = 5 := by
  intro u hu
  obtain ⟨i, hi⟩ := List.getElem?_of_mem hu
  have hlt : i < hs.length := by rw [← r.len]; exact (List.getElem?_eq_some_iff.1 hi).1
  obtain ⟨v1, v2, rfl, _, _⟩ := r.at' i _ u (List.getElem?_eq_getElem hlt) hi
  rfl
/-- A histogram in the row of all. -/
structure HAt (N : Nat) (h : H) (g o : Nat) (A1 A2 : Option Addr) (d1 d2 : Nat) (W : World) : Prop where
  p0 : W.cell? ⟨g, o, none⟩ = some (.int .i64 h.kind)
  p1 : W.cell? ⟨g, o + 1, none⟩ = some (.int .i64 h.bins)
  p2 : W.cell? ⟨g, o + 2, none⟩ = some (.int .i64 h.classes)
  p3 : W.cell? ⟨g, o + 3, none⟩ = some (.slice A1 h.counts.length d1)
  p4 : W.cell? ⟨g, o + 4, none⟩ = some (.slice A2 h.moms.length d2)
  nw : HNew N h W (.agg #[.int .i64 h.kind, .int .i64 h.bins, .int .i64 h.classes, .slice A1 h.counts.length d1, .slice A2 h.moms.length d2])
theorem HR.cells {N : Nat} {W : World} {hs : List H} {vs : List Value} (r : HR N W hs vs) {g : Nat} (hcell : ∀ j u, (vs.flatMap aggL)[j]? = some u → W.cell? ⟨g, j, none⟩ = some u) {i : Nat} {h : H} (hi : hs[i]? = some h) : ∃ A1 A2 d1 d2, HAt N h g (i * 5) A1 A2 d1 d2 W := by
  have hlt : i < vs.length := by rw [r.len]; exact (List.getElem?_eq_some_iff.1 hi).1
  obtain ⟨u, hu⟩ : ∃ u, vs[i]? = some u := ⟨_, List.getElem?_eq_getElem hlt⟩
  have nw := r.at' i h u hi hu
  obtain ⟨v1, v2, rfl, o1, o2⟩ := nw
  obtain ⟨A1, d1, rfl⟩ := own_slice o1
  obtain ⟨A2, d2, rfl⟩ := own_slice o2
  have ha := fun t ht => agg_at vs i t _ r.all hu ht
  exact ⟨A1, A2, d1, d2, hcell _ _ (ha 0 (by omega)), hcell _ _ (ha 1 (by omega)), hcell _ _ (ha 2 (by omega)), hcell _ _ (ha 3 (by omega)), hcell _ _ (ha 4 (by omega)), ⟨_, _, rfl, o1, o2⟩⟩
theorem HAt.below {N : Nat} {h : H} {g o : Nat} {A1 A2 : Option Addr} {d1 d2 : Nat} {W W' : World} (x : HAt N h g o A1 A2 d1 d2 W) (hb : Below W.heap.size W W') : HAt N h g o A1 A2 d1 d2 W' :=
  ⟨(hb.cell (World.block_lt_of_cell? W _ x.p0)).trans x.p0, (hb.cell (World.block_lt_of_cell? W _ x.p1)).trans x.p1, (hb.cell (World.block_lt_of_cell? W _ x.p2)).trans x.p2, (hb.cell (World.block_lt_of_cell? W _ x.p3)).trans x.p3, (hb.cell (World.block_lt_of_cell? W _ x.p4)).trans x.p4, x.nw.below hb⟩
theorem PF.other {N : Nat} {sc : Array Value} {col : Int} {Ar : Option Addr} {n cr : Nat} {p : Int} {W W' : World} {row : Option Nat} (x : PF N sc col Ar n cr p W) (hg : W.grownBy W' row) (hr : ∀ r, row = some r → ∃ o : Obj, W.heap[r]? = some o ∧ o.isCells = false) : PF N sc col Ar n cr p W' :=
  ⟨blk_other x.b0 hg hr, blk_other x.b1 hg hr, blk_other x.b2 hg hr, blk_other x.b6 hg hr, blk_other x.b7 hg hr⟩
theorem PI.other {N : Nat} {f : Int × Int → Except Int H} {sc : Array Value} {col : Int} {Ar : Option Addr} {n cr : Nat} {p : Int} {w : World} {pre : List (Int × Int)} {hs : List H} {vs : List Value} {v : Value} {W W' : World} {row : Option Nat}
    (x : PI N f sc col Ar n cr p w pre hs vs v W) (hg : W.grownBy W' row) (hr : ∀ r, row = some r → N ≤ r ∧ ∃ o : Obj, W.heap[r]? = some o ∧ o.isCells = false) (hN : N ≤ W.heap.size) : PI N f sc col Ar n cr p w pre hs vs v W' := by
  have hr2 := fun r e => (hr r e).2
  exact ⟨x.pf.other hg hr2, blk_other x.b3 hg hr2, blk_other x.b4 hg hr2, blk_other x.b5 hg hr2, own_nocell x.row hg hr2, Nat.le_trans x.sz hg.size, ⟨x.hr.len, fun i h v h1 h2 => (x.hr.at' i h v h1 h2).other hg hr2⟩, x.len, x.ok, x.be.grown hg hN (fun k e => (hr k e).1)⟩
set_option maxRecDepth 100000 in
theorem parts_end {N : Nat} {R : Except Int H} {h : H} {e : Int} {v1 v2 : Value} {tmps : Array Value} {D : Nat} {w WF : World} (hND : N ≤ D) (hNw : N ≤ w.heap.size) (hN : N = w.heap.size) (hK : WF.heap[D]? = some (.deferred (some [])))
    (hp : tmps.getD 8 undef = .pointer (some ⟨N + 1 + 1 + 1, 0, none⟩)) (hq : tmps.getD 9 undef = .pointer (some ⟨N + 1 + 1 + 1 + 1, 0, none⟩))
    (k3 : Blk WF (N + 1 + 1 + 1) #[.int .i64 h.kind, .int .i64 h.bins, .int .i64 h.classes, v1, v2] 36) (k4 : Blk WF (N + 1 + 1 + 1 + 1) #[.int .i64 e] 37)
    (hn : HNew N h WF (.agg #[.int .i64 h.kind, .int .i64 h.bins, .int .i64 h.classes, v1, v2])) (hb : Below N w WF) (h1 : h = valO h0 R) (h2 : e = errO R) :
    bodyPostM Fence.wide 9 Try.prog Try.f36 (ResH R w) .ret { tmps := tmps, defers := [{ target := .collected D, args := #[] }] } WF := by
  subst h1 h2 hN
  refine ⟨by simp, .inl ⟨_, _, rfl, run_takeDeferred hK, ?_⟩⟩
  have hg := grownBy_putObj' WF D (.deferred none)
  have hr : ∀ r, some D = some r → ∃ o : Obj, WF.heap[r]? = some o ∧ o.isCells = false := fun r e => by cases e; exact ⟨_, hK, rfl⟩
  exact ⟨_, results_cc rfl _ _ _ _ _ _ _ _ _ hp hq (blk_other k3 hg hr) (blk_other k4 hg hr) Try.underlying36 rfl size_hist Try.underlying37, _, rfl, hn.other hg hr, hb.grown hg (by have := hb.size; omega) (fun k e => by cases e; exact hND)⟩
set_option maxRecDepth 100000 in
set_option maxHeartbeats 4000000 in
theorem sparts_yes (s : Smp) (A1 A2 A3 : Option Addr) (c1 c2 c3 : Nat) (col : Int) (is : List Int) (Ar : Option Addr) (cr : Nat) (p : Int) (w : World) (RS : RdS w s A1 A2 A3) (RI : RdI w Ar is) (hli : is.length ≤ 9223372036854775807) (hcc : s.cells.length ≤ c1) (hcr : is.length ≤ cr) (hp : 1 ≤ p) (hp2 : p ≤ 64) :
    Calls Try.prog 36 #[.agg (smpC s A1 A2 A3 c1 c2 c3), .int .i64 col, .slice Ar is.length cr, .int .i64 p] w (ResH (partsO s col is p) w) := by
  refine (callsIn_wide (n := 9)).1 ?_
  have hmay := fun w => smay_any p w
  rw [decide_eq_true (show 1 ≤ p ∧ p ≤ 64 from ⟨hp, hp2⟩)] at hmay
  have KM := Lib.hid hmay
  obtain ⟨n, hn⟩ : ∃ n, is.length = n := ⟨_, rfl⟩
  rw [hn] at hli hcr ⊢
  unfold smpC
  clear hmay
  refine callsIn_of_wp_marks Try.func36 rfl trivial ?_ rfl
  simp only [Try.ntmps36, List.size_toArray, List.length_cons, List.length_nil, Nat.reduceAdd, Nat.reduceSub, Array.replicate_succ, Array.replicate_zero, List.push_toArray, List.append_toArray, List.nil_append, List.cons_append]
  gi_wp2_with (first | (refine ⟨trivial, ?_⟩; gi_at_call 40; refine (callsIn_wide.2 (KM.out _)).mono ?_; rintro e w1 ⟨rfl, rfl⟩) | (refine ⟨trivial, ?_⟩; gi_at_call 42; refine (spans_in Fence.wide 8 trivial rfl _ _ _).mono ?_; rintro e w2 ⟨rfl, rfl⟩))
  obtain ⟨W0, e0⟩ : ∃ W, W = (((((((w.alloc (.cells #[.int .i64 s.k, .int .i64 s.cl, .int .i64 s.b, .int .i64 s.t, .int .i64 s.d, .int .i64 s.l, .int .i64 s.p, .int .i64 s.rows, .int .i64 s.cols, .slice A1 s.cells.length c1, .slice A2 s.tgt.length c2, .slice A3 s.wgt.length c3] 72)).alloc (.cells #[.int .i64 col] 3)).alloc (.cells #[.slice Ar n cr] 70)).alloc (.cells #[.int .i64 0, .int .i64 0, .int .i64 0, .slice none 0 0, .slice none 0 0] 36)).alloc (.cells #[.int .i64 0] 37)).alloc (.cells #[.slice none 0 0] 103)).alloc (.cells #[.int .i64 n] 3)).alloc (.cells #[.int .i64 p] 3) := ⟨_, rfl⟩
  rw [← e0]
  obtain ⟨b0, b1, b2, b3, b4, b5, b6, b7, zz, bB⟩ := boxes8 w _ _ _ _ _ _ _ _ _ _ _ _ _ _ _ _ W0 e0
  clear e0
  have PI0 : PI w.heap.size (fun x => histO s col (cutI is x)) (smpC s A1 A2 A3 c1 c2 c3) col Ar n cr p w [] [] [] (.slice none 0 0) W0 :=
    ⟨⟨b0, b1, b2, b6, b7⟩, b3, b4, b5, World.ownsRow_nil _ _ _ _, by omega, ⟨rfl, fun i h v h1 h2 => by simp at h1⟩, rfl, rfl, bB⟩
  have hn1 : (n : Int) ≤ 9223372036854775807 := by omega
  refine wpIn_rangeFunc_ownH rfl (by omega) (gf := 65) (lb := #[.pointer (some ⟨w.heap.size + 1 + 1 + 1 + 1 + 1 + 1 + 1, 0, none⟩), .pointer (some ⟨w.heap.size + 1 + 1 + 1 + 1 + 1 + 1, 0, none⟩)]) rfl trivial (enters_of Try.func65 (by kernel_rfl) rfl)
    (spans_keep Fence.wide (9 - 1) trivial rfl (by omega) (w.heap.size + 1 + 1 + 1 + 1 + 1 + 1 + 1) (w.heap.size + 1 + 1 + 1 + 1 + 1 + 1) n p (by omega) hn1 hp hp2 W0 (by omega) (by omega) (b7.cell 0) (b6.cell 0)) KP.trans (KP.put (by omega) (by omega)) (Below.refl _ _) (fun _ => rfl)
    (fun pre W => ∃ hs vs v, PI w.heap.size (fun x => histO s col (cutI is x)) (smpC s A1 A2 A3 c1 c2 c3) col Ar n cr p w (pre.map Subtype.val) hs vs v W)
    (fun c pre W => c = .ret ∧ ∃ (pre' : List (Int × Int)) (x : Int × Int) (hs : List H) (e : Int), pre.map Subtype.val = pre' ++ [x] ∧ pre'.map (fun x => histO s col (cutI is x)) = hs.map .ok ∧ histO s col (cutI is x) = .error e ∧
      Blk W (w.heap.size + 1 + 1 + 1) #[.int .i64 0, .int .i64 0, .int .i64 0, .slice none 0 0, .slice none 0 0] 36 ∧ Blk W (w.heap.size + 1 + 1 + 1 + 1) #[.int .i64 e] 37 ∧ Below w.heap.size w W)
    (fun pre W W' row ⟨hs, vs, v, h⟩ hg hr => ⟨hs, vs, v, h.other hg (fun r e => ⟨by have := (hr r e).1; omega, (hr r e).2⟩) h.be.size⟩)
    (fun c pre W W' row ⟨h0, pre', x, hs, e, h1, h2, h3, h4, h5, h6⟩ hg hr => ⟨h0, pre', x, hs, e, h1, h2, h3, blk_other h4 hg (fun r e => (hr r e).2), blk_other h5 hg (fun r e => (hr r e).2), h6.grown hg h6.size (fun k e => by have := (hr k e).1; omega)⟩)
    ⟨_, _, _, PI0⟩
    (fun x a' W => ∃ Bx, W0.heap.size ≤ Bx ∧ Blk W Bx #[.int .i64 x.1.1, .int .i64 x.1.2] 25 ∧ a' = { tmps := #[.agg #[.int .i64 s.k, .int .i64 s.cl, .int .i64 s.b, .int .i64 s.t, .int .i64 s.d, .int .i64 s.l, .int .i64 s.p, .int .i64 s.rows, .int .i64 s.cols, .slice A1 s.cells.length c1, .slice A2 s.tgt.length c2, .slice A3 s.wgt.length c3], .int .i64 col, .slice Ar n cr, .int .i64 p, .pointer (some ⟨w.heap.size, 0, none⟩), .pointer (some ⟨w.heap.size + 1, 0, none⟩), .pointer (some ⟨w.heap.size + 1 + 1, 0, none⟩), undef, .pointer (some ⟨w.heap.size + 1 + 1 + 1, 0, none⟩), .pointer (some ⟨w.heap.size + 1 + 1 + 1 + 1, 0, none⟩), .pointer (some ⟨w.heap.size + 1 + 1 + 1 + 1 + 1, 0, none⟩), .pointer (some ⟨Bx, 0, none⟩), undef, undef, undef, undef, undef, undef, undef, .int .i64 p, .bool true, .bool false, undef, .slice Ar n cr, .int .i64 n, .int .i64 p, .func (.func 65) #[] #[.pointer (some ⟨w.heap.size + 1 + 1 + 1 + 1 + 1 + 1 + 1, 0, none⟩), .pointer (some ⟨w.heap.size + 1 + 1 + 1 + 1 + 1 + 1, 0, none⟩)], .agg #[.int .i64 x.1.1, .int .i64 x.1.2], undef, undef, undef, undef, undef, undef, undef, undef, undef, undef, undef, undef, undef, undef, undef, undef, undef, undef, undef, undef, undef, undef, undef, undef, undef, undef, undef, undef, undef, undef, undef, undef, undef, undef, undef, undef, undef, undef, undef, undef, undef, undef, undef], defers := [] })
    (fun x a' _ X Y row hs hg hr => by
      obtain ⟨Bx, h1, h2, h3⟩ := hs
      exact ⟨Bx, h1, blk_other h2 hg (fun r e => (hr r e).2), h3⟩)
    ?assign ?body ?done ?stop
  case assign =>
    rintro l pre x W K ⟨hs, vs, v, hI⟩ hK
    gi_wp2
    refine hK _ _ ((KeepsOthers.alloc _ _).from _) ⟨Below.heap_alloc W _ _ hI.pf.b7.lt, Below.heap_alloc W _ _ hI.pf.b6.lt⟩ ⟨hs, vs, v, ?_⟩ ⟨W.heap.size, ?_, Blk.new _ _ _, rfl⟩
    · exact hI.other (World.grownBy_alloc W _ none) (fun r e => by cases e) hI.be.size
    · have := hI.sz; omega
  case body =>
    rintro l pre ⟨⟨xa, xb⟩, hx1, hx2, hx3⟩ a' W hl ⟨r, hr⟩ ⟨hs, vs, v, hI⟩ ⟨Bx, hBx, kX, rfl⟩ hlt
    dsimp only at hx1 hx2 hx3 kX ⊢
    obtain ⟨a, rfl⟩ : ∃ a : Nat, xa = a := ⟨xa.toNat, by omega⟩
    obtain ⟨b, rfl⟩ : ∃ b : Nat, xb = b := ⟨xb.toNat, by omega⟩
    have i1 : (a : Int) ≤ b := hx2
    have i2 : (b : Int) ≤ cr := by omega
    obtain ⟨Ac, hAc⟩ : ∃ Ac, (if cr = a then Ar else Option.map (fun x => x.add a) Ar) = Ac := ⟨_, rfl⟩
    have hcut : RdI w Ac (cutI is ((a : Int), (b : Int))) := by
      have hg := RI.g.cut a (b - a) cr (by omega) (by omega)
      rw [Nat.mul_one, hAc] at hg
      show RdI w Ac ((is.drop (a : Int).toNat).take ((b : Int) - a).toNat)
      rw [Int.toNat_natCast, show ((b : Int) - a).toNat = b - a by omega]
      exact hg.i (fun y hy => RI.1 y (List.mem_of_mem_drop (List.mem_of_mem_take hy)))
    have hlc : (cutI is ((a : Int), (b : Int))).length = b - a := by
      show ((is.drop (a : Int).toNat).take ((b : Int) - a).toNat).length = _
      rw [Int.toNat_natCast, show ((b : Int) - a).toNat = b - a by omega]
      exact len_cut (by omega)
    obtain ⟨rr, hrr⟩ : ∃ rr, histO s col (cutI is ((a : Int), (b : Int))) = rr := ⟨_, rfl⟩
    obtain ⟨hh, hhh⟩ : ∃ hh, valO h0 rr = hh := ⟨_, rfl⟩
    obtain ⟨er, her⟩ : ∃ er, errO rr = er := ⟨_, rfl⟩
    have KH : ∀ W', Below w.heap.size w W' → Calls Try.prog 34 #[.agg #[.int .i64 s.k, .int .i64 s.cl, .int .i64 s.b, .int .i64 s.t, .int .i64 s.d, .int .i64 s.l, .int .i64 s.p, .int .i64 s.rows, .int .i64 s.cols, .slice A1 s.cells.length c1, .slice A2 s.tgt.length c2, .slice A3 s.wgt.length c3], .int .i64 col, .slice Ac (b - a) (cr - a)] W' fun e w' => ∃ v, e = .returned (.tuple #[v, .int .i64 er]) ∧ HNew W'.heap.size hh w' v ∧ Below W'.heap.size W' w' := by
      intro W' hB
      have := shist_any s A1 A2 A3 c1 c2 c3 col (cutI is ((a : Int), (b : Int))) Ac (cr - a) W' (RS.below hB) (hcut.below hB) (by rw [hlc]; omega) hcc
      rw [hlc, hrr] at this
      unfold smpC ResH at this
      rw [hhh, her] at this
      exact this
    have HKH := Lib.hid KH
    clear KH hlc hcut
    have hbe := hI.be
    have HSS : ∀ wc, Below W.heap.size W wc → ((wc.cell? ⟨w.heap.size, 0, none⟩ = some (.int .i64 s.k) ∧ wc.cell? ⟨w.heap.size, 1, none⟩ = some (.int .i64 s.cl) ∧ wc.cell? ⟨w.heap.size, 2, none⟩ = some (.int .i64 s.b) ∧ wc.cell? ⟨w.heap.size, 3, none⟩ = some (.int .i64 s.t) ∧ wc.cell? ⟨w.heap.size, 4, none⟩ = some (.int .i64 s.d) ∧ wc.cell? ⟨w.heap.size, 5, none⟩ = some (.int .i64 s.l) ∧ wc.cell? ⟨w.heap.size, 6, none⟩ = some (.int .i64 s.p) ∧ wc.cell? ⟨w.heap.size, 7, none⟩ = some (.int .i64 s.rows) ∧ wc.cell? ⟨w.heap.size, 8, none⟩ = some (.int .i64 s.cols) ∧ wc.cell? ⟨w.heap.size, 9, none⟩ = some (.slice A1 s.cells.length c1) ∧ wc.cell? ⟨w.heap.size, 10, none⟩ = some (.slice A2 s.tgt.length c2) ∧ wc.cell? ⟨w.heap.size, 11, none⟩ = some (.slice A3 s.wgt.length c3)) ∧ wc.cell? ⟨w.heap.size + 1, 0, none⟩ = some (.int .i64 col) ∧ wc.cell? ⟨w.heap.size + 1 + 1, 0, none⟩ = some (.slice Ar n cr) ∧ wc.cell? ⟨Bx, 0, none⟩ = some (.int .i64 a) ∧ wc.cell? ⟨Bx, 1, none⟩ = some (.int .i64 b)) := fun wc h => ⟨(hI.pf.b0.below h).cells12, (hI.pf.b1.below h).cell 0, (hI.pf.b2.below h).cell 0, (kX.below h).cell 0, (kX.below h).cell 1⟩
    replace HSS := Lib.hid HSS
    have HI := Lib.hid hI
    have hc0 := hI.pf.b0.cells12
    have hc1 := hI.pf.b1.cell 0
    have hc2 := hI.pf.b2.cell 0
    have hx0 := kX.cell 0
    have hx1' := kX.cell 1
    gi_upto_region 6 with (fail)
    gi_cut [12, 13] from 28 (fun ea eb wc => ∃ Bh u1 u2, ea = .pointer (some ⟨Bh, 0, none⟩) ∧ eb = .int .i64 er ∧ Hid (Blk wc Bh #[.int .i64 hh.kind, .int .i64 hh.bins, .int .i64 hh.classes, u1, u2] 36) ∧ Hid (HNew W.heap.size hh wc (.agg #[.int .i64 hh.kind, .int .i64 hh.bins, .int .i64 hh.classes, u1, u2])) ∧ Hid (W.heap.size ≤ Bh) ∧ Hid (Below W.heap.size W wc))
    case first =>
      refine region_round (S := (fun W => (W.cell? ⟨w.heap.size, 0, none⟩ = some (.int .i64 s.k) ∧ W.cell? ⟨w.heap.size, 1, none⟩ = some (.int .i64 s.cl) ∧ W.cell? ⟨w.heap.size, 2, none⟩ = some (.int .i64 s.b) ∧ W.cell? ⟨w.heap.size, 3, none⟩ = some (.int .i64 s.t) ∧ W.cell? ⟨w.heap.size, 4, none⟩ = some (.int .i64 s.d) ∧ W.cell? ⟨w.heap.size, 5, none⟩ = some (.int .i64 s.l) ∧ W.cell? ⟨w.heap.size, 6, none⟩ = some (.int .i64 s.p) ∧ W.cell? ⟨w.heap.size, 7, none⟩ = some (.int .i64 s.rows) ∧ W.cell? ⟨w.heap.size, 8, none⟩ = some (.int .i64 s.cols) ∧ W.cell? ⟨w.heap.size, 9, none⟩ = some (.slice A1 s.cells.length c1) ∧ W.cell? ⟨w.heap.size, 10, none⟩ = some (.slice A2 s.tgt.length c2) ∧ W.cell? ⟨w.heap.size, 11, none⟩ = some (.slice A3 s.wgt.length c3)) ∧ W.cell? ⟨w.heap.size + 1, 0, none⟩ = some (.int .i64 col) ∧ W.cell? ⟨w.heap.size + 1 + 1, 0, none⟩ = some (.slice Ar n cr) ∧ W.cell? ⟨Bx, 0, none⟩ = some (.int .i64 a) ∧ W.cell? ⟨Bx, 1, none⟩ = some (.int .i64 b))) (by kernel_rfl) (by kernel_rfl) (fun ⟨_, _, h⟩ => h) ⟨hc0, hc1, hc2, hx0, hx1'⟩ ?_
      intro hS0
      refine' wpAnyH_take (i := 3) (v := _) rfl (by kernel_rfl) (by kernel_rfl) (by kernel_rfl) (fun _ _ _ h => h) (Or.inl ⟨by rfl, ?hy3⟩) hS0 ?rest3
      case hy3 => (intro w hSw; (try dsimp only at hSw); go_simp; try with_reducible rfl)
      simp only [Act.put, List.setIfInBounds_toArray, List.set_cons_zero, List.set_cons_succ]
      refine' wpAnyH_take (i := 5) (v := _) rfl (by kernel_rfl) (by kernel_rfl) (by kernel_rfl) (fun _ _ _ h => h) (Or.inl ⟨by rfl, ?hy5⟩) hS0 ?rest5
      case hy5 => (intro w hSw; (try dsimp only at hSw); go_simp; try with_reducible rfl)
      simp only [Act.put, List.setIfInBounds_toArray, List.set_cons_zero, List.set_cons_succ]
      refine' wpAnyH_take (i := 0) (v := _) rfl (by kernel_rfl) (by kernel_rfl) (by kernel_rfl) (fun _ _ _ h => h) (Or.inl ⟨by rfl, ?hy0⟩) hS0 ?rest0
      case hy0 => (intro w hSw; (try dsimp only at hSw); go_simp; try with_reducible rfl)
      simp only [Act.put, List.setIfInBounds_toArray, List.set_cons_zero, List.set_cons_succ]
      refine' wpAnyH_take (i := 1) (v := _) rfl (by kernel_rfl) (by kernel_rfl) (by kernel_rfl) (fun _ _ _ h => h) (Or.inl ⟨by rfl, ?hy1⟩) hS0 ?rest1
      case hy1 => (intro w hSw; (try dsimp only at hSw); go_simp; try with_reducible rfl)
      simp only [Act.put, List.setIfInBounds_toArray, List.set_cons_zero, List.set_cons_succ]
      refine' wpAnyH_take (i := 2) (v := _) rfl (by kernel_rfl) (by kernel_rfl) (by kernel_rfl) (fun _ _ _ h => h) (Or.inl ⟨by rfl, ?hy2⟩) hS0 ?rest2
      case hy2 => (intro w hSw; (try dsimp only at hSw); go_simp; try with_reducible rfl)
      simp only [Act.put, List.setIfInBounds_toArray, List.set_cons_zero, List.set_cons_succ]
      refine' wpAnyH_take (i := 4) (v := _) rfl (by kernel_rfl) (by kernel_rfl) (by kernel_rfl) (fun _ _ _ h => h) (Or.inl ⟨by rfl, ?hy4⟩) hS0 ?rest4
      case hy4 => (intro w hSw; (try dsimp only at hSw); go_simp; try with_reducible rfl)
      simp only [Act.put, List.setIfInBounds_toArray, List.set_cons_zero, List.set_cons_succ]
      refine' wpAnyH_take (i := 6) (v := _) rfl (by kernel_rfl) (by kernel_rfl) (by kernel_rfl) (fun _ _ _ h => h) (Or.inl ⟨by rfl, ?hy6⟩) hS0 ?rest6
      case hy6 => (intro w hSw; (try dsimp only at hSw); go_simp; try with_reducible rfl)
      simp only [Act.put, List.setIfInBounds_toArray, List.set_cons_zero, List.set_cons_succ]
      refine' wpAnyH_take (i := 7) (v := _) rfl (by kernel_rfl) (by kernel_rfl) (by kernel_rfl) (fun _ _ _ h => h) (Or.inl ⟨by rfl, ?hy7⟩) hS0 ?rest7
      case hy7 => (intro w hSw; (try dsimp only at hSw); go_simp; try with_reducible rfl)
      simp only [Act.put, List.setIfInBounds_toArray, List.set_cons_zero, List.set_cons_succ]
      refine wpAnyH_ready (rs := [8, 12]) (by kernel_rfl) (by simp) ?_
      refine AllReadyH.cons rfl (fun K hK => ?_) (AllReadyH.cons rfl (fun K hK => ?_) AllReadyH.nil)
      · go_simp
        refine (HKH.out W.drew (hbe.trans ((Below.refl _ W).drew.mono hbe.size))).mono ?_
        rintro e w8 ⟨v8, rfl, ⟨v1, v2, rfl, o1, o2⟩, hb8⟩
        obtain ⟨B1, d1, rfl⟩ := own_slice o1
        obtain ⟨B2, d2, rfl⟩ := own_slice o2
        have bW8 : Below W.heap.size W w8 := ((Below.refl _ W).drew).trans hb8
        refine hK.out _ _ (HSS.out _ bW8) (fun hS8 => ?_)
        clear hK K
        refine' wpAnyH_take (i := 9) (v := _) rfl (by kernel_rfl) (by kernel_rfl) (by kernel_rfl) (fun _ _ _ h => h) (Or.inl ⟨by rfl, ?hy9⟩) hS8 ?rest9
        case hy9 => (intro w hSw; (try dsimp only at hSw); go_simp; try with_reducible rfl)
        simp only [Act.put, List.setIfInBounds_toArray, List.set_cons_zero, List.set_cons_succ]
        refine' wpAnyH_take (i := 10) (v := _) rfl (by kernel_rfl) (by kernel_rfl) (by kernel_rfl) (fun _ _ _ h => h) (Or.inl ⟨by rfl, ?hy10⟩) hS8 ?rest10
        case hy10 => (intro w hSw; (try dsimp only at hSw); go_simp; try with_reducible rfl)
        simp only [Act.put, List.setIfInBounds_toArray, List.set_cons_zero, List.set_cons_succ]
        refine' wpAnyH_take (i := 11) (v := _) rfl (by kernel_rfl) (by kernel_rfl) (by kernel_rfl) (fun _ _ _ h => h) (Or.inl ⟨by rfl, ?hy11⟩) hS8 ?rest11
        case hy11 => (intro w hSw; (try dsimp only at hSw); go_simp; try with_reducible rfl)
        simp only [Act.put, List.setIfInBounds_toArray, List.set_cons_zero, List.set_cons_succ]
        refine wpAnyH_ready (rs := [12]) (by kernel_rfl) (by simp) ?_
        refine AllReadyH.cons rfl (fun K hK => ?_) AllReadyH.nil
        go_simp
        refine hK.out _ _ (HSS.out _ (bW8.alloc bW8.size _)) (fun hS9 => ?_)
        clear hK K
        refine wpAnyH_ready (rs := [13]) (by kernel_rfl) (by simp) ?_
        refine AllReadyH.cons rfl (fun K hK => ?_) AllReadyH.nil
        go_simp
        refine hK.out _ _ (HSS.out _ (bW8.alloc bW8.size _)) (fun hS10 => ?_)
        clear hK K
        refine wpAnyH_ready (rs := [14]) (by kernel_rfl) (by simp) ?_
        refine AllReadyH.cons rfl (fun K hK => ?_) AllReadyH.nil
        go_simp
        refine hK.out _ _ (HSS.out _ (bW8.alloc bW8.size _)) (fun hS11 => ?_)
        clear hK K
        refine wpAnyH_done (by kernel_rfl) ?_ _
        gi_wp2
        gi_meet
        case rel => exact ⟨_, _, _, rfl, rfl, Lib.hid (Blk.new _ _ _), Lib.hid ⟨_, _, rfl, o1.alloc _, o2.alloc _⟩, Lib.hid bW8.size, Lib.hid (bW8.alloc bW8.size _)⟩
      · go_simp
        have bA0 : Below W.heap.size W (W.alloc (.cells #[.int .i64 0, .int .i64 0, .int .i64 0, .slice none 0 0, .slice none 0 0] 36)) := (Below.refl _ W).alloc (Nat.le_refl _) _
        have bA : Below W.heap.size W (W.alloc (.cells #[.int .i64 0, .int .i64 0, .int .i64 0, .slice none 0 0, .slice none 0 0] 36)).drew := bA0.trans ((Below.refl _ _).drew.mono bA0.size)
        refine hK.out _ _ (HSS.out _ bA) (fun hS7 => ?_)
        clear hK K
        refine wpAnyH_ready (rs := [8]) (by kernel_rfl) (by simp) ?_
        refine AllReadyH.cons rfl (fun K hK => ?_) AllReadyH.nil
        go_simp
        refine (HKH.out _ (hbe.trans (bA.mono hbe.size))).mono ?_
        rintro e w8 ⟨v8, rfl, ⟨v1, v2, rfl, o1, o2⟩, hb8⟩
        obtain ⟨B1, d1, rfl⟩ := own_slice o1
        obtain ⟨B2, d2, rfl⟩ := own_slice o2
        have bW8 : Below W.heap.size W w8 := bA.trans (hb8.mono bA.size)
        have kZ : Blk w8 W.heap.size #[.int .i64 0, .int .i64 0, .int .i64 0, .slice none 0 0, .slice none 0 0] 36 := (show Blk (W.alloc (.cells #[.int .i64 0, .int .i64 0, .int .i64 0, .slice none 0 0, .slice none 0 0] 36)).drew W.heap.size #[.int .i64 0, .int .i64 0, .int .i64 0, .slice none 0 0, .slice none 0 0] 36 from Blk.new W _ _).below hb8
        obtain ⟨z0, z1, z2, z3, z4⟩ := kZ.cells5
        have zf := kZ.frozen
        have zl := kZ.lt
        refine hK.out _ _ (HSS.out _ bW8) (fun hS8 => ?_)
        clear hK K
        refine' wpAnyH_take (i := 9) (v := _) rfl (by kernel_rfl) (by kernel_rfl) (by kernel_rfl) (fun _ _ _ h => h) (Or.inl ⟨by rfl, ?hz9⟩) hS8 ?rezt9
        case hz9 => (intro w hSw; (try dsimp only at hSw); go_simp; try with_reducible rfl)
        simp only [Act.put, List.setIfInBounds_toArray, List.set_cons_zero, List.set_cons_succ]
        refine' wpAnyH_take (i := 10) (v := _) rfl (by kernel_rfl) (by kernel_rfl) (by kernel_rfl) (fun _ _ _ h => h) (Or.inl ⟨by rfl, ?hz10⟩) hS8 ?rezt10
        case hz10 => (intro w hSw; (try dsimp only at hSw); go_simp; try with_reducible rfl)
        simp only [Act.put, List.setIfInBounds_toArray, List.set_cons_zero, List.set_cons_succ]
        refine' wpAnyH_take (i := 11) (v := _) rfl (by kernel_rfl) (by kernel_rfl) (by kernel_rfl) (fun _ _ _ h => h) (Or.inl ⟨by rfl, ?hz11⟩) hS8 ?rezt11
        case hz11 => (intro w hSw; (try dsimp only at hSw); go_simp; try with_reducible rfl)
        simp only [Act.put, List.setIfInBounds_toArray, List.set_cons_zero, List.set_cons_succ]
        refine wpAnyH_ready (rs := [13]) (by kernel_rfl) (by simp) ?_
        refine AllReadyH.cons rfl (fun K hK => ?_) AllReadyH.nil
        go_simp
        refine hK.out _ _ (HSS.out _ (below5 bW8 (Nat.le_refl _) _ _ _ _ _)) (fun hS10 => ?_)
        clear hK K
        refine wpAnyH_ready (rs := [14]) (by kernel_rfl) (by simp) ?_
        refine AllReadyH.cons rfl (fun K hK => ?_) AllReadyH.nil
        go_simp
        refine hK.out _ _ (HSS.out _ (below5 bW8 (Nat.le_refl _) _ _ _ _ _)) (fun hS11 => ?_)
        clear hK K
        refine wpAnyH_done (by kernel_rfl) ?_ _
        gi_wp2
        gi_meet
        case rel => exact ⟨_, _, _, rfl, rfl, Lib.hid (set5 kZ _ _ _ _ _), Lib.hid ⟨_, _, rfl, own_set5 (World.ownsRow.mono o1 (base' := W.heap.size) bA.size) kZ (by decide) _ _ _ _ _, own_set5 (World.ownsRow.mono o2 (base' := W.heap.size) bA.size) kZ (by decide) _ _ _ _ _⟩, Lib.hid (Nat.le_refl _), Lib.hid (below5 bW8 (Nat.le_refl _) _ _ _ _ _)⟩
    case rest =>
      obtain ⟨Bh, u1, u2, rfl, rfl, HKB, HNN, HBW, HBE⟩ := hcut
      have hI2 := HI.out
      have bE := HBE.out
      have b5 : Boxed wc (w.heap.size + 1 + 1 + 1 + 1 + 1) 103 v := Blk.below hI2.b5 bE
      have b3 := hI2.b3.below bE
      have b4 := hI2.b4.below bE
      have hsz : w.heap.size + 8 ≤ wc.heap.size := Nat.le_trans hI2.sz bE.size
      have hpm : (pre ++ [(⟨((a : Int), (b : Int)), hx1, hx2, hx3⟩ : Spn (n : Int))]).map Subtype.val = pre.map Subtype.val ++ [((a : Int), (b : Int))] := by rw [List.map_append]; rfl
      have n34 : w.heap.size + 1 + 1 + 1 + 1 ≠ w.heap.size + 1 + 1 + 1 := by omega
      have n43 : w.heap.size + 1 + 1 + 1 ≠ w.heap.size + 1 + 1 + 1 + 1 := by omega
      cases rr with
      | error e =>
        obtain rfl : e = er := her
        have ee := hist_ne hrr
        obtain ⟨z0, z1, z2, z3, z4⟩ := b3.cells5
        have zf := b3.frozen
        have y0 := b4.cell 0
        have yf := b4.frozen
        have HPM := Lib.hid hpm
        have HRR := Lib.hid hrr
        clear hpm hrr hhh HKH HSS hc0 hc1 hc2 hx0 hx1' hI hI2
        gi_wp2
        refine ⟨((keeps5 (keeps_below bE) _ _ _ _ _).trans (KeepsOthers.setCell _ _ _)).from _, rfl, _, _, hs, e, HPM.out, HI.out.ok, HRR.out, (set5 b3 _ _ _ _ _).other (p := ⟨w.heap.size + 1 + 1 + 1 + 1, 0, none⟩) n43 _, ?_, ?_⟩
        · exact Blk.set (((((b4.other (p := ⟨w.heap.size + 1 + 1 + 1, 0, none⟩) n34 _).other (p := ⟨w.heap.size + 1 + 1 + 1, 1, none⟩) n34 _).other (p := ⟨w.heap.size + 1 + 1 + 1, 2, none⟩) n34 _).other (p := ⟨w.heap.size + 1 + 1 + 1, 3, none⟩) n34 _).other (p := ⟨w.heap.size + 1 + 1 + 1, 4, none⟩) n34 _) 0 _
        · exact (below5 (HI.out.be.trans (bE.mono HI.out.be.size)) (by omega) _ _ _ _ _).setCell (p := ⟨w.heap.size + 1 + 1 + 1 + 1, 0, none⟩) (by show w.heap.size ≤ w.heap.size + 1 + 1 + 1 + 1; omega) _
      | ok y =>
        obtain rfl : y = hh := hhh
        obtain rfl : (0 : Int) = er := her
        obtain ⟨x1, x2, hx, o1, o2⟩ := HNN.out
        simp only [Value.agg.injEq, Array.mk.injEq, List.cons.injEq, and_true, true_and] at hx
        obtain ⟨rfl, rfl⟩ := hx
        obtain ⟨C1, f1, rfl⟩ := own_slice o1
        obtain ⟨C2, f2, rfl⟩ := own_slice o2
        obtain ⟨i0, hi, hz0, hz1, hz2⟩ := info_parts info_hist
        have hrow := own_below hI2.row bE
        obtain ⟨kk, hkk⟩ : ∃ kk, (pre.map Subtype.val).length = kk := ⟨_, rfl⟩
        have hkb : kk < 64 := by rw [← hkk, List.length_map]; omega
        rw [hkk] at hrow
        have HROW := Lib.hid hrow
        have HO1 := Lib.hid o1
        have HO2 := Lib.hid o2
        obtain ⟨z0, z1, z2, z3, z4⟩ := HKB.out.cells5
        have hc := b5.cell
        have HPM := Lib.hid hpm
        have HRR := Lib.hid hrr
        have HHH := Lib.hid hkk
        have lB : w.heap.size + 8 ≤ Bh := Nat.le_trans hI2.sz HBW.out
        have nB : w.heap.size + 1 + 1 + 1 + 1 + 1 ≠ Bh := by omega
        have nB' : Bh ≠ w.heap.size + 1 + 1 + 1 + 1 + 1 := by omega
        have e0 : ((0 : Int) != 0) = false := rfl
        clear hpm hrr hkk HKH HSS hc0 hc1 hc2 hx0 hx1' hI hI2 o1 o2
        gi_wp2_with (gi_at_builtin; refine wpListIn_append_own _ rfl _ _ 103 rfl (w.heap.size + 8) 36 i0 (.agg #[.int .i64 0, .int .i64 0, .int .i64 0, .slice none 0 0, .slice none 0 0]) 5 72 Try.underlying103 hi hz0 hz1 hz2 rfl (by decide) _ _ _ rfl (hrow.alloc _) ⟨wc.heap.size, 0, none⟩ 1 1 [.int .i64 y.kind, .int .i64 y.bins, .int .i64 y.classes, .slice C1 y.counts.length f1, .slice C2 y.moms.length f2] rfl rfl (cell_five _ _ _ _ _ _ _) (by simp [Value.oneCell']) (by unfold maxLen; omega) (by omega) (by simp; omega) ?_; intro v' w1 hown' hgrow _; obtain ⟨g', cap', rfl⟩ := ownsRow_succ hown'; obtain ⟨hv1, hv2, hr2, hk2, hb2⟩ := b5.appended (by decide) (World.ownsRow.mono HROW.out (base' := w.heap.size) (by omega)) (by omega) (by omega) (World.ownsRow.mono hown' (base' := w.heap.size) (by omega)) hgrow; have hc1 := hv1.cell; have hf1 := hv1.frozen)
        have hrow2 := HROW.out.alloc (.cells #[.int .i64 y.kind, .int .i64 y.bins, .int .i64 y.classes, .slice C1 y.counts.length f1, .slice C2 y.moms.length f2] 36)
        have hblk : ∀ (g : Nat) (cs : Array Value) (t : TypeId), g < w.heap.size + 8 → g ≠ w.heap.size + 1 + 1 + 1 + 1 + 1 → Blk wc g cs t → Blk (w1.setCell ⟨w.heap.size + 1 + 1 + 1 + 1 + 1, 0, none⟩ (.slice (some ⟨g', 0, none⟩) (kk + 1) cap')) g cs t := fun g cs t h1 h2 k =>
          Blk.other (p := ⟨w.heap.size + 1 + 1 + 1 + 1 + 1, 0, none⟩) (show Blk w1 g cs t from (hgrow.block g (Nat.lt_of_lt_of_le k.lt (by simp)) (fun e => by have := (World.ownsRow.lt HROW.out g e.symm).1; omega)).trans (show Blk (wc.alloc (.cells #[.int .i64 y.kind, .int .i64 y.bins, .int .i64 y.classes, .slice C1 y.counts.length f1, .slice C2 y.moms.length f2] 36)) g cs t from k.below ((Below.refl _ wc).alloc (Nat.le_refl _) _))) h2 _
        have hnew : ∀ (b : Nat) (h : H) (u : Value), HNew b h wc u → HNew b h (w1.setCell ⟨w.heap.size + 1 + 1 + 1 + 1 + 1, 0, none⟩ (.slice (some ⟨g', 0, none⟩) (kk + 1) cap')) u := fun b h u ⟨x1, x2, e, q1, q2⟩ =>
          ⟨x1, x2, e, own_set (own_ne2 hgrow (q1.alloc _) (fun k hk => own_apart (q1.alloc _) hrow2 (by decide) k hk)) hv1 (by decide), own_set (own_ne2 hgrow (q2.alloc _) (fun k hk => own_apart (q2.alloc _) hrow2 (by decide) k hk)) hv1 (by decide)⟩
        have hI3 := HI.out
        refine ⟨((keeps_below bE).trans hk2).from _, ⟨?_, ?_⟩, hs ++ [y], vs ++ [.agg #[.int .i64 y.kind, .int .i64 y.bins, .int .i64 y.classes, .slice C1 y.counts.length f1, .slice C2 y.moms.length f2]], .slice (some ⟨g', 0, none⟩) (kk + 1) cap', ?_⟩
        · exact (hblk _ _ _ (by omega) (by omega) (hI3.pf.b7.below bE)).trans hI3.pf.b7.symm
        · exact (hblk _ _ _ (by omega) (by omega) (hI3.pf.b6.below bE)).trans hI3.pf.b6.symm
        · rw [HPM.out]
          refine ⟨⟨hblk _ _ _ (by omega) (by omega) (hI3.pf.b0.below bE), hblk _ _ _ (by omega) (by omega) (hI3.pf.b1.below bE), hblk _ _ _ (by omega) (by omega) (hI3.pf.b2.below bE), hblk _ _ _ (by omega) (by omega) (hI3.pf.b6.below bE), hblk _ _ _ (by omega) (by omega) (hI3.pf.b7.below bE)⟩,
            hblk _ _ _ (by omega) (by omega) b3, hblk _ _ _ (by omega) (by omega) b4, hv2, ?_, ?_, ⟨by simp [hI3.hr.len], ?_⟩, by simp [hI3.len], ?_, ?_⟩
          · rw [List.length_append, HHH.out, List.flatMap_append]
            exact own_set hown' hv1 (by decide)
          · have := hb2.size; omega
          · intro i h u h1 h2
            rcases Nat.lt_or_ge i hs.length with hlt | hge
            · rw [List.getElem?_append_left hlt] at h1
              rw [List.getElem?_append_left (by rw [hI3.hr.len]; exact hlt)] at h2
              exact hnew _ _ _ ((hI3.hr.at' i h u h1 h2).below bE)
            · rw [List.getElem?_append_right hge] at h1
              rw [List.getElem?_append_right (by rw [hI3.hr.len]; exact hge), hI3.hr.len] at h2
              have e1 : i - hs.length = 0 := by
                have := (List.getElem?_eq_some_iff.1 h1).1
                simp at this; omega
              rw [e1] at h1 h2
              simp at h1 h2
              subst h1 h2
              exact hnew _ _ _ (HNew.mono ⟨_, _, rfl, HO1.out, HO2.out⟩ hI3.be.size)
          · rw [List.map_append, List.map_append, hI3.ok]
            simp [HRR.out]
          · exact hI3.be.trans ((bE.mono hI3.be.size).trans hb2)
  case done =>
    rintro D ys W hD hys ⟨hs, vs, v, hI⟩ hK
    obtain ⟨k, hk⟩ : ∃ k, p.toNat = k + 1 := ⟨p.toNat - 1, by omega⟩
    have hlen : (ys.map Subtype.val).length = k + 1 := by rw [hys, upto_length, hk]
    have hrow := hI.row
    rw [hlen] at hrow
    obtain ⟨g, cap, rfl, hcap, hg1, hg2, hcell⟩ := own_open hrow (by omega)
    have hvl := hI.len
    rw [hlen] at hvl
    have hhl := hI.hr.len
    rw [hvl] at hhl
    have hall : collO (fun x => histO s col (cutI is x)) (upto is.length p p.toNat) = .ok hs := coll_ok (by rw [hn, ← hys]; exact hI.ok)
    have hpo : partsO s col is p = joinO (.ok hs) := by unfold partsO; rw [if_pos ⟨hp, hp2⟩, hall]
    have hb5 := hI.b5.cell
    obtain ⟨ha, ht, rfl⟩ : ∃ ha ht, hs = ha :: ht := by
      cases hs with
      | nil => simp at hhl
      | cons a b => exact ⟨_, _, rfl⟩
    have htl : ht.length = k := by simp at hhl; omega
    obtain ⟨B1, B2, f1, f2, X0⟩ := hI.hr.cells hcell (i := 0) (h := ha) rfl
    rw [Nat.zero_mul] at X0
    have q0 := X0.p0
    have q1 := X0.p1
    have q2 := X0.p2
    have q3 := X0.p3
    have q4 := X0.p4
    simp only [Nat.zero_add] at q1 q2 q3 q4
    obtain ⟨Bx, hBx⟩ : ∃ Bx, (if cap = 1 then some (⟨g, 0, none⟩ : Addr) else some ⟨g, 5, none⟩) = Bx := ⟨_, rfl⟩
    have c1 : (1 : Int) ≤ ((k + 1 : Nat) : Int) := by omega
    have gl : g ≠ W.heap.size := by omega
    have lb5 := hI.b5.lt
    have hcapk : ((k + 1 : Nat) : Int) ≤ cap := by omega
    clear hrow hall hvl hhl hlen hys
    gi_wp2_with fail
    obtain ⟨W1, e1⟩ : ∃ W1, W1 = W.alloc (.cells #[.int .i64 ha.kind, .int .i64 ha.bins, .int .i64 ha.classes, .slice B1 ha.counts.length f1, .slice B2 ha.moms.length f2] 36) := ⟨_, rfl⟩
    rw [← e1]
    have bW : Below W.heap.size W W1 := by rw [e1]; exact (Below.refl _ _).alloc (Nat.le_refl _) _
    have kO : Blk W1 W.heap.size #[.int .i64 ha.kind, .int .i64 ha.bins, .int .i64 ha.classes, .slice B1 ha.counts.length f1, .slice B2 ha.moms.length f2] 36 := by rw [e1]; exact Blk.new _ _ _
    have hfine : ∀ x ∈ ha :: ht, fine x := by
      intro x hx
      obtain ⟨i, hi⟩ := List.getElem?_of_mem hx
      have hm := congrArg (fun l => l[i]?) hI.ok
      simp only [List.getElem?_map, hi, Option.map_some] at hm
      obtain ⟨z, _, hz⟩ := Option.map_eq_some_iff.1 hm
      exact hist_fine RS.r2.1 RS.r3.1 hz
    have HKO := Lib.hid kO
    have HNW := Lib.hid (X0.nw.below bW)
    have HFI := Lib.hid (hfine ha (by simp))
    have HFA := Lib.hid (fun x hx => hfine x (List.mem_cons_of_mem ha hx))
    have HBE := Lib.hid bW
    have HI := Lib.hid hI
    have HPO := Lib.hid hpo
    have HC := Lib.hid hcell
    have HBX := Lib.hid (show 0 < k → Bx = some ⟨g, 5, none⟩ from fun h => by rw [← hBx, if_neg (by omega)])
    have HK := Lib.hid hK
    clear e1 bW kO hfine q0 q1 q2 q3 q4 X0 hI hpo hcell hBx c1 gl lb5 hcapk hb5 hK
    gi_loopw [54] (fun iv wr => ∃ (j : Nat) (mo : H) (u1 u2 : Value), j ≤ k ∧ iv = .int .i64 j ∧ Hid (Blk wr W.heap.size #[.int .i64 mo.kind, .int .i64 mo.bins, .int .i64 mo.classes, u1, u2] 36) ∧ Hid (HNew w.heap.size mo wr (.agg #[.int .i64 mo.kind, .int .i64 mo.bins, .int .i64 mo.classes, u1, u2])) ∧ Hid (fine mo) ∧ Hid (mergeO ha ht = mergeO mo (ht.drop j)) ∧ Hid (Below W.heap.size W wr)) (fun iv _ => k - (intOf iv).toNat)
    case atStart => exact ⟨0, ha, _, _, by omega, rfl, HKO, HNW, HFI, Lib.hid rfl, HBE⟩
    case round =>
      obtain ⟨j, mo, u1, u2, hj, rfl, HKc, HNc, HFc, HMc, HBc⟩ := hrel
      clear HKO HNW HFI HBE
      obtain ⟨y1, y2, hy, o1, o2⟩ := HNc.out
      simp only [Value.agg.injEq, Array.mk.injEq, List.cons.injEq, and_true, true_and] at hy
      obtain ⟨rfl, rfl⟩ := hy
      obtain ⟨C1, d1, rfl⟩ := own_slice o1
      obtain ⟨C2, d2, rfl⟩ := own_slice o2
      have ko := HKc.out
      obtain ⟨m0', m1', m2', m3', m4'⟩ := ko.cells5
      have mf := ko.frozen
      have ml := ko.lt
      have HO1 := Lib.hid o1
      have HO2 := Lib.hid o2
      clear o1 o2
      by_cases hlt : j < k
      · obtain rfl : Bx = some ⟨g, 5, none⟩ := HBX.out (by omega)
        obtain ⟨hj1, hj2⟩ : ∃ hq, ht[j]? = some hq := ⟨_, List.getElem?_eq_getElem (by omega)⟩
        obtain ⟨E1, E2, d3, d4, Xj⟩ := HI.out.hr.cells HC.out (i := j + 1) (h := hj1) (by simpa using hj2)
        rw [show (j + 1) * 5 = 5 + j * 5 by omega] at Xj
        have Xw := Xj.below HBc.out
        have q0 := Xw.p0
        have q1 := Xw.p1
        have q2 := Xw.p2
        have q3 := Xw.p3
        have q4 := Xw.p4
        have HXW := Lib.hid Xw
        have hlt' : (j : Int) < k := by omega
        have HFJ := Lib.hid (HFA.out hj1 (List.mem_of_getElem? hj2))
        have HDJ := Lib.hid (show ht.drop j = hj1 :: ht.drop (j + 1) by
          rw [List.drop_eq_getElem_cons (by omega)]
          rw [List.getElem?_eq_getElem (by omega)] at hj2
          rw [Option.some.inj hj2])
        clear Xj Xw hj2
        gi_wp2_with fail
        refine ⟨trivial, ?_⟩
        obtain ⟨r, hr⟩ : ∃ r, bothO opP mo hj1 = r := ⟨_, rfl⟩
        obtain ⟨hm, hhm⟩ : ∃ hm, valO h0 r = hm := ⟨_, rfl⟩
        obtain ⟨em, hem⟩ : ∃ em, errO r = em := ⟨_, rfl⟩
        have hmc := fun W' (hb : Below wr.heap.size wr W') => merge_any ((HNc.out.rd HFc.out.1 HFc.out.2.1 HFc.out.2.2).below hb) ((HXW.out.nw.rd HFJ.out.1 HFJ.out.2.1 HFJ.out.2.2).below hb)
        rw [hr] at hmc
        unfold ResH at hmc
        rw [hhm, hem] at hmc
        refine (callsIn_wide.2 (hmc _ ((Below.refl _ _).alloc (Nat.le_refl _) _))).mono ?_
        rintro e w5 ⟨v5, rfl, ⟨x1, x2, rfl, o3, o4⟩, hb5⟩
        obtain ⟨F1, d5, rfl⟩ := own_slice o3
        obtain ⟨F2, d6, rfl⟩ := own_slice o4
        have bq : Below wr.heap.size wr w5 := ((Below.refl _ wr).alloc (Nat.le_refl _) _).trans (hb5.mono (by simp))
        have ko5 := ko.below bq
        have b5' : Below W.heap.size W w5 := HBc.out.trans (bq.mono HBc.out.size)
        have b3 := HI.out.b3.below b5'
        have b4 := HI.out.b4.below b5'
        have szI := HI.out.sz
        clear m0' m1' m2' m3' m4' mf q0 q1 q2 q3 q4 hmc hb5
        cases r with
        | error e =>
          obtain rfl : e = em := hem
          have ee := both_ne hr
          obtain ⟨z0, z1, z2, z3, z4⟩ := b3.cells5
          have zf := b3.frozen
          have zl := b3.lt
          have y0 := b4.cell 0
          have yf := b4.frozen
          have yl := b4.lt
          have n1 : w.heap.size + 1 + 1 + 1 ≠ w5.heap.size := by omega
          have n2 : w.heap.size + 1 + 1 + 1 + 1 ≠ w5.heap.size := by omega
          have n34 : w.heap.size + 1 + 1 + 1 + 1 ≠ w.heap.size + 1 + 1 + 1 := by omega
          have n43 : w.heap.size + 1 + 1 + 1 ≠ w.heap.size + 1 + 1 + 1 + 1 := by omega
          have hres : partsO s col is p = .error e := by
            rw [HPO.out]
            show mergeO ha ht = _
            rw [HMc.out, HDJ.out, mergeO, hr]
          have HRES := Lib.hid hres
          clear hres hr
          gi_wp2
          refine parts_end (h := h0) (D := D) (by omega) (Nat.le_refl _) rfl ((((keeps5 (keeps_below b5') _ _ _ _ _).trans (KeepsOthers.setCell _ _ _)).trans (KeepsOthers.alloc _ _)).same D _ HK.out rfl) rfl rfl
            (Blk.below ((set5 b3 _ _ _ _ _).other (p := ⟨w.heap.size + 1 + 1 + 1 + 1, 0, none⟩) n43 _) ((Below.refl _ _).alloc (Nat.le_refl _) _))
            (Blk.below (Blk.set (((((b4.other (p := ⟨w.heap.size + 1 + 1 + 1, 0, none⟩) n34 _).other (p := ⟨w.heap.size + 1 + 1 + 1, 1, none⟩) n34 _).other (p := ⟨w.heap.size + 1 + 1 + 1, 2, none⟩) n34 _).other (p := ⟨w.heap.size + 1 + 1 + 1, 3, none⟩) n34 _).other (p := ⟨w.heap.size + 1 + 1 + 1, 4, none⟩) n34 _) 0 _) ((Below.refl _ _).alloc (Nat.le_refl _) _)) (HNew.zero _ _) ?_ (by rw [HRES.out]; rfl) (by rw [HRES.out]; rfl)
          exact (((below5 (HI.out.be.trans (b5'.mono HI.out.be.size)) (by omega) _ _ _ _ _).setCell (p := ⟨w.heap.size + 1 + 1 + 1 + 1, 0, none⟩) (by show w.heap.size ≤ w.heap.size + 1 + 1 + 1 + 1; omega) _)).alloc (by simp; omega) _
        | ok m =>
          obtain rfl : m = hm := hhm
          obtain rfl : (0 : Int) = em := hem
          have hres : mergeO ha ht = mergeO m (ht.drop (j + 1)) := by rw [HMc.out, HDJ.out, mergeO, hr]
          have HRES := Lib.hid hres
          have HFM := Lib.hid (both_fine HFc.out hr)
          have HO3 := Lib.hid o3
          have HO4 := Lib.hid o4
          obtain ⟨m0', m1', m2', m3', m4'⟩ := ko5.cells5
          have mf := ko5.frozen
          have ml5 := ko5.lt
          have n1 : W.heap.size ≠ w5.heap.size := by omega
          have e0 : ((0 : Int) != 0) = false := rfl
          have hbs : w.heap.size ≤ wr.heap.size := by omega
          clear hres hr o3 o4 b3 b4
          gi_wp2
          go_roundw
          case rel =>
            refine ⟨j + 1, m, _, _, hlt, by go_num, Lib.hid (Blk.below (set5 ko5 _ _ _ _ _) ((Below.refl _ _).alloc (Nat.le_refl _) _)), Lib.hid ⟨_, _, rfl, ?_, ?_⟩, HFM, HRES, Lib.hid ((below5 b5' (Nat.le_refl _) _ _ _ _ _).alloc (by simp; omega) _)⟩
            · exact (own_set5 (World.ownsRow.mono HO3.out (by simp; omega)) ko5 (by decide) _ _ _ _ _).alloc _
            · exact (own_set5 (World.ownsRow.mono HO4.out (by simp; omega)) ko5 (by decide) _ _ _ _ _).alloc _
          case measure => simp [intOf]; omega
      · obtain rfl : j = k := by omega
        have hres : partsO s col is p = .ok mo := by
          rw [HPO.out]
          show mergeO ha ht = _
          rw [HMc.out, ← htl, List.drop_length]
          rfl
        have HRES := Lib.hid hres
        have b5' := HBc.out
        have b3 := HI.out.b3.below b5'
        have b4 := HI.out.b4.below b5'
        have szI := HI.out.sz
        obtain ⟨z0, z1, z2, z3, z4⟩ := b3.cells5
        have zf := b3.frozen
        have zl := b3.lt
        have y0 := b4.cell 0
        have yf := b4.frozen
        have yl := b4.lt
        have n34 : w.heap.size + 1 + 1 + 1 + 1 ≠ w.heap.size + 1 + 1 + 1 := by omega
        have n43 : w.heap.size + 1 + 1 + 1 ≠ w.heap.size + 1 + 1 + 1 + 1 := by omega
        have n1 : w.heap.size + 1 + 1 + 1 ≠ W.heap.size := by omega
        have n2 : W.heap.size ≠ w.heap.size + 1 + 1 + 1 := by omega
        clear hres
        gi_wp2
        refine parts_end (h := mo) (D := D) (by omega) (Nat.le_refl _) rfl (((keeps5 (keeps_below b5') _ _ _ _ _).trans (KeepsOthers.setCell _ _ _)).same D _ HK.out rfl) rfl rfl
          ((set5 b3 _ _ _ _ _).other (p := ⟨w.heap.size + 1 + 1 + 1 + 1, 0, none⟩) n43 _) (Blk.set (((((b4.other (p := ⟨w.heap.size + 1 + 1 + 1, 0, none⟩) n34 _).other (p := ⟨w.heap.size + 1 + 1 + 1, 1, none⟩) n34 _).other (p := ⟨w.heap.size + 1 + 1 + 1, 2, none⟩) n34 _).other (p := ⟨w.heap.size + 1 + 1 + 1, 3, none⟩) n34 _).other (p := ⟨w.heap.size + 1 + 1 + 1, 4, none⟩) n34 _) 0 _) ⟨_, _, rfl, ?_, ?_⟩ ?_ (by rw [HRES.out]; rfl) (by rw [HRES.out]; rfl)
        · exact own_set (own_set5 HO1.out b3 (by decide) _ _ _ _ _) (((((b4.other (p := ⟨w.heap.size + 1 + 1 + 1, 0, none⟩) n34 _).other (p := ⟨w.heap.size + 1 + 1 + 1, 1, none⟩) n34 _).other (p := ⟨w.heap.size + 1 + 1 + 1, 2, none⟩) n34 _).other (p := ⟨w.heap.size + 1 + 1 + 1, 3, none⟩) n34 _).other (p := ⟨w.heap.size + 1 + 1 + 1, 4, none⟩) n34 _) (by decide)
        · exact own_set (own_set5 HO2.out b3 (by decide) _ _ _ _ _) (((((b4.other (p := ⟨w.heap.size + 1 + 1 + 1, 0, none⟩) n34 _).other (p := ⟨w.heap.size + 1 + 1 + 1, 1, none⟩) n34 _).other (p := ⟨w.heap.size + 1 + 1 + 1, 2, none⟩) n34 _).other (p := ⟨w.heap.size + 1 + 1 + 1, 3, none⟩) n34 _).other (p := ⟨w.heap.size + 1 + 1 + 1, 4, none⟩) n34 _) (by decide)
        · exact (below5 (HI.out.be.trans (b5'.mono HI.out.be.size)) (by omega) _ _ _ _ _).setCell (p := ⟨w.heap.size + 1 + 1 + 1 + 1, 0, none⟩) (by show w.heap.size ≤ w.heap.size + 1 + 1 + 1 + 1; omega) _
  case stop =>
    rintro D c pre W hD hpre ⟨rfl, pre', x, hs, e, h1, h2, h3, k3, k4, hB⟩ hK
    have hres : partsO s col is p = .error e := by
      unfold partsO
      rw [if_pos ⟨hp, hp2⟩, coll_err (f := fun x => histO s col (cutI is x)) (x := x) h3 h2 (by rw [hn, ← h1]; exact hpre)]
      rfl
    have HRES := Lib.hid hres
    clear hres
    gi_wp2
    exact parts_end (h := h0) (D := D) (by omega) (Nat.le_refl _) rfl hK rfl rfl k3 k4 (HNew.zero _ _) hB (by rw [HRES.out]; rfl) (by rw [HRES.out]; rfl)
end Go.Proofs.Yteckbgpkoanhfaa.Hb

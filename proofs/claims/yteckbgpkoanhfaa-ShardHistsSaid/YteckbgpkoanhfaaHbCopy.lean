/- The document's answer, layer 12: Copy. -/
import Derived.Test.YteckbgpkoanhfaaHbTurns
import Derived.Laws.AppendOwnNone
namespace Go.Proofs.Yteckbgpkoanhfaa.Hb
open Go.RowKit

/-- What is appended, nothing of it. -/
theorem wpList_append_nil {P : Program} {w : World} {ops : Array Oper} {rest : List Oper} {o : Oper} {a : Act} {Q : Exit → Act → World → Prop} (hgd : o.guard = none) (s x : Operand) (t : TypeId)
    (ho : o.op = .call { callee := .builtin .append, args := #[s, x], argTypes := #[t, t] })
    (base : Nat) (e : TypeId) (i : TypeInfo) (size : Nat) (ht : P.underlying t = some (.slice e)) (hi : P.info? e = some i)
    (v : Value) (n c : Nat) (xs : List Value) (hs : a.eval s = v) (hown : w.ownsRow base e size v n xs) (hx : a.eval x = .slice none 0 c)
    (h : wpList P ops Q rest (a.put o.dst v) w) : wpList P ops Q (o :: rest) a w := by
  refine wpList_plain hgd fun K hK => ?_
  have hrun : (Builtin.append_ #[t, t] o.type #[v, .slice none 0 c]).run P w = .ok v w := by
    rcases hown.2 with ⟨rfl, rfl⟩ | ⟨g, cap, cur, rfl, _, _, hnc, _⟩
    · simp [Builtin.append_, run_underlying ht, sizeOf, typeInfo, hi, Builtin.lenOf, Builtin.firstCells]
    · simp [Builtin.append_, run_underlying ht, sizeOf, typeInfo, hi, Builtin.lenOf, Builtin.firstCells, hnc, storeCells]
  unfold Oper.wp
  simp [execOp, ho, resolve, invoke, builtin, hs, hx, hrun, Result.andThen]
  exact hK _ _ h

/-- What is appended, of a slice that came in: nil or not. -/
theorem wpList_append_src {P : Program} {w : World} {ops : Array Oper} {rest : List Oper} {o : Oper} {a : Act} {Q : Exit → Act → World → Prop} (hgd : o.guard = none) (s x : Operand) (t : TypeId)
    (ho : o.op = .call { callee := .builtin .append, args := #[s, x], argTypes := #[t, t] })
    (base : Nat) (e : TypeId) (i : TypeInfo) (z : Value) (size bytes : Nat) (ht : P.underlying t = some (.slice e)) (hi : P.info? e = some i) (hz : i.zero = some z)
    (hsize : i.size = size) (hby : i.bytes = bytes) (hzs : z.cells.size = size) (hsz : 0 < size)
    (v : Value) (n : Nat) (xs : List Value) (hs : a.eval s = v) (hown : w.ownsRow base e size v n xs)
    (A : Option Addr) (m c : Nat) (news : List Value) (hx : a.eval x = .slice A m c) (hl : news.length = m * size) (hsrc : (A = none ∧ m = 0) ∨ ∃ ad, A = some ad ∧ ∀ j u, news[j]? = some u → w.cell? (ad.add j) = some u) (h1 : ∀ u ∈ news, u.oneCell' = true)
    (h63 : n + m ≤ maxLen) (hbytes : (n + m) * bytes ≤ 140737488355328) (hbase : base ≤ w.heap.size)
    (h : ∀ v' w', w'.ownsRow base e size v' (n + m) (xs ++ news) → w.grownBy w' v.ownBlock → wpList P ops Q rest (a.put o.dst v') w') : wpList P ops Q (o :: rest) a w := by
  rcases hsrc with ⟨rfl, rfl⟩ | ⟨ad, rfl, hnews⟩
  · obtain rfl : news = [] := List.length_eq_zero_iff.1 (by rw [hl, Nat.zero_mul])
    exact wpList_append_nil hgd s x t ho base e i size ht hi v n c xs hs hown hx (h v w (by simpa using hown) ⟨rfl, rfl, rfl, Nat.le_refl _, fun _ _ _ => rfl⟩)
  · exact wpList_append_own w hgd s x t ho base e i z size bytes ht hi hz hsize hby hzs hsz v n xs hs hown ad m c news hx hl hnews h1 h63 hbytes hbase (fun v' w' h2 h3 _ => h v' w' h2 h3)
theorem RdI.src {w : World} {A : Option Addr} {l : List Int} (r : RdI w A l) : (A = none ∧ l.length = 0) ∨ ∃ ad, A = some ad ∧ ∀ j u, (ints l)[j]? = some u → w.cell? (ad.add j) = some u := by
  rcases r.2 with rfl | ⟨ad, rfl, hc⟩
  · cases A with
    | none => exact .inl ⟨rfl, rfl⟩
    | some ad => exact .inr ⟨ad, rfl, fun j u h => by simp [ints] at h⟩
  · refine .inr ⟨ad, rfl, fun j u h => ?_⟩
    have hj : j < l.length := by
      have := (List.getElem?_eq_some_iff.1 h).1
      simpa [ints] using this
    rw [hc j hj]
    simp [ints, List.getElem?_eq_getElem hj] at h
    rw [← h]
    simp [List.getD_eq_getElem?_getD, List.getElem?_eq_getElem hj]
theorem add_three (ad : Addr) (i k : Nat) (hk : 0 < k) : ad.add (i * 3 + k) = ⟨(ad.add (i * 3)).block, (ad.add (i * 3)).off + k, none⟩ := by
  unfold Addr.add
  by_cases hi : i = 0
  · subst hi
    have : ¬ k = 0 := by omega
    simp [this]
  · have h1 : ¬ i * 3 = 0 := by omega
    have h2 : ¬ i * 3 + k = 0 := by omega
    rw [if_neg h1, if_neg h2, Nat.add_assoc]
theorem RdM.src {w : World} {A : Option Addr} {l : List Mom} (r : RdM w A l) : (A = none ∧ l.length = 0) ∨ ∃ ad, A = some ad ∧ ∀ j u, (momC l)[j]? = some u → w.cell? (ad.add j) = some u := by
  rcases r.2 with rfl | ⟨ad, rfl, hc⟩
  · cases A with
    | none => exact .inl ⟨rfl, rfl⟩
    | some ad => exact .inr ⟨ad, rfl, fun j u h => by simp [momC] at h⟩
  · refine .inr ⟨ad, rfl, fun j u h => ?_⟩
    have hj : j < l.length * 3 := by
      have := (List.getElem?_eq_some_iff.1 h).1
      rwa [momC_len] at this
    have hi : j / 3 < l.length := by omega
    have hx : l[j / 3]? = some (mAt l (j / 3)) := by simp [mAt, List.getD_eq_getElem?_getD, List.getElem?_eq_getElem hi]
    obtain ⟨x1, x2, x3⟩ := momC_at' l (j / 3) _ hx
    obtain ⟨y1, y2, y3⟩ := hc (j / 3) hi
    obtain e | e | e : j = j / 3 * 3 ∨ j = j / 3 * 3 + 1 ∨ j = j / 3 * 3 + 2 := by omega
    · rw [e] at h ⊢; rw [x1] at h; cases h; exact y1
    · rw [e] at h ⊢; rw [x2] at h; cases h; rw [add_three _ _ 1 (by omega)]; exact y2
    · rw [e] at h ⊢; rw [x3] at h; cases h; rw [add_three _ _ 2 (by omega)]; exact y3
theorem ints_one (l : List Int) : ∀ u ∈ ints l, u.oneCell' = true := by
  intro u hu
  simp only [ints, List.mem_map] at hu
  obtain ⟨x, _, rfl⟩ := hu
  rfl
theorem momC_one (l : List Mom) : ∀ u ∈ momC l, u.oneCell' = true := by
  intro u hu
  simp only [momC, List.mem_flatMap, List.mem_cons, List.not_mem_nil, or_false] at hu
  obtain ⟨x, _, rfl | rfl | rfl⟩ := hu <;> rfl
theorem great_small {h : H} (hg : greatB h = false) : h.counts.length ≤ 1000 ∧ h.moms.length ≤ 300 := by
  unfold greatB at hg
  rw [Bool.or_eq_false_iff, decide_eq_false_iff_not, decide_eq_false_iff_not] at hg
  omega
theorem blk_grown {w w' : World} {g : Nat} {cs : Array Value} {t : TypeId} {row : Option Nat} (h : Blk w g cs t) (hg : w.grownBy w' row) (hne : some g ≠ row) : Blk w' g cs t := (hg.block g h.lt hne).trans h
theorem below_row' {B : Nat} {w0 w w' : World} {row : Option Nat} (h : Below B w0 w) (hg : w.grownBy w' row) (hB : B ≤ w.heap.size) (hr : ∀ k, row = some k → B ≤ k) : Below B w0 w' := h.grown hg hB hr

/-- A result that lies in memory. -/
theorem results_c1 {P : Program} {fn : Func} {p : Tmp} {ty : TypeId} (h : fn.results = #[.cell p ty]) (tmps : Array Value) (w : World) (g : Nat) (t : TypeId) (cs : Array Value) (d : TypeDesc)
    (hp : tmps.getD p undef = .pointer (some ⟨g, 0, none⟩)) (hg : Blk w g cs t)
    (hu : P.underlying ty = some d) (hd : (match d with | .struct _ | .array _ _ => true | _ => false) = true) (hi : (P.info? ty).map (·.size) = some cs.size) :
    (results fn tmps).run P w = .ok (.agg cs) w := by
  have hp' : tmps[p]?.getD undef = .pointer (some ⟨g, 0, none⟩) := by simpa using hp
  simp [results, h, hp', asAddr, run_loadVar_row w g t ty cs (0, 0) d hg hu hd hi]

set_option maxRecDepth 100000 in
set_option maxHeartbeats 2000000 in
theorem copy_all {a : H} {va : Value} {w : World} (ra : RdH w a va) (g1 : a.counts.length ≤ 65792) (g2 : a.moms.length ≤ 65792) : Calls Try.prog 28 #[va] w fun e w' => ∃ v, e = .returned v ∧ HNew w.heap.size a w' v ∧ Below w.heap.size w w' := by
  obtain ⟨A1, A2, c1, c2, rfl, r1, r2, l1, l2⟩ := ra
  obtain ⟨i0, hi, hz0, hz1, hz2⟩ := info_parts info_int
  obtain ⟨i0', hi', hz0', hz1', hz2'⟩ := info_parts info_mom
  have R1 := Lib.hid r1
  have R2 := Lib.hid r2
  clear r1 r2 l1 l2
  unfold hV
  go_enter Try.func28, Try.ntmps28
  obtain ⟨W2, e2⟩ : ∃ W2, W2 = (w.alloc (.cells #[.int .i64 a.kind, .int .i64 a.bins, .int .i64 a.classes, .slice A1 a.counts.length c1, .slice A2 a.moms.length c2] 36)).alloc (.cells #[.int .i64 0, .int .i64 0, .int .i64 0, .slice none 0 0, .slice none 0 0] 36) := ⟨_, rfl⟩
  obtain ⟨k0, k1, kb, ks⟩ := boxes2' w _ _ _ _ W2 e2
  have n01 : w.heap.size ≠ w.heap.size + 1 := by omega
  have n10 : w.heap.size + 1 ≠ w.heap.size := by omega
  have own0 : (W2.alloc (.cells #[] 2)).ownsRow w.heap.size 2 1 (.slice (some ⟨w.heap.size + 1 + 1, 0, none⟩) 0 0) 0 [] := by
    have := World.ownsRow_lit (e := 2) (base := w.heap.size) (size := 1) W2 #[] 0 kb.size (by decide) rfl
    rwa [ks] at this
  have own1 : ∀ W : World, w.heap.size ≤ W.heap.size → ∀ a u, ((W.setCell a u).alloc (.cells #[] 52)).ownsRow w.heap.size 52 3 (.slice (some ⟨W.heap.size, 0, none⟩) 0 0) 0 [] := by
    intro W hW a u
    have := World.ownsRow_lit (e := 52) (base := w.heap.size) (size := 3) (W.setCell a u) #[] 0 (by simpa using hW) (by decide) rfl
    simpa using this
  go_wp2_with (at_builtin; rw [← e2]; refine Hid.out ?_)
  refine Lib.hid ?_
  refine wpList_append_src rfl _ _ 33 rfl w.heap.size 2 i0 (.int .i64 0) 1 8 Try.underlying33 hi hz0 hz1 hz2 rfl (by decide) _ 0 [] rfl own0 A1 _ c1 (ints a.counts) rfl (by simp [ints]) (RdI.src (R1.out.below (kb.alloc kb.size _))) (ints_one _) (by unfold maxLen; omega) (by omega) (Nat.le_trans kb.size (by simp)) ?_
  intro v' w3 hown hgr
  replace hgr : (W2.alloc (.cells #[] 2)).grownBy w3 (some (w.heap.size + 1 + 1)) := hgr
  rw [Nat.zero_add, List.nil_append] at hown
  obtain ⟨B1, d1, rfl⟩ := own_slice hown
  have m0 := blk_grown (k0.below ((Below.refl _ _).alloc (Nat.le_refl _) (.cells #[] 2))) hgr (fun e => by have := Option.some.inj e; omega)
  have m1 := blk_grown (k1.below ((Below.refl _ _).alloc (Nat.le_refl _) (.cells #[] 2))) hgr (fun e => by have := Option.some.inj e; omega)
  have b3 := below_row' (kb.alloc kb.size (.cells #[] 2)) hgr (Nat.le_trans kb.size (by simp)) (fun k hk => by have := Option.some.inj hk; omega)
  obtain ⟨p0, p1, p2, p3, p4⟩ := m0.cells5
  obtain ⟨q0, q1, q2, q3, q4⟩ := m1.cells5
  have pf := m0.frozen
  have qf := m1.frozen
  have l0 := m0.lt
  have l1 := m1.lt
  have O1 := Lib.hid hown
  clear hown hgr e2
  go_wp2_with (at_builtin; refine Hid.out ?_)
  refine Lib.hid ?_
  refine wpList_append_src rfl _ _ 34 rfl w.heap.size 52 i0' (.agg #[(.int .i64 0), (.int .i64 0), (.int .i64 0)]) 3 24 Try.underlying34 hi' hz0' hz1' hz2' rfl (by decide) _ 0 [] rfl (own1 w3 b3.size ⟨w.heap.size, 3, none⟩ (.slice B1 a.counts.length d1)) A2 _ c2 (momC a.moms) rfl (by rw [momC_len]) (RdM.src (R2.out.below ((b3.setCell (p := ⟨w.heap.size, 3, none⟩) (Nat.le_refl _) _).alloc (by simp; omega) _))) (momC_one _) (by unfold maxLen; omega) (by omega) (by simp; omega) ?_
  intro v'' w4 hown2 hgr2
  replace hgr2 : ((w3.setCell ⟨w.heap.size, 3, none⟩ (.slice B1 a.counts.length d1)).alloc (.cells #[] 52)).grownBy w4 (some w3.heap.size) := hgr2
  rw [Nat.zero_add, List.nil_append] at hown2
  obtain ⟨B2, d2, rfl⟩ := own_slice hown2
  have m0' := blk_grown ((m0.set 3 (.slice B1 a.counts.length d1)).below ((Below.refl _ _).alloc (Nat.le_refl _) (.cells #[] 52))) hgr2 (fun e => by have := Option.some.inj e; omega)
  have m1' := blk_grown ((m1.other (p := ⟨w.heap.size, 3, none⟩) n10 (.slice B1 a.counts.length d1)).below ((Below.refl _ _).alloc (Nat.le_refl _) (.cells #[] 52))) hgr2 (fun e => by have := Option.some.inj e; omega)
  have b4 := below_row' ((b3.setCell (p := ⟨w.heap.size, 3, none⟩) (Nat.le_refl _) (.slice B1 a.counts.length d1)).alloc (by simp; omega) (.cells #[] 52)) hgr2 (by simp; omega) (fun k hk => by have := Option.some.inj hk; omega)
  have O1' := Lib.hid (World.ownsRow.kept ((own_set (i := 3) (u := .slice B1 a.counts.length d1) O1.out m0 (by decide)).alloc (.cells #[] 52)) hgr2 (.inr (fun e => by have := (World.ownsRow.lt O1.out _ e).2; simp at this)))
  have O2' := Lib.hid hown2
  clear p0 p1 p2 p3 p4 q0 q1 q2 q3 q4 pf qf l0 l1 hown2 hgr2
  obtain ⟨p0, p1, p2, p3, p4⟩ := m0'.cells5
  obtain ⟨q0, q1, q2, q3, q4⟩ := m1'.cells5
  have pf := m0'.frozen
  have qf := m1'.frozen
  have l0 := m0'.lt
  have l1 := m1'.lt
  go_wp2
  refine bodyPost_ret (results_c1 rfl _ _ (w.heap.size + 1) 36 _ _ rfl (set5 (m1'.other (p := ⟨w.heap.size, 4, none⟩) n10 _) _ _ _ _ _) Try.underlying36 rfl size_hist) rfl ?_
  exact ⟨_, rfl, ⟨_, _, rfl, own_set5 (own_set O1'.out m0' (by decide)) (m1'.other (p := ⟨w.heap.size, 4, none⟩) n10 _) (by decide) _ _ _ _ _, own_set5 (own_set O2'.out m0' (by decide)) (m1'.other (p := ⟨w.heap.size, 4, none⟩) n10 _) (by decide) _ _ _ _ _⟩, below5 (b4.setCell (p := ⟨w.heap.size, 4, none⟩) (Nat.le_refl _) _) (by omega) _ _ _ _ _⟩
theorem copy_any {a : H} {va : Value} {w : World} (ra : RdH w a va) (hg : greatB a = false) : Calls Try.prog 28 #[va] w fun e w' => ∃ v, e = .returned v ∧ HNew w.heap.size a w' v ∧ Below w.heap.size w w' :=
  copy_all ra (by have := great_small hg; omega) (by have := great_small hg; omega)
end Go.Proofs.Yteckbgpkoanhfaa.Hb

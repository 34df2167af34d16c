/- Texts joined: the walks and the plain laws that the claim HistSums rests on. -/
import Derived.Test.YteckbgpkoanhfaaMHistSums1
import Derived.Deep.QuietTactic
import Derived.BigQuiet
import Derived.Test.YteckbgpkoanhfaaMHistSums2
import Derived.Deep.RegionHeld3
import Derived.Deep.DeepCutAuto
section
/- The walks of the document's answer, layer 12: Same; Merge and Less of the layer itself. -/
namespace Go.Proofs.Yteckbgpkoanhfaa.Hb
open Go.RowKit

theorem boxes3 (w : World) (X1 X2 X3 : Array Value) (t1 t2 t3 : TypeId) (W : World) (h : W = ((w.alloc (.cells X1 t1)).alloc (.cells X2 t2)).alloc (.cells X3 t3)) :
    Blk W (w.heap.size + 1 + 1) X3 t3 ∧ Below w.heap.size w W ∧ W.heap.size = w.heap.size + 1 + 1 + 1 := by
  subst h
  refine ⟨?_, ?_, by simp⟩
  · have := Blk.new ((w.alloc (.cells X1 t1)).alloc (.cells X2 t2)) X3 t3
    simpa using this
  · exact (((Below.refl _ w).alloc (Nat.le_refl _) _).alloc (by simp) _).alloc (by simp; omega) _
theorem boxes2' (w : World) (X1 X2 : Array Value) (t1 t2 : TypeId) (W : World) (h : W = (w.alloc (.cells X1 t1)).alloc (.cells X2 t2)) :
    Blk W w.heap.size X1 t1 ∧ Blk W (w.heap.size + 1) X2 t2 ∧ Below w.heap.size w W ∧ W.heap.size = w.heap.size + 1 + 1 := by
  subst h
  refine ⟨?_, ?_, ?_, by simp⟩
  · exact (Blk.new w X1 t1).below ((Below.refl _ _).alloc (Nat.le_refl _) _)
  · have := Blk.new (w.alloc (.cells X1 t1)) X2 t2
    simpa using this
  · exact ((Below.refl _ w).alloc (Nat.le_refl _) _).alloc (by simp) _
set_option maxRecDepth 100000 in
set_option maxHeartbeats 1000000 in
theorem merge_any {a b : H} {va vb : Value} {w : World} (ra : RdH w a va) (rb : RdH w b vb) : Calls Try.prog 24 #[va, vb] w (ResH (bothO opP a b) w) := by
  obtain ⟨A1, A2, c1, c2, rfl, r1, r2, l1, l2⟩ := ra
  obtain ⟨A3, A4, c3, c4, rfl, r3, r4, l3, l4⟩ := rb
  have hb := fun W (h : Below w.heap.size w W) => both_any 48 opP plus_is a b A1 A2 A3 A4 c1 c2 c3 c4 W l1 l2 l3 l4 (r1.below h) (r2.below h) (r3.below h) (r4.below h)
  unfold hV at hb ⊢
  have HB := Lib.hid hb
  clear hb
  go_enter Try.func24, Try.ntmps24
  go_wp2_with fail
  obtain ⟨W4, e4⟩ : ∃ W4, W4 = ((w.alloc (.cells #[.int .i64 a.kind, .int .i64 a.bins, .int .i64 a.classes, .slice A1 a.counts.length c1, .slice A2 a.moms.length c2] 36)).alloc (.cells #[.int .i64 b.kind, .int .i64 b.bins, .int .i64 b.classes, .slice A3 b.counts.length c3, .slice A4 b.moms.length c4] 36)).alloc (.cells #[.int .i64 0, .int .i64 0, .int .i64 0, .slice none 0 0, .slice none 0 0] 36) := ⟨_, rfl⟩
  rw [← e4]
  obtain ⟨k3, kb, ks⟩ := boxes3 w _ _ _ _ _ _ W4 e4
  clear e4
  refine (HB.out W4 kb).mono ?_
  rintro e w5 ⟨v, rfl, ⟨v1, v2, rfl, o1, o2⟩, hb5⟩
  obtain ⟨B1, d1, rfl⟩ := own_slice o1
  obtain ⟨B2, d2, rfl⟩ := own_slice o2
  have k5 := k3.below hb5
  obtain ⟨p0, p1, p2, p3, p4⟩ := k5.cells5
  have pf := k5.frozen
  have b5 := kb.trans (hb5.mono kb.size)
  have O1 := Lib.hid (World.ownsRow.mono o1 (base' := w.heap.size) kb.size)
  have O2 := Lib.hid (World.ownsRow.mono o2 (base' := w.heap.size) kb.size)
  clear o1 o2
  go_wp2
  refine bodyPost_ret (results_ct rfl _ _ (w.heap.size + 1 + 1) 36 _ _ rfl (set5 k5 _ _ _ _ _) Try.underlying36 rfl size_hist) rfl ?_
  exact ⟨_, rfl, ⟨_, _, rfl, own_set5 O1.out k5 (by decide) _ _ _ _ _, own_set5 O2.out k5 (by decide) _ _ _ _ _⟩, below5 b5 (by omega) _ _ _ _ _⟩
set_option maxRecDepth 100000 in
set_option maxHeartbeats 1000000 in
theorem less_any {a b : H} {va vb : Value} {w : World} (ra : RdH w a va) (rb : RdH w b vb) : Calls Try.prog 30 #[va, vb] w (ResH (bothO opM a b) w) := by
  obtain ⟨A1, A2, c1, c2, rfl, r1, r2, l1, l2⟩ := ra
  obtain ⟨A3, A4, c3, c4, rfl, r3, r4, l3, l4⟩ := rb
  have hb := fun W (h : Below w.heap.size w W) => both_any 54 opM minus_is a b A1 A2 A3 A4 c1 c2 c3 c4 W l1 l2 l3 l4 (r1.below h) (r2.below h) (r3.below h) (r4.below h)
  unfold hV at hb ⊢
  have HB := Lib.hid hb
  clear hb
  go_enter Try.func30, Try.ntmps30
  go_wp2_with fail
  obtain ⟨W4, e4⟩ : ∃ W4, W4 = ((w.alloc (.cells #[.int .i64 a.kind, .int .i64 a.bins, .int .i64 a.classes, .slice A1 a.counts.length c1, .slice A2 a.moms.length c2] 36)).alloc (.cells #[.int .i64 b.kind, .int .i64 b.bins, .int .i64 b.classes, .slice A3 b.counts.length c3, .slice A4 b.moms.length c4] 36)).alloc (.cells #[.int .i64 0, .int .i64 0, .int .i64 0, .slice none 0 0, .slice none 0 0] 36) := ⟨_, rfl⟩
  rw [← e4]
  obtain ⟨k3, kb, ks⟩ := boxes3 w _ _ _ _ _ _ W4 e4
  clear e4
  refine (HB.out W4 kb).mono ?_
  rintro e w5 ⟨v, rfl, ⟨v1, v2, rfl, o1, o2⟩, hb5⟩
  obtain ⟨B1, d1, rfl⟩ := own_slice o1
  obtain ⟨B2, d2, rfl⟩ := own_slice o2
  have k5 := k3.below hb5
  obtain ⟨p0, p1, p2, p3, p4⟩ := k5.cells5
  have pf := k5.frozen
  have b5 := kb.trans (hb5.mono kb.size)
  have O1 := Lib.hid (World.ownsRow.mono o1 (base' := w.heap.size) kb.size)
  have O2 := Lib.hid (World.ownsRow.mono o2 (base' := w.heap.size) kb.size)
  clear o1 o2
  go_wp2
  refine bodyPost_ret (results_ct rfl _ _ (w.heap.size + 1 + 1) 36 _ _ rfl (set5 k5 _ _ _ _ _) Try.underlying36 rfl size_hist) rfl ?_
  exact ⟨_, rfl, ⟨_, _, rfl, own_set5 O1.out k5 (by decide) _ _ _ _ _, own_set5 O2.out k5 (by decide) _ _ _ _ _⟩, below5 b5 (by omega) _ _ _ _ _⟩

theorem decF {a b : H} (h : ¬ a = b) : Ending.returned (.bool false) = .returned (.bool (decide (a = b))) := by rw [decide_eq_false h]
set_option maxRecDepth 100000 in
set_option maxHeartbeats 4000000 in
theorem same_head {a b : H} {va vb : Value} {w : World} (ra : RdH w a va) (rb : RdH w b vb) (hne : ¬ (a.kind = b.kind ∧ a.bins = b.bins ∧ a.classes = b.classes ∧ a.counts.length = b.counts.length ∧ a.moms.length = b.moms.length)) : Calls Try.prog 19 #[va, vb] w fun e w' => e = .returned (.bool (decide (a = b))) ∧ Below w.heap.size w w' := by
  obtain ⟨A1, A2, c1, c2, rfl, r1, r2, l1, l2⟩ := ra
  obtain ⟨A3, A4, c3, c4, rfl, r3, r4, l3, l4⟩ := rb
  unfold hV
  have D := decF (a := a) (b := b) (fun e => hne (by rw [e]; exact ⟨rfl, rfl, rfl, rfl, rfl⟩))
  have hx : (a.kind ≠ b.kind) ∨ (a.kind = b.kind ∧ a.bins ≠ b.bins) ∨ (a.kind = b.kind ∧ a.bins = b.bins ∧ a.classes ≠ b.classes) ∨ (a.kind = b.kind ∧ a.bins = b.bins ∧ a.classes = b.classes ∧ a.counts.length ≠ b.counts.length) ∨ (a.kind = b.kind ∧ a.bins = b.bins ∧ a.classes = b.classes ∧ a.counts.length = b.counts.length ∧ a.moms.length ≠ b.moms.length) := by omega
  have D' := Lib.hid D
  have f1 : ∀ {x y : Int}, x ≠ y → (x != y) = true := fun h => bne_iff_ne.2 h
  have f2 : ∀ {x y : Int}, x = y → (x != y) = false := fun h => bne_eq_false_iff_eq.2 h
  have i1 : ∀ {x y : Nat}, x ≠ y → (x : Int) ≠ y := fun h => by omega
  have i2 : ∀ {x y : Nat}, x = y → (x : Int) = y := fun h => by omega
  clear hne D r1 r2 r3 r4 l1 l2 l3 l4
  rcases hx with x1 | ⟨x1, x2⟩ | ⟨x1, x2, x3⟩ | ⟨x1, x2, x3, x4⟩ | ⟨x1, x2, x3, x4, x5⟩
  · replace x1 := f1 x1
    clear f1 f2 i1 i2
    go_enter Try.func19, Try.ntmps19
    go_wp2
    go_ret
    exact ⟨D'.out, ((Below.refl _ w).alloc (Nat.le_refl _) _).alloc (by simp) _⟩
  · replace x1 := f2 x1
    replace x2 := f1 x2
    clear f1 f2 i1 i2
    go_enter Try.func19, Try.ntmps19
    go_wp2
    go_ret
    exact ⟨D'.out, ((Below.refl _ w).alloc (Nat.le_refl _) _).alloc (by simp) _⟩
  · replace x1 := f2 x1
    replace x2 := f2 x2
    replace x3 := f1 x3
    clear f1 f2 i1 i2
    go_enter Try.func19, Try.ntmps19
    go_wp2
    go_ret
    exact ⟨D'.out, ((Below.refl _ w).alloc (Nat.le_refl _) _).alloc (by simp) _⟩
  · replace x1 := f2 x1
    replace x2 := f2 x2
    replace x3 := f2 x3
    replace x4 := f1 (i1 x4)
    clear f1 f2 i1 i2
    go_enter Try.func19, Try.ntmps19
    go_wp2
    go_ret
    exact ⟨D'.out, ((Below.refl _ w).alloc (Nat.le_refl _) _).alloc (by simp) _⟩
  · replace x1 := f2 x1
    replace x2 := f2 x2
    replace x3 := f2 x3
    replace x4 := f2 (i2 x4)
    replace x5 := f1 (i1 x5)
    clear f1 f2 i1 i2
    go_enter Try.func19, Try.ntmps19
    go_wp2
    go_ret
    exact ⟨D'.out, ((Below.refl _ w).alloc (Nat.le_refl _) _).alloc (by simp) _⟩
end Go.Proofs.Yteckbgpkoanhfaa.Hb
end

section
/- The walk of layer hist: Sum of classes. -/
namespace Go.Proofs.Yteckbgpkoanhfaa.Hb
open Go.RowKit

/-- One bin's counts, added. -/
def sumIn (h : H) (at0 : Nat) : Nat → Nat → List Int → Except Int (List Int)
  | 0, _, cs => .ok cs
  | r + 1, c, cs => match lim (cs.getD c 0 + h.counts.getD (at0 + c) 0) with
    | none => .error 6
    | some x => sumIn h at0 r (c + 1) (cs.set c x)
def sumC (h : H) (n : Nat) : Nat → Nat → List Int → Except Int (List Int)
  | 0, _, cs => .ok cs
  | r + 1, k, cs => match sumIn h (k * n) n 0 cs with
    | .error e => .error e
    | .ok cs' => sumC h n r (k + 1) cs'
def sumM (h : H) : Nat → Nat → Mom → Except Int Mom
  | 0, _, m => .ok m
  | r + 1, k, m => match momO opP m (mAt h.moms k) with
    | .error e => .error e
    | .ok m' => sumM h r (k + 1) m'
def upC : Except Int (List Int) → Except Int (List Int × Mom)
  | .error e => .error e
  | .ok cs => .ok (cs, m0)
def upM : Except Int Mom → Except Int (List Int × Mom)
  | .error e => .error e
  | .ok m => .ok ([], m)
/-- What bins come to. -/
def sumO (h : H) (f t : Int) : Except Int (List Int × Mom) :=
  if rightP h then
    (if f < 0 ∨ f > t ∨ t > h.bins then .error 1
    else if h.kind = 0 then upC (sumC h h.classes.toNat (t.toNat - f.toNat) f.toNat (List.replicate h.classes.toNat 0))
    else upM (sumM h (t.toNat - f.toNat) f.toNat m0))
  else .error 8
theorem sum_8 {h : H} {f t : Int} (hr : ¬ rightP h) : sumO h f t = .error 8 := if_neg hr
theorem sum_1 {h : H} {f t : Int} (hr : rightP h) (hb : f < 0 ∨ f > t ∨ t > h.bins) : sumO h f t = .error 1 := by unfold sumO; rw [if_pos hr, if_pos hb]
theorem sum_c {h : H} {f t : Int} (hr : rightP h) (hb : ¬ (f < 0 ∨ f > t ∨ t > h.bins)) (hk : h.kind = 0) : sumO h f t = upC (sumC h h.classes.toNat (t.toNat - f.toNat) f.toNat (List.replicate h.classes.toNat 0)) := by unfold sumO; rw [if_pos hr, if_neg hb, if_pos hk]
theorem sum_m {h : H} {f t : Int} (hr : rightP h) (hb : ¬ (f < 0 ∨ f > t ∨ t > h.bins)) (hk : ¬ h.kind = 0) : sumO h f t = upM (sumM h (t.toNat - f.toNat) f.toNat m0) := by unfold sumO; rw [if_pos hr, if_neg hb, if_neg hk]
theorem sumIn_none {h : H} {at0 r c : Nat} {cs : List Int} (hl : lim (cs.getD c 0 + h.counts.getD (at0 + c) 0) = none) : sumIn h at0 (r + 1) c cs = .error 6 := by rw [sumIn, hl]
theorem sumIn_some {h : H} {at0 r c : Nat} {cs : List Int} {x : Int} (hl : lim (cs.getD c 0 + h.counts.getD (at0 + c) 0) = some x) : sumIn h at0 (r + 1) c cs = sumIn h at0 r (c + 1) (cs.set c x) := by rw [sumIn, hl]
theorem sumC_err {h : H} {n r k : Nat} {cs : List Int} {e : Int} (hl : sumIn h (k * n) n 0 cs = .error e) : sumC h n (r + 1) k cs = .error e := by rw [sumC, hl]
theorem sumC_ok {h : H} {n r k : Nat} {cs cs' : List Int} (hl : sumIn h (k * n) n 0 cs = .ok cs') : sumC h n (r + 1) k cs = sumC h n r (k + 1) cs' := by rw [sumC, hl]
theorem sumM_err {h : H} {r k : Nat} {m : Mom} {e : Int} (hl : momO opP m (mAt h.moms k) = .error e) : sumM h (r + 1) k m = .error e := by rw [sumM, hl]
theorem sumM_ok {h : H} {r k : Nat} {m m' : Mom} (hl : momO opP m (mAt h.moms k) = .ok m') : sumM h (r + 1) k m = sumM h r (k + 1) m' := by rw [sumM, hl]
/-- What Sum answers. -/
def SumP (r : Except Int (List Int × Mom)) (w : World) (e : Ending) (w' : World) : Prop :=
  ∃ v, e = .returned (.tuple #[v, momV (valO ([], m0) r).2, .int .i64 (errO r)]) ∧ w'.ownsRow w.heap.size 2 1 v (valO ([], m0) r).1.length (ints (valO ([], m0) r).1) ∧ Below w.heap.size w w'
theorem SumP.err {x : Int} {r : Except Int (List Int × Mom)} (hr : r = .error x) {w w' : World} {e : Ending} (he : e = .returned (.tuple #[.slice none 0 0, .agg #[.int .i64 0, .int .i64 0, .int .i64 0], .int .i64 x])) (hb : Below w.heap.size w w') : SumP r w e w' := by
  subst hr
  exact ⟨_, he, World.ownsRow_nil _ _ _ _, hb⟩
/-- Results, the second of which lies in memory. -/
theorem results_tct {P : Program} {fn : Func} {a p u : Tmp} {ty : TypeId} (h : fn.results = #[.tmp a, .cell p ty, .tmp u]) (tmps : Array Value) (w : World) (g : Nat) (t : TypeId) (cs : Array Value) (d : TypeDesc)
    (hp : tmps.getD p undef = .pointer (some ⟨g, 0, none⟩)) (hg : Blk w g cs t)
    (hu : P.underlying ty = some d) (hd : (match d with | .struct _ | .array _ _ => true | _ => false) = true) (hi : (P.info? ty).map (·.size) = some cs.size) :
    (results fn tmps).run P w = .ok (.tuple #[tmps.getD a undef, .agg cs, tmps.getD u undef]) w := by
  have hp' : tmps[p]?.getD undef = .pointer (some ⟨g, 0, none⟩) := by simpa using hp
  simp [results, h, hp', asAddr, run_loadVar_row w g t ty cs (0, 0) d hg hu hd hi]

theorem bad_test {f t b : Int} (h : f < 0 ∨ f > t ∨ t > b) : (decide (f < 0) || (decide (f > t) || decide (t > b))) = true := by simp only [Bool.or_eq_true, decide_eq_true_iff]; omega

set_option maxRecDepth 100000 in
set_option maxHeartbeats 4000000 in
theorem sum_bad (h : H) (A1 A2 : Option Addr) (c1 c2 : Nat) (f t : Int) (w : World) (hl1 : h.counts.length ≤ 9223372036854775807) (hl2 : h.moms.length ≤ 9223372036854775807) (hr : ¬ rightP h) :
    Calls Try.prog 25 #[hV h A1 A2 c1 c2, .int .i64 f, .int .i64 t] w (SumP (sumO h f t) w) := by
  have ra := fun w => right_any h A1 A2 c1 c2 w hl1 hl2
  rw [show rightB h = false from decide_eq_false hr] at ra
  have RA := Lib.hid ra
  have HS := Lib.hid (sum_8 (f := f) (t := t) hr)
  unfold hV at RA ⊢
  clear ra hl1 hl2 hr
  go_enter Try.func25, Try.ntmps25
  go_wp2_with fail
  obtain ⟨W2, e2⟩ : ∃ W2, W2 = (w.alloc (.cells #[.int .i64 h.kind, .int .i64 h.bins, .int .i64 h.classes, .slice A1 h.counts.length c1, .slice A2 h.moms.length c2] 36)).alloc (.cells #[.int .i64 0, .int .i64 0, .int .i64 0] 52) := ⟨_, rfl⟩
  rw [← e2]
  obtain ⟨k0, k1, kb, ks⟩ := boxes2' w _ _ _ _ W2 e2
  clear e2
  refine (RA.out _).mono ?_
  rintro e w1 ⟨rfl, hb⟩
  replace k1 := k1.below hb
  replace kb := kb.trans (hb.mono kb.size)
  obtain ⟨q0, q1, q2⟩ := cells3 k1
  have qf := k1.frozen
  go_wp2
  refine bodyPost_ret (results_tct rfl _ _ (w.heap.size + 1) 52 _ _ rfl (set3 k1 _ _ _) Try.underlying52 rfl size_mom) rfl ?_
  exact SumP.err HS.out rfl (below3 kb (by omega) _ _ _)

set_option maxRecDepth 100000 in
set_option maxHeartbeats 4000000 in
theorem sum_range (h : H) (A1 A2 : Option Addr) (c1 c2 : Nat) (f t : Int) (w : World) (hl1 : h.counts.length ≤ 9223372036854775807) (hl2 : h.moms.length ≤ 9223372036854775807) (hr : rightP h) (hbad : f < 0 ∨ f > t ∨ t > h.bins) :
    Calls Try.prog 25 #[hV h A1 A2 c1 c2, .int .i64 f, .int .i64 t] w (SumP (sumO h f t) w) := by
  have ra := fun w => right_any h A1 A2 c1 c2 w hl1 hl2
  rw [show rightB h = true from decide_eq_true hr] at ra
  have RA := Lib.hid ra
  have HS := Lib.hid (sum_1 (f := f) (t := t) hr hbad)
  unfold hV at RA ⊢
  have hx : (f < 0) ∨ (¬ f < 0 ∧ f > t) ∨ (¬ f < 0 ∧ ¬ f > t ∧ t > h.bins) := by omega
  clear ra hl1 hl2 hr hbad
  rcases hx with x1 | ⟨x1, x2⟩ | ⟨x1, x2, x3⟩
  · have d1 : decide (f < 0) = true := decide_eq_true x1
    clear x1
    go_enter Try.func25, Try.ntmps25
    go_wp2_with fail
    obtain ⟨W2, e2⟩ : ∃ W2, W2 = (w.alloc (.cells #[.int .i64 h.kind, .int .i64 h.bins, .int .i64 h.classes, .slice A1 h.counts.length c1, .slice A2 h.moms.length c2] 36)).alloc (.cells #[.int .i64 0, .int .i64 0, .int .i64 0] 52) := ⟨_, rfl⟩
    rw [← e2]
    obtain ⟨k0, k1, kb, ks⟩ := boxes2' w _ _ _ _ W2 e2
    clear e2
    refine (RA.out _).mono ?_
    rintro e w1 ⟨rfl, hb⟩
    replace k0 := k0.below hb
    replace k1 := k1.below hb
    replace kb := kb.trans (hb.mono kb.size)
    obtain ⟨p0, p1, p2, p3, p4⟩ := k0.cells5
    obtain ⟨q0, q1, q2⟩ := cells3 k1
    have qf := k1.frozen
    go_wp2
    refine bodyPost_ret (results_tct rfl _ _ (w.heap.size + 1) 52 _ _ rfl (set3 k1 _ _ _) Try.underlying52 rfl size_mom) rfl ?_
    exact SumP.err HS.out rfl (below3 kb (by omega) _ _ _)
  · have d1 : decide (f < 0) = false := decide_eq_false x1
    have d2 : decide (t < f) = true := decide_eq_true x2
    clear x1 x2
    go_enter Try.func25, Try.ntmps25
    go_wp2_with fail
    obtain ⟨W2, e2⟩ : ∃ W2, W2 = (w.alloc (.cells #[.int .i64 h.kind, .int .i64 h.bins, .int .i64 h.classes, .slice A1 h.counts.length c1, .slice A2 h.moms.length c2] 36)).alloc (.cells #[.int .i64 0, .int .i64 0, .int .i64 0] 52) := ⟨_, rfl⟩
    rw [← e2]
    obtain ⟨k0, k1, kb, ks⟩ := boxes2' w _ _ _ _ W2 e2
    clear e2
    refine (RA.out _).mono ?_
    rintro e w1 ⟨rfl, hb⟩
    replace k0 := k0.below hb
    replace k1 := k1.below hb
    replace kb := kb.trans (hb.mono kb.size)
    obtain ⟨p0, p1, p2, p3, p4⟩ := k0.cells5
    obtain ⟨q0, q1, q2⟩ := cells3 k1
    have qf := k1.frozen
    go_wp2
    refine bodyPost_ret (results_tct rfl _ _ (w.heap.size + 1) 52 _ _ rfl (set3 k1 _ _ _) Try.underlying52 rfl size_mom) rfl ?_
    exact SumP.err HS.out rfl (below3 kb (by omega) _ _ _)
  · have d1 : decide (f < 0) = false := decide_eq_false x1
    have d2 : decide (t < f) = false := decide_eq_false x2
    have d3 : decide (h.bins < t) = true := decide_eq_true x3
    clear x1 x2 x3
    go_enter Try.func25, Try.ntmps25
    go_wp2_with fail
    obtain ⟨W2, e2⟩ : ∃ W2, W2 = (w.alloc (.cells #[.int .i64 h.kind, .int .i64 h.bins, .int .i64 h.classes, .slice A1 h.counts.length c1, .slice A2 h.moms.length c2] 36)).alloc (.cells #[.int .i64 0, .int .i64 0, .int .i64 0] 52) := ⟨_, rfl⟩
    rw [← e2]
    obtain ⟨k0, k1, kb, ks⟩ := boxes2' w _ _ _ _ W2 e2
    clear e2
    refine (RA.out _).mono ?_
    rintro e w1 ⟨rfl, hb⟩
    replace k0 := k0.below hb
    replace k1 := k1.below hb
    replace kb := kb.trans (hb.mono kb.size)
    obtain ⟨p0, p1, p2, p3, p4⟩ := k0.cells5
    obtain ⟨q0, q1, q2⟩ := cells3 k1
    have qf := k1.frozen
    go_wp2
    refine bodyPost_ret (results_tct rfl _ _ (w.heap.size + 1) 52 _ _ rfl (set3 k1 _ _ _) Try.underlying52 rfl size_mom) rfl ?_
    exact SumP.err HS.out rfl (below3 kb (by omega) _ _ _)

/-- The blocks of a call of Sum. -/
structure SB (x0 x1 x2 x3 x4 : Value) (m : Mom) (n gA : Nat) (w W : World) : Prop where
  b0 : Blk W n #[x0, x1, x2, x3, x4] 36
  b1 : Blk W (n + 1) #[.int .i64 0, .int .i64 0, .int .i64 0] 52
  b2 : Blk W gA #[.int .i64 m.c, .int .i64 m.s, .int .i64 m.q] 52
  be : Below n w W
  lt : n + 1 < gA
theorem SB.below {x0 x1 x2 x3 x4 : Value} {m : Mom} {n gA : Nat} {w W W1 : World} (h : SB x0 x1 x2 x3 x4 m n gA w W) (hb : Below W.heap.size W W1) : SB x0 x1 x2 x3 x4 m n gA w W1 :=
  ⟨h.b0.below hb, h.b1.below hb, h.b2.below hb, h.be.trans (hb.mono (by have := h.b0.lt; omega)), h.lt⟩
theorem SB.drewN {x0 x1 x2 x3 x4 : Value} {m : Mom} {n gA : Nat} {w W : World} (h : SB x0 x1 x2 x3 x4 m n gA w W) (k : Nat) : SB x0 x1 x2 x3 x4 m n gA w (W.drewN k) :=
  ⟨h.b0.drewN k, h.b1.drewN k, h.b2.drewN k, below_drewN h.be k, h.lt⟩
theorem SB.store {x0 x1 x2 x3 x4 : Value} {m : Mom} {n gA gr c nn i : Nat} {w W : World} {xs : List Value} {u : Value} (h : SB x0 x1 x2 x3 x4 m n gA w W) (ho : W.ownsRow n 2 1 (.slice (some ⟨gr, 0, none⟩) nn c) nn xs) : SB x0 x1 x2 x3 x4 m n gA w (W.setCell ⟨gr, i, none⟩ u) :=
  ⟨h.b0.other (p := ⟨gr, i, none⟩) (row_ne h.b0 ho (by decide)) _, h.b1.other (p := ⟨gr, i, none⟩) (row_ne h.b1 ho (by decide)) _, h.b2.other (p := ⟨gr, i, none⟩) (row_ne h.b2 ho (by decide)) _, h.be.setCell (p := ⟨gr, i, none⟩) (World.ownsRow.lt ho gr rfl).1 _, h.lt⟩
theorem SB.cells {x0 x1 x2 x3 x4 : Value} {m : Mom} {n gA : Nat} {w W : World} (h : SB x0 x1 x2 x3 x4 m n gA w W) :
    (W.cell? ⟨n, 0, none⟩ = some x0 ∧ W.cell? ⟨n, 1, none⟩ = some x1 ∧ W.cell? ⟨n, 2, none⟩ = some x2 ∧ W.cell? ⟨n, 3, none⟩ = some x3 ∧ W.cell? ⟨n, 4, none⟩ = some x4) ∧
    (W.cell? ⟨n + 1, 0, none⟩ = some (.int .i64 0) ∧ W.cell? ⟨n + 1, 1, none⟩ = some (.int .i64 0) ∧ W.cell? ⟨n + 1, 2, none⟩ = some (.int .i64 0)) ∧
    (W.cell? ⟨gA, 0, none⟩ = some (.int .i64 m.c) ∧ W.cell? ⟨gA, 1, none⟩ = some (.int .i64 m.s) ∧ W.cell? ⟨gA, 2, none⟩ = some (.int .i64 m.q)) ∧
    (∀ i, W.frozen? ⟨n + 1, i, none⟩ = false) ∧ (∀ i, W.frozen? ⟨gA, i, none⟩ = false) := ⟨h.b0.cells5, cells3 h.b1, cells3 h.b2, h.b1.frozen, h.b2.frozen⟩
theorem blk_grown' {w w' : World} {g : Nat} {cs : Array Value} {t : TypeId} (h : Blk w g cs t) (hg : w.grownBy w' none) : Blk w' g cs t := (hg.block g h.lt (by simp)).trans h
theorem set_inR {cs : List Int} {i : Nat} {x : Int} (h : ∀ y ∈ cs, inR y) (hx : inR x) : ∀ y ∈ cs.set i x, inR y := by
  intro y hy
  rcases List.mem_or_eq_of_mem_set hy with hy | rfl
  · exact h y hy
  · exact hx
theorem getD_inR {cs : List Int} {i : Nat} (h : ∀ y ∈ cs, inR y) (hi : i < cs.length) : inR (cs.getD i 0) := by
  rw [List.getD_eq_getElem?_getD, List.getElem?_eq_getElem hi]
  exact h _ (List.getElem_mem hi)
theorem ints_at {cs : List Int} {i : Nat} (hi : i < cs.length) : (ints cs)[i]? = some (.int .i64 (cs.getD i 0)) := by
  simp [ints, List.getD_eq_getElem?_getD, List.getElem?_eq_getElem hi]
theorem sum_at {k n c b : Nat} (h1 : k < b) (h2 : c < n) : k * n + c < b * n := by
  have : (k + 1) * n ≤ b * n := Nat.mul_le_mul_right _ h1
  rw [Nat.add_mul, Nat.one_mul] at this
  omega
end Go.Proofs.Yteckbgpkoanhfaa.Hb
end

section
/- The walk of layer hist: Sum of classes, its loops. -/
namespace Go.Proofs.Yteckbgpkoanhfaa.Hb
open Go.RowKit

set_option maxRecDepth 100000 in
set_option maxHeartbeats 8000000 in
theorem sum_count (b n : Nat) (cnt : List Int) (ms : List Mom) (A1 A2 : Option Addr) (c1 c2 : Nat) (f t : Nat) (w : World) (r1 : RdI w A1 cnt) (hl2 : ms.length ≤ 9223372036854775807) (hr : rightP ⟨0, b, n, cnt, ms⟩) (hft : f ≤ t) (htb : t ≤ b) (hn : n ≤ 256) (hb257 : b ≤ 257) (hlen : cnt.length = b * n) :
    Calls Try.prog 25 #[hV ⟨0, b, n, cnt, ms⟩ A1 A2 c1 c2, .int .i64 f, .int .i64 t] w (SumP (upC (sumC ⟨0, b, n, cnt, ms⟩ n (t - f) f (List.replicate n 0))) w) := by
  obtain ⟨i0, hi, hz0, hz1, hz2⟩ := info_parts info_int
  have hbn : b * n ≤ 65792 := by have := Nat.mul_le_mul hb257 hn; omega
  have ra := fun w => right_any ⟨0, b, n, cnt, ms⟩ A1 A2 c1 c2 w (by show cnt.length ≤ _; omega) hl2
  rw [show rightB ⟨0, b, n, cnt, ms⟩ = true from decide_eq_true hr] at ra
  unfold hV at ra ⊢
  simp only at ra ⊢
  obtain ⟨L, hL⟩ : ∃ L, cnt.length = L := ⟨_, rfl⟩
  rw [hL] at ra hlen ⊢
  have HL := Lib.hid hL
  have RA := Lib.hid ra
  have HR1 := Lib.hid r1
  obtain ⟨S, hS⟩ : ∃ S, sumC ⟨0, b, n, cnt, ms⟩ n (t - f) f (List.replicate n 0) = S := ⟨_, rfl⟩
  rw [hS]
  have HS := Lib.hid hS
  have d1 : decide ((f : Int) < 0) = false := decide_eq_false (by omega)
  have d2 : decide (t < f) = false := decide_eq_false (by omega)
  have d3 : decide (b < t) = false := decide_eq_false (by omega)
  have hL65 : L ≤ 65792 := by omega
  have HLEN := Lib.hid hlen
  clear ra r1 hr hl2 hL hS hlen
  have zn : (n : Int).toNat = n := Int.toNat_natCast n
  go_enter Try.func25, Try.ntmps25
  go_wp2_with fail
  obtain ⟨W2, e2⟩ : ∃ W2, W2 = (w.alloc (.cells #[.int .i64 0, .int .i64 b, .int .i64 n, .slice A1 L c1, .slice A2 ms.length c2] 36)).alloc (.cells #[.int .i64 0, .int .i64 0, .int .i64 0] 52) := ⟨_, rfl⟩
  rw [← e2]
  obtain ⟨k0, k1, kb, ks⟩ := boxes2' w _ _ _ _ W2 e2
  clear e2
  refine (RA.out _).mono ?_
  rintro e w1 ⟨rfl, hb⟩
  replace k0 := k0.below hb
  replace k1 := k1.below hb
  replace kb := kb.trans (hb.mono kb.size)
  clear hb ks
  obtain ⟨p0, p1, p2, p3, p4⟩ := k0.cells5
  go_wp2_with (at_make; refine wpList_make_full _ rfl _ _ 33 rfl w.heap.size 2 i0 (.int .i64 0) 1 Try.underlying33 hi hz0 hz1 .i64 .i64 _ _ n rfl rfl rfl rfl (by rw [hz2]; omega) (by unfold maxLen; omega) kb.size ?_; intro w2 hown hgrow)
  have hb2 : Below w.heap.size w w2 := kb.grown hgrow kb.size (fun k hk => by cases hk)
  have s12 : w1.heap.size ≤ w2.heap.size := hgrow.size
  have hw1 : w.heap.size ≤ w1.heap.size := kb.size
  have kl := k1.lt
  have k0' := blk_grown' k0 hgrow
  have k1' := blk_grown' k1 hgrow
  obtain ⟨W3, e3⟩ : ∃ W3, W3 = w2.alloc (.cells #[.int .i64 0, .int .i64 0, .int .i64 0] 52) := ⟨_, rfl⟩
  rw [← e3]
  have sb : SB (.int .i64 0) (.int .i64 b) (.int .i64 n) (.slice A1 L c1) (.slice A2 ms.length c2) m0 w.heap.size w2.heap.size w W3 := by
    rw [e3]
    exact ⟨k0'.below ((Below.refl _ _).alloc (Nat.le_refl _) _), k1'.below ((Below.refl _ _).alloc (Nat.le_refl _) _), Blk.new _ _ _, hb2.alloc hb2.size _, Nat.lt_of_lt_of_le kl s12⟩
  have hrow : W3.ownsRow w.heap.size 2 1 (.slice (some ⟨w1.heap.size, 0, none⟩) n n) n (ints (List.replicate n 0)) := by
    rw [e3, ints_zeros, ← toList_madeCells_one]
    rw [Nat.mul_one] at hown
    exact hown.alloc _
  obtain ⟨gA, hgA⟩ : ∃ gA, w2.heap.size = gA := ⟨_, rfl⟩
  obtain ⟨gr, hgr⟩ : ∃ gr, w1.heap.size = gr := ⟨_, rfl⟩
  rw [hgA] at sb ⊢
  rw [hgr] at hrow ⊢
  clear e3 hown hgrow hb2 k0 k1 k0' k1' kl kb hgA hgr s12 hw1 p0 p1 p2 p3 p4 hi hz0 hz1 hz2 zn
  go_loopw [11] (fun iv wr => ∃ (k : Nat) (cs : List Int), f ≤ k ∧ k ≤ t ∧ iv = .int .i64 k ∧ Hid (cs.length = n) ∧ Hid (∀ y ∈ cs, inR y) ∧ Hid (sumC ⟨0, b, n, cnt, ms⟩ n (t - k) k cs = S) ∧ wr.ownsRow w.heap.size 2 1 (.slice (some ⟨gr, 0, none⟩) n n) n (ints cs) ∧ SB (.int .i64 0) (.int .i64 b) (.int .i64 n) (.slice A1 L c1) (.slice A2 ms.length c2) m0 w.heap.size gA w wr) (fun iv _ => t - (intOf iv).toNat)
  case atStart => exact ⟨f, List.replicate n 0, Nat.le_refl _, hft, rfl, Lib.hid (by simp), Lib.hid (by intro y hy; rw [List.eq_of_mem_replicate hy]; decide), HS, hrow, sb⟩
  case round =>
    obtain ⟨k, cs, hfk, hkt, rfl, HCL, HCR, HSC, hro, hsb⟩ := hrel
    by_cases hlt : k < t
    · obtain ⟨wo, rfl⟩ : ∃ wo : World, wo = wr := ⟨_, rfl⟩
      clear hrow sb
      go_wp2
      go_loopw [51] (fun cv wr => ∃ (c : Nat) (ds : List Int), c ≤ n ∧ cv = .int .i64 c ∧ Hid (ds.length = n) ∧ Hid (∀ y ∈ ds, inR y) ∧ Hid (sumIn ⟨0, b, n, cnt, ms⟩ (k * n) n 0 cs = sumIn ⟨0, b, n, cnt, ms⟩ (k * n) (n - c) c ds) ∧ wr.ownsRow w.heap.size 2 1 (.slice (some ⟨gr, 0, none⟩) n n) n (ints ds) ∧ SB (.int .i64 0) (.int .i64 b) (.int .i64 n) (.slice A1 L c1) (.slice A2 ms.length c2) m0 w.heap.size gA w wr) (fun cv _ => n - (intOf cv).toNat)
      case atStart => exact ⟨0, cs, by omega, rfl, HCL, HCR, Lib.hid rfl, hro, hsb⟩
      case round =>
        obtain ⟨c, ds, hcn, rfl, HDL, HDR, HIN, hrd, hsd⟩ := hrel
        obtain ⟨⟨p0, p1, p2, p3, p4⟩, ⟨q0, q1, q2⟩, ⟨a0, a1, a2⟩, qf, af⟩ := hsd.cells
        by_cases hlc : c < n
        · have hat := sum_at (k := k) (b := b) (show k < b by omega) hlc
          obtain ⟨P, hP⟩ : ∃ P, k * n = P := ⟨_, rfl⟩
          have hPi : (k : Int) * (n : Int) = (P : Int) := by rw [← hP]; simp
          rw [hP] at hat
          rw [← HLEN.out] at hat
          have hr1 := (HR1.out.below hsd.be).at (k := P + c) (by rw [HL.out]; exact hat)
          have hx1 := (HR1.out).inR (k := P + c) (by rw [HL.out]; exact hat)
          obtain ⟨ad, rfl, hr2⟩ := hr1
          have x1 := hr2 (P + c) (by rw [HL.out]; exact hat)
          have x2 := own_cell hrd (ints_at (i := c) (by rw [HDL.out]; exact hlc))
          have hx2 := getD_inR HDR.out (i := c) (by rw [HDL.out]; exact hlc)
          have xf := World.ownsRow.frozenAt hrd c
          obtain ⟨u, hu⟩ : ∃ u, ds.getD c 0 = u := ⟨_, rfl⟩
          obtain ⟨v, hv⟩ : ∃ v, cnt.getD (P + c) 0 = v := ⟨_, rfl⟩
          rw [hu] at x2 hx2
          rw [hv] at x1 hx1
          have hp := fun w => pplus_any u v hx2 hx1 w
          have hnc : n - c = (n - (c + 1)) + 1 := by omega
          have w4 : (P : Int) + (c : Int) < L := by omega
          have w3 : 0 ≤ (P : Int) + (c : Int) := by omega
          have w2 : ((P : Int) + (c : Int)).toNat = P + c := by omega
          have w0 : IntKind.i64.wrap ((k : Int) * (n : Int)) = (P : Int) := by rw [hPi]; exact IntWalk.i64_in _ ⟨by omega, by omega⟩
          have w1 : IntKind.i64.wrap ((P : Int) + (c : Int)) = (P : Int) + c := IntWalk.i64_in _ ⟨by clear w0; omega, by clear w0; omega⟩
          cases hlim : lim (u + v) with
          | none =>
            rw [hlim] at hp
            simp only [res] at hp
            have HP := Lib.hid hp
            have HE := Lib.hid (sumIn_none (h := ⟨0, b, n, cnt, ms⟩) (at0 := k * n) (r := n - (c + 1)) (c := c) (cs := ds) (by rw [hu, hP]; show lim (u + cnt.getD (P + c) 0) = none; rw [hv]; exact hlim))
            rw [hnc] at HIN
            have HNC := Lib.hid hnc
            clear hp hlim hnc hu hv hP hPi hr2 hx1 hx2
            go_wp2
            go_quiet ((go_at_call 45; exact Calls.quiet_of_same ((HP.out _).mono fun _ _ h => ⟨h.1, h.2.symm⟩)))
            go_wp2
            refine bodyPost_ret (results_tct rfl _ _ (w.heap.size + 1) 52 _ _ rfl (set3 (hsd.drewN _).b1 _ _ _) Try.underlying52 rfl size_mom) rfl ?_
            refine SumP.err (x := 6) ?_ rfl (below3 (hsd.drewN _).be (by omega) _ _ _)
            rw [← HSC.out, show t - k = (t - (k + 1)) + 1 by omega, sumC_err (HIN.out.trans HE.out)]
            rfl
          | some z =>
            rw [hlim] at hp
            simp only [res] at hp
            have HP := Lib.hid hp
            have HE := Lib.hid (sumIn_some (h := ⟨0, b, n, cnt, ms⟩) (at0 := k * n) (r := n - (c + 1)) (c := c) (cs := ds) (x := z) (by rw [hu, hP]; show lim (u + cnt.getD (P + c) 0) = some z; rw [hv]; exact hlim))
            have HZ := Lib.hid (show inR z by have := lim_some hlim; rw [this.1]; exact this.2)
            rw [hnc] at HIN
            clear hp hlim hnc hu hv hP hPi hr2 hx1 hx2
            go_wp2
            go_quiet ((go_at_call 45; exact Calls.quiet_of_same ((HP.out _).mono fun _ _ h => ⟨h.1, h.2.symm⟩)))
            go_wp2
            go_roundw
            case rel => exact ⟨c + 1, ds.set c z, hlc, by go_num, Lib.hid (by rw [List.length_set]; exact HDL.out), Lib.hid (set_inR HDR.out HZ.out), Lib.hid (HIN.out.trans HE.out), by rw [← ints_set]; exact (World.ownsRow.stored (own_drewN hrd _) c (.int .i64 z)).1, (hsd.drewN _).store (own_drewN hrd _)⟩
            case measure => simp [intOf]; omega
        · obtain rfl : c = n := by omega
          have HE := Lib.hid (HIN.out.trans (by rw [Nat.sub_self]; rfl : _ = .ok ds))
          clear hlc
          go_wp2
          go_roundw
          case rel => exact ⟨k + 1, ds, by omega, hlt, by go_num, HDL, HDR, Lib.hid (by rw [← HSC.out, show t - k = (t - (k + 1)) + 1 by omega, sumC_ok HE.out]), hrd, hsd⟩
          case measure => simp [intOf]; omega
    · obtain rfl : k = t := by omega
      obtain ⟨⟨p0, p1, p2, p3, p4⟩, ⟨q0, q1, q2⟩, ⟨a0, a1, a2⟩, qf, af⟩ := hsb.cells
      have HE := Lib.hid (HSC.out.symm.trans (by rw [Nat.sub_self]; rfl : _ = .ok cs))
      replace a0 : wr.cell? ⟨gA, 0, none⟩ = some (.int .i64 0) := a0
      replace a1 : wr.cell? ⟨gA, 1, none⟩ = some (.int .i64 0) := a1
      replace a2 : wr.cell? ⟨gA, 2, none⟩ = some (.int .i64 0) := a2
      have lA := hsb.lt
      have n1 : w.heap.size + 1 ≠ gA := by omega
      have n2 : gA ≠ w.heap.size + 1 := by omega
      clear hlt
      go_wp2
      go_region_held3 (fun W => W.cell? ⟨gA, 0, none⟩ = some (.int .i64 0) ∧ W.cell? ⟨gA, 1, none⟩ = some (.int .i64 0) ∧ W.cell? ⟨gA, 2, none⟩ = some (.int .i64 0)) (go_keep) (fail)
      all_goals
        go_wp2
        refine bodyPost_ret (results_tct rfl _ _ (w.heap.size + 1) 52 _ _ rfl (set3 hsb.b1 _ _ _) Try.underlying52 rfl size_mom) rfl ?_
        have hS := HE.out
        refine ⟨.slice (some ⟨gr, 0, none⟩) n n, ?_, ?_, below3 (hsb.drewN 1).be (by omega) _ _ _⟩
        · rw [hS]; rfl
        · rw [hS]
          show World.ownsRow _ _ _ _ _ cs.length (ints cs)
          rw [HCL.out]
          exact own_set (own_set (own_set (own_drewN hro 1) (hsb.drewN 1).b1 (by decide)) ((hsb.drewN 1).b1.set 0 _) (by decide)) (((hsb.drewN 1).b1.set 0 _).set 1 _) (by decide)
end Go.Proofs.Yteckbgpkoanhfaa.Hb
end

section
/- The walk of layer hist: Sum of means. -/
namespace Go.Proofs.Yteckbgpkoanhfaa.Hb
open Go.RowKit

theorem moments_b (f : Nat) (w : World) : Calls Try.prog 47 #[.func (.func f) #[] #[]] w fun e w' => e = .returned (.func (.func 67) #[] #[.pointer (some ⟨w.heap.size, 0, none⟩)]) ∧ w'.cell? ⟨w.heap.size, 0, none⟩ = some (.func (.func f) #[] #[]) ∧ Below w.heap.size w w' ∧ w.heap.size < w'.heap.size := by
  refine (moments_any f w).mono ?_
  rintro e w' ⟨rfl, rfl⟩
  exact ⟨rfl, (Blk.new w #[.func (.func f) #[] #[]] 109).cells1, (Below.refl _ _).alloc (Nat.le_refl _) _, by simp⟩
theorem relS1 {wr w3 w1 : World} {t : TypeId} (z0 z1 z2 a b c : Value) (h3 : Below (wr.alloc (.cells #[z0, z1, z2] t)).drew.heap.size (wr.alloc (.cells #[z0, z1, z2] t)).drew w3) (hb : Below w3.heap.size w3 w1) :
    Blk (((w1.setCell ⟨wr.heap.size, 0, none⟩ a).setCell ⟨wr.heap.size, 1, none⟩ b).setCell ⟨wr.heap.size, 2, none⟩ c) wr.heap.size #[a, b, c] t ∧ wr.heap.size ≤ wr.heap.size ∧
    Below wr.heap.size wr (((w1.setCell ⟨wr.heap.size, 0, none⟩ a).setCell ⟨wr.heap.size, 1, none⟩ b).setCell ⟨wr.heap.size, 2, none⟩ c) := by
  have h0 : Blk (wr.alloc (.cells #[z0, z1, z2] t)).drew wr.heap.size #[z0, z1, z2] t := Blk.new wr #[z0, z1, z2] t
  have h2 : Below wr.heap.size wr (wr.alloc (.cells #[z0, z1, z2] t)).drew := ((Below.refl _ wr).alloc (Nat.le_refl _) _).drew
  have h5 := h2.trans (h3.mono h2.size)
  exact ⟨set3 ((h0.below h3).below hb) a b c, Nat.le_refl _, below3 (h5.trans (hb.mono h5.size)) (Nat.le_refl _) a b c⟩
theorem relS2 {wr w3 w1 : World} {t : TypeId} (z0 z1 z2 a b c : Value) (h3 : Below wr.drew.heap.size wr.drew w3) (hb : Below (w3.alloc (.cells #[z0, z1, z2] t)).heap.size (w3.alloc (.cells #[z0, z1, z2] t)) w1) :
    Blk (((w1.setCell ⟨w3.heap.size, 0, none⟩ a).setCell ⟨w3.heap.size, 1, none⟩ b).setCell ⟨w3.heap.size, 2, none⟩ c) w3.heap.size #[a, b, c] t ∧ wr.heap.size ≤ w3.heap.size ∧
    Below wr.heap.size wr (((w1.setCell ⟨w3.heap.size, 0, none⟩ a).setCell ⟨w3.heap.size, 1, none⟩ b).setCell ⟨w3.heap.size, 2, none⟩ c) := by
  have h0 : Blk (w3.alloc (.cells #[z0, z1, z2] t)) w3.heap.size #[z0, z1, z2] t := Blk.new w3 #[z0, z1, z2] t
  have h4 : Below wr.heap.size wr w3 := ((Below.refl _ wr).drew).trans h3
  have h2 : Below wr.heap.size wr (w3.alloc (.cells #[z0, z1, z2] t)) := h4.alloc h4.size _
  exact ⟨set3 (h0.below hb) a b c, h4.size, below3 (h2.trans (hb.mono h2.size)) h4.size a b c⟩
theorem relS3 {wr w3 w1 : World} {t : TypeId} (a b c : Value) (h3 : Below wr.drew.heap.size wr.drew w3) (hb : Below w3.heap.size w3 w1) :
    Blk (w1.alloc (.cells #[a, b, c] t)) w1.heap.size #[a, b, c] t ∧ wr.heap.size ≤ w1.heap.size ∧ Below wr.heap.size wr (w1.alloc (.cells #[a, b, c] t)) := by
  have h4 : Below wr.heap.size wr w3 := ((Below.refl _ wr).drew).trans h3
  have h5 := h4.trans (hb.mono h4.size)
  exact ⟨Blk.new _ _ _, h5.size, h5.alloc h5.size _⟩
theorem SB.all {x0 x1 x2 x3 x4 : Value} {m m' : Mom} {n gA : Nat} {w W : World} (h : SB x0 x1 x2 x3 x4 m n gA w W) : SB x0 x1 x2 x3 x4 m' n gA w (((W.setCell ⟨gA, 0, none⟩ (.int .i64 m'.c)).setCell ⟨gA, 1, none⟩ (.int .i64 m'.s)).setCell ⟨gA, 2, none⟩ (.int .i64 m'.q)) where
  b0 := ((h.b0.other (p := ⟨gA, 0, none⟩) (by have := h.lt; show n ≠ gA; omega) _).other (p := ⟨gA, 1, none⟩) (by have := h.lt; show n ≠ gA; omega) _).other (p := ⟨gA, 2, none⟩) (by have := h.lt; show n ≠ gA; omega) _
  b1 := ((h.b1.other (p := ⟨gA, 0, none⟩) (by have := h.lt; show n + 1 ≠ gA; omega) _).other (p := ⟨gA, 1, none⟩) (by have := h.lt; show n + 1 ≠ gA; omega) _).other (p := ⟨gA, 2, none⟩) (by have := h.lt; show n + 1 ≠ gA; omega) _
  b2 := set3 h.b2 _ _ _
  be := below3 h.be (by have := h.lt; omega) _ _ _
  lt := h.lt

set_option maxRecDepth 100000 in
set_option maxHeartbeats 8000000 in
theorem sum_moms (b : Nat) (cnt : List Int) (ms : List Mom) (A1 A2 : Option Addr) (c1 c2 : Nat) (f t : Nat) (w : World) (r2 : RdM w A2 ms) (hl1 : cnt.length ≤ 9223372036854775807) (hr : rightP ⟨1, b, 0, cnt, ms⟩) (hft : f ≤ t) (htb : t ≤ b) (hb257 : b ≤ 257) (hlen : ms.length = b) :
    Calls Try.prog 25 #[hV ⟨1, b, 0, cnt, ms⟩ A1 A2 c1 c2, .int .i64 f, .int .i64 t] w (SumP (upM (sumM ⟨1, b, 0, cnt, ms⟩ (t - f) f m0)) w) := by
  have ra := fun w => right_any ⟨1, b, 0, cnt, ms⟩ A1 A2 c1 c2 w hl1 (by show ms.length ≤ _; omega)
  rw [show rightB ⟨1, b, 0, cnt, ms⟩ = true from decide_eq_true hr] at ra
  unfold hV at ra ⊢
  simp only at ra ⊢
  obtain ⟨L, hL⟩ : ∃ L, ms.length = L := ⟨_, rfl⟩
  rw [hL] at ra hlen ⊢
  have HL := Lib.hid hL
  have RA := Lib.hid ra
  have HR2 := Lib.hid r2
  obtain ⟨S, hS⟩ : ∃ S, sumM ⟨1, b, 0, cnt, ms⟩ (t - f) f m0 = S := ⟨_, rfl⟩
  rw [hS]
  have HS := Lib.hid hS
  have d1 : decide ((f : Int) < 0) = false := decide_eq_false (by omega)
  have d2 : decide (t < f) = false := decide_eq_false (by omega)
  have d3 : decide (b < t) = false := decide_eq_false (by omega)
  have HLEN := Lib.hid hlen
  clear ra r2 hr hl1 hL hS hlen
  go_enter Try.func25, Try.ntmps25
  go_wp2_with fail
  obtain ⟨W2, e2⟩ : ∃ W2, W2 = (w.alloc (.cells #[.int .i64 1, .int .i64 b, .int .i64 0, .slice A1 cnt.length c1, .slice A2 L c2] 36)).alloc (.cells #[.int .i64 0, .int .i64 0, .int .i64 0] 52) := ⟨_, rfl⟩
  rw [← e2]
  obtain ⟨k0, k1, kb, ks⟩ := boxes2' w _ _ _ _ W2 e2
  clear e2
  refine (RA.out _).mono ?_
  rintro e w1 ⟨rfl, hb⟩
  replace k0 := k0.below hb
  replace k1 := k1.below hb
  replace kb := kb.trans (hb.mono kb.size)
  clear hb ks
  obtain ⟨p0, p1, p2, p3, p4⟩ := k0.cells5
  go_wp2
  obtain ⟨W3, e3⟩ : ∃ W3, W3 = w1.alloc (.cells #[.int .i64 0, .int .i64 0, .int .i64 0] 52) := ⟨_, rfl⟩
  rw [← e3]
  have sb : SB (.int .i64 1) (.int .i64 b) (.int .i64 0) (.slice A1 cnt.length c1) (.slice A2 L c2) m0 w.heap.size w1.heap.size w W3 := by
    rw [e3]
    exact ⟨k0.below ((Below.refl _ _).alloc (Nat.le_refl _) _), k1.below ((Below.refl _ _).alloc (Nat.le_refl _) _), Blk.new _ _ _, kb.alloc kb.size _, k1.lt⟩
  obtain ⟨gA, hgA⟩ : ∃ gA, w1.heap.size = gA := ⟨_, rfl⟩
  rw [hgA] at sb ⊢
  clear e3 k0 k1 kb hgA p0 p1 p2 p3 p4
  go_loopw [11] (fun iv wr => ∃ (k : Nat) (m : Mom), f ≤ k ∧ k ≤ t ∧ iv = .int .i64 k ∧ Hid m.ok ∧ Hid (sumM ⟨1, b, 0, cnt, ms⟩ (t - k) k m = S) ∧ SB (.int .i64 1) (.int .i64 b) (.int .i64 0) (.slice A1 cnt.length c1) (.slice A2 L c2) m w.heap.size gA w wr) (fun iv _ => t - (intOf iv).toNat)
  case atStart => exact ⟨f, m0, Nat.le_refl _, hft, rfl, Lib.hid (by unfold Mom.ok m0; decide), HS, sb⟩
  case round =>
    obtain ⟨k, m, hfk, hkt, rfl, HMR, HSM, hsb⟩ := hrel
    clear sb
    by_cases hlt : k < t
    · obtain ⟨wo, rfl⟩ : ∃ wo : World, wo = wr := ⟨_, rfl⟩
      go_wp2
      go_loopw [51] (fun cv wr => cv = .int .i64 0 ∧ SB (.int .i64 1) (.int .i64 b) (.int .i64 0) (.slice A1 cnt.length c1) (.slice A2 L c2) m w.heap.size gA w wr) (fun _ _ => 0)
      case atStart => exact ⟨rfl, hsb⟩
      case round =>
        obtain ⟨rfl, hsd⟩ := hrel
        clear hsb
        obtain ⟨⟨p0, p1, p2, p3, p4⟩, ⟨q0, q1, q2⟩, ⟨a0, a1, a2⟩, qf, af⟩ := hsd.cells
        have hr1 := (HR2.out.below hsd.be).at (k := k) (by rw [HL.out, HLEN.out]; omega)
        have hx1 := (HR2.out).okAt (k := k) (by rw [HL.out, HLEN.out]; omega)
        obtain ⟨ad, rfl, hr2⟩ := hr1
        obtain ⟨x1, x2, x3⟩ := hr2 k (by rw [HL.out, HLEN.out]; omega)
        obtain ⟨u, hu⟩ : ∃ u, mAt ms k = u := ⟨_, rfl⟩
        rw [hu] at x1 x2 x3 hx1
        have KC := Lib.hid (fun (g : Nat) (W : World) (hW : W.cell? ⟨g, 0, none⟩ = some (.func (.func 48) #[] #[])) => moments1_any 48 opP plus_is m u HMR.out hx1 g W hW)
        obtain ⟨z1, z2, z3, z4, hz⟩ : ∃ z1 z2 z3 z4, momE (momO opP m u) = .tuple #[.agg #[.int .i64 z1, .int .i64 z2, .int .i64 z3], .int .i64 z4] := ⟨_, _, _, _, rfl⟩
        have HZ := Lib.hid hz
        have HU := Lib.hid hu
        have hkL : k < L := by rw [HLEN.out]; omega
        clear hz hu hr2 hx1
        have adl : (ad.add (k * 3)).block < wr.heap.size := World.block_lt_of_cell? wr _ x1
        have gAl : gA < wr.heap.size := World.block_lt_of_cell? wr _ a0
        have gnl : w.heap.size < wr.heap.size := World.block_lt_of_cell? wr _ p0
        have lA := hsd.lt
        have n1 : (ad.add (k * 3)).block ≠ wr.heap.size := by omega
        have n2 : wr.heap.size ≠ (ad.add (k * 3)).block := by omega
        have n3 : gA ≠ wr.heap.size := by omega
        have n4 : wr.heap.size ≠ gA := by omega
        have n5 : w.heap.size ≠ wr.heap.size := by omega
        have n6 : wr.heap.size ≠ w.heap.size := by omega
        go_upto_region 21 with (fail)
        go_cut [15, 16] (fun p ev wc => ∃ B, p = .pointer (some ⟨B, 0, none⟩) ∧ ev = .int .i64 z4 ∧ Blk wc B #[.int .i64 z1, .int .i64 z2, .int .i64 z3] 52 ∧ wr.heap.size ≤ B ∧ Below wr.heap.size wr wc)
        case first =>
          go_region_held3 (fun W => W.cell? ⟨gA, 0, none⟩ = some (.int .i64 m.c) ∧ W.cell? ⟨gA, 1, none⟩ = some (.int .i64 m.s) ∧ W.cell? ⟨gA, 2, none⟩ = some (.int .i64 m.q) ∧ W.cell? ⟨w.heap.size, 4, none⟩ = some (.slice (some ad) L c2) ∧ W.cell? (ad.add (k * 3)) = some (.int .i64 u.c) ∧ W.cell? ⟨(ad.add (k * 3)).block, (ad.add (k * 3)).off + 1, none⟩ = some (.int .i64 u.s) ∧ W.cell? ⟨(ad.add (k * 3)).block, (ad.add (k * 3)).off + 2, none⟩ = some (.int .i64 u.q)) (go_keep)
            (first
            | (go_at_call 47; refine (moments_b 48 _).mono ?_; rintro e w3 ⟨rfl, hc3, hb3, hl3⟩; (try simp at hc3); have hs3 : wr.heap.size < w3.heap.size := (by have h := hl3; simp at h; omega); have hne3 : wr.heap.size ≠ w3.heap.size := (by omega); have hne3' : w3.heap.size ≠ wr.heap.size := (by omega); have m1 : gA ≠ w3.heap.size := (by omega); have m2 : w3.heap.size ≠ gA := (by omega); have m3 : (ad.add (k * 3)).block ≠ w3.heap.size := (by omega); have m4 : w3.heap.size ≠ (ad.add (k * 3)).block := (by omega); have m5 : w.heap.size ≠ w3.heap.size := (by omega); have m6 : w3.heap.size ≠ w.heap.size := (by omega); obtain ⟨hcc3, hff3⟩ := bcell hb3; have q0 : w3.cell? ⟨gA, 0, none⟩ = some (.int .i64 m.c) := keepc hb3 (by simp [*]); have q1 : w3.cell? ⟨gA, 1, none⟩ = some (.int .i64 m.s) := keepc hb3 (by simp [*]); have q2 : w3.cell? ⟨gA, 2, none⟩ = some (.int .i64 m.q) := keepc hb3 (by simp [*]); have q3 : w3.cell? ⟨w.heap.size, 4, none⟩ = some (.slice (some ad) L c2) := keepc hb3 (by simp [*]); have q4 : w3.cell? (ad.add (k * 3)) = some (.int .i64 u.c) := keepc hb3 (by simp [*]); have q5 : w3.cell? ⟨(ad.add (k * 3)).block, (ad.add (k * 3)).off + 1, none⟩ = some (.int .i64 u.s) := keepc hb3 (by simp [*]); have q6 : w3.cell? ⟨(ad.add (k * 3)).block, (ad.add (k * 3)).off + 2, none⟩ = some (.int .i64 u.q) := keepc hb3 (by simp [*]))
            | (go_at_call 67; refine (KC.out _ _ (by first | assumption | exact (((Below.refl _ _).alloc (Nat.le_refl _) _).cell (p := ⟨wr.heap.size, 0, none⟩) (by assumption)).trans hc3 | (simp [*]))).mono ?_; rintro e w4 ⟨rfl, hb4⟩; rw [HZ.out]; have hs4 : wr.heap.size < w4.heap.size := (by have h := hb4.size; (try simp at h); omega); obtain ⟨hcc4, hff4⟩ := bcell hb4; have r0 : w4.cell? ⟨gA, 0, none⟩ = some (.int .i64 m.c) := keepc hb4 (by simp [*]); have r1 : w4.cell? ⟨gA, 1, none⟩ = some (.int .i64 m.s) := keepc hb4 (by simp [*]); have r2 : w4.cell? ⟨gA, 2, none⟩ = some (.int .i64 m.q) := keepc hb4 (by simp [*]); have r3 : w4.cell? ⟨w.heap.size, 4, none⟩ = some (.slice (some ad) L c2) := keepc hb4 (by simp [*]); have r4 : w4.cell? (ad.add (k * 3)) = some (.int .i64 u.c) := keepc hb4 (by simp [*]); have r5 : w4.cell? ⟨(ad.add (k * 3)).block, (ad.add (k * 3)).off + 1, none⟩ = some (.int .i64 u.s) := keepc hb4 (by simp [*]); have r6 : w4.cell? ⟨(ad.add (k * 3)).block, (ad.add (k * 3)).off + 2, none⟩ = some (.int .i64 u.q) := keepc hb4 (by simp [*])))
          all_goals
            go_wp2
            go_meet
            case rel => first | exact ⟨_, rfl, rfl, relS1 _ _ _ _ _ _ hb3 hb4⟩ | exact ⟨_, rfl, rfl, relS2 _ _ _ _ _ _ hb3 hb4⟩ | exact ⟨_, rfl, rfl, relS3 _ _ _ hb3 hb4⟩
        case rest =>
          obtain ⟨B, rfl, rfl, hBk, hB1, hB2⟩ := hcut
          have hz := HZ.out
          have hs2 := hsd.below hB2
          clear p0 p1 p2 p3 p4 q0 q1 q2 a0 a1 a2 qf af x1 x2 x3 n1 n2 n3 n4 n5 n6
          obtain ⟨⟨p0, p1, p2, p3, p4⟩, ⟨q0, q1, q2⟩, ⟨a0, a1, a2⟩, qf, af⟩ := hs2.cells
          obtain ⟨v1, v2, v3⟩ := cells3 hBk
          have n1 : B ≠ gA := by omega
          have n2 : gA ≠ B := by omega
          cases hop1 : momO opP m u with
          | error e1 =>
            rw [hop1] at hz
            simp only [momE, momV, valO, errO, m0, Value.tuple.injEq, Array.mk.injEq, List.cons.injEq, Value.agg.injEq, Value.int.injEq, and_true, true_and] at hz
            obtain ⟨⟨rfl, rfl, rfl⟩, rfl⟩ := hz
            have ee := momO_err plus_is hop1
            have HE := Lib.hid (sumM_err (h := ⟨1, b, 0, cnt, ms⟩) (r := t - (k + 1)) (k := k) (m := m) (e := e1) (by show momO opP m (mAt ms k) = _; rw [HU.out]; exact hop1))
            clear hop1
            go_wp2
            refine bodyPost_ret (results_tct rfl _ _ (w.heap.size + 1) 52 _ _ rfl (set3 hs2.b1 _ _ _) Try.underlying52 rfl size_mom) rfl ?_
            refine SumP.err (x := e1) ?_ rfl (below3 hs2.be (by omega) _ _ _)
            rw [← HSM.out, show t - k = (t - (k + 1)) + 1 by omega, HE.out]
            rfl
          | ok z =>
            rw [hop1] at hz
            simp only [momE, momV, valO, errO, Value.tuple.injEq, Array.mk.injEq, List.cons.injEq, Value.agg.injEq, Value.int.injEq, and_true, true_and] at hz
            obtain ⟨⟨rfl, rfl, rfl⟩, rfl⟩ := hz
            have HE := Lib.hid (sumM_ok (h := ⟨1, b, 0, cnt, ms⟩) (r := t - (k + 1)) (k := k) (m := m) (m' := z) (by show momO opP m (mAt ms k) = _; rw [HU.out]; exact hop1))
            have HM' := Lib.hid (momO_in plus_is hop1)
            have e0 : ((0 : Int) != 0) = false := rfl
            clear hop1
            go_wp2
            go_roundw
            case rel => exact ⟨k + 1, z, by omega, hlt, by go_num, HM', Lib.hid (by rw [← HSM.out, show t - k = (t - (k + 1)) + 1 by omega, HE.out]), hs2.all⟩
            case measure => simp [intOf]; omega
    · obtain rfl : k = t := by omega
      obtain ⟨⟨p0, p1, p2, p3, p4⟩, ⟨q0, q1, q2⟩, ⟨a0, a1, a2⟩, qf, af⟩ := hsb.cells
      have HE := Lib.hid (HSM.out.symm.trans (by rw [Nat.sub_self]; rfl : _ = .ok m))
      have lA := hsb.lt
      have n1 : w.heap.size + 1 ≠ gA := by omega
      have n2 : gA ≠ w.heap.size + 1 := by omega
      clear hlt
      go_wp2
      go_region_held3 (fun W => W.cell? ⟨gA, 0, none⟩ = some (.int .i64 m.c) ∧ W.cell? ⟨gA, 1, none⟩ = some (.int .i64 m.s) ∧ W.cell? ⟨gA, 2, none⟩ = some (.int .i64 m.q)) (go_keep) (fail)
      all_goals
        go_wp2
        refine bodyPost_ret (results_tct rfl _ _ (w.heap.size + 1) 52 _ _ rfl (set3 hsb.b1 _ _ _) Try.underlying52 rfl size_mom) rfl ?_
        have hS := HE.out
        refine ⟨.slice none 0 0, ?_, ?_, below3 (hsb.drewN 1).be (by omega) _ _ _⟩
        · rw [hS]; rfl
        · rw [hS]; exact World.ownsRow_nil _ _ _ _
/-- Sum, of any histogram. -/
theorem sum_any {h : H} {vh : Value} {w : World} (f t : Int) (ra : RdH w h vh) : Calls Try.prog 25 #[vh, .int .i64 f, .int .i64 t] w (SumP (sumO h f t) w) := by
  obtain ⟨A1, A2, c1, c2, rfl, r1, r2, l1, l2⟩ := ra
  by_cases hr : rightP h
  · by_cases hb : f < 0 ∨ f > t ∨ t > h.bins
    · exact sum_range h A1 A2 c1 c2 f t w l1 l2 hr hb
    · obtain ⟨kd, b, c, cnt, ms⟩ := h
      obtain ⟨y1, y2, z1, z2⟩ := may_le hr.1
      simp only at hb y1 y2 z1 z2 r1 r2 l1 l2
      obtain ⟨fn, rfl⟩ : ∃ fn : Nat, f = fn := ⟨f.toNat, by omega⟩
      obtain ⟨tn, rfl⟩ : ∃ tn : Nat, t = tn := ⟨t.toNat, by omega⟩
      obtain ⟨bn, rfl⟩ : ∃ bn : Nat, b = bn := ⟨b.toNat, by omega⟩
      obtain ⟨n, rfl⟩ : ∃ n : Nat, c = n := ⟨c.toNat, by omega⟩
      by_cases hk : kd = 0
      · subst hk
        rw [sum_c hr hb rfl]
        have hlen : (cnt.length : Int) = bn * n := by rcases hr.2 with ⟨_, e, _⟩ | ⟨e, _⟩ <;> first | exact e | exact absurd rfl e
        exact sum_count bn n cnt ms A1 A2 c1 c2 fn tn w r1 l2 hr (by omega) (by omega) (by omega) (by omega) (by rw [← Int.natCast_mul] at hlen; omega)
      · have hm := hr.1
        unfold mayP at hm
        simp only at hm
        obtain rfl : kd = 1 := by omega
        obtain rfl : n = 0 := by omega
        rw [sum_m hr hb (show ¬ ((1 : Int) = 0) by decide)]
        have hlen : (ms.length : Int) = bn := by rcases hr.2 with ⟨e, _⟩ | ⟨_, _, e⟩ <;> first | exact e | exact absurd e hk
        exact sum_moms bn cnt ms A1 A2 c1 c2 fn tn w r2 l1 hr (by omega) (by omega) (by omega) (by omega)
  · exact sum_bad h A1 A2 c1 c2 f t w l1 l2 hr
end Go.Proofs.Yteckbgpkoanhfaa.Hb
end

section
/- Contracts by hand, as the printed texts use them: Sum of layer 12. -/
namespace Go.Proofs.Yteckbgpkoanhfaa.Pr
set_option linter.unusedVariables false
open Go.RowKit Go.Proofs.YteckbgpkoanhfaaW.PrintWords Go.Proofs.YteckbgpkoanhfaaW.PrintLast Go.Proofs.YteckbgpkoanhfaaW.PrintMore

def okHB (l3 : List Int) (l4 : List S52) : Bool := l3.all inB && l4.all fun x => momB (toM x)
theorem okHB_is {l3 : List Int} {l4 : List S52} (h : okHB l3 l4 = true) : (∀ x ∈ l3, Hb.inR x) ∧ ∀ x ∈ l4, (toM x).ok := by
  unfold okHB at h
  rw [Bool.and_eq_true, List.all_eq_true, List.all_eq_true] at h
  exact ⟨fun x hx => inB_is (h.1 x hx), fun x hx => momB_is (h.2 x hx)⟩
theorem okHB_of {l3 : List Int} {l4 : List S52} (h3 : ∀ x ∈ l3, Hb.inR x) (h4 : ∀ x ∈ l4, (toM x).ok) : okHB l3 l4 = true := by
  unfold okHB
  rw [Bool.and_eq_true, List.all_eq_true, List.all_eq_true]
  exact ⟨fun x hx => by simp [inB, h3 x hx], fun x hx => momB_of (h4 x hx)⟩
theorem rdH_of {w : World} {a0 a1 a2 : Int} {A3 A4 : Option Addr} {c3 c4 : Nat} {l3 : List Int} {l4 : List S52} (h3 : Kd.C (Kd.int .i64) w A3 l3.length l3) (h4 : Kd.C k52 w A4 l4.length l4) (ho : okHB l3 l4 = true) :
    Hb.RdH w (hOf a0 a1 a2 l3 l4) (.agg #[.int .i64 a0, .int .i64 a1, .int .i64 a2, .slice A3 l3.length c3, .slice A4 l4.length c4]) := by
  obtain ⟨o1, o2⟩ := okHB_is ho
  refine ⟨A3, A4, c3, c4, by simp [Hb.hV, hOf], Hy.rdI_of_C h3 o1, rdM_of_C h4 o2, Hy.len_of_C h3, ?_⟩
  show (l4.map toM).length ≤ _
  rw [List.length_map]
  exact Hy.len_of_C h4
def sumR (r : Except Int (List Int × Hb.Mom)) : List Int × Int × Int × Int × Int := ((Hb.valO ([], Hb.m0) r).1, (Hb.valO ([], Hb.m0) r).2.c, (Hb.valO ([], Hb.m0) r).2.s, (Hb.valO ([], Hb.m0) r).2.q, Hb.errO r)
def hist_Sum.f (a0_0 : Int) (a0_1 : Int) (a0_2 : Int) (l0_3 : List Int) (l0_4 : List (S52)) (a1 : Int) (a2 : Int) : Option (List Int × Int × Int × Int × Int) :=
  if okHB l0_3 l0_4 = true then some (sumR (Hb.sumO (hOf a0_0 a0_1 a0_2 l0_3 l0_4) a1 a2)) else none
theorem hist_Sum.calls (a0_0 : Int) (a0_1 : Int) (a0_2 : Int) (A0_3 : Option Addr) (c0_3 : Nat) (l0_3 : List Int) (A0_4 : Option Addr) (c0_4 : Nat) (l0_4 : List (S52)) (a1 : Int) (a2 : Int) (r1 : List Int) (r2 : Int) (r3 : Int) (r4 : Int) (r5 : Int) (w : World) (hr0_3 : Kd.C (Kd.int .i64) w A0_3 l0_3.length l0_3) (hc0_3 : l0_3.length ≤ c0_3) (hr0_4 : Kd.C k52 w A0_4 l0_4.length l0_4) (hc0_4 : l0_4.length ≤ c0_4) (h : hist_Sum.f a0_0 a0_1 a0_2 l0_3 l0_4 a1 a2 = some (r1, r2, r3, r4, r5)) :
    Calls Try.prog 25 #[.agg #[.int .i64 a0_0, .int .i64 a0_1, .int .i64 a0_2, .slice A0_3 l0_3.length c0_3, .slice A0_4 l0_4.length c0_4], .int .i64 a1, .int .i64 a2] w fun e w' => ∃ v0_ : Value, e = .returned (.tuple #[v0_, .agg #[.int .i64 r2, .int .i64 r3, .int .i64 r4], .int .i64 r5]) ∧ Kd.R (Kd.int .i64) 2 w' w.heap.size (fun _ => True) v0_ r1 ∧ Below w.heap.size w w' := by
  unfold hist_Sum.f at h
  split at h
  · rename_i ho
    refine (Hb.sum_any a1 a2 (rdH_of (a0 := a0_0) (a1 := a0_1) (a2 := a0_2) (c3 := c0_3) (c4 := c0_4) hr0_3 hr0_4 ho)).mono ?_
    rintro e w' ⟨v, rfl, ho', hb⟩
    have h' := Option.some.inj h
    unfold sumR at h'
    simp only [Prod.mk.injEq] at h'
    obtain ⟨e1, e2, e3, e4, e5⟩ := h'
    refine ⟨v, ?_, ?_, hb⟩
    · rw [← e2, ← e3, ← e4, ← e5]; rfl
    · rw [e1] at ho'
      exact Hy.R_of_ints ho'
  · cases h
end Go.Proofs.Yteckbgpkoanhfaa.Pr
end

section
-- Printed by a program of the session's over the kit's print.
namespace Go.Proofs.Yteckbgpkoanhfaa.Pr
open Go.RowKit Go.Proofs.YteckbgpkoanhfaaW.PrintWords Go.Proofs.YteckbgpkoanhfaaW.PrintLast Go.Proofs.YteckbgpkoanhfaaW.PrintMore
attribute [local go_sem] max2_int min2_int max_two min_two max_three min_three max_four min_four   -- for this text's walks alone
set_option linter.unusedVariables false
set_option linter.unusedSimpArgs false

attribute [local go_sem high] eqA52
/-! ### hornbeamlaw12_HistSums: function 8 -/
def hornbeamlaw12_HistSums.f (k : Nat) (a0_0 : Int) (a0_1 : Int) (a0_2 : Int) (l0_3 : List Int) (l0_4 : List (S52)) (a1 : Int) (a2 : Int) : Option (Bool) := (hornbeamlaw12_Great.f a0_0 a0_1 a0_2 l0_3 l0_4).bind fun t170 => (if t170 = true then ((hornbeamlaw12_fixed.f).bind fun t171 => (some t171)) else ((hist_Sum.f a0_0 a0_1 a0_2 l0_3 l0_4 a1 a2).bind fun bt172 => ((hornbeamref12_Sum.f k a0_0 a0_1 a0_2 l0_3 l0_4 a1 a2).bind fun bt180 => ((hornbeamlaw12_fixed.f).bind fun t188 => (if t188 = true then ((hornbeamref12_SameCounts.f k bt172.1 bt180.1).bind fun t189 => (if t189 = true then (if (bt172.2.1 == bt180.2.1 && (bt172.2.2.1 == bt180.2.2.1 && (bt172.2.2.2.1 == bt180.2.2.2.1))) = true then (some (bt172.2.2.2.2 == bt180.2.2.2.2)) else (some false)) else (some false))) else (some false))))))
theorem hornbeamlaw12_HistSums.mono : ∀ a0 a1 a2 a3 a4 a5 a6 k, LeO (hornbeamlaw12_HistSums.f k a0 a1 a2 a3 a4 a5 a6) (hornbeamlaw12_HistSums.f (k + 1) a0 a1 a2 a3 a4 a5 a6) := by
  intro a0 a1 a2 a3 a4 a5 a6 k
  unfold hornbeamlaw12_HistSums.f
  repeat' first
      | (with_reducible exact hornbeamref12_SameCounts.mono _ _ _)
      | (with_reducible exact hornbeamref12_Sum.mono _ _ _ _ _ _ _ _)
      | (with_reducible exact LeO.refl _)
      | (with_reducible exact LeO.none _)
      | (with_reducible refine LeO.ite ?_ ?_)
      | (with_reducible refine LeO.bind ?_ (fun _ => ?_))
      | exact hornbeamref12_SameCounts.mono _ _ _
      | exact hornbeamref12_Sum.mono _ _ _ _ _ _ _ _
      | exact LeO.none _
      | refine LeO.ite ?_ ?_
      | refine LeO.bind ?_ (fun _ => ?_)
set_option maxHeartbeats 8000000 in
set_option maxRecDepth 100000 in
theorem hornbeamlaw12_HistSums.calls (k : Nat) (a0_0 : Int) (a0_1 : Int) (a0_2 : Int) (A0_3 : Option Addr) (c0_3 : Nat) (l0_3 : List Int) (A0_4 : Option Addr) (c0_4 : Nat) (l0_4 : List (S52)) (a1 : Int) (a2 : Int) (r : Bool) (w : World) (hr0_3 : Kd.C (Kd.int .i64) w A0_3 l0_3.length l0_3) (hc0_3 : l0_3.length ≤ c0_3) (hr0_4 : Kd.C k52 w A0_4 l0_4.length l0_4) (hc0_4 : l0_4.length ≤ c0_4) (h : hornbeamlaw12_HistSums.f k a0_0 a0_1 a0_2 l0_3 l0_4 a1 a2 = some r) :
    Calls Try.prog 8 #[.agg #[.int .i64 a0_0, .int .i64 a0_1, .int .i64 a0_2, .slice A0_3 l0_3.length c0_3, .slice A0_4 l0_4.length c0_4], .int .i64 a1, .int .i64 a2] w fun e w' => e = .returned (.bool r) ∧ Below w.heap.size w w' := by
  have hu36 := Try.underlying36
  have hu52 := Try.underlying52
  have HR0_3 := Aside0.mk hr0_3
  have HC0_3 := Aside0.mk hc0_3
  clear hr0_3 hc0_3
  have HR0_4 := Aside0.mk hr0_4
  have HC0_4 := Aside0.mk hc0_4
  clear hr0_4 hc0_4
  have HB := Aside0.mk (Below.refl w.heap.size w)
  have H : ((hornbeamlaw12_Great.f a0_0 a0_1 a0_2 l0_3 l0_4).bind fun t170 => (if t170 = true then ((hornbeamlaw12_fixed.f).bind fun t171 => (some t171)) else ((hist_Sum.f a0_0 a0_1 a0_2 l0_3 l0_4 a1 a2).bind fun bt172 => ((hornbeamref12_Sum.f k a0_0 a0_1 a0_2 l0_3 l0_4 a1 a2).bind fun bt180 => ((hornbeamlaw12_fixed.f).bind fun t188 => (if t188 = true then ((hornbeamref12_SameCounts.f k bt172.1 bt180.1).bind fun t189 => (if t189 = true then (if (bt172.2.1 == bt180.2.1 && (bt172.2.2.1 == bt180.2.2.1 && (bt172.2.2.2.1 == bt180.2.2.2.1))) = true then (some (bt172.2.2.2.2 == bt180.2.2.2.2)) else (some false)) else (some false))) else (some false))))))) = some r := h
  clear h
  replace H := Option.bind_eq_some_iff.mp H
  obtain ⟨t170, A40, H⟩ := H
  replace H : (if t170 = true then ((hornbeamlaw12_fixed.f).bind fun t171 => (some t171)) else ((hist_Sum.f a0_0 a0_1 a0_2 l0_3 l0_4 a1 a2).bind fun bt172 => ((hornbeamref12_Sum.f k a0_0 a0_1 a0_2 l0_3 l0_4 a1 a2).bind fun bt180 => ((hornbeamlaw12_fixed.f).bind fun t188 => (if t188 = true then ((hornbeamref12_SameCounts.f k bt172.1 bt180.1).bind fun t189 => (if t189 = true then (if (bt172.2.1 == bt180.2.1 && (bt172.2.2.1 == bt180.2.2.1 && (bt172.2.2.2.1 == bt180.2.2.2.1))) = true then (some (bt172.2.2.2.2 == bt180.2.2.2.2)) else (some false)) else (some false))) else (some false)))))) = some r := H
  have A4 := Aside0.mk A40
  clear A40
  by_cases c5 : t170 = true
  · subst c5
    have H1 : ((hornbeamlaw12_fixed.f).bind fun t171 => (some t171)) = some r := by rw [if_pos rfl] at H; exact H
    clear H
    have H := H1
    clear H1
    replace H := Option.bind_eq_some_iff.mp H
    obtain ⟨t171, A60, H⟩ := H
    replace H : (some t171) = some r := H
    have A6 := Aside0.mk A60
    clear A60
    obtain rfl := Option.some.inj H
    go_enter Try.func8, Try.ntmps8
    go_wp2_with (first | ((with_reducible refine gate_dst (N := 3) rfl ?_); refine box_event ?hg (N := 3) ?hd (cs := #[.int .i64 a0_0, .int .i64 a0_1, .int .i64 a0_2, .slice A0_3 l0_3.length c0_3, .slice A0_4 l0_4.length c0_4]) (t := 36) ?hr ?_; (case hd => rfl); (case hg => rfl); (case hr => first | (go_simp; done) | (go_simp; rfl)); intro gb169 hg w7 hbox hb; have n0_ := Aside0.mk (below_step (by repeat (first | (with_reducible first | exact HB.out | apply below_alloc | apply pw_below_drewN | apply below_drew1) | exact HB.out)) hb); have n1_ := Aside0.mk (hbox); have n2_ := Aside0.mk ((by rw [hg]; exact (below_size (by repeat (first | (with_reducible first | exact HB.out | apply below_alloc | apply pw_below_drewN | apply below_drew1) | exact HB.out))) : w.heap.size ≤ gb169)); have n3_ := Aside0.mk ((by rw [hg]; exact (below_size (by repeat (first | (with_reducible first | exact HB.out | apply below_alloc | apply pw_below_drewN | apply below_drew1) | exact HB.out))) : w.heap.size ≤ gb169)); clear HB; have HB := n0_; have BK169 := n1_; have GW169 := n2_; have GE169 := n3_; clear n0_ n1_ n2_ n3_; clear hb hbox hg; have hcz8_0 : w7.cell? ⟨gb169, 0, none⟩ = some (.int .i64 a0_0) := (blk_cell BK169.out 0).trans rfl; have hcz8_1 : w7.cell? ⟨gb169, 1, none⟩ = some (.int .i64 a0_1) := (blk_cell BK169.out 1).trans rfl; have hcz8_2 : w7.cell? ⟨gb169, 2, none⟩ = some (.int .i64 a0_2) := (blk_cell BK169.out 2).trans rfl; have hcz8_3 : w7.cell? ⟨gb169, 3, none⟩ = some (.slice A0_3 l0_3.length c0_3) := (blk_cell BK169.out 3).trans rfl; have hcz8_4 : w7.cell? ⟨gb169, 4, none⟩ = some (.slice A0_4 l0_4.length c0_4) := (blk_cell BK169.out 4).trans rfl; have hfz8_0 := blk_frozen BK169.out 0; have hfz8_1 := blk_frozen BK169.out 1; have hfz8_2 := blk_frozen BK169.out 2; have hfz8_3 := blk_frozen BK169.out 3; have hfz8_4 := blk_frozen BK169.out 4) | ((with_reducible refine gate_callee (f := 23) rfl ?_); refine goesL_ (some 14) rfl rfl Try.func23 (by kernel_rfl) rfl #[.agg #[.int .i64 a0_0, .int .i64 a0_1, .int .i64 a0_2, .slice A0_3 l0_3.length c0_3, .slice A0_4 l0_4.length c0_4]] rfl (by (try simp only [List.map_toArray, List.map_cons, List.map_nil]); first | done | rfl | (simp only [List.length_drop, List.length_take]; rfl)) ?_; (with_reducible refine (hornbeamlaw12_Great.calls a0_0 a0_1 a0_2 _ _ l0_3 _ _ l0_4 true _ ?side1 ?side2 ?side3 ?side4 A4.out).mono ?_); (case side1 => repeat (first | exact (Kd.C_below HR0_3.out HB.out) | (with_reducible refine Kd.C_alloc ?_ _) | (with_reducible refine Kd.C_drewN ?_ _) | (with_reducible refine Kd.C_drew ?_))); (case side2 => exact HC0_3.out); (case side3 => repeat (first | exact (Kd.C_below HR0_4.out HB.out) | (with_reducible refine Kd.C_alloc ?_ _) | (with_reducible refine Kd.C_drewN ?_ _) | (with_reducible refine Kd.C_drew ?_))); (case side4 => exact HC0_4.out); rintro e w9 ⟨rfl, hb⟩; refine ⟨_, rfl, ?_⟩; have n0_ := Aside0.mk (blk_below (g := gb169) (o := .cells #[.int .i64 a0_0, .int .i64 a0_1, .int .i64 a0_2, .slice A0_3 l0_3.length c0_3, .slice A0_4 l0_4.length c0_4] 36 (0, 0)) (by (with_reducible repeat (first | refine blk_drewN ?_ _ | refine blk_drew ?_ | refine blk_alloc ?_ _)); exact BK169.out) hb); have n1_ := Aside0.mk (below_step (by repeat (first | (with_reducible first | exact HB.out | apply below_alloc | apply pw_below_drewN | apply below_drew1 | refine below_set ?_ GE169.out) | exact HB.out)) hb); clear BK169; clear HB; have BK169 := n0_; have HB := n1_; clear n0_ n1_; (try clear hb); (try clear hb2); (try clear hk); (try clear hi)) | ((with_reducible refine gate_callee (f := 16) rfl ?_); refine goesL_ (some 15) rfl rfl Try.func16 (by kernel_rfl) rfl #[] rfl (by (try simp only [List.map_toArray, List.map_cons, List.map_nil]); first | done | rfl | (simp only [List.length_drop, List.length_take]; rfl)) ?_; (with_reducible refine (hornbeamlaw12_fixed.calls  t171 _ A6.out).mono ?_); rintro e w10 ⟨rfl, hb⟩; refine ⟨_, rfl, ?_⟩; have n0_ := Aside0.mk (blk_below (g := gb169) (o := .cells #[.int .i64 a0_0, .int .i64 a0_1, .int .i64 a0_2, .slice A0_3 l0_3.length c0_3, .slice A0_4 l0_4.length c0_4] 36 (0, 0)) (by (with_reducible repeat (first | refine blk_drewN ?_ _ | refine blk_drew ?_ | refine blk_alloc ?_ _)); exact BK169.out) hb); have n1_ := Aside0.mk (below_step (by repeat (first | (with_reducible first | exact HB.out | apply below_alloc | apply pw_below_drewN | apply below_drew1 | refine below_set ?_ GE169.out) | exact HB.out)) hb); clear BK169; clear HB; have BK169 := n0_; have HB := n1_; clear n0_ n1_; (try clear hb); (try clear hb2); (try clear hk); (try clear hi)))
    go_ret
    exact ⟨by first | rfl | (simp [errW_none, errW_some] <;> rfl) | (simp [*, errW_none, errW_some] <;> rfl), by repeat (first | (with_reducible first | exact HB.out | apply below_alloc | apply pw_below_drewN | apply below_drew1 | refine below_set ?_ GE169.out) | exact HB.out)⟩
  · replace c5 := Bool.eq_false_iff.mpr c5
    subst c5
    have H1 : ((hist_Sum.f a0_0 a0_1 a0_2 l0_3 l0_4 a1 a2).bind fun bt172 => ((hornbeamref12_Sum.f k a0_0 a0_1 a0_2 l0_3 l0_4 a1 a2).bind fun bt180 => ((hornbeamlaw12_fixed.f).bind fun t188 => (if t188 = true then ((hornbeamref12_SameCounts.f k bt172.1 bt180.1).bind fun t189 => (if t189 = true then (if (bt172.2.1 == bt180.2.1 && (bt172.2.2.1 == bt180.2.2.1 && (bt172.2.2.2.1 == bt180.2.2.2.1))) = true then (some (bt172.2.2.2.2 == bt180.2.2.2.2)) else (some false)) else (some false))) else (some false))))) = some r := by rw [if_neg (show ¬ (false = true) by decide)] at H; exact H
    clear H
    have H := H1
    clear H1
    replace H := Option.bind_eq_some_iff.mp H
    obtain ⟨⟨t172, t175, t176, t177, t178⟩, A110, H⟩ := H
    replace H : ((hornbeamref12_Sum.f k a0_0 a0_1 a0_2 l0_3 l0_4 a1 a2).bind fun bt180 => ((hornbeamlaw12_fixed.f).bind fun t188 => (if t188 = true then ((hornbeamref12_SameCounts.f k t172 bt180.1).bind fun t189 => (if t189 = true then (if (t175 == bt180.2.1 && (t176 == bt180.2.2.1 && (t177 == bt180.2.2.2.1))) = true then (some (t178 == bt180.2.2.2.2)) else (some false)) else (some false))) else (some false)))) = some r := H
    have A11 := Aside0.mk A110
    clear A110
    replace H := Option.bind_eq_some_iff.mp H
    obtain ⟨⟨t180, t183, t184, t185, t186⟩, A120, H⟩ := H
    replace H : ((hornbeamlaw12_fixed.f).bind fun t188 => (if t188 = true then ((hornbeamref12_SameCounts.f k t172 t180).bind fun t189 => (if t189 = true then (if (t175 == t183 && (t176 == t184 && (t177 == t185))) = true then (some (t178 == t186)) else (some false)) else (some false))) else (some false))) = some r := H
    have A12 := Aside0.mk A120
    clear A120
    replace H := Option.bind_eq_some_iff.mp H
    obtain ⟨t188, A130, H⟩ := H
    replace H : (if t188 = true then ((hornbeamref12_SameCounts.f k t172 t180).bind fun t189 => (if t189 = true then (if (t175 == t183 && (t176 == t184 && (t177 == t185))) = true then (some (t178 == t186)) else (some false)) else (some false))) else (some false)) = some r := H
    have A13 := Aside0.mk A130
    clear A130
    by_cases c14 : t188 = true
    · subst c14
      have H1 : ((hornbeamref12_SameCounts.f k t172 t180).bind fun t189 => (if t189 = true then (if (t175 == t183 && (t176 == t184 && (t177 == t185))) = true then (some (t178 == t186)) else (some false)) else (some false))) = some r := by rw [if_pos rfl] at H; exact H
      clear H
      have H := H1
      clear H1
      replace H := Option.bind_eq_some_iff.mp H
      obtain ⟨t189, A150, H⟩ := H
      replace H : (if t189 = true then (if (t175 == t183 && (t176 == t184 && (t177 == t185))) = true then (some (t178 == t186)) else (some false)) else (some false)) = some r := H
      have A15 := Aside0.mk A150
      clear A150
      by_cases c16 : t189 = true
      · subst c16
        have H1 : (if (t175 == t183 && (t176 == t184 && (t177 == t185))) = true then (some (t178 == t186)) else (some false)) = some r := by rw [if_pos rfl] at H; exact H
        clear H
        have H := H1
        clear H1
        by_cases c17 : (t175 == t183 && (t176 == t184 && (t177 == t185))) = true
        · rw [if_pos c17] at H
          have c17b0 : (t175 == t183 && (t176 == t184 && (t177 == t185))) = true := c17
          (try (have c17b1 : decide (t175 = t183 && (t176 == t184 && (t177 == t185))) = true := by simpa using c17))
          (try (have c17b2 : (t175 == t183 && (t176 == t184 && (t177 == t185))) = true := by simpa using c17))
          clear c17
          obtain rfl := Option.some.inj H
          go_enter Try.func8, Try.ntmps8
          go_wp2_with (first | ((with_reducible refine gate_dst (N := 3) rfl ?_); refine box_event ?hg (N := 3) ?hd (cs := #[.int .i64 a0_0, .int .i64 a0_1, .int .i64 a0_2, .slice A0_3 l0_3.length c0_3, .slice A0_4 l0_4.length c0_4]) (t := 36) ?hr ?_; (case hd => rfl); (case hg => rfl); (case hr => first | (go_simp; done) | (go_simp; rfl)); intro gb169 hg w18 hbox hb; have n0_ := Aside0.mk (below_step (by repeat (first | (with_reducible first | exact HB.out | apply below_alloc | apply pw_below_drewN | apply below_drew1) | exact HB.out)) hb); have n1_ := Aside0.mk (hbox); have n2_ := Aside0.mk ((by rw [hg]; exact (below_size (by repeat (first | (with_reducible first | exact HB.out | apply below_alloc | apply pw_below_drewN | apply below_drew1) | exact HB.out))) : w.heap.size ≤ gb169)); have n3_ := Aside0.mk ((by rw [hg]; exact (below_size (by repeat (first | (with_reducible first | exact HB.out | apply below_alloc | apply pw_below_drewN | apply below_drew1) | exact HB.out))) : w.heap.size ≤ gb169)); clear HB; have HB := n0_; have BK169 := n1_; have GW169 := n2_; have GE169 := n3_; clear n0_ n1_ n2_ n3_; clear hb hbox hg; have hcz19_0 : w18.cell? ⟨gb169, 0, none⟩ = some (.int .i64 a0_0) := (blk_cell BK169.out 0).trans rfl; have hcz19_1 : w18.cell? ⟨gb169, 1, none⟩ = some (.int .i64 a0_1) := (blk_cell BK169.out 1).trans rfl; have hcz19_2 : w18.cell? ⟨gb169, 2, none⟩ = some (.int .i64 a0_2) := (blk_cell BK169.out 2).trans rfl; have hcz19_3 : w18.cell? ⟨gb169, 3, none⟩ = some (.slice A0_3 l0_3.length c0_3) := (blk_cell BK169.out 3).trans rfl; have hcz19_4 : w18.cell? ⟨gb169, 4, none⟩ = some (.slice A0_4 l0_4.length c0_4) := (blk_cell BK169.out 4).trans rfl; have hfz19_0 := blk_frozen BK169.out 0; have hfz19_1 := blk_frozen BK169.out 1; have hfz19_2 := blk_frozen BK169.out 2; have hfz19_3 := blk_frozen BK169.out 3; have hfz19_4 := blk_frozen BK169.out 4) | ((with_reducible refine gate_callee (f := 23) rfl ?_); refine goesL_ (some 14) rfl rfl Try.func23 (by kernel_rfl) rfl #[.agg #[.int .i64 a0_0, .int .i64 a0_1, .int .i64 a0_2, .slice A0_3 l0_3.length c0_3, .slice A0_4 l0_4.length c0_4]] rfl (by (try simp only [List.map_toArray, List.map_cons, List.map_nil]); first | done | rfl | (simp only [List.length_drop, List.length_take]; rfl)) ?_; (with_reducible refine (hornbeamlaw12_Great.calls a0_0 a0_1 a0_2 _ _ l0_3 _ _ l0_4 false _ ?side1 ?side2 ?side3 ?side4 A4.out).mono ?_); (case side1 => repeat (first | exact (Kd.C_below HR0_3.out HB.out) | (with_reducible refine Kd.C_alloc ?_ _) | (with_reducible refine Kd.C_drewN ?_ _) | (with_reducible refine Kd.C_drew ?_))); (case side2 => exact HC0_3.out); (case side3 => repeat (first | exact (Kd.C_below HR0_4.out HB.out) | (with_reducible refine Kd.C_alloc ?_ _) | (with_reducible refine Kd.C_drewN ?_ _) | (with_reducible refine Kd.C_drew ?_))); (case side4 => exact HC0_4.out); rintro e w20 ⟨rfl, hb⟩; refine ⟨_, rfl, ?_⟩; have n0_ := Aside0.mk (blk_below (g := gb169) (o := .cells #[.int .i64 a0_0, .int .i64 a0_1, .int .i64 a0_2, .slice A0_3 l0_3.length c0_3, .slice A0_4 l0_4.length c0_4] 36 (0, 0)) (by (with_reducible repeat (first | refine blk_drewN ?_ _ | refine blk_drew ?_ | refine blk_alloc ?_ _)); exact BK169.out) hb); have n1_ := Aside0.mk (below_step (by repeat (first | (with_reducible first | exact HB.out | apply below_alloc | apply pw_below_drewN | apply below_drew1 | refine below_set ?_ GE169.out) | exact HB.out)) hb); clear BK169; clear HB; have BK169 := n0_; have HB := n1_; clear n0_ n1_; (try clear hb); (try clear hb2); (try clear hk); (try clear hi); have hcz21_0 : w20.cell? ⟨gb169, 0, none⟩ = some (.int .i64 a0_0) := (blk_cell BK169.out 0).trans rfl; have hcz21_1 : w20.cell? ⟨gb169, 1, none⟩ = some (.int .i64 a0_1) := (blk_cell BK169.out 1).trans rfl; have hcz21_2 : w20.cell? ⟨gb169, 2, none⟩ = some (.int .i64 a0_2) := (blk_cell BK169.out 2).trans rfl; have hcz21_3 : w20.cell? ⟨gb169, 3, none⟩ = some (.slice A0_3 l0_3.length c0_3) := (blk_cell BK169.out 3).trans rfl; have hcz21_4 : w20.cell? ⟨gb169, 4, none⟩ = some (.slice A0_4 l0_4.length c0_4) := (blk_cell BK169.out 4).trans rfl; have hfz21_0 := blk_frozen BK169.out 0; have hfz21_1 := blk_frozen BK169.out 1; have hfz21_2 := blk_frozen BK169.out 2; have hfz21_3 := blk_frozen BK169.out 3; have hfz21_4 := blk_frozen BK169.out 4) | ((with_reducible refine gate_callee (f := 25) rfl ?_); refine goesL_ (some 20) rfl rfl Try.func25 (by kernel_rfl) rfl #[.agg #[.int .i64 a0_0, .int .i64 a0_1, .int .i64 a0_2, .slice A0_3 l0_3.length c0_3, .slice A0_4 l0_4.length c0_4], .int .i64 a1, .int .i64 a2] rfl (by (try simp only [List.map_toArray, List.map_cons, List.map_nil]); first | done | rfl | (simp only [List.length_drop, List.length_take]; rfl)) ?_; (with_reducible refine (hist_Sum.calls a0_0 a0_1 a0_2 _ _ l0_3 _ _ l0_4 a1 a2 t172 t175 t176 t177 t178 _ ?side1 ?side2 ?side3 ?side4 A11.out).mono ?_); (case side1 => repeat (first | exact (Kd.C_below HR0_3.out HB.out) | (with_reducible refine Kd.C_alloc ?_ _) | (with_reducible refine Kd.C_drewN ?_ _) | (with_reducible refine Kd.C_drew ?_))); (case side2 => exact HC0_3.out); (case side3 => repeat (first | exact (Kd.C_below HR0_4.out HB.out) | (with_reducible refine Kd.C_alloc ?_ _) | (with_reducible refine Kd.C_drewN ?_ _) | (with_reducible refine Kd.C_drew ?_))); (case side4 => exact HC0_4.out); rintro e w22 ⟨v173, rfl, ho0, hb⟩; refine ⟨_, rfl, ?_⟩; have n0_ := Aside0.mk (Kd.R_lower ho0 (below_size (by repeat (first | (with_reducible first | exact HB.out | apply below_alloc | apply pw_below_drewN | apply below_drew1 | refine below_set ?_ GE169.out) | exact HB.out)))); have n1_ := Aside0.mk (blk_below (g := gb169) (o := .cells #[.int .i64 a0_0, .int .i64 a0_1, .int .i64 a0_2, .slice A0_3 l0_3.length c0_3, .slice A0_4 l0_4.length c0_4] 36 (0, 0)) (by (with_reducible repeat (first | refine blk_drewN ?_ _ | refine blk_drew ?_ | refine blk_alloc ?_ _)); exact BK169.out) hb); have n2_ := Aside0.mk (below_step (by repeat (first | (with_reducible first | exact HB.out | apply below_alloc | apply pw_below_drewN | apply below_drew1 | refine below_set ?_ GE169.out) | exact HB.out)) hb); clear BK169; clear HB; have HO174 := n0_; have BK169 := n1_; have HB := n2_; clear n0_ n1_ n2_; (try clear hb); (try clear hb2); (try clear hk); (try clear hi); (try clear ho0)) | ((with_reducible refine gate_dst (N := 8) rfl ?_); refine box_event ?hg (N := 8) ?hd (cs := #[.int .i64 0, .int .i64 0, .int .i64 0]) (t := 52) ?hr ?_; (case hd => rfl); (case hg => rfl); (case hr => first | (go_simp; done) | (go_simp; rfl)); intro gb179 hg w23 hbox hb; have n0_ := Aside0.mk (Kd.R_below (by (with_reducible repeat (first | apply Kd.R_alloc | apply Kd.R_drewN | apply Kd.R_drew)); exact HO174.out) hb); have n1_ := Aside0.mk (blk_below (g := gb169) (o := .cells #[.int .i64 a0_0, .int .i64 a0_1, .int .i64 a0_2, .slice A0_3 l0_3.length c0_3, .slice A0_4 l0_4.length c0_4] 36 (0, 0)) (by (with_reducible repeat (first | refine blk_drewN ?_ _ | refine blk_drew ?_ | refine blk_alloc ?_ _)); exact BK169.out) hb); have n2_ := Aside0.mk (below_step (by repeat (first | (with_reducible first | exact HB.out | apply below_alloc | apply pw_below_drewN | apply below_drew1 | refine below_set ?_ GE169.out) | exact HB.out)) hb); have n3_ := Aside0.mk (hbox); have n4_ := Aside0.mk ((by rw [hg]; exact (below_size (by repeat (first | (with_reducible first | exact HB.out | apply below_alloc | apply pw_below_drewN | apply below_drew1 | refine below_set ?_ GE169.out) | exact HB.out))) : w.heap.size ≤ gb179)); have n5_ := Aside0.mk ((by rw [hg]; exact (below_size (by repeat (first | (with_reducible first | exact HB.out | apply below_alloc | apply pw_below_drewN | apply below_drew1 | refine below_set ?_ GE169.out) | exact HB.out))) : w.heap.size ≤ gb179)); have n6_ := Aside0.mk ((by rw [hg]; exact Nat.ne_of_lt (blk_lt (g := gb169) (o := .cells #[.int .i64 a0_0, .int .i64 a0_1, .int .i64 a0_2, .slice A0_3 l0_3.length c0_3, .slice A0_4 l0_4.length c0_4] 36 (0, 0)) (by (with_reducible repeat (first | refine blk_drewN ?_ _ | refine blk_drew ?_ | refine blk_alloc ?_ _)); exact BK169.out)) : gb169 ≠ gb179)); have n7_ := Aside0.mk ((by rw [hg]; exact Nat.ne_of_gt (blk_lt (g := gb169) (o := .cells #[.int .i64 a0_0, .int .i64 a0_1, .int .i64 a0_2, .slice A0_3 l0_3.length c0_3, .slice A0_4 l0_4.length c0_4] 36 (0, 0)) (by (with_reducible repeat (first | refine blk_drewN ?_ _ | refine blk_drew ?_ | refine blk_alloc ?_ _)); exact BK169.out)) : gb179 ≠ gb169)); clear HO174; clear BK169; clear HB; have HO174 := n0_; have BK169 := n1_; have HB := n2_; have BK179 := n3_; have GW179 := n4_; have GE179 := n5_; have NB169_179 := n6_; have NB179_169 := n7_; clear n0_ n1_ n2_ n3_ n4_ n5_ n6_ n7_; clear hb hbox hg; have hnb24 := NB179_169.out; have hnc24 := NB169_179.out; have hcz25_0 : w23.cell? ⟨gb179, 0, none⟩ = some (.int .i64 0) := (blk_cell BK179.out 0).trans rfl; have hcz25_1 : w23.cell? ⟨gb179, 1, none⟩ = some (.int .i64 0) := (blk_cell BK179.out 1).trans rfl; have hcz25_2 : w23.cell? ⟨gb179, 2, none⟩ = some (.int .i64 0) := (blk_cell BK179.out 2).trans rfl; have hfz25_0 := blk_frozen BK179.out 0; have hfz25_1 := blk_frozen BK179.out 1; have hfz25_2 := blk_frozen BK179.out 2; have hcz26_0 : w23.cell? ⟨gb169, 0, none⟩ = some (.int .i64 a0_0) := (blk_cell BK169.out 0).trans rfl; have hcz26_1 : w23.cell? ⟨gb169, 1, none⟩ = some (.int .i64 a0_1) := (blk_cell BK169.out 1).trans rfl; have hcz26_2 : w23.cell? ⟨gb169, 2, none⟩ = some (.int .i64 a0_2) := (blk_cell BK169.out 2).trans rfl; have hcz26_3 : w23.cell? ⟨gb169, 3, none⟩ = some (.slice A0_3 l0_3.length c0_3) := (blk_cell BK169.out 3).trans rfl; have hcz26_4 : w23.cell? ⟨gb169, 4, none⟩ = some (.slice A0_4 l0_4.length c0_4) := (blk_cell BK169.out 4).trans rfl; have hfz26_0 := blk_frozen BK169.out 0; have hfz26_1 := blk_frozen BK169.out 1; have hfz26_2 := blk_frozen BK169.out 2; have hfz26_3 := blk_frozen BK169.out 3; have hfz26_4 := blk_frozen BK169.out 4) | ((with_reducible refine gate_callee (f := 26) rfl ?_); refine goesL_ (some 28) rfl rfl Try.func26 (by kernel_rfl) rfl #[.agg #[.int .i64 a0_0, .int .i64 a0_1, .int .i64 a0_2, .slice A0_3 l0_3.length c0_3, .slice A0_4 l0_4.length c0_4], .int .i64 a1, .int .i64 a2] rfl (by (try simp only [List.map_toArray, List.map_cons, List.map_nil]); first | done | rfl | (simp only [List.length_drop, List.length_take]; rfl)) ?_; (with_reducible refine (hornbeamref12_Sum.calls k a0_0 a0_1 a0_2 _ _ l0_3 _ _ l0_4 a1 a2 t180 t183 t184 t185 t186 _ ?side1 ?side2 ?side3 ?side4 A12.out).mono ?_); (case side1 => exact Kd.C_below HR0_3.out (by repeat (first | (with_reducible first | exact HB.out | apply below_alloc | apply pw_below_drewN | apply below_drew1 | refine below_set ?_ GE169.out | refine below_set ?_ GE179.out) | exact HB.out))); (case side2 => exact HC0_3.out); (case side3 => exact Kd.C_below HR0_4.out (by repeat (first | (with_reducible first | exact HB.out | apply below_alloc | apply pw_below_drewN | apply below_drew1 | refine below_set ?_ GE169.out | refine below_set ?_ GE179.out) | exact HB.out))); (case side4 => exact HC0_4.out); rintro e w27 ⟨v181, rfl, ho0, hb⟩; refine ⟨_, rfl, ?_⟩; have n0_ := Aside0.mk (Kd.R_elder' (by (with_reducible repeat (first | apply Kd.R_alloc | apply Kd.R_drewN | apply Kd.R_drew)); exact (Kd.R_mono (Kd.R_far (p := ⟨gb179, 2, none⟩) (Kd.R_far (p := ⟨gb179, 1, none⟩) (Kd.R_far (p := ⟨gb179, 0, none⟩) (Kd.R_types HO174.out BK179.out (by decide)) (fun _ hk => hk.2) (.int .i64 t175)) (fun _ hk => hk.2) (.int .i64 t176)) (fun _ hk => hk.2) (.int .i64 t177)) (fun _ h_ => h_.1))) (Kd.R_base ho0) hb); have n1_ := Aside0.mk (Kd.R_lower (Kd.R_new' ho0 (Kd.R_lt (by (with_reducible repeat (first | apply Kd.R_alloc | apply Kd.R_drewN | apply Kd.R_drew)); exact (Kd.R_mono (Kd.R_far (p := ⟨gb179, 2, none⟩) (Kd.R_far (p := ⟨gb179, 1, none⟩) (Kd.R_far (p := ⟨gb179, 0, none⟩) (Kd.R_types HO174.out BK179.out (by decide)) (fun _ hk => hk.2) (.int .i64 t175)) (fun _ hk => hk.2) (.int .i64 t176)) (fun _ hk => hk.2) (.int .i64 t177)) (fun _ h_ => h_.1))))) (below_size (by repeat (first | (with_reducible first | exact HB.out | apply below_alloc | apply pw_below_drewN | apply below_drew1 | refine below_set ?_ GE169.out | refine below_set ?_ GE179.out) | exact HB.out)))); have n2_ := Aside0.mk (blk_below (g := gb169) (o := .cells #[.int .i64 a0_0, .int .i64 a0_1, .int .i64 a0_2, .slice A0_3 l0_3.length c0_3, .slice A0_4 l0_4.length c0_4] 36 (0, 0)) (by (with_reducible repeat (first | refine blk_drewN ?_ _ | refine blk_drew ?_ | refine blk_alloc ?_ _)); refine blk_far ?_ NB169_179.out _; (with_reducible repeat (first | refine blk_drewN ?_ _ | refine blk_drew ?_ | refine blk_alloc ?_ _)); refine blk_far ?_ NB169_179.out _; (with_reducible repeat (first | refine blk_drewN ?_ _ | refine blk_drew ?_ | refine blk_alloc ?_ _)); refine blk_far ?_ NB169_179.out _; (with_reducible repeat (first | refine blk_drewN ?_ _ | refine blk_drew ?_ | refine blk_alloc ?_ _)); exact BK169.out) hb); have n3_ := Aside0.mk (blk_below (g := gb179) (o := .cells #[.int .i64 t175, .int .i64 t176, .int .i64 t177] 52 (0, 0)) (by (with_reducible repeat (first | refine blk_drewN ?_ _ | refine blk_drew ?_ | refine blk_alloc ?_ _)); refine blk_put (cs := #[.int .i64 t175, .int .i64 t176, .int .i64 0]) ?_ 2 _ rfl; (with_reducible repeat (first | refine blk_drewN ?_ _ | refine blk_drew ?_ | refine blk_alloc ?_ _)); refine blk_put (cs := #[.int .i64 t175, .int .i64 0, .int .i64 0]) ?_ 1 _ rfl; (with_reducible repeat (first | refine blk_drewN ?_ _ | refine blk_drew ?_ | refine blk_alloc ?_ _)); refine blk_put (cs := #[.int .i64 0, .int .i64 0, .int .i64 0]) ?_ 0 _ rfl; (with_reducible repeat (first | refine blk_drewN ?_ _ | refine blk_drew ?_ | refine blk_alloc ?_ _)); exact BK179.out) hb); have n4_ := Aside0.mk (below_step (by repeat (first | (with_reducible first | exact HB.out | apply below_alloc | apply pw_below_drewN | apply below_drew1 | refine below_set ?_ GE169.out | refine below_set ?_ GE179.out) | exact HB.out)) hb); clear HO174; clear BK169; clear BK179; clear HB; have HO174 := n0_; have HO182 := n1_; have BK169 := n2_; have BK179 := n3_; have HB := n4_; clear n0_ n1_ n2_ n3_ n4_; (try clear hb); (try clear hb2); (try clear hk); (try clear hi); (try clear ho0)) | ((with_reducible refine gate_dst (N := 11) rfl ?_); refine box_event ?hg (N := 11) ?hd (cs := #[.int .i64 0, .int .i64 0, .int .i64 0]) (t := 52) ?hr ?_; (case hd => rfl); (case hg => rfl); (case hr => first | (go_simp; done) | (go_simp; rfl)); intro gb187 hg w28 hbox hb; have n0_ := Aside0.mk (Kd.R_below (by (with_reducible repeat (first | apply Kd.R_alloc | apply Kd.R_drewN | apply Kd.R_drew)); exact HO174.out) hb); have n1_ := Aside0.mk (Kd.R_below (by (with_reducible repeat (first | apply Kd.R_alloc | apply Kd.R_drewN | apply Kd.R_drew)); exact HO182.out) hb); have n2_ := Aside0.mk (blk_below (g := gb169) (o := .cells #[.int .i64 a0_0, .int .i64 a0_1, .int .i64 a0_2, .slice A0_3 l0_3.length c0_3, .slice A0_4 l0_4.length c0_4] 36 (0, 0)) (by (with_reducible repeat (first | refine blk_drewN ?_ _ | refine blk_drew ?_ | refine blk_alloc ?_ _)); exact BK169.out) hb); have n3_ := Aside0.mk (blk_below (g := gb179) (o := .cells #[.int .i64 t175, .int .i64 t176, .int .i64 t177] 52 (0, 0)) (by (with_reducible repeat (first | refine blk_drewN ?_ _ | refine blk_drew ?_ | refine blk_alloc ?_ _)); exact BK179.out) hb); have n4_ := Aside0.mk (below_step (by repeat (first | (with_reducible first | exact HB.out | apply below_alloc | apply pw_below_drewN | apply below_drew1 | refine below_set ?_ GE169.out | refine below_set ?_ GE179.out) | exact HB.out)) hb); have n5_ := Aside0.mk (hbox); have n6_ := Aside0.mk ((by rw [hg]; exact (below_size (by repeat (first | (with_reducible first | exact HB.out | apply below_alloc | apply pw_below_drewN | apply below_drew1 | refine below_set ?_ GE169.out | refine below_set ?_ GE179.out) | exact HB.out))) : w.heap.size ≤ gb187)); have n7_ := Aside0.mk ((by rw [hg]; exact (below_size (by repeat (first | (with_reducible first | exact HB.out | apply below_alloc | apply pw_below_drewN | apply below_drew1 | refine below_set ?_ GE169.out | refine below_set ?_ GE179.out) | exact HB.out))) : w.heap.size ≤ gb187)); have n8_ := Aside0.mk ((by rw [hg]; exact Nat.ne_of_lt (blk_lt (g := gb169) (o := .cells #[.int .i64 a0_0, .int .i64 a0_1, .int .i64 a0_2, .slice A0_3 l0_3.length c0_3, .slice A0_4 l0_4.length c0_4] 36 (0, 0)) (by (with_reducible repeat (first | refine blk_drewN ?_ _ | refine blk_drew ?_ | refine blk_alloc ?_ _)); exact BK169.out)) : gb169 ≠ gb187)); have n9_ := Aside0.mk ((by rw [hg]; exact Nat.ne_of_gt (blk_lt (g := gb169) (o := .cells #[.int .i64 a0_0, .int .i64 a0_1, .int .i64 a0_2, .slice A0_3 l0_3.length c0_3, .slice A0_4 l0_4.length c0_4] 36 (0, 0)) (by (with_reducible repeat (first | refine blk_drewN ?_ _ | refine blk_drew ?_ | refine blk_alloc ?_ _)); exact BK169.out)) : gb187 ≠ gb169)); have n10_ := Aside0.mk ((by rw [hg]; exact Nat.ne_of_lt (blk_lt (g := gb179) (o := .cells #[.int .i64 t175, .int .i64 t176, .int .i64 t177] 52 (0, 0)) (by (with_reducible repeat (first | refine blk_drewN ?_ _ | refine blk_drew ?_ | refine blk_alloc ?_ _)); exact BK179.out)) : gb179 ≠ gb187)); have n11_ := Aside0.mk ((by rw [hg]; exact Nat.ne_of_gt (blk_lt (g := gb179) (o := .cells #[.int .i64 t175, .int .i64 t176, .int .i64 t177] 52 (0, 0)) (by (with_reducible repeat (first | refine blk_drewN ?_ _ | refine blk_drew ?_ | refine blk_alloc ?_ _)); exact BK179.out)) : gb187 ≠ gb179)); clear HO174; clear HO182; clear BK169; clear BK179; clear HB; have HO174 := n0_; have HO182 := n1_; have BK169 := n2_; have BK179 := n3_; have HB := n4_; have BK187 := n5_; have GW187 := n6_; have GE187 := n7_; have NB169_187 := n8_; have NB187_169 := n9_; have NB179_187 := n10_; have NB187_179 := n11_; clear n0_ n1_ n2_ n3_ n4_ n5_ n6_ n7_ n8_ n9_ n10_ n11_; clear hb hbox hg; have hnb29 := NB187_169.out; have hnc29 := NB169_187.out; have hnb30 := NB187_179.out; have hnc30 := NB179_187.out; have hcz31_0 : w28.cell? ⟨gb187, 0, none⟩ = some (.int .i64 0) := (blk_cell BK187.out 0).trans rfl; have hcz31_1 : w28.cell? ⟨gb187, 1, none⟩ = some (.int .i64 0) := (blk_cell BK187.out 1).trans rfl; have hcz31_2 : w28.cell? ⟨gb187, 2, none⟩ = some (.int .i64 0) := (blk_cell BK187.out 2).trans rfl; have hfz31_0 := blk_frozen BK187.out 0; have hfz31_1 := blk_frozen BK187.out 1; have hfz31_2 := blk_frozen BK187.out 2) | ((with_reducible refine gate_callee (f := 16) rfl ?_); refine goesL_ (some 32) rfl rfl Try.func16 (by kernel_rfl) rfl #[] rfl (by (try simp only [List.map_toArray, List.map_cons, List.map_nil]); first | done | rfl | (simp only [List.length_drop, List.length_take]; rfl)) ?_; (with_reducible refine (hornbeamlaw12_fixed.calls  true _ A13.out).mono ?_); rintro e w32 ⟨rfl, hb⟩; refine ⟨_, rfl, ?_⟩; have n0_ := Aside0.mk (Kd.R_below (by (with_reducible repeat (first | apply Kd.R_alloc | apply Kd.R_drewN | apply Kd.R_drew)); exact (Kd.R_mono (Kd.R_far (p := ⟨gb187, 2, none⟩) (Kd.R_far (p := ⟨gb187, 1, none⟩) (Kd.R_far (p := ⟨gb187, 0, none⟩) (Kd.R_types HO174.out BK187.out (by decide)) (fun _ hk => hk.2) (.int .i64 t183)) (fun _ hk => hk.2) (.int .i64 t184)) (fun _ hk => hk.2) (.int .i64 t185)) (fun _ h_ => h_.1))) hb); have n1_ := Aside0.mk (Kd.R_below (by (with_reducible repeat (first | apply Kd.R_alloc | apply Kd.R_drewN | apply Kd.R_drew)); exact (Kd.R_mono (Kd.R_far (p := ⟨gb187, 2, none⟩) (Kd.R_far (p := ⟨gb187, 1, none⟩) (Kd.R_far (p := ⟨gb187, 0, none⟩) (Kd.R_types HO182.out BK187.out (by decide)) (fun _ hk => hk.2) (.int .i64 t183)) (fun _ hk => hk.2) (.int .i64 t184)) (fun _ hk => hk.2) (.int .i64 t185)) (fun _ h_ => h_.1))) hb); have n2_ := Aside0.mk (blk_below (g := gb169) (o := .cells #[.int .i64 a0_0, .int .i64 a0_1, .int .i64 a0_2, .slice A0_3 l0_3.length c0_3, .slice A0_4 l0_4.length c0_4] 36 (0, 0)) (by (with_reducible repeat (first | refine blk_drewN ?_ _ | refine blk_drew ?_ | refine blk_alloc ?_ _)); refine blk_far ?_ NB169_187.out _; (with_reducible repeat (first | refine blk_drewN ?_ _ | refine blk_drew ?_ | refine blk_alloc ?_ _)); refine blk_far ?_ NB169_187.out _; (with_reducible repeat (first | refine blk_drewN ?_ _ | refine blk_drew ?_ | refine blk_alloc ?_ _)); refine blk_far ?_ NB169_187.out _; (with_reducible repeat (first | refine blk_drewN ?_ _ | refine blk_drew ?_ | refine blk_alloc ?_ _)); exact BK169.out) hb); have n3_ := Aside0.mk (blk_below (g := gb179) (o := .cells #[.int .i64 t175, .int .i64 t176, .int .i64 t177] 52 (0, 0)) (by (with_reducible repeat (first | refine blk_drewN ?_ _ | refine blk_drew ?_ | refine blk_alloc ?_ _)); refine blk_far ?_ NB179_187.out _; (with_reducible repeat (first | refine blk_drewN ?_ _ | refine blk_drew ?_ | refine blk_alloc ?_ _)); refine blk_far ?_ NB179_187.out _; (with_reducible repeat (first | refine blk_drewN ?_ _ | refine blk_drew ?_ | refine blk_alloc ?_ _)); refine blk_far ?_ NB179_187.out _; (with_reducible repeat (first | refine blk_drewN ?_ _ | refine blk_drew ?_ | refine blk_alloc ?_ _)); exact BK179.out) hb); have n4_ := Aside0.mk (blk_below (g := gb187) (o := .cells #[.int .i64 t183, .int .i64 t184, .int .i64 t185] 52 (0, 0)) (by (with_reducible repeat (first | refine blk_drewN ?_ _ | refine blk_drew ?_ | refine blk_alloc ?_ _)); refine blk_put (cs := #[.int .i64 t183, .int .i64 t184, .int .i64 0]) ?_ 2 _ rfl; (with_reducible repeat (first | refine blk_drewN ?_ _ | refine blk_drew ?_ | refine blk_alloc ?_ _)); refine blk_put (cs := #[.int .i64 t183, .int .i64 0, .int .i64 0]) ?_ 1 _ rfl; (with_reducible repeat (first | refine blk_drewN ?_ _ | refine blk_drew ?_ | refine blk_alloc ?_ _)); refine blk_put (cs := #[.int .i64 0, .int .i64 0, .int .i64 0]) ?_ 0 _ rfl; (with_reducible repeat (first | refine blk_drewN ?_ _ | refine blk_drew ?_ | refine blk_alloc ?_ _)); exact BK187.out) hb); have n5_ := Aside0.mk (below_step (by repeat (first | (with_reducible first | exact HB.out | apply below_alloc | apply pw_below_drewN | apply below_drew1 | refine below_set ?_ GE169.out | refine below_set ?_ GE179.out | refine below_set ?_ GE187.out) | exact HB.out)) hb); clear HO174; clear HO182; clear BK169; clear BK179; clear BK187; clear HB; have HO174 := n0_; have HO182 := n1_; have BK169 := n2_; have BK179 := n3_; have BK187 := n4_; have HB := n5_; clear n0_ n1_ n2_ n3_ n4_ n5_; (try clear hb); (try clear hb2); (try clear hk); (try clear hi); obtain ⟨Ao33, co33, eo33⟩ := Kd.R_slice HO174.out; subst eo33; obtain ⟨Ao34, co34, eo34⟩ := Kd.R_slice HO182.out; subst eo34) | (go_at_call 27; (with_reducible refine (hornbeamref12_SameCounts.calls k _ _ t172 _ _ t180 true _ ?side1 ?side2 ?side3 ?side4 A15.out).mono ?_); (case side1 => repeat (first | exact (Kd.R_reads' HO174.out).2.2 | (with_reducible refine Kd.C_alloc ?_ _) | (with_reducible refine Kd.C_drewN ?_ _) | (with_reducible refine Kd.C_drew ?_))); (case side2 => exact (Kd.R_reads' HO174.out).2.1); (case side3 => repeat (first | exact (Kd.R_reads' HO182.out).2.2 | (with_reducible refine Kd.C_alloc ?_ _) | (with_reducible refine Kd.C_drewN ?_ _) | (with_reducible refine Kd.C_drew ?_))); (case side4 => exact (Kd.R_reads' HO182.out).2.1); rintro e w' ⟨rfl, ⟨nd, rfl⟩⟩; have hcz35_0 : w32.cell? ⟨gb179, 0, none⟩ = some (.int .i64 t175) := (blk_cell BK179.out 0).trans rfl; have hcz35_1 : w32.cell? ⟨gb179, 1, none⟩ = some (.int .i64 t176) := (blk_cell BK179.out 1).trans rfl; have hcz35_2 : w32.cell? ⟨gb179, 2, none⟩ = some (.int .i64 t177) := (blk_cell BK179.out 2).trans rfl; have hfz35_0 := blk_frozen BK179.out 0; have hfz35_1 := blk_frozen BK179.out 1; have hfz35_2 := blk_frozen BK179.out 2; have hcz36_0 : w32.cell? ⟨gb187, 0, none⟩ = some (.int .i64 t183) := (blk_cell BK187.out 0).trans rfl; have hcz36_1 : w32.cell? ⟨gb187, 1, none⟩ = some (.int .i64 t184) := (blk_cell BK187.out 1).trans rfl; have hcz36_2 : w32.cell? ⟨gb187, 2, none⟩ = some (.int .i64 t185) := (blk_cell BK187.out 2).trans rfl; have hfz36_0 := blk_frozen BK187.out 0; have hfz36_1 := blk_frozen BK187.out 1; have hfz36_2 := blk_frozen BK187.out 2))
          go_ret
          exact ⟨by first | rfl | (simp [errW_none, errW_some] <;> rfl) | (simp [*, errW_none, errW_some] <;> rfl), by repeat (first | (with_reducible first | exact HB.out | apply below_alloc | apply pw_below_drewN | apply below_drew1 | refine below_set ?_ GE169.out | refine below_set ?_ GE179.out | refine below_set ?_ GE187.out) | exact HB.out)⟩
        · rw [if_neg c17] at H
          have c17b0 : (t175 == t183 && (t176 == t184 && (t177 == t185))) = false := by simpa using c17
          (try (have c17b1 : decide (t175 = t183 && (t176 == t184 && (t177 == t185))) = false := by simpa using c17))
          (try (have c17b2 : (t175 == t183 && (t176 == t184 && (t177 == t185))) = false := by simpa using c17))
          (try (have c17b3 : ¬ (t175 = t183 && (t176 == t184 && (t177 == t185))) := by simpa using c17))
          clear c17
          obtain rfl := Option.some.inj H
          go_enter Try.func8, Try.ntmps8
          go_wp2_with (first | ((with_reducible refine gate_dst (N := 3) rfl ?_); refine box_event ?hg (N := 3) ?hd (cs := #[.int .i64 a0_0, .int .i64 a0_1, .int .i64 a0_2, .slice A0_3 l0_3.length c0_3, .slice A0_4 l0_4.length c0_4]) (t := 36) ?hr ?_; (case hd => rfl); (case hg => rfl); (case hr => first | (go_simp; done) | (go_simp; rfl)); intro gb169 hg w37 hbox hb; have n0_ := Aside0.mk (below_step (by repeat (first | (with_reducible first | exact HB.out | apply below_alloc | apply pw_below_drewN | apply below_drew1) | exact HB.out)) hb); have n1_ := Aside0.mk (hbox); have n2_ := Aside0.mk ((by rw [hg]; exact (below_size (by repeat (first | (with_reducible first | exact HB.out | apply below_alloc | apply pw_below_drewN | apply below_drew1) | exact HB.out))) : w.heap.size ≤ gb169)); have n3_ := Aside0.mk ((by rw [hg]; exact (below_size (by repeat (first | (with_reducible first | exact HB.out | apply below_alloc | apply pw_below_drewN | apply below_drew1) | exact HB.out))) : w.heap.size ≤ gb169)); clear HB; have HB := n0_; have BK169 := n1_; have GW169 := n2_; have GE169 := n3_; clear n0_ n1_ n2_ n3_; clear hb hbox hg; have hcz38_0 : w37.cell? ⟨gb169, 0, none⟩ = some (.int .i64 a0_0) := (blk_cell BK169.out 0).trans rfl; have hcz38_1 : w37.cell? ⟨gb169, 1, none⟩ = some (.int .i64 a0_1) := (blk_cell BK169.out 1).trans rfl; have hcz38_2 : w37.cell? ⟨gb169, 2, none⟩ = some (.int .i64 a0_2) := (blk_cell BK169.out 2).trans rfl; have hcz38_3 : w37.cell? ⟨gb169, 3, none⟩ = some (.slice A0_3 l0_3.length c0_3) := (blk_cell BK169.out 3).trans rfl; have hcz38_4 : w37.cell? ⟨gb169, 4, none⟩ = some (.slice A0_4 l0_4.length c0_4) := (blk_cell BK169.out 4).trans rfl; have hfz38_0 := blk_frozen BK169.out 0; have hfz38_1 := blk_frozen BK169.out 1; have hfz38_2 := blk_frozen BK169.out 2; have hfz38_3 := blk_frozen BK169.out 3; have hfz38_4 := blk_frozen BK169.out 4) | ((with_reducible refine gate_callee (f := 23) rfl ?_); refine goesL_ (some 14) rfl rfl Try.func23 (by kernel_rfl) rfl #[.agg #[.int .i64 a0_0, .int .i64 a0_1, .int .i64 a0_2, .slice A0_3 l0_3.length c0_3, .slice A0_4 l0_4.length c0_4]] rfl (by (try simp only [List.map_toArray, List.map_cons, List.map_nil]); first | done | rfl | (simp only [List.length_drop, List.length_take]; rfl)) ?_; (with_reducible refine (hornbeamlaw12_Great.calls a0_0 a0_1 a0_2 _ _ l0_3 _ _ l0_4 false _ ?side1 ?side2 ?side3 ?side4 A4.out).mono ?_); (case side1 => repeat (first | exact (Kd.C_below HR0_3.out HB.out) | (with_reducible refine Kd.C_alloc ?_ _) | (with_reducible refine Kd.C_drewN ?_ _) | (with_reducible refine Kd.C_drew ?_))); (case side2 => exact HC0_3.out); (case side3 => repeat (first | exact (Kd.C_below HR0_4.out HB.out) | (with_reducible refine Kd.C_alloc ?_ _) | (with_reducible refine Kd.C_drewN ?_ _) | (with_reducible refine Kd.C_drew ?_))); (case side4 => exact HC0_4.out); rintro e w39 ⟨rfl, hb⟩; refine ⟨_, rfl, ?_⟩; have n0_ := Aside0.mk (blk_below (g := gb169) (o := .cells #[.int .i64 a0_0, .int .i64 a0_1, .int .i64 a0_2, .slice A0_3 l0_3.length c0_3, .slice A0_4 l0_4.length c0_4] 36 (0, 0)) (by (with_reducible repeat (first | refine blk_drewN ?_ _ | refine blk_drew ?_ | refine blk_alloc ?_ _)); exact BK169.out) hb); have n1_ := Aside0.mk (below_step (by repeat (first | (with_reducible first | exact HB.out | apply below_alloc | apply pw_below_drewN | apply below_drew1 | refine below_set ?_ GE169.out) | exact HB.out)) hb); clear BK169; clear HB; have BK169 := n0_; have HB := n1_; clear n0_ n1_; (try clear hb); (try clear hb2); (try clear hk); (try clear hi); have hcz40_0 : w39.cell? ⟨gb169, 0, none⟩ = some (.int .i64 a0_0) := (blk_cell BK169.out 0).trans rfl; have hcz40_1 : w39.cell? ⟨gb169, 1, none⟩ = some (.int .i64 a0_1) := (blk_cell BK169.out 1).trans rfl; have hcz40_2 : w39.cell? ⟨gb169, 2, none⟩ = some (.int .i64 a0_2) := (blk_cell BK169.out 2).trans rfl; have hcz40_3 : w39.cell? ⟨gb169, 3, none⟩ = some (.slice A0_3 l0_3.length c0_3) := (blk_cell BK169.out 3).trans rfl; have hcz40_4 : w39.cell? ⟨gb169, 4, none⟩ = some (.slice A0_4 l0_4.length c0_4) := (blk_cell BK169.out 4).trans rfl; have hfz40_0 := blk_frozen BK169.out 0; have hfz40_1 := blk_frozen BK169.out 1; have hfz40_2 := blk_frozen BK169.out 2; have hfz40_3 := blk_frozen BK169.out 3; have hfz40_4 := blk_frozen BK169.out 4) | ((with_reducible refine gate_callee (f := 25) rfl ?_); refine goesL_ (some 20) rfl rfl Try.func25 (by kernel_rfl) rfl #[.agg #[.int .i64 a0_0, .int .i64 a0_1, .int .i64 a0_2, .slice A0_3 l0_3.length c0_3, .slice A0_4 l0_4.length c0_4], .int .i64 a1, .int .i64 a2] rfl (by (try simp only [List.map_toArray, List.map_cons, List.map_nil]); first | done | rfl | (simp only [List.length_drop, List.length_take]; rfl)) ?_; (with_reducible refine (hist_Sum.calls a0_0 a0_1 a0_2 _ _ l0_3 _ _ l0_4 a1 a2 t172 t175 t176 t177 t178 _ ?side1 ?side2 ?side3 ?side4 A11.out).mono ?_); (case side1 => repeat (first | exact (Kd.C_below HR0_3.out HB.out) | (with_reducible refine Kd.C_alloc ?_ _) | (with_reducible refine Kd.C_drewN ?_ _) | (with_reducible refine Kd.C_drew ?_))); (case side2 => exact HC0_3.out); (case side3 => repeat (first | exact (Kd.C_below HR0_4.out HB.out) | (with_reducible refine Kd.C_alloc ?_ _) | (with_reducible refine Kd.C_drewN ?_ _) | (with_reducible refine Kd.C_drew ?_))); (case side4 => exact HC0_4.out); rintro e w41 ⟨v173, rfl, ho0, hb⟩; refine ⟨_, rfl, ?_⟩; have n0_ := Aside0.mk (Kd.R_lower ho0 (below_size (by repeat (first | (with_reducible first | exact HB.out | apply below_alloc | apply pw_below_drewN | apply below_drew1 | refine below_set ?_ GE169.out) | exact HB.out)))); have n1_ := Aside0.mk (blk_below (g := gb169) (o := .cells #[.int .i64 a0_0, .int .i64 a0_1, .int .i64 a0_2, .slice A0_3 l0_3.length c0_3, .slice A0_4 l0_4.length c0_4] 36 (0, 0)) (by (with_reducible repeat (first | refine blk_drewN ?_ _ | refine blk_drew ?_ | refine blk_alloc ?_ _)); exact BK169.out) hb); have n2_ := Aside0.mk (below_step (by repeat (first | (with_reducible first | exact HB.out | apply below_alloc | apply pw_below_drewN | apply below_drew1 | refine below_set ?_ GE169.out) | exact HB.out)) hb); clear BK169; clear HB; have HO174 := n0_; have BK169 := n1_; have HB := n2_; clear n0_ n1_ n2_; (try clear hb); (try clear hb2); (try clear hk); (try clear hi); (try clear ho0)) | ((with_reducible refine gate_dst (N := 8) rfl ?_); refine box_event ?hg (N := 8) ?hd (cs := #[.int .i64 0, .int .i64 0, .int .i64 0]) (t := 52) ?hr ?_; (case hd => rfl); (case hg => rfl); (case hr => first | (go_simp; done) | (go_simp; rfl)); intro gb179 hg w42 hbox hb; have n0_ := Aside0.mk (Kd.R_below (by (with_reducible repeat (first | apply Kd.R_alloc | apply Kd.R_drewN | apply Kd.R_drew)); exact HO174.out) hb); have n1_ := Aside0.mk (blk_below (g := gb169) (o := .cells #[.int .i64 a0_0, .int .i64 a0_1, .int .i64 a0_2, .slice A0_3 l0_3.length c0_3, .slice A0_4 l0_4.length c0_4] 36 (0, 0)) (by (with_reducible repeat (first | refine blk_drewN ?_ _ | refine blk_drew ?_ | refine blk_alloc ?_ _)); exact BK169.out) hb); have n2_ := Aside0.mk (below_step (by repeat (first | (with_reducible first | exact HB.out | apply below_alloc | apply pw_below_drewN | apply below_drew1 | refine below_set ?_ GE169.out) | exact HB.out)) hb); have n3_ := Aside0.mk (hbox); have n4_ := Aside0.mk ((by rw [hg]; exact (below_size (by repeat (first | (with_reducible first | exact HB.out | apply below_alloc | apply pw_below_drewN | apply below_drew1 | refine below_set ?_ GE169.out) | exact HB.out))) : w.heap.size ≤ gb179)); have n5_ := Aside0.mk ((by rw [hg]; exact (below_size (by repeat (first | (with_reducible first | exact HB.out | apply below_alloc | apply pw_below_drewN | apply below_drew1 | refine below_set ?_ GE169.out) | exact HB.out))) : w.heap.size ≤ gb179)); have n6_ := Aside0.mk ((by rw [hg]; exact Nat.ne_of_lt (blk_lt (g := gb169) (o := .cells #[.int .i64 a0_0, .int .i64 a0_1, .int .i64 a0_2, .slice A0_3 l0_3.length c0_3, .slice A0_4 l0_4.length c0_4] 36 (0, 0)) (by (with_reducible repeat (first | refine blk_drewN ?_ _ | refine blk_drew ?_ | refine blk_alloc ?_ _)); exact BK169.out)) : gb169 ≠ gb179)); have n7_ := Aside0.mk ((by rw [hg]; exact Nat.ne_of_gt (blk_lt (g := gb169) (o := .cells #[.int .i64 a0_0, .int .i64 a0_1, .int .i64 a0_2, .slice A0_3 l0_3.length c0_3, .slice A0_4 l0_4.length c0_4] 36 (0, 0)) (by (with_reducible repeat (first | refine blk_drewN ?_ _ | refine blk_drew ?_ | refine blk_alloc ?_ _)); exact BK169.out)) : gb179 ≠ gb169)); clear HO174; clear BK169; clear HB; have HO174 := n0_; have BK169 := n1_; have HB := n2_; have BK179 := n3_; have GW179 := n4_; have GE179 := n5_; have NB169_179 := n6_; have NB179_169 := n7_; clear n0_ n1_ n2_ n3_ n4_ n5_ n6_ n7_; clear hb hbox hg; have hnb43 := NB179_169.out; have hnc43 := NB169_179.out; have hcz44_0 : w42.cell? ⟨gb179, 0, none⟩ = some (.int .i64 0) := (blk_cell BK179.out 0).trans rfl; have hcz44_1 : w42.cell? ⟨gb179, 1, none⟩ = some (.int .i64 0) := (blk_cell BK179.out 1).trans rfl; have hcz44_2 : w42.cell? ⟨gb179, 2, none⟩ = some (.int .i64 0) := (blk_cell BK179.out 2).trans rfl; have hfz44_0 := blk_frozen BK179.out 0; have hfz44_1 := blk_frozen BK179.out 1; have hfz44_2 := blk_frozen BK179.out 2; have hcz45_0 : w42.cell? ⟨gb169, 0, none⟩ = some (.int .i64 a0_0) := (blk_cell BK169.out 0).trans rfl; have hcz45_1 : w42.cell? ⟨gb169, 1, none⟩ = some (.int .i64 a0_1) := (blk_cell BK169.out 1).trans rfl; have hcz45_2 : w42.cell? ⟨gb169, 2, none⟩ = some (.int .i64 a0_2) := (blk_cell BK169.out 2).trans rfl; have hcz45_3 : w42.cell? ⟨gb169, 3, none⟩ = some (.slice A0_3 l0_3.length c0_3) := (blk_cell BK169.out 3).trans rfl; have hcz45_4 : w42.cell? ⟨gb169, 4, none⟩ = some (.slice A0_4 l0_4.length c0_4) := (blk_cell BK169.out 4).trans rfl; have hfz45_0 := blk_frozen BK169.out 0; have hfz45_1 := blk_frozen BK169.out 1; have hfz45_2 := blk_frozen BK169.out 2; have hfz45_3 := blk_frozen BK169.out 3; have hfz45_4 := blk_frozen BK169.out 4) | ((with_reducible refine gate_callee (f := 26) rfl ?_); refine goesL_ (some 28) rfl rfl Try.func26 (by kernel_rfl) rfl #[.agg #[.int .i64 a0_0, .int .i64 a0_1, .int .i64 a0_2, .slice A0_3 l0_3.length c0_3, .slice A0_4 l0_4.length c0_4], .int .i64 a1, .int .i64 a2] rfl (by (try simp only [List.map_toArray, List.map_cons, List.map_nil]); first | done | rfl | (simp only [List.length_drop, List.length_take]; rfl)) ?_; (with_reducible refine (hornbeamref12_Sum.calls k a0_0 a0_1 a0_2 _ _ l0_3 _ _ l0_4 a1 a2 t180 t183 t184 t185 t186 _ ?side1 ?side2 ?side3 ?side4 A12.out).mono ?_); (case side1 => exact Kd.C_below HR0_3.out (by repeat (first | (with_reducible first | exact HB.out | apply below_alloc | apply pw_below_drewN | apply below_drew1 | refine below_set ?_ GE169.out | refine below_set ?_ GE179.out) | exact HB.out))); (case side2 => exact HC0_3.out); (case side3 => exact Kd.C_below HR0_4.out (by repeat (first | (with_reducible first | exact HB.out | apply below_alloc | apply pw_below_drewN | apply below_drew1 | refine below_set ?_ GE169.out | refine below_set ?_ GE179.out) | exact HB.out))); (case side4 => exact HC0_4.out); rintro e w46 ⟨v181, rfl, ho0, hb⟩; refine ⟨_, rfl, ?_⟩; have n0_ := Aside0.mk (Kd.R_elder' (by (with_reducible repeat (first | apply Kd.R_alloc | apply Kd.R_drewN | apply Kd.R_drew)); exact (Kd.R_mono (Kd.R_far (p := ⟨gb179, 2, none⟩) (Kd.R_far (p := ⟨gb179, 1, none⟩) (Kd.R_far (p := ⟨gb179, 0, none⟩) (Kd.R_types HO174.out BK179.out (by decide)) (fun _ hk => hk.2) (.int .i64 t175)) (fun _ hk => hk.2) (.int .i64 t176)) (fun _ hk => hk.2) (.int .i64 t177)) (fun _ h_ => h_.1))) (Kd.R_base ho0) hb); have n1_ := Aside0.mk (Kd.R_lower (Kd.R_new' ho0 (Kd.R_lt (by (with_reducible repeat (first | apply Kd.R_alloc | apply Kd.R_drewN | apply Kd.R_drew)); exact (Kd.R_mono (Kd.R_far (p := ⟨gb179, 2, none⟩) (Kd.R_far (p := ⟨gb179, 1, none⟩) (Kd.R_far (p := ⟨gb179, 0, none⟩) (Kd.R_types HO174.out BK179.out (by decide)) (fun _ hk => hk.2) (.int .i64 t175)) (fun _ hk => hk.2) (.int .i64 t176)) (fun _ hk => hk.2) (.int .i64 t177)) (fun _ h_ => h_.1))))) (below_size (by repeat (first | (with_reducible first | exact HB.out | apply below_alloc | apply pw_below_drewN | apply below_drew1 | refine below_set ?_ GE169.out | refine below_set ?_ GE179.out) | exact HB.out)))); have n2_ := Aside0.mk (blk_below (g := gb169) (o := .cells #[.int .i64 a0_0, .int .i64 a0_1, .int .i64 a0_2, .slice A0_3 l0_3.length c0_3, .slice A0_4 l0_4.length c0_4] 36 (0, 0)) (by (with_reducible repeat (first | refine blk_drewN ?_ _ | refine blk_drew ?_ | refine blk_alloc ?_ _)); refine blk_far ?_ NB169_179.out _; (with_reducible repeat (first | refine blk_drewN ?_ _ | refine blk_drew ?_ | refine blk_alloc ?_ _)); refine blk_far ?_ NB169_179.out _; (with_reducible repeat (first | refine blk_drewN ?_ _ | refine blk_drew ?_ | refine blk_alloc ?_ _)); refine blk_far ?_ NB169_179.out _; (with_reducible repeat (first | refine blk_drewN ?_ _ | refine blk_drew ?_ | refine blk_alloc ?_ _)); exact BK169.out) hb); have n3_ := Aside0.mk (blk_below (g := gb179) (o := .cells #[.int .i64 t175, .int .i64 t176, .int .i64 t177] 52 (0, 0)) (by (with_reducible repeat (first | refine blk_drewN ?_ _ | refine blk_drew ?_ | refine blk_alloc ?_ _)); refine blk_put (cs := #[.int .i64 t175, .int .i64 t176, .int .i64 0]) ?_ 2 _ rfl; (with_reducible repeat (first | refine blk_drewN ?_ _ | refine blk_drew ?_ | refine blk_alloc ?_ _)); refine blk_put (cs := #[.int .i64 t175, .int .i64 0, .int .i64 0]) ?_ 1 _ rfl; (with_reducible repeat (first | refine blk_drewN ?_ _ | refine blk_drew ?_ | refine blk_alloc ?_ _)); refine blk_put (cs := #[.int .i64 0, .int .i64 0, .int .i64 0]) ?_ 0 _ rfl; (with_reducible repeat (first | refine blk_drewN ?_ _ | refine blk_drew ?_ | refine blk_alloc ?_ _)); exact BK179.out) hb); have n4_ := Aside0.mk (below_step (by repeat (first | (with_reducible first | exact HB.out | apply below_alloc | apply pw_below_drewN | apply below_drew1 | refine below_set ?_ GE169.out | refine below_set ?_ GE179.out) | exact HB.out)) hb); clear HO174; clear BK169; clear BK179; clear HB; have HO174 := n0_; have HO182 := n1_; have BK169 := n2_; have BK179 := n3_; have HB := n4_; clear n0_ n1_ n2_ n3_ n4_; (try clear hb); (try clear hb2); (try clear hk); (try clear hi); (try clear ho0)) | ((with_reducible refine gate_dst (N := 11) rfl ?_); refine box_event ?hg (N := 11) ?hd (cs := #[.int .i64 0, .int .i64 0, .int .i64 0]) (t := 52) ?hr ?_; (case hd => rfl); (case hg => rfl); (case hr => first | (go_simp; done) | (go_simp; rfl)); intro gb187 hg w47 hbox hb; have n0_ := Aside0.mk (Kd.R_below (by (with_reducible repeat (first | apply Kd.R_alloc | apply Kd.R_drewN | apply Kd.R_drew)); exact HO174.out) hb); have n1_ := Aside0.mk (Kd.R_below (by (with_reducible repeat (first | apply Kd.R_alloc | apply Kd.R_drewN | apply Kd.R_drew)); exact HO182.out) hb); have n2_ := Aside0.mk (blk_below (g := gb169) (o := .cells #[.int .i64 a0_0, .int .i64 a0_1, .int .i64 a0_2, .slice A0_3 l0_3.length c0_3, .slice A0_4 l0_4.length c0_4] 36 (0, 0)) (by (with_reducible repeat (first | refine blk_drewN ?_ _ | refine blk_drew ?_ | refine blk_alloc ?_ _)); exact BK169.out) hb); have n3_ := Aside0.mk (blk_below (g := gb179) (o := .cells #[.int .i64 t175, .int .i64 t176, .int .i64 t177] 52 (0, 0)) (by (with_reducible repeat (first | refine blk_drewN ?_ _ | refine blk_drew ?_ | refine blk_alloc ?_ _)); exact BK179.out) hb); have n4_ := Aside0.mk (below_step (by repeat (first | (with_reducible first | exact HB.out | apply below_alloc | apply pw_below_drewN | apply below_drew1 | refine below_set ?_ GE169.out | refine below_set ?_ GE179.out) | exact HB.out)) hb); have n5_ := Aside0.mk (hbox); have n6_ := Aside0.mk ((by rw [hg]; exact (below_size (by repeat (first | (with_reducible first | exact HB.out | apply below_alloc | apply pw_below_drewN | apply below_drew1 | refine below_set ?_ GE169.out | refine below_set ?_ GE179.out) | exact HB.out))) : w.heap.size ≤ gb187)); have n7_ := Aside0.mk ((by rw [hg]; exact (below_size (by repeat (first | (with_reducible first | exact HB.out | apply below_alloc | apply pw_below_drewN | apply below_drew1 | refine below_set ?_ GE169.out | refine below_set ?_ GE179.out) | exact HB.out))) : w.heap.size ≤ gb187)); have n8_ := Aside0.mk ((by rw [hg]; exact Nat.ne_of_lt (blk_lt (g := gb169) (o := .cells #[.int .i64 a0_0, .int .i64 a0_1, .int .i64 a0_2, .slice A0_3 l0_3.length c0_3, .slice A0_4 l0_4.length c0_4] 36 (0, 0)) (by (with_reducible repeat (first | refine blk_drewN ?_ _ | refine blk_drew ?_ | refine blk_alloc ?_ _)); exact BK169.out)) : gb169 ≠ gb187)); have n9_ := Aside0.mk ((by rw [hg]; exact Nat.ne_of_gt (blk_lt (g := gb169) (o := .cells #[.int .i64 a0_0, .int .i64 a0_1, .int .i64 a0_2, .slice A0_3 l0_3.length c0_3, .slice A0_4 l0_4.length c0_4] 36 (0, 0)) (by (with_reducible repeat (first | refine blk_drewN ?_ _ | refine blk_drew ?_ | refine blk_alloc ?_ _)); exact BK169.out)) : gb187 ≠ gb169)); have n10_ := Aside0.mk ((by rw [hg]; exact Nat.ne_of_lt (blk_lt (g := gb179) (o := .cells #[.int .i64 t175, .int .i64 t176, .int .i64 t177] 52 (0, 0)) (by (with_reducible repeat (first | refine blk_drewN ?_ _ | refine blk_drew ?_ | refine blk_alloc ?_ _)); exact BK179.out)) : gb179 ≠ gb187)); have n11_ := Aside0.mk ((by rw [hg]; exact Nat.ne_of_gt (blk_lt (g := gb179) (o := .cells #[.int .i64 t175, .int .i64 t176, .int .i64 t177] 52 (0, 0)) (by (with_reducible repeat (first | refine blk_drewN ?_ _ | refine blk_drew ?_ | refine blk_alloc ?_ _)); exact BK179.out)) : gb187 ≠ gb179)); clear HO174; clear HO182; clear BK169; clear BK179; clear HB; have HO174 := n0_; have HO182 := n1_; have BK169 := n2_; have BK179 := n3_; have HB := n4_; have BK187 := n5_; have GW187 := n6_; have GE187 := n7_; have NB169_187 := n8_; have NB187_169 := n9_; have NB179_187 := n10_; have NB187_179 := n11_; clear n0_ n1_ n2_ n3_ n4_ n5_ n6_ n7_ n8_ n9_ n10_ n11_; clear hb hbox hg; have hnb48 := NB187_169.out; have hnc48 := NB169_187.out; have hnb49 := NB187_179.out; have hnc49 := NB179_187.out; have hcz50_0 : w47.cell? ⟨gb187, 0, none⟩ = some (.int .i64 0) := (blk_cell BK187.out 0).trans rfl; have hcz50_1 : w47.cell? ⟨gb187, 1, none⟩ = some (.int .i64 0) := (blk_cell BK187.out 1).trans rfl; have hcz50_2 : w47.cell? ⟨gb187, 2, none⟩ = some (.int .i64 0) := (blk_cell BK187.out 2).trans rfl; have hfz50_0 := blk_frozen BK187.out 0; have hfz50_1 := blk_frozen BK187.out 1; have hfz50_2 := blk_frozen BK187.out 2) | ((with_reducible refine gate_callee (f := 16) rfl ?_); refine goesL_ (some 32) rfl rfl Try.func16 (by kernel_rfl) rfl #[] rfl (by (try simp only [List.map_toArray, List.map_cons, List.map_nil]); first | done | rfl | (simp only [List.length_drop, List.length_take]; rfl)) ?_; (with_reducible refine (hornbeamlaw12_fixed.calls  true _ A13.out).mono ?_); rintro e w51 ⟨rfl, hb⟩; refine ⟨_, rfl, ?_⟩; have n0_ := Aside0.mk (Kd.R_below (by (with_reducible repeat (first | apply Kd.R_alloc | apply Kd.R_drewN | apply Kd.R_drew)); exact (Kd.R_mono (Kd.R_far (p := ⟨gb187, 2, none⟩) (Kd.R_far (p := ⟨gb187, 1, none⟩) (Kd.R_far (p := ⟨gb187, 0, none⟩) (Kd.R_types HO174.out BK187.out (by decide)) (fun _ hk => hk.2) (.int .i64 t183)) (fun _ hk => hk.2) (.int .i64 t184)) (fun _ hk => hk.2) (.int .i64 t185)) (fun _ h_ => h_.1))) hb); have n1_ := Aside0.mk (Kd.R_below (by (with_reducible repeat (first | apply Kd.R_alloc | apply Kd.R_drewN | apply Kd.R_drew)); exact (Kd.R_mono (Kd.R_far (p := ⟨gb187, 2, none⟩) (Kd.R_far (p := ⟨gb187, 1, none⟩) (Kd.R_far (p := ⟨gb187, 0, none⟩) (Kd.R_types HO182.out BK187.out (by decide)) (fun _ hk => hk.2) (.int .i64 t183)) (fun _ hk => hk.2) (.int .i64 t184)) (fun _ hk => hk.2) (.int .i64 t185)) (fun _ h_ => h_.1))) hb); have n2_ := Aside0.mk (blk_below (g := gb169) (o := .cells #[.int .i64 a0_0, .int .i64 a0_1, .int .i64 a0_2, .slice A0_3 l0_3.length c0_3, .slice A0_4 l0_4.length c0_4] 36 (0, 0)) (by (with_reducible repeat (first | refine blk_drewN ?_ _ | refine blk_drew ?_ | refine blk_alloc ?_ _)); refine blk_far ?_ NB169_187.out _; (with_reducible repeat (first | refine blk_drewN ?_ _ | refine blk_drew ?_ | refine blk_alloc ?_ _)); refine blk_far ?_ NB169_187.out _; (with_reducible repeat (first | refine blk_drewN ?_ _ | refine blk_drew ?_ | refine blk_alloc ?_ _)); refine blk_far ?_ NB169_187.out _; (with_reducible repeat (first | refine blk_drewN ?_ _ | refine blk_drew ?_ | refine blk_alloc ?_ _)); exact BK169.out) hb); have n3_ := Aside0.mk (blk_below (g := gb179) (o := .cells #[.int .i64 t175, .int .i64 t176, .int .i64 t177] 52 (0, 0)) (by (with_reducible repeat (first | refine blk_drewN ?_ _ | refine blk_drew ?_ | refine blk_alloc ?_ _)); refine blk_far ?_ NB179_187.out _; (with_reducible repeat (first | refine blk_drewN ?_ _ | refine blk_drew ?_ | refine blk_alloc ?_ _)); refine blk_far ?_ NB179_187.out _; (with_reducible repeat (first | refine blk_drewN ?_ _ | refine blk_drew ?_ | refine blk_alloc ?_ _)); refine blk_far ?_ NB179_187.out _; (with_reducible repeat (first | refine blk_drewN ?_ _ | refine blk_drew ?_ | refine blk_alloc ?_ _)); exact BK179.out) hb); have n4_ := Aside0.mk (blk_below (g := gb187) (o := .cells #[.int .i64 t183, .int .i64 t184, .int .i64 t185] 52 (0, 0)) (by (with_reducible repeat (first | refine blk_drewN ?_ _ | refine blk_drew ?_ | refine blk_alloc ?_ _)); refine blk_put (cs := #[.int .i64 t183, .int .i64 t184, .int .i64 0]) ?_ 2 _ rfl; (with_reducible repeat (first | refine blk_drewN ?_ _ | refine blk_drew ?_ | refine blk_alloc ?_ _)); refine blk_put (cs := #[.int .i64 t183, .int .i64 0, .int .i64 0]) ?_ 1 _ rfl; (with_reducible repeat (first | refine blk_drewN ?_ _ | refine blk_drew ?_ | refine blk_alloc ?_ _)); refine blk_put (cs := #[.int .i64 0, .int .i64 0, .int .i64 0]) ?_ 0 _ rfl; (with_reducible repeat (first | refine blk_drewN ?_ _ | refine blk_drew ?_ | refine blk_alloc ?_ _)); exact BK187.out) hb); have n5_ := Aside0.mk (below_step (by repeat (first | (with_reducible first | exact HB.out | apply below_alloc | apply pw_below_drewN | apply below_drew1 | refine below_set ?_ GE169.out | refine below_set ?_ GE179.out | refine below_set ?_ GE187.out) | exact HB.out)) hb); clear HO174; clear HO182; clear BK169; clear BK179; clear BK187; clear HB; have HO174 := n0_; have HO182 := n1_; have BK169 := n2_; have BK179 := n3_; have BK187 := n4_; have HB := n5_; clear n0_ n1_ n2_ n3_ n4_ n5_; (try clear hb); (try clear hb2); (try clear hk); (try clear hi); obtain ⟨Ao52, co52, eo52⟩ := Kd.R_slice HO174.out; subst eo52; obtain ⟨Ao53, co53, eo53⟩ := Kd.R_slice HO182.out; subst eo53) | (go_at_call 27; (with_reducible refine (hornbeamref12_SameCounts.calls k _ _ t172 _ _ t180 true _ ?side1 ?side2 ?side3 ?side4 A15.out).mono ?_); (case side1 => repeat (first | exact (Kd.R_reads' HO174.out).2.2 | (with_reducible refine Kd.C_alloc ?_ _) | (with_reducible refine Kd.C_drewN ?_ _) | (with_reducible refine Kd.C_drew ?_))); (case side2 => exact (Kd.R_reads' HO174.out).2.1); (case side3 => repeat (first | exact (Kd.R_reads' HO182.out).2.2 | (with_reducible refine Kd.C_alloc ?_ _) | (with_reducible refine Kd.C_drewN ?_ _) | (with_reducible refine Kd.C_drew ?_))); (case side4 => exact (Kd.R_reads' HO182.out).2.1); rintro e w' ⟨rfl, ⟨nd, rfl⟩⟩; have hcz54_0 : w51.cell? ⟨gb179, 0, none⟩ = some (.int .i64 t175) := (blk_cell BK179.out 0).trans rfl; have hcz54_1 : w51.cell? ⟨gb179, 1, none⟩ = some (.int .i64 t176) := (blk_cell BK179.out 1).trans rfl; have hcz54_2 : w51.cell? ⟨gb179, 2, none⟩ = some (.int .i64 t177) := (blk_cell BK179.out 2).trans rfl; have hfz54_0 := blk_frozen BK179.out 0; have hfz54_1 := blk_frozen BK179.out 1; have hfz54_2 := blk_frozen BK179.out 2; have hcz55_0 : w51.cell? ⟨gb187, 0, none⟩ = some (.int .i64 t183) := (blk_cell BK187.out 0).trans rfl; have hcz55_1 : w51.cell? ⟨gb187, 1, none⟩ = some (.int .i64 t184) := (blk_cell BK187.out 1).trans rfl; have hcz55_2 : w51.cell? ⟨gb187, 2, none⟩ = some (.int .i64 t185) := (blk_cell BK187.out 2).trans rfl; have hfz55_0 := blk_frozen BK187.out 0; have hfz55_1 := blk_frozen BK187.out 1; have hfz55_2 := blk_frozen BK187.out 2))
          go_ret
          exact ⟨by first | rfl | (simp [errW_none, errW_some] <;> rfl) | (simp [*, errW_none, errW_some] <;> rfl), by repeat (first | (with_reducible first | exact HB.out | apply below_alloc | apply pw_below_drewN | apply below_drew1 | refine below_set ?_ GE169.out | refine below_set ?_ GE179.out | refine below_set ?_ GE187.out) | exact HB.out)⟩
      · replace c16 := Bool.eq_false_iff.mpr c16
        subst c16
        have H1 : (some false) = some r := by rw [if_neg (show ¬ (false = true) by decide)] at H; exact H
        clear H
        have H := H1
        clear H1
        obtain rfl := Option.some.inj H
        go_enter Try.func8, Try.ntmps8
        go_wp2_with (first | ((with_reducible refine gate_dst (N := 3) rfl ?_); refine box_event ?hg (N := 3) ?hd (cs := #[.int .i64 a0_0, .int .i64 a0_1, .int .i64 a0_2, .slice A0_3 l0_3.length c0_3, .slice A0_4 l0_4.length c0_4]) (t := 36) ?hr ?_; (case hd => rfl); (case hg => rfl); (case hr => first | (go_simp; done) | (go_simp; rfl)); intro gb169 hg w56 hbox hb; have n0_ := Aside0.mk (below_step (by repeat (first | (with_reducible first | exact HB.out | apply below_alloc | apply pw_below_drewN | apply below_drew1) | exact HB.out)) hb); have n1_ := Aside0.mk (hbox); have n2_ := Aside0.mk ((by rw [hg]; exact (below_size (by repeat (first | (with_reducible first | exact HB.out | apply below_alloc | apply pw_below_drewN | apply below_drew1) | exact HB.out))) : w.heap.size ≤ gb169)); have n3_ := Aside0.mk ((by rw [hg]; exact (below_size (by repeat (first | (with_reducible first | exact HB.out | apply below_alloc | apply pw_below_drewN | apply below_drew1) | exact HB.out))) : w.heap.size ≤ gb169)); clear HB; have HB := n0_; have BK169 := n1_; have GW169 := n2_; have GE169 := n3_; clear n0_ n1_ n2_ n3_; clear hb hbox hg; have hcz57_0 : w56.cell? ⟨gb169, 0, none⟩ = some (.int .i64 a0_0) := (blk_cell BK169.out 0).trans rfl; have hcz57_1 : w56.cell? ⟨gb169, 1, none⟩ = some (.int .i64 a0_1) := (blk_cell BK169.out 1).trans rfl; have hcz57_2 : w56.cell? ⟨gb169, 2, none⟩ = some (.int .i64 a0_2) := (blk_cell BK169.out 2).trans rfl; have hcz57_3 : w56.cell? ⟨gb169, 3, none⟩ = some (.slice A0_3 l0_3.length c0_3) := (blk_cell BK169.out 3).trans rfl; have hcz57_4 : w56.cell? ⟨gb169, 4, none⟩ = some (.slice A0_4 l0_4.length c0_4) := (blk_cell BK169.out 4).trans rfl; have hfz57_0 := blk_frozen BK169.out 0; have hfz57_1 := blk_frozen BK169.out 1; have hfz57_2 := blk_frozen BK169.out 2; have hfz57_3 := blk_frozen BK169.out 3; have hfz57_4 := blk_frozen BK169.out 4) | ((with_reducible refine gate_callee (f := 23) rfl ?_); refine goesL_ (some 14) rfl rfl Try.func23 (by kernel_rfl) rfl #[.agg #[.int .i64 a0_0, .int .i64 a0_1, .int .i64 a0_2, .slice A0_3 l0_3.length c0_3, .slice A0_4 l0_4.length c0_4]] rfl (by (try simp only [List.map_toArray, List.map_cons, List.map_nil]); first | done | rfl | (simp only [List.length_drop, List.length_take]; rfl)) ?_; (with_reducible refine (hornbeamlaw12_Great.calls a0_0 a0_1 a0_2 _ _ l0_3 _ _ l0_4 false _ ?side1 ?side2 ?side3 ?side4 A4.out).mono ?_); (case side1 => repeat (first | exact (Kd.C_below HR0_3.out HB.out) | (with_reducible refine Kd.C_alloc ?_ _) | (with_reducible refine Kd.C_drewN ?_ _) | (with_reducible refine Kd.C_drew ?_))); (case side2 => exact HC0_3.out); (case side3 => repeat (first | exact (Kd.C_below HR0_4.out HB.out) | (with_reducible refine Kd.C_alloc ?_ _) | (with_reducible refine Kd.C_drewN ?_ _) | (with_reducible refine Kd.C_drew ?_))); (case side4 => exact HC0_4.out); rintro e w58 ⟨rfl, hb⟩; refine ⟨_, rfl, ?_⟩; have n0_ := Aside0.mk (blk_below (g := gb169) (o := .cells #[.int .i64 a0_0, .int .i64 a0_1, .int .i64 a0_2, .slice A0_3 l0_3.length c0_3, .slice A0_4 l0_4.length c0_4] 36 (0, 0)) (by (with_reducible repeat (first | refine blk_drewN ?_ _ | refine blk_drew ?_ | refine blk_alloc ?_ _)); exact BK169.out) hb); have n1_ := Aside0.mk (below_step (by repeat (first | (with_reducible first | exact HB.out | apply below_alloc | apply pw_below_drewN | apply below_drew1 | refine below_set ?_ GE169.out) | exact HB.out)) hb); clear BK169; clear HB; have BK169 := n0_; have HB := n1_; clear n0_ n1_; (try clear hb); (try clear hb2); (try clear hk); (try clear hi); have hcz59_0 : w58.cell? ⟨gb169, 0, none⟩ = some (.int .i64 a0_0) := (blk_cell BK169.out 0).trans rfl; have hcz59_1 : w58.cell? ⟨gb169, 1, none⟩ = some (.int .i64 a0_1) := (blk_cell BK169.out 1).trans rfl; have hcz59_2 : w58.cell? ⟨gb169, 2, none⟩ = some (.int .i64 a0_2) := (blk_cell BK169.out 2).trans rfl; have hcz59_3 : w58.cell? ⟨gb169, 3, none⟩ = some (.slice A0_3 l0_3.length c0_3) := (blk_cell BK169.out 3).trans rfl; have hcz59_4 : w58.cell? ⟨gb169, 4, none⟩ = some (.slice A0_4 l0_4.length c0_4) := (blk_cell BK169.out 4).trans rfl; have hfz59_0 := blk_frozen BK169.out 0; have hfz59_1 := blk_frozen BK169.out 1; have hfz59_2 := blk_frozen BK169.out 2; have hfz59_3 := blk_frozen BK169.out 3; have hfz59_4 := blk_frozen BK169.out 4) | ((with_reducible refine gate_callee (f := 25) rfl ?_); refine goesL_ (some 20) rfl rfl Try.func25 (by kernel_rfl) rfl #[.agg #[.int .i64 a0_0, .int .i64 a0_1, .int .i64 a0_2, .slice A0_3 l0_3.length c0_3, .slice A0_4 l0_4.length c0_4], .int .i64 a1, .int .i64 a2] rfl (by (try simp only [List.map_toArray, List.map_cons, List.map_nil]); first | done | rfl | (simp only [List.length_drop, List.length_take]; rfl)) ?_; (with_reducible refine (hist_Sum.calls a0_0 a0_1 a0_2 _ _ l0_3 _ _ l0_4 a1 a2 t172 t175 t176 t177 t178 _ ?side1 ?side2 ?side3 ?side4 A11.out).mono ?_); (case side1 => repeat (first | exact (Kd.C_below HR0_3.out HB.out) | (with_reducible refine Kd.C_alloc ?_ _) | (with_reducible refine Kd.C_drewN ?_ _) | (with_reducible refine Kd.C_drew ?_))); (case side2 => exact HC0_3.out); (case side3 => repeat (first | exact (Kd.C_below HR0_4.out HB.out) | (with_reducible refine Kd.C_alloc ?_ _) | (with_reducible refine Kd.C_drewN ?_ _) | (with_reducible refine Kd.C_drew ?_))); (case side4 => exact HC0_4.out); rintro e w60 ⟨v173, rfl, ho0, hb⟩; refine ⟨_, rfl, ?_⟩; have n0_ := Aside0.mk (Kd.R_lower ho0 (below_size (by repeat (first | (with_reducible first | exact HB.out | apply below_alloc | apply pw_below_drewN | apply below_drew1 | refine below_set ?_ GE169.out) | exact HB.out)))); have n1_ := Aside0.mk (blk_below (g := gb169) (o := .cells #[.int .i64 a0_0, .int .i64 a0_1, .int .i64 a0_2, .slice A0_3 l0_3.length c0_3, .slice A0_4 l0_4.length c0_4] 36 (0, 0)) (by (with_reducible repeat (first | refine blk_drewN ?_ _ | refine blk_drew ?_ | refine blk_alloc ?_ _)); exact BK169.out) hb); have n2_ := Aside0.mk (below_step (by repeat (first | (with_reducible first | exact HB.out | apply below_alloc | apply pw_below_drewN | apply below_drew1 | refine below_set ?_ GE169.out) | exact HB.out)) hb); clear BK169; clear HB; have HO174 := n0_; have BK169 := n1_; have HB := n2_; clear n0_ n1_ n2_; (try clear hb); (try clear hb2); (try clear hk); (try clear hi); (try clear ho0)) | ((with_reducible refine gate_dst (N := 8) rfl ?_); refine box_event ?hg (N := 8) ?hd (cs := #[.int .i64 0, .int .i64 0, .int .i64 0]) (t := 52) ?hr ?_; (case hd => rfl); (case hg => rfl); (case hr => first | (go_simp; done) | (go_simp; rfl)); intro gb179 hg w61 hbox hb; have n0_ := Aside0.mk (Kd.R_below (by (with_reducible repeat (first | apply Kd.R_alloc | apply Kd.R_drewN | apply Kd.R_drew)); exact HO174.out) hb); have n1_ := Aside0.mk (blk_below (g := gb169) (o := .cells #[.int .i64 a0_0, .int .i64 a0_1, .int .i64 a0_2, .slice A0_3 l0_3.length c0_3, .slice A0_4 l0_4.length c0_4] 36 (0, 0)) (by (with_reducible repeat (first | refine blk_drewN ?_ _ | refine blk_drew ?_ | refine blk_alloc ?_ _)); exact BK169.out) hb); have n2_ := Aside0.mk (below_step (by repeat (first | (with_reducible first | exact HB.out | apply below_alloc | apply pw_below_drewN | apply below_drew1 | refine below_set ?_ GE169.out) | exact HB.out)) hb); have n3_ := Aside0.mk (hbox); have n4_ := Aside0.mk ((by rw [hg]; exact (below_size (by repeat (first | (with_reducible first | exact HB.out | apply below_alloc | apply pw_below_drewN | apply below_drew1 | refine below_set ?_ GE169.out) | exact HB.out))) : w.heap.size ≤ gb179)); have n5_ := Aside0.mk ((by rw [hg]; exact (below_size (by repeat (first | (with_reducible first | exact HB.out | apply below_alloc | apply pw_below_drewN | apply below_drew1 | refine below_set ?_ GE169.out) | exact HB.out))) : w.heap.size ≤ gb179)); have n6_ := Aside0.mk ((by rw [hg]; exact Nat.ne_of_lt (blk_lt (g := gb169) (o := .cells #[.int .i64 a0_0, .int .i64 a0_1, .int .i64 a0_2, .slice A0_3 l0_3.length c0_3, .slice A0_4 l0_4.length c0_4] 36 (0, 0)) (by (with_reducible repeat (first | refine blk_drewN ?_ _ | refine blk_drew ?_ | refine blk_alloc ?_ _)); exact BK169.out)) : gb169 ≠ gb179)); have n7_ := Aside0.mk ((by rw [hg]; exact Nat.ne_of_gt (blk_lt (g := gb169) (o := .cells #[.int .i64 a0_0, .int .i64 a0_1, .int .i64 a0_2, .slice A0_3 l0_3.length c0_3, .slice A0_4 l0_4.length c0_4] 36 (0, 0)) (by (with_reducible repeat (first | refine blk_drewN ?_ _ | refine blk_drew ?_ | refine blk_alloc ?_ _)); exact BK169.out)) : gb179 ≠ gb169)); clear HO174; clear BK169; clear HB; have HO174 := n0_; have BK169 := n1_; have HB := n2_; have BK179 := n3_; have GW179 := n4_; have GE179 := n5_; have NB169_179 := n6_; have NB179_169 := n7_; clear n0_ n1_ n2_ n3_ n4_ n5_ n6_ n7_; clear hb hbox hg; have hnb62 := NB179_169.out; have hnc62 := NB169_179.out; have hcz63_0 : w61.cell? ⟨gb179, 0, none⟩ = some (.int .i64 0) := (blk_cell BK179.out 0).trans rfl; have hcz63_1 : w61.cell? ⟨gb179, 1, none⟩ = some (.int .i64 0) := (blk_cell BK179.out 1).trans rfl; have hcz63_2 : w61.cell? ⟨gb179, 2, none⟩ = some (.int .i64 0) := (blk_cell BK179.out 2).trans rfl; have hfz63_0 := blk_frozen BK179.out 0; have hfz63_1 := blk_frozen BK179.out 1; have hfz63_2 := blk_frozen BK179.out 2; have hcz64_0 : w61.cell? ⟨gb169, 0, none⟩ = some (.int .i64 a0_0) := (blk_cell BK169.out 0).trans rfl; have hcz64_1 : w61.cell? ⟨gb169, 1, none⟩ = some (.int .i64 a0_1) := (blk_cell BK169.out 1).trans rfl; have hcz64_2 : w61.cell? ⟨gb169, 2, none⟩ = some (.int .i64 a0_2) := (blk_cell BK169.out 2).trans rfl; have hcz64_3 : w61.cell? ⟨gb169, 3, none⟩ = some (.slice A0_3 l0_3.length c0_3) := (blk_cell BK169.out 3).trans rfl; have hcz64_4 : w61.cell? ⟨gb169, 4, none⟩ = some (.slice A0_4 l0_4.length c0_4) := (blk_cell BK169.out 4).trans rfl; have hfz64_0 := blk_frozen BK169.out 0; have hfz64_1 := blk_frozen BK169.out 1; have hfz64_2 := blk_frozen BK169.out 2; have hfz64_3 := blk_frozen BK169.out 3; have hfz64_4 := blk_frozen BK169.out 4) | ((with_reducible refine gate_callee (f := 26) rfl ?_); refine goesL_ (some 28) rfl rfl Try.func26 (by kernel_rfl) rfl #[.agg #[.int .i64 a0_0, .int .i64 a0_1, .int .i64 a0_2, .slice A0_3 l0_3.length c0_3, .slice A0_4 l0_4.length c0_4], .int .i64 a1, .int .i64 a2] rfl (by (try simp only [List.map_toArray, List.map_cons, List.map_nil]); first | done | rfl | (simp only [List.length_drop, List.length_take]; rfl)) ?_; (with_reducible refine (hornbeamref12_Sum.calls k a0_0 a0_1 a0_2 _ _ l0_3 _ _ l0_4 a1 a2 t180 t183 t184 t185 t186 _ ?side1 ?side2 ?side3 ?side4 A12.out).mono ?_); (case side1 => exact Kd.C_below HR0_3.out (by repeat (first | (with_reducible first | exact HB.out | apply below_alloc | apply pw_below_drewN | apply below_drew1 | refine below_set ?_ GE169.out | refine below_set ?_ GE179.out) | exact HB.out))); (case side2 => exact HC0_3.out); (case side3 => exact Kd.C_below HR0_4.out (by repeat (first | (with_reducible first | exact HB.out | apply below_alloc | apply pw_below_drewN | apply below_drew1 | refine below_set ?_ GE169.out | refine below_set ?_ GE179.out) | exact HB.out))); (case side4 => exact HC0_4.out); rintro e w65 ⟨v181, rfl, ho0, hb⟩; refine ⟨_, rfl, ?_⟩; have n0_ := Aside0.mk (Kd.R_elder' (by (with_reducible repeat (first | apply Kd.R_alloc | apply Kd.R_drewN | apply Kd.R_drew)); exact (Kd.R_mono (Kd.R_far (p := ⟨gb179, 2, none⟩) (Kd.R_far (p := ⟨gb179, 1, none⟩) (Kd.R_far (p := ⟨gb179, 0, none⟩) (Kd.R_types HO174.out BK179.out (by decide)) (fun _ hk => hk.2) (.int .i64 t175)) (fun _ hk => hk.2) (.int .i64 t176)) (fun _ hk => hk.2) (.int .i64 t177)) (fun _ h_ => h_.1))) (Kd.R_base ho0) hb); have n1_ := Aside0.mk (Kd.R_lower (Kd.R_new' ho0 (Kd.R_lt (by (with_reducible repeat (first | apply Kd.R_alloc | apply Kd.R_drewN | apply Kd.R_drew)); exact (Kd.R_mono (Kd.R_far (p := ⟨gb179, 2, none⟩) (Kd.R_far (p := ⟨gb179, 1, none⟩) (Kd.R_far (p := ⟨gb179, 0, none⟩) (Kd.R_types HO174.out BK179.out (by decide)) (fun _ hk => hk.2) (.int .i64 t175)) (fun _ hk => hk.2) (.int .i64 t176)) (fun _ hk => hk.2) (.int .i64 t177)) (fun _ h_ => h_.1))))) (below_size (by repeat (first | (with_reducible first | exact HB.out | apply below_alloc | apply pw_below_drewN | apply below_drew1 | refine below_set ?_ GE169.out | refine below_set ?_ GE179.out) | exact HB.out)))); have n2_ := Aside0.mk (blk_below (g := gb169) (o := .cells #[.int .i64 a0_0, .int .i64 a0_1, .int .i64 a0_2, .slice A0_3 l0_3.length c0_3, .slice A0_4 l0_4.length c0_4] 36 (0, 0)) (by (with_reducible repeat (first | refine blk_drewN ?_ _ | refine blk_drew ?_ | refine blk_alloc ?_ _)); refine blk_far ?_ NB169_179.out _; (with_reducible repeat (first | refine blk_drewN ?_ _ | refine blk_drew ?_ | refine blk_alloc ?_ _)); refine blk_far ?_ NB169_179.out _; (with_reducible repeat (first | refine blk_drewN ?_ _ | refine blk_drew ?_ | refine blk_alloc ?_ _)); refine blk_far ?_ NB169_179.out _; (with_reducible repeat (first | refine blk_drewN ?_ _ | refine blk_drew ?_ | refine blk_alloc ?_ _)); exact BK169.out) hb); have n3_ := Aside0.mk (blk_below (g := gb179) (o := .cells #[.int .i64 t175, .int .i64 t176, .int .i64 t177] 52 (0, 0)) (by (with_reducible repeat (first | refine blk_drewN ?_ _ | refine blk_drew ?_ | refine blk_alloc ?_ _)); refine blk_put (cs := #[.int .i64 t175, .int .i64 t176, .int .i64 0]) ?_ 2 _ rfl; (with_reducible repeat (first | refine blk_drewN ?_ _ | refine blk_drew ?_ | refine blk_alloc ?_ _)); refine blk_put (cs := #[.int .i64 t175, .int .i64 0, .int .i64 0]) ?_ 1 _ rfl; (with_reducible repeat (first | refine blk_drewN ?_ _ | refine blk_drew ?_ | refine blk_alloc ?_ _)); refine blk_put (cs := #[.int .i64 0, .int .i64 0, .int .i64 0]) ?_ 0 _ rfl; (with_reducible repeat (first | refine blk_drewN ?_ _ | refine blk_drew ?_ | refine blk_alloc ?_ _)); exact BK179.out) hb); have n4_ := Aside0.mk (below_step (by repeat (first | (with_reducible first | exact HB.out | apply below_alloc | apply pw_below_drewN | apply below_drew1 | refine below_set ?_ GE169.out | refine below_set ?_ GE179.out) | exact HB.out)) hb); clear HO174; clear BK169; clear BK179; clear HB; have HO174 := n0_; have HO182 := n1_; have BK169 := n2_; have BK179 := n3_; have HB := n4_; clear n0_ n1_ n2_ n3_ n4_; (try clear hb); (try clear hb2); (try clear hk); (try clear hi); (try clear ho0)) | ((with_reducible refine gate_dst (N := 11) rfl ?_); refine box_event ?hg (N := 11) ?hd (cs := #[.int .i64 0, .int .i64 0, .int .i64 0]) (t := 52) ?hr ?_; (case hd => rfl); (case hg => rfl); (case hr => first | (go_simp; done) | (go_simp; rfl)); intro gb187 hg w66 hbox hb; have n0_ := Aside0.mk (Kd.R_below (by (with_reducible repeat (first | apply Kd.R_alloc | apply Kd.R_drewN | apply Kd.R_drew)); exact HO174.out) hb); have n1_ := Aside0.mk (Kd.R_below (by (with_reducible repeat (first | apply Kd.R_alloc | apply Kd.R_drewN | apply Kd.R_drew)); exact HO182.out) hb); have n2_ := Aside0.mk (blk_below (g := gb169) (o := .cells #[.int .i64 a0_0, .int .i64 a0_1, .int .i64 a0_2, .slice A0_3 l0_3.length c0_3, .slice A0_4 l0_4.length c0_4] 36 (0, 0)) (by (with_reducible repeat (first | refine blk_drewN ?_ _ | refine blk_drew ?_ | refine blk_alloc ?_ _)); exact BK169.out) hb); have n3_ := Aside0.mk (blk_below (g := gb179) (o := .cells #[.int .i64 t175, .int .i64 t176, .int .i64 t177] 52 (0, 0)) (by (with_reducible repeat (first | refine blk_drewN ?_ _ | refine blk_drew ?_ | refine blk_alloc ?_ _)); exact BK179.out) hb); have n4_ := Aside0.mk (below_step (by repeat (first | (with_reducible first | exact HB.out | apply below_alloc | apply pw_below_drewN | apply below_drew1 | refine below_set ?_ GE169.out | refine below_set ?_ GE179.out) | exact HB.out)) hb); have n5_ := Aside0.mk (hbox); have n6_ := Aside0.mk ((by rw [hg]; exact (below_size (by repeat (first | (with_reducible first | exact HB.out | apply below_alloc | apply pw_below_drewN | apply below_drew1 | refine below_set ?_ GE169.out | refine below_set ?_ GE179.out) | exact HB.out))) : w.heap.size ≤ gb187)); have n7_ := Aside0.mk ((by rw [hg]; exact (below_size (by repeat (first | (with_reducible first | exact HB.out | apply below_alloc | apply pw_below_drewN | apply below_drew1 | refine below_set ?_ GE169.out | refine below_set ?_ GE179.out) | exact HB.out))) : w.heap.size ≤ gb187)); have n8_ := Aside0.mk ((by rw [hg]; exact Nat.ne_of_lt (blk_lt (g := gb169) (o := .cells #[.int .i64 a0_0, .int .i64 a0_1, .int .i64 a0_2, .slice A0_3 l0_3.length c0_3, .slice A0_4 l0_4.length c0_4] 36 (0, 0)) (by (with_reducible repeat (first | refine blk_drewN ?_ _ | refine blk_drew ?_ | refine blk_alloc ?_ _)); exact BK169.out)) : gb169 ≠ gb187)); have n9_ := Aside0.mk ((by rw [hg]; exact Nat.ne_of_gt (blk_lt (g := gb169) (o := .cells #[.int .i64 a0_0, .int .i64 a0_1, .int .i64 a0_2, .slice A0_3 l0_3.length c0_3, .slice A0_4 l0_4.length c0_4] 36 (0, 0)) (by (with_reducible repeat (first | refine blk_drewN ?_ _ | refine blk_drew ?_ | refine blk_alloc ?_ _)); exact BK169.out)) : gb187 ≠ gb169)); have n10_ := Aside0.mk ((by rw [hg]; exact Nat.ne_of_lt (blk_lt (g := gb179) (o := .cells #[.int .i64 t175, .int .i64 t176, .int .i64 t177] 52 (0, 0)) (by (with_reducible repeat (first | refine blk_drewN ?_ _ | refine blk_drew ?_ | refine blk_alloc ?_ _)); exact BK179.out)) : gb179 ≠ gb187)); have n11_ := Aside0.mk ((by rw [hg]; exact Nat.ne_of_gt (blk_lt (g := gb179) (o := .cells #[.int .i64 t175, .int .i64 t176, .int .i64 t177] 52 (0, 0)) (by (with_reducible repeat (first | refine blk_drewN ?_ _ | refine blk_drew ?_ | refine blk_alloc ?_ _)); exact BK179.out)) : gb187 ≠ gb179)); clear HO174; clear HO182; clear BK169; clear BK179; clear HB; have HO174 := n0_; have HO182 := n1_; have BK169 := n2_; have BK179 := n3_; have HB := n4_; have BK187 := n5_; have GW187 := n6_; have GE187 := n7_; have NB169_187 := n8_; have NB187_169 := n9_; have NB179_187 := n10_; have NB187_179 := n11_; clear n0_ n1_ n2_ n3_ n4_ n5_ n6_ n7_ n8_ n9_ n10_ n11_; clear hb hbox hg; have hnb67 := NB187_169.out; have hnc67 := NB169_187.out; have hnb68 := NB187_179.out; have hnc68 := NB179_187.out; have hcz69_0 : w66.cell? ⟨gb187, 0, none⟩ = some (.int .i64 0) := (blk_cell BK187.out 0).trans rfl; have hcz69_1 : w66.cell? ⟨gb187, 1, none⟩ = some (.int .i64 0) := (blk_cell BK187.out 1).trans rfl; have hcz69_2 : w66.cell? ⟨gb187, 2, none⟩ = some (.int .i64 0) := (blk_cell BK187.out 2).trans rfl; have hfz69_0 := blk_frozen BK187.out 0; have hfz69_1 := blk_frozen BK187.out 1; have hfz69_2 := blk_frozen BK187.out 2) | ((with_reducible refine gate_callee (f := 16) rfl ?_); refine goesL_ (some 32) rfl rfl Try.func16 (by kernel_rfl) rfl #[] rfl (by (try simp only [List.map_toArray, List.map_cons, List.map_nil]); first | done | rfl | (simp only [List.length_drop, List.length_take]; rfl)) ?_; (with_reducible refine (hornbeamlaw12_fixed.calls  true _ A13.out).mono ?_); rintro e w70 ⟨rfl, hb⟩; refine ⟨_, rfl, ?_⟩; have n0_ := Aside0.mk (Kd.R_below (by (with_reducible repeat (first | apply Kd.R_alloc | apply Kd.R_drewN | apply Kd.R_drew)); exact (Kd.R_mono (Kd.R_far (p := ⟨gb187, 2, none⟩) (Kd.R_far (p := ⟨gb187, 1, none⟩) (Kd.R_far (p := ⟨gb187, 0, none⟩) (Kd.R_types HO174.out BK187.out (by decide)) (fun _ hk => hk.2) (.int .i64 t183)) (fun _ hk => hk.2) (.int .i64 t184)) (fun _ hk => hk.2) (.int .i64 t185)) (fun _ h_ => h_.1))) hb); have n1_ := Aside0.mk (Kd.R_below (by (with_reducible repeat (first | apply Kd.R_alloc | apply Kd.R_drewN | apply Kd.R_drew)); exact (Kd.R_mono (Kd.R_far (p := ⟨gb187, 2, none⟩) (Kd.R_far (p := ⟨gb187, 1, none⟩) (Kd.R_far (p := ⟨gb187, 0, none⟩) (Kd.R_types HO182.out BK187.out (by decide)) (fun _ hk => hk.2) (.int .i64 t183)) (fun _ hk => hk.2) (.int .i64 t184)) (fun _ hk => hk.2) (.int .i64 t185)) (fun _ h_ => h_.1))) hb); have n2_ := Aside0.mk (blk_below (g := gb169) (o := .cells #[.int .i64 a0_0, .int .i64 a0_1, .int .i64 a0_2, .slice A0_3 l0_3.length c0_3, .slice A0_4 l0_4.length c0_4] 36 (0, 0)) (by (with_reducible repeat (first | refine blk_drewN ?_ _ | refine blk_drew ?_ | refine blk_alloc ?_ _)); refine blk_far ?_ NB169_187.out _; (with_reducible repeat (first | refine blk_drewN ?_ _ | refine blk_drew ?_ | refine blk_alloc ?_ _)); refine blk_far ?_ NB169_187.out _; (with_reducible repeat (first | refine blk_drewN ?_ _ | refine blk_drew ?_ | refine blk_alloc ?_ _)); refine blk_far ?_ NB169_187.out _; (with_reducible repeat (first | refine blk_drewN ?_ _ | refine blk_drew ?_ | refine blk_alloc ?_ _)); exact BK169.out) hb); have n3_ := Aside0.mk (blk_below (g := gb179) (o := .cells #[.int .i64 t175, .int .i64 t176, .int .i64 t177] 52 (0, 0)) (by (with_reducible repeat (first | refine blk_drewN ?_ _ | refine blk_drew ?_ | refine blk_alloc ?_ _)); refine blk_far ?_ NB179_187.out _; (with_reducible repeat (first | refine blk_drewN ?_ _ | refine blk_drew ?_ | refine blk_alloc ?_ _)); refine blk_far ?_ NB179_187.out _; (with_reducible repeat (first | refine blk_drewN ?_ _ | refine blk_drew ?_ | refine blk_alloc ?_ _)); refine blk_far ?_ NB179_187.out _; (with_reducible repeat (first | refine blk_drewN ?_ _ | refine blk_drew ?_ | refine blk_alloc ?_ _)); exact BK179.out) hb); have n4_ := Aside0.mk (blk_below (g := gb187) (o := .cells #[.int .i64 t183, .int .i64 t184, .int .i64 t185] 52 (0, 0)) (by (with_reducible repeat (first | refine blk_drewN ?_ _ | refine blk_drew ?_ | refine blk_alloc ?_ _)); refine blk_put (cs := #[.int .i64 t183, .int .i64 t184, .int .i64 0]) ?_ 2 _ rfl; (with_reducible repeat (first | refine blk_drewN ?_ _ | refine blk_drew ?_ | refine blk_alloc ?_ _)); refine blk_put (cs := #[.int .i64 t183, .int .i64 0, .int .i64 0]) ?_ 1 _ rfl; (with_reducible repeat (first | refine blk_drewN ?_ _ | refine blk_drew ?_ | refine blk_alloc ?_ _)); refine blk_put (cs := #[.int .i64 0, .int .i64 0, .int .i64 0]) ?_ 0 _ rfl; (with_reducible repeat (first | refine blk_drewN ?_ _ | refine blk_drew ?_ | refine blk_alloc ?_ _)); exact BK187.out) hb); have n5_ := Aside0.mk (below_step (by repeat (first | (with_reducible first | exact HB.out | apply below_alloc | apply pw_below_drewN | apply below_drew1 | refine below_set ?_ GE169.out | refine below_set ?_ GE179.out | refine below_set ?_ GE187.out) | exact HB.out)) hb); clear HO174; clear HO182; clear BK169; clear BK179; clear BK187; clear HB; have HO174 := n0_; have HO182 := n1_; have BK169 := n2_; have BK179 := n3_; have BK187 := n4_; have HB := n5_; clear n0_ n1_ n2_ n3_ n4_ n5_; (try clear hb); (try clear hb2); (try clear hk); (try clear hi); obtain ⟨Ao71, co71, eo71⟩ := Kd.R_slice HO174.out; subst eo71; obtain ⟨Ao72, co72, eo72⟩ := Kd.R_slice HO182.out; subst eo72) | (go_at_call 27; (with_reducible refine (hornbeamref12_SameCounts.calls k _ _ t172 _ _ t180 false _ ?side1 ?side2 ?side3 ?side4 A15.out).mono ?_); (case side1 => repeat (first | exact (Kd.R_reads' HO174.out).2.2 | (with_reducible refine Kd.C_alloc ?_ _) | (with_reducible refine Kd.C_drewN ?_ _) | (with_reducible refine Kd.C_drew ?_))); (case side2 => exact (Kd.R_reads' HO174.out).2.1); (case side3 => repeat (first | exact (Kd.R_reads' HO182.out).2.2 | (with_reducible refine Kd.C_alloc ?_ _) | (with_reducible refine Kd.C_drewN ?_ _) | (with_reducible refine Kd.C_drew ?_))); (case side4 => exact (Kd.R_reads' HO182.out).2.1); rintro e w' ⟨rfl, ⟨nd, rfl⟩⟩))
        go_ret
        exact ⟨by first | rfl | (simp [errW_none, errW_some] <;> rfl) | (simp [*, errW_none, errW_some] <;> rfl), by repeat (first | (with_reducible first | exact HB.out | apply below_alloc | apply pw_below_drewN | apply below_drew1 | refine below_set ?_ GE169.out | refine below_set ?_ GE179.out | refine below_set ?_ GE187.out) | exact HB.out)⟩
    · replace c14 := Bool.eq_false_iff.mpr c14
      subst c14
      have H1 : (some false) = some r := by rw [if_neg (show ¬ (false = true) by decide)] at H; exact H
      clear H
      have H := H1
      clear H1
      obtain rfl := Option.some.inj H
      go_enter Try.func8, Try.ntmps8
      go_wp2_with (first | ((with_reducible refine gate_dst (N := 3) rfl ?_); refine box_event ?hg (N := 3) ?hd (cs := #[.int .i64 a0_0, .int .i64 a0_1, .int .i64 a0_2, .slice A0_3 l0_3.length c0_3, .slice A0_4 l0_4.length c0_4]) (t := 36) ?hr ?_; (case hd => rfl); (case hg => rfl); (case hr => first | (go_simp; done) | (go_simp; rfl)); intro gb169 hg w73 hbox hb; have n0_ := Aside0.mk (below_step (by repeat (first | (with_reducible first | exact HB.out | apply below_alloc | apply pw_below_drewN | apply below_drew1) | exact HB.out)) hb); have n1_ := Aside0.mk (hbox); have n2_ := Aside0.mk ((by rw [hg]; exact (below_size (by repeat (first | (with_reducible first | exact HB.out | apply below_alloc | apply pw_below_drewN | apply below_drew1) | exact HB.out))) : w.heap.size ≤ gb169)); have n3_ := Aside0.mk ((by rw [hg]; exact (below_size (by repeat (first | (with_reducible first | exact HB.out | apply below_alloc | apply pw_below_drewN | apply below_drew1) | exact HB.out))) : w.heap.size ≤ gb169)); clear HB; have HB := n0_; have BK169 := n1_; have GW169 := n2_; have GE169 := n3_; clear n0_ n1_ n2_ n3_; clear hb hbox hg; have hcz74_0 : w73.cell? ⟨gb169, 0, none⟩ = some (.int .i64 a0_0) := (blk_cell BK169.out 0).trans rfl; have hcz74_1 : w73.cell? ⟨gb169, 1, none⟩ = some (.int .i64 a0_1) := (blk_cell BK169.out 1).trans rfl; have hcz74_2 : w73.cell? ⟨gb169, 2, none⟩ = some (.int .i64 a0_2) := (blk_cell BK169.out 2).trans rfl; have hcz74_3 : w73.cell? ⟨gb169, 3, none⟩ = some (.slice A0_3 l0_3.length c0_3) := (blk_cell BK169.out 3).trans rfl; have hcz74_4 : w73.cell? ⟨gb169, 4, none⟩ = some (.slice A0_4 l0_4.length c0_4) := (blk_cell BK169.out 4).trans rfl; have hfz74_0 := blk_frozen BK169.out 0; have hfz74_1 := blk_frozen BK169.out 1; have hfz74_2 := blk_frozen BK169.out 2; have hfz74_3 := blk_frozen BK169.out 3; have hfz74_4 := blk_frozen BK169.out 4) | ((with_reducible refine gate_callee (f := 23) rfl ?_); refine goesL_ (some 14) rfl rfl Try.func23 (by kernel_rfl) rfl #[.agg #[.int .i64 a0_0, .int .i64 a0_1, .int .i64 a0_2, .slice A0_3 l0_3.length c0_3, .slice A0_4 l0_4.length c0_4]] rfl (by (try simp only [List.map_toArray, List.map_cons, List.map_nil]); first | done | rfl | (simp only [List.length_drop, List.length_take]; rfl)) ?_; (with_reducible refine (hornbeamlaw12_Great.calls a0_0 a0_1 a0_2 _ _ l0_3 _ _ l0_4 false _ ?side1 ?side2 ?side3 ?side4 A4.out).mono ?_); (case side1 => repeat (first | exact (Kd.C_below HR0_3.out HB.out) | (with_reducible refine Kd.C_alloc ?_ _) | (with_reducible refine Kd.C_drewN ?_ _) | (with_reducible refine Kd.C_drew ?_))); (case side2 => exact HC0_3.out); (case side3 => repeat (first | exact (Kd.C_below HR0_4.out HB.out) | (with_reducible refine Kd.C_alloc ?_ _) | (with_reducible refine Kd.C_drewN ?_ _) | (with_reducible refine Kd.C_drew ?_))); (case side4 => exact HC0_4.out); rintro e w75 ⟨rfl, hb⟩; refine ⟨_, rfl, ?_⟩; have n0_ := Aside0.mk (blk_below (g := gb169) (o := .cells #[.int .i64 a0_0, .int .i64 a0_1, .int .i64 a0_2, .slice A0_3 l0_3.length c0_3, .slice A0_4 l0_4.length c0_4] 36 (0, 0)) (by (with_reducible repeat (first | refine blk_drewN ?_ _ | refine blk_drew ?_ | refine blk_alloc ?_ _)); exact BK169.out) hb); have n1_ := Aside0.mk (below_step (by repeat (first | (with_reducible first | exact HB.out | apply below_alloc | apply pw_below_drewN | apply below_drew1 | refine below_set ?_ GE169.out) | exact HB.out)) hb); clear BK169; clear HB; have BK169 := n0_; have HB := n1_; clear n0_ n1_; (try clear hb); (try clear hb2); (try clear hk); (try clear hi); have hcz76_0 : w75.cell? ⟨gb169, 0, none⟩ = some (.int .i64 a0_0) := (blk_cell BK169.out 0).trans rfl; have hcz76_1 : w75.cell? ⟨gb169, 1, none⟩ = some (.int .i64 a0_1) := (blk_cell BK169.out 1).trans rfl; have hcz76_2 : w75.cell? ⟨gb169, 2, none⟩ = some (.int .i64 a0_2) := (blk_cell BK169.out 2).trans rfl; have hcz76_3 : w75.cell? ⟨gb169, 3, none⟩ = some (.slice A0_3 l0_3.length c0_3) := (blk_cell BK169.out 3).trans rfl; have hcz76_4 : w75.cell? ⟨gb169, 4, none⟩ = some (.slice A0_4 l0_4.length c0_4) := (blk_cell BK169.out 4).trans rfl; have hfz76_0 := blk_frozen BK169.out 0; have hfz76_1 := blk_frozen BK169.out 1; have hfz76_2 := blk_frozen BK169.out 2; have hfz76_3 := blk_frozen BK169.out 3; have hfz76_4 := blk_frozen BK169.out 4) | ((with_reducible refine gate_callee (f := 25) rfl ?_); refine goesL_ (some 20) rfl rfl Try.func25 (by kernel_rfl) rfl #[.agg #[.int .i64 a0_0, .int .i64 a0_1, .int .i64 a0_2, .slice A0_3 l0_3.length c0_3, .slice A0_4 l0_4.length c0_4], .int .i64 a1, .int .i64 a2] rfl (by (try simp only [List.map_toArray, List.map_cons, List.map_nil]); first | done | rfl | (simp only [List.length_drop, List.length_take]; rfl)) ?_; (with_reducible refine (hist_Sum.calls a0_0 a0_1 a0_2 _ _ l0_3 _ _ l0_4 a1 a2 t172 t175 t176 t177 t178 _ ?side1 ?side2 ?side3 ?side4 A11.out).mono ?_); (case side1 => repeat (first | exact (Kd.C_below HR0_3.out HB.out) | (with_reducible refine Kd.C_alloc ?_ _) | (with_reducible refine Kd.C_drewN ?_ _) | (with_reducible refine Kd.C_drew ?_))); (case side2 => exact HC0_3.out); (case side3 => repeat (first | exact (Kd.C_below HR0_4.out HB.out) | (with_reducible refine Kd.C_alloc ?_ _) | (with_reducible refine Kd.C_drewN ?_ _) | (with_reducible refine Kd.C_drew ?_))); (case side4 => exact HC0_4.out); rintro e w77 ⟨v173, rfl, ho0, hb⟩; refine ⟨_, rfl, ?_⟩; have n0_ := Aside0.mk (Kd.R_lower ho0 (below_size (by repeat (first | (with_reducible first | exact HB.out | apply below_alloc | apply pw_below_drewN | apply below_drew1 | refine below_set ?_ GE169.out) | exact HB.out)))); have n1_ := Aside0.mk (blk_below (g := gb169) (o := .cells #[.int .i64 a0_0, .int .i64 a0_1, .int .i64 a0_2, .slice A0_3 l0_3.length c0_3, .slice A0_4 l0_4.length c0_4] 36 (0, 0)) (by (with_reducible repeat (first | refine blk_drewN ?_ _ | refine blk_drew ?_ | refine blk_alloc ?_ _)); exact BK169.out) hb); have n2_ := Aside0.mk (below_step (by repeat (first | (with_reducible first | exact HB.out | apply below_alloc | apply pw_below_drewN | apply below_drew1 | refine below_set ?_ GE169.out) | exact HB.out)) hb); clear BK169; clear HB; have HO174 := n0_; have BK169 := n1_; have HB := n2_; clear n0_ n1_ n2_; (try clear hb); (try clear hb2); (try clear hk); (try clear hi); (try clear ho0)) | ((with_reducible refine gate_dst (N := 8) rfl ?_); refine box_event ?hg (N := 8) ?hd (cs := #[.int .i64 0, .int .i64 0, .int .i64 0]) (t := 52) ?hr ?_; (case hd => rfl); (case hg => rfl); (case hr => first | (go_simp; done) | (go_simp; rfl)); intro gb179 hg w78 hbox hb; have n0_ := Aside0.mk (Kd.R_below (by (with_reducible repeat (first | apply Kd.R_alloc | apply Kd.R_drewN | apply Kd.R_drew)); exact HO174.out) hb); have n1_ := Aside0.mk (blk_below (g := gb169) (o := .cells #[.int .i64 a0_0, .int .i64 a0_1, .int .i64 a0_2, .slice A0_3 l0_3.length c0_3, .slice A0_4 l0_4.length c0_4] 36 (0, 0)) (by (with_reducible repeat (first | refine blk_drewN ?_ _ | refine blk_drew ?_ | refine blk_alloc ?_ _)); exact BK169.out) hb); have n2_ := Aside0.mk (below_step (by repeat (first | (with_reducible first | exact HB.out | apply below_alloc | apply pw_below_drewN | apply below_drew1 | refine below_set ?_ GE169.out) | exact HB.out)) hb); have n3_ := Aside0.mk (hbox); have n4_ := Aside0.mk ((by rw [hg]; exact (below_size (by repeat (first | (with_reducible first | exact HB.out | apply below_alloc | apply pw_below_drewN | apply below_drew1 | refine below_set ?_ GE169.out) | exact HB.out))) : w.heap.size ≤ gb179)); have n5_ := Aside0.mk ((by rw [hg]; exact (below_size (by repeat (first | (with_reducible first | exact HB.out | apply below_alloc | apply pw_below_drewN | apply below_drew1 | refine below_set ?_ GE169.out) | exact HB.out))) : w.heap.size ≤ gb179)); have n6_ := Aside0.mk ((by rw [hg]; exact Nat.ne_of_lt (blk_lt (g := gb169) (o := .cells #[.int .i64 a0_0, .int .i64 a0_1, .int .i64 a0_2, .slice A0_3 l0_3.length c0_3, .slice A0_4 l0_4.length c0_4] 36 (0, 0)) (by (with_reducible repeat (first | refine blk_drewN ?_ _ | refine blk_drew ?_ | refine blk_alloc ?_ _)); exact BK169.out)) : gb169 ≠ gb179)); have n7_ := Aside0.mk ((by rw [hg]; exact Nat.ne_of_gt (blk_lt (g := gb169) (o := .cells #[.int .i64 a0_0, .int .i64 a0_1, .int .i64 a0_2, .slice A0_3 l0_3.length c0_3, .slice A0_4 l0_4.length c0_4] 36 (0, 0)) (by (with_reducible repeat (first | refine blk_drewN ?_ _ | refine blk_drew ?_ | refine blk_alloc ?_ _)); exact BK169.out)) : gb179 ≠ gb169)); clear HO174; clear BK169; clear HB; have HO174 := n0_; have BK169 := n1_; have HB := n2_; have BK179 := n3_; have GW179 := n4_; have GE179 := n5_; have NB169_179 := n6_; have NB179_169 := n7_; clear n0_ n1_ n2_ n3_ n4_ n5_ n6_ n7_; clear hb hbox hg; have hnb79 := NB179_169.out; have hnc79 := NB169_179.out; have hcz80_0 : w78.cell? ⟨gb179, 0, none⟩ = some (.int .i64 0) := (blk_cell BK179.out 0).trans rfl; have hcz80_1 : w78.cell? ⟨gb179, 1, none⟩ = some (.int .i64 0) := (blk_cell BK179.out 1).trans rfl; have hcz80_2 : w78.cell? ⟨gb179, 2, none⟩ = some (.int .i64 0) := (blk_cell BK179.out 2).trans rfl; have hfz80_0 := blk_frozen BK179.out 0; have hfz80_1 := blk_frozen BK179.out 1; have hfz80_2 := blk_frozen BK179.out 2; have hcz81_0 : w78.cell? ⟨gb169, 0, none⟩ = some (.int .i64 a0_0) := (blk_cell BK169.out 0).trans rfl; have hcz81_1 : w78.cell? ⟨gb169, 1, none⟩ = some (.int .i64 a0_1) := (blk_cell BK169.out 1).trans rfl; have hcz81_2 : w78.cell? ⟨gb169, 2, none⟩ = some (.int .i64 a0_2) := (blk_cell BK169.out 2).trans rfl; have hcz81_3 : w78.cell? ⟨gb169, 3, none⟩ = some (.slice A0_3 l0_3.length c0_3) := (blk_cell BK169.out 3).trans rfl; have hcz81_4 : w78.cell? ⟨gb169, 4, none⟩ = some (.slice A0_4 l0_4.length c0_4) := (blk_cell BK169.out 4).trans rfl; have hfz81_0 := blk_frozen BK169.out 0; have hfz81_1 := blk_frozen BK169.out 1; have hfz81_2 := blk_frozen BK169.out 2; have hfz81_3 := blk_frozen BK169.out 3; have hfz81_4 := blk_frozen BK169.out 4) | ((with_reducible refine gate_callee (f := 26) rfl ?_); refine goesL_ (some 28) rfl rfl Try.func26 (by kernel_rfl) rfl #[.agg #[.int .i64 a0_0, .int .i64 a0_1, .int .i64 a0_2, .slice A0_3 l0_3.length c0_3, .slice A0_4 l0_4.length c0_4], .int .i64 a1, .int .i64 a2] rfl (by (try simp only [List.map_toArray, List.map_cons, List.map_nil]); first | done | rfl | (simp only [List.length_drop, List.length_take]; rfl)) ?_; (with_reducible refine (hornbeamref12_Sum.calls k a0_0 a0_1 a0_2 _ _ l0_3 _ _ l0_4 a1 a2 t180 t183 t184 t185 t186 _ ?side1 ?side2 ?side3 ?side4 A12.out).mono ?_); (case side1 => exact Kd.C_below HR0_3.out (by repeat (first | (with_reducible first | exact HB.out | apply below_alloc | apply pw_below_drewN | apply below_drew1 | refine below_set ?_ GE169.out | refine below_set ?_ GE179.out) | exact HB.out))); (case side2 => exact HC0_3.out); (case side3 => exact Kd.C_below HR0_4.out (by repeat (first | (with_reducible first | exact HB.out | apply below_alloc | apply pw_below_drewN | apply below_drew1 | refine below_set ?_ GE169.out | refine below_set ?_ GE179.out) | exact HB.out))); (case side4 => exact HC0_4.out); rintro e w82 ⟨v181, rfl, ho0, hb⟩; refine ⟨_, rfl, ?_⟩; have n0_ := Aside0.mk (Kd.R_elder' (by (with_reducible repeat (first | apply Kd.R_alloc | apply Kd.R_drewN | apply Kd.R_drew)); exact (Kd.R_mono (Kd.R_far (p := ⟨gb179, 2, none⟩) (Kd.R_far (p := ⟨gb179, 1, none⟩) (Kd.R_far (p := ⟨gb179, 0, none⟩) (Kd.R_types HO174.out BK179.out (by decide)) (fun _ hk => hk.2) (.int .i64 t175)) (fun _ hk => hk.2) (.int .i64 t176)) (fun _ hk => hk.2) (.int .i64 t177)) (fun _ h_ => h_.1))) (Kd.R_base ho0) hb); have n1_ := Aside0.mk (Kd.R_lower (Kd.R_new' ho0 (Kd.R_lt (by (with_reducible repeat (first | apply Kd.R_alloc | apply Kd.R_drewN | apply Kd.R_drew)); exact (Kd.R_mono (Kd.R_far (p := ⟨gb179, 2, none⟩) (Kd.R_far (p := ⟨gb179, 1, none⟩) (Kd.R_far (p := ⟨gb179, 0, none⟩) (Kd.R_types HO174.out BK179.out (by decide)) (fun _ hk => hk.2) (.int .i64 t175)) (fun _ hk => hk.2) (.int .i64 t176)) (fun _ hk => hk.2) (.int .i64 t177)) (fun _ h_ => h_.1))))) (below_size (by repeat (first | (with_reducible first | exact HB.out | apply below_alloc | apply pw_below_drewN | apply below_drew1 | refine below_set ?_ GE169.out | refine below_set ?_ GE179.out) | exact HB.out)))); have n2_ := Aside0.mk (blk_below (g := gb169) (o := .cells #[.int .i64 a0_0, .int .i64 a0_1, .int .i64 a0_2, .slice A0_3 l0_3.length c0_3, .slice A0_4 l0_4.length c0_4] 36 (0, 0)) (by (with_reducible repeat (first | refine blk_drewN ?_ _ | refine blk_drew ?_ | refine blk_alloc ?_ _)); refine blk_far ?_ NB169_179.out _; (with_reducible repeat (first | refine blk_drewN ?_ _ | refine blk_drew ?_ | refine blk_alloc ?_ _)); refine blk_far ?_ NB169_179.out _; (with_reducible repeat (first | refine blk_drewN ?_ _ | refine blk_drew ?_ | refine blk_alloc ?_ _)); refine blk_far ?_ NB169_179.out _; (with_reducible repeat (first | refine blk_drewN ?_ _ | refine blk_drew ?_ | refine blk_alloc ?_ _)); exact BK169.out) hb); have n3_ := Aside0.mk (blk_below (g := gb179) (o := .cells #[.int .i64 t175, .int .i64 t176, .int .i64 t177] 52 (0, 0)) (by (with_reducible repeat (first | refine blk_drewN ?_ _ | refine blk_drew ?_ | refine blk_alloc ?_ _)); refine blk_put (cs := #[.int .i64 t175, .int .i64 t176, .int .i64 0]) ?_ 2 _ rfl; (with_reducible repeat (first | refine blk_drewN ?_ _ | refine blk_drew ?_ | refine blk_alloc ?_ _)); refine blk_put (cs := #[.int .i64 t175, .int .i64 0, .int .i64 0]) ?_ 1 _ rfl; (with_reducible repeat (first | refine blk_drewN ?_ _ | refine blk_drew ?_ | refine blk_alloc ?_ _)); refine blk_put (cs := #[.int .i64 0, .int .i64 0, .int .i64 0]) ?_ 0 _ rfl; (with_reducible repeat (first | refine blk_drewN ?_ _ | refine blk_drew ?_ | refine blk_alloc ?_ _)); exact BK179.out) hb); have n4_ := Aside0.mk (below_step (by repeat (first | (with_reducible first | exact HB.out | apply below_alloc | apply pw_below_drewN | apply below_drew1 | refine below_set ?_ GE169.out | refine below_set ?_ GE179.out) | exact HB.out)) hb); clear HO174; clear BK169; clear BK179; clear HB; have HO174 := n0_; have HO182 := n1_; have BK169 := n2_; have BK179 := n3_; have HB := n4_; clear n0_ n1_ n2_ n3_ n4_; (try clear hb); (try clear hb2); (try clear hk); (try clear hi); (try clear ho0)) | ((with_reducible refine gate_dst (N := 11) rfl ?_); refine box_event ?hg (N := 11) ?hd (cs := #[.int .i64 0, .int .i64 0, .int .i64 0]) (t := 52) ?hr ?_; (case hd => rfl); (case hg => rfl); (case hr => first | (go_simp; done) | (go_simp; rfl)); intro gb187 hg w83 hbox hb; have n0_ := Aside0.mk (Kd.R_below (by (with_reducible repeat (first | apply Kd.R_alloc | apply Kd.R_drewN | apply Kd.R_drew)); exact HO174.out) hb); have n1_ := Aside0.mk (Kd.R_below (by (with_reducible repeat (first | apply Kd.R_alloc | apply Kd.R_drewN | apply Kd.R_drew)); exact HO182.out) hb); have n2_ := Aside0.mk (blk_below (g := gb169) (o := .cells #[.int .i64 a0_0, .int .i64 a0_1, .int .i64 a0_2, .slice A0_3 l0_3.length c0_3, .slice A0_4 l0_4.length c0_4] 36 (0, 0)) (by (with_reducible repeat (first | refine blk_drewN ?_ _ | refine blk_drew ?_ | refine blk_alloc ?_ _)); exact BK169.out) hb); have n3_ := Aside0.mk (blk_below (g := gb179) (o := .cells #[.int .i64 t175, .int .i64 t176, .int .i64 t177] 52 (0, 0)) (by (with_reducible repeat (first | refine blk_drewN ?_ _ | refine blk_drew ?_ | refine blk_alloc ?_ _)); exact BK179.out) hb); have n4_ := Aside0.mk (below_step (by repeat (first | (with_reducible first | exact HB.out | apply below_alloc | apply pw_below_drewN | apply below_drew1 | refine below_set ?_ GE169.out | refine below_set ?_ GE179.out) | exact HB.out)) hb); have n5_ := Aside0.mk (hbox); have n6_ := Aside0.mk ((by rw [hg]; exact (below_size (by repeat (first | (with_reducible first | exact HB.out | apply below_alloc | apply pw_below_drewN | apply below_drew1 | refine below_set ?_ GE169.out | refine below_set ?_ GE179.out) | exact HB.out))) : w.heap.size ≤ gb187)); have n7_ := Aside0.mk ((by rw [hg]; exact (below_size (by repeat (first | (with_reducible first | exact HB.out | apply below_alloc | apply pw_below_drewN | apply below_drew1 | refine below_set ?_ GE169.out | refine below_set ?_ GE179.out) | exact HB.out))) : w.heap.size ≤ gb187)); have n8_ := Aside0.mk ((by rw [hg]; exact Nat.ne_of_lt (blk_lt (g := gb169) (o := .cells #[.int .i64 a0_0, .int .i64 a0_1, .int .i64 a0_2, .slice A0_3 l0_3.length c0_3, .slice A0_4 l0_4.length c0_4] 36 (0, 0)) (by (with_reducible repeat (first | refine blk_drewN ?_ _ | refine blk_drew ?_ | refine blk_alloc ?_ _)); exact BK169.out)) : gb169 ≠ gb187)); have n9_ := Aside0.mk ((by rw [hg]; exact Nat.ne_of_gt (blk_lt (g := gb169) (o := .cells #[.int .i64 a0_0, .int .i64 a0_1, .int .i64 a0_2, .slice A0_3 l0_3.length c0_3, .slice A0_4 l0_4.length c0_4] 36 (0, 0)) (by (with_reducible repeat (first | refine blk_drewN ?_ _ | refine blk_drew ?_ | refine blk_alloc ?_ _)); exact BK169.out)) : gb187 ≠ gb169)); have n10_ := Aside0.mk ((by rw [hg]; exact Nat.ne_of_lt (blk_lt (g := gb179) (o := .cells #[.int .i64 t175, .int .i64 t176, .int .i64 t177] 52 (0, 0)) (by (with_reducible repeat (first | refine blk_drewN ?_ _ | refine blk_drew ?_ | refine blk_alloc ?_ _)); exact BK179.out)) : gb179 ≠ gb187)); have n11_ := Aside0.mk ((by rw [hg]; exact Nat.ne_of_gt (blk_lt (g := gb179) (o := .cells #[.int .i64 t175, .int .i64 t176, .int .i64 t177] 52 (0, 0)) (by (with_reducible repeat (first | refine blk_drewN ?_ _ | refine blk_drew ?_ | refine blk_alloc ?_ _)); exact BK179.out)) : gb187 ≠ gb179)); clear HO174; clear HO182; clear BK169; clear BK179; clear HB; have HO174 := n0_; have HO182 := n1_; have BK169 := n2_; have BK179 := n3_; have HB := n4_; have BK187 := n5_; have GW187 := n6_; have GE187 := n7_; have NB169_187 := n8_; have NB187_169 := n9_; have NB179_187 := n10_; have NB187_179 := n11_; clear n0_ n1_ n2_ n3_ n4_ n5_ n6_ n7_ n8_ n9_ n10_ n11_; clear hb hbox hg; have hnb84 := NB187_169.out; have hnc84 := NB169_187.out; have hnb85 := NB187_179.out; have hnc85 := NB179_187.out; have hcz86_0 : w83.cell? ⟨gb187, 0, none⟩ = some (.int .i64 0) := (blk_cell BK187.out 0).trans rfl; have hcz86_1 : w83.cell? ⟨gb187, 1, none⟩ = some (.int .i64 0) := (blk_cell BK187.out 1).trans rfl; have hcz86_2 : w83.cell? ⟨gb187, 2, none⟩ = some (.int .i64 0) := (blk_cell BK187.out 2).trans rfl; have hfz86_0 := blk_frozen BK187.out 0; have hfz86_1 := blk_frozen BK187.out 1; have hfz86_2 := blk_frozen BK187.out 2) | ((with_reducible refine gate_callee (f := 16) rfl ?_); refine goesL_ (some 32) rfl rfl Try.func16 (by kernel_rfl) rfl #[] rfl (by (try simp only [List.map_toArray, List.map_cons, List.map_nil]); first | done | rfl | (simp only [List.length_drop, List.length_take]; rfl)) ?_; (with_reducible refine (hornbeamlaw12_fixed.calls  false _ A13.out).mono ?_); rintro e w87 ⟨rfl, hb⟩; refine ⟨_, rfl, ?_⟩; have n0_ := Aside0.mk (Kd.R_below (by (with_reducible repeat (first | apply Kd.R_alloc | apply Kd.R_drewN | apply Kd.R_drew)); exact (Kd.R_mono (Kd.R_far (p := ⟨gb187, 2, none⟩) (Kd.R_far (p := ⟨gb187, 1, none⟩) (Kd.R_far (p := ⟨gb187, 0, none⟩) (Kd.R_types HO174.out BK187.out (by decide)) (fun _ hk => hk.2) (.int .i64 t183)) (fun _ hk => hk.2) (.int .i64 t184)) (fun _ hk => hk.2) (.int .i64 t185)) (fun _ h_ => h_.1))) hb); have n1_ := Aside0.mk (Kd.R_below (by (with_reducible repeat (first | apply Kd.R_alloc | apply Kd.R_drewN | apply Kd.R_drew)); exact (Kd.R_mono (Kd.R_far (p := ⟨gb187, 2, none⟩) (Kd.R_far (p := ⟨gb187, 1, none⟩) (Kd.R_far (p := ⟨gb187, 0, none⟩) (Kd.R_types HO182.out BK187.out (by decide)) (fun _ hk => hk.2) (.int .i64 t183)) (fun _ hk => hk.2) (.int .i64 t184)) (fun _ hk => hk.2) (.int .i64 t185)) (fun _ h_ => h_.1))) hb); have n2_ := Aside0.mk (blk_below (g := gb169) (o := .cells #[.int .i64 a0_0, .int .i64 a0_1, .int .i64 a0_2, .slice A0_3 l0_3.length c0_3, .slice A0_4 l0_4.length c0_4] 36 (0, 0)) (by (with_reducible repeat (first | refine blk_drewN ?_ _ | refine blk_drew ?_ | refine blk_alloc ?_ _)); refine blk_far ?_ NB169_187.out _; (with_reducible repeat (first | refine blk_drewN ?_ _ | refine blk_drew ?_ | refine blk_alloc ?_ _)); refine blk_far ?_ NB169_187.out _; (with_reducible repeat (first | refine blk_drewN ?_ _ | refine blk_drew ?_ | refine blk_alloc ?_ _)); refine blk_far ?_ NB169_187.out _; (with_reducible repeat (first | refine blk_drewN ?_ _ | refine blk_drew ?_ | refine blk_alloc ?_ _)); exact BK169.out) hb); have n3_ := Aside0.mk (blk_below (g := gb179) (o := .cells #[.int .i64 t175, .int .i64 t176, .int .i64 t177] 52 (0, 0)) (by (with_reducible repeat (first | refine blk_drewN ?_ _ | refine blk_drew ?_ | refine blk_alloc ?_ _)); refine blk_far ?_ NB179_187.out _; (with_reducible repeat (first | refine blk_drewN ?_ _ | refine blk_drew ?_ | refine blk_alloc ?_ _)); refine blk_far ?_ NB179_187.out _; (with_reducible repeat (first | refine blk_drewN ?_ _ | refine blk_drew ?_ | refine blk_alloc ?_ _)); refine blk_far ?_ NB179_187.out _; (with_reducible repeat (first | refine blk_drewN ?_ _ | refine blk_drew ?_ | refine blk_alloc ?_ _)); exact BK179.out) hb); have n4_ := Aside0.mk (blk_below (g := gb187) (o := .cells #[.int .i64 t183, .int .i64 t184, .int .i64 t185] 52 (0, 0)) (by (with_reducible repeat (first | refine blk_drewN ?_ _ | refine blk_drew ?_ | refine blk_alloc ?_ _)); refine blk_put (cs := #[.int .i64 t183, .int .i64 t184, .int .i64 0]) ?_ 2 _ rfl; (with_reducible repeat (first | refine blk_drewN ?_ _ | refine blk_drew ?_ | refine blk_alloc ?_ _)); refine blk_put (cs := #[.int .i64 t183, .int .i64 0, .int .i64 0]) ?_ 1 _ rfl; (with_reducible repeat (first | refine blk_drewN ?_ _ | refine blk_drew ?_ | refine blk_alloc ?_ _)); refine blk_put (cs := #[.int .i64 0, .int .i64 0, .int .i64 0]) ?_ 0 _ rfl; (with_reducible repeat (first | refine blk_drewN ?_ _ | refine blk_drew ?_ | refine blk_alloc ?_ _)); exact BK187.out) hb); have n5_ := Aside0.mk (below_step (by repeat (first | (with_reducible first | exact HB.out | apply below_alloc | apply pw_below_drewN | apply below_drew1 | refine below_set ?_ GE169.out | refine below_set ?_ GE179.out | refine below_set ?_ GE187.out) | exact HB.out)) hb); clear HO174; clear HO182; clear BK169; clear BK179; clear BK187; clear HB; have HO174 := n0_; have HO182 := n1_; have BK169 := n2_; have BK179 := n3_; have BK187 := n4_; have HB := n5_; clear n0_ n1_ n2_ n3_ n4_ n5_; (try clear hb); (try clear hb2); (try clear hk); (try clear hi)))
      go_ret
      exact ⟨by first | rfl | (simp [errW_none, errW_some] <;> rfl) | (simp [*, errW_none, errW_some] <;> rfl), by repeat (first | (with_reducible first | exact HB.out | apply below_alloc | apply pw_below_drewN | apply below_drew1 | refine below_set ?_ GE169.out | refine below_set ?_ GE179.out | refine below_set ?_ GE187.out) | exact HB.out)⟩

end Go.Proofs.Yteckbgpkoanhfaa.Pr
end

section
/- The plain law: what bins come to is the document's. -/
namespace Go.Proofs.Yteckbgpkoanhfaa.Pr
set_option linter.unusedVariables false
open Go.RowKit Go.Proofs.YteckbgpkoanhfaaW.PrintWords Go.Proofs.YteckbgpkoanhfaaW.PrintLast Go.Proofs.YteckbgpkoanhfaaW.PrintMore

theorem w64 {i : Int} (h0 : -9223372036854775808 ≤ i) (h1 : i ≤ 9223372036854775807) : wrap64 i = i := by unfold wrap64; omega
theorem rd_nat (l : List Int) (i : Nat) : rd l (i : Int) = l.getD i 0 := rfl
theorem plus4_some {a b : Int} (ha : Hb.inR a) (hb : Hb.inR b) : hornbeamref04_Plus.f a b = some (pairO (Hb.lim (a + b))) := op2_some ha hb

section
variable (h : Hb.H) (b n t : Nat) (l3 : List Int) (l4 : List S52) (R : List Int × Int × Int × Int × Int)
set_option maxHeartbeats 400000 in
theorem ref_in (hh : h.counts = l3) (hlen : l3.length = b * n) (hb : b ≤ 257) (hn : n ≤ 256) (ho : ∀ x ∈ l3, Hb.inR x) (k : Nat) (hk : k < b) : ∀ (r c : Nat) (ds : List Int), c + r = n → ds.length = n → (∀ y ∈ ds, Hb.inR y) →
    (∀ cs', Hb.sumIn h (k * n) r c ds = .ok cs' → cs'.length = n → (∀ y ∈ cs', Hb.inR y) → Ev (fun q => hornbeamref12_Sum.l0 q t cs' ((k : Int) + 1) 0 b n l3 l4 0 0 0) R) →
    (∀ e, Hb.sumIn h (k * n) r c ds = .error e → R = ([], 0, 0, 0, e)) → Ev (fun q => hornbeamref12_Sum.l1 q t ds k c 0 b n l3 l4 0 0 0) R := by
  intro r
  induction r with
  | zero =>
    intro c ds hc hl hr hok _
    have hcn : ¬ ((c : Int) < (n : Int)) := by omega
    have h01 : ¬ ((0 : Int) = 1) := by decide
    refine Ev.step (f := fun q => hornbeamref12_Sum.l0 q t ds ((k : Int) + 1) 0 b n l3 l4 0 0 0) (fun q => ?_) (hok ds rfl hl hr)
    simp only [hornbeamref12_Sum.l1]
    rw [if_neg hcn, if_neg h01, w64 (by omega) (by omega)]
  | succ r ih0 =>
    intro c ds hc hl hr hok herr
    have hat := Hb.sum_at hk (show c < n by omega)
    have hbn : b * n ≤ 65792 := by have := Nat.mul_le_mul hb hn; omega
    obtain ⟨P, hP⟩ : ∃ P, k * n = P := ⟨_, rfl⟩
    have hPi : (k : Int) * (n : Int) = (P : Int) := by rw [← hP]; simp
    rw [hP] at hat
    have hu := Hb.getD_inR hr (i := c) (by omega)
    have hv := Hb.getD_inR ho (i := P + c) (by omega)
    have c1 : (c : Int) < (n : Int) := by omega
    have c2 : (0 : Int) ≤ (c : Int) := by omega
    have c3 : (c : Int) < (ds.length : Int) := by omega
    have c4 : (0 : Int) ≤ ((P + c : Nat) : Int) := by omega
    have c5 : ((P + c : Nat) : Int) < (l3.length : Int) := by omega
    have b1 : c + 1 + r = n := by omega
    have b2 : (-9223372036854775808 : Int) ≤ (c : Int) + 1 := by omega
    have b3 : (c : Int) + 1 ≤ 9223372036854775807 := by omega
    have e1 : wrap64 (wrap64 ((k : Int) * (n : Int)) + (c : Int)) = ((P + c : Nat) : Int) := by
      rw [hPi, w64 (i := (P : Int)) (by omega) (by omega), w64 (by omega) (by omega)]; omega
    have hstep : ∀ q, hornbeamref12_Sum.l1 (q + 1) t ds k c 0 b n l3 l4 0 0 0 = (fun q => if (pairO (Hb.lim (ds.getD c 0 + l3.getD (P + c) 0))).2 = 0 then hornbeamref12_Sum.l1 q t (ds.set c (pairO (Hb.lim (ds.getD c 0 + l3.getD (P + c) 0))).1) k (wrap64 ((c : Int) + 1)) 0 b n l3 l4 0 0 0 else some ([], 0, 0, 0, (pairO (Hb.lim (ds.getD c 0 + l3.getD (P + c) 0))).2)) q := by
      intro q
      simp only [hornbeamref12_Sum.l1]
      rw [e1, if_pos c1, if_pos c2, if_pos c3, if_pos c4, if_pos c5, rd_nat, rd_nat, plus4_some hu hv, Option.bind_some, Int.toNat_natCast]
    refine Ev.step hstep ?_
    cases hlim : Hb.lim (ds.getD c 0 + l3.getD (P + c) 0) with
    | none =>
      rw [herr 6 (by rw [hP]; exact Hb.sumIn_none (by rw [hh]; exact hlim))]
      exact Ev.now _
    | some z =>
      simp only [pairO, if_true]
      have hz : Hb.inR z := by have := Hb.lim_some hlim; rw [this.1]; exact this.2
      have hs : Hb.sumIn h (k * n) (r + 1) c ds = Hb.sumIn h (k * n) r (c + 1) (ds.set c z) := by rw [hP]; exact Hb.sumIn_some (by rw [hh]; exact hlim)
      have ih := ih0 (c + 1) (ds.set c z) b1 (by rw [List.length_set]; exact hl) (Hb.set_inR hr hz) (by rw [← hs]; exact hok) (by rw [← hs]; exact herr)
      rw [w64 b2 b3]
      exact ih
theorem ref_out (hh : h.counts = l3) (hlen : l3.length = b * n) (hb : b ≤ 257) (hn : n ≤ 256) (ho : ∀ x ∈ l3, Hb.inR x) : ∀ (r k : Nat) (cs : List Int), k + r = t → t ≤ b → cs.length = n → (∀ y ∈ cs, Hb.inR y) →
    Ev (fun q => hornbeamref12_Sum.l0 q t cs k 0 b n l3 l4 0 0 0) (sumR (Hb.upC (Hb.sumC h n r k cs))) := by
  intro r
  induction r with
  | zero =>
    intro k cs hk ht hl hr
    have hkt : ¬ ((k : Int) < (t : Int)) := by omega
    refine Ev.step (f := fun _ => some (cs, 0, 0, 0, 0)) (fun q => ?_) (Ev.now _)
    simp only [hornbeamref12_Sum.l0]
    rw [if_neg hkt]
  | succ r ih0 =>
    intro k cs hk ht hl hr
    have hkt : (k : Int) < (t : Int) := by omega
    refine Ev.step (f := fun q => hornbeamref12_Sum.l1 q t cs k 0 0 b n l3 l4 0 0 0) (fun q => ?_) ?_
    · simp only [hornbeamref12_Sum.l0]
      rw [if_pos hkt]
    · refine ref_in h b n t l3 l4 _ hh hlen hb hn ho k (by omega) n 0 cs (by omega) hl hr (fun cs' hs hl' hr' => ?_) (fun e he => ?_)
      · rw [Hb.sumC_ok hs]
        exact ih0 (k + 1) cs' (by omega) ht hl' hr'
      · rw [Hb.sumC_err he]; rfl
theorem ref_moms (hh : h.moms = l4.map toM) (hlen : l4.length = b) (hb : b ≤ 257) (ho : ∀ x ∈ l4, (toM x).ok) : ∀ (r k : Nat) (m : Hb.Mom), k + r = t → t ≤ b → m.ok →
    Ev (fun q => hornbeamref12_Sum.l0 q t [] k 1 b 0 l3 l4 m.c m.s m.q) (sumR (Hb.upM (Hb.sumM h r k m))) := by
  intro r
  induction r with
  | zero =>
    intro k m hk ht hm
    have hkt : ¬ ((k : Int) < (t : Int)) := by omega
    refine Ev.step (f := fun _ => some ([], m.c, m.s, m.q, 0)) (fun q => ?_) (Ev.now _)
    simp only [hornbeamref12_Sum.l0]
    rw [if_neg hkt]
  | succ r ih0 =>
    intro k m hk ht hm
    have hkt : (k : Int) < (t : Int) := by omega
    have e00 : ¬ ((0 : Int) < 0) := by decide
    have c1 : (0 : Int) ≤ (k : Int) := by omega
    have c2 : (k : Int) < (l4.length : Int) := by omega
    have hx : (toM (rd_T52 l4 k)).ok := by
      refine ho _ ?_
      unfold rd_T52
      rw [Int.toNat_natCast, List.getD_eq_getElem?_getD, List.getElem?_eq_getElem (by omega)]
      exact List.getElem_mem _
    have hmA : Hb.mAt h.moms k = toM (rd_T52 l4 k) := by
      rw [hh]
      simp [Hb.mAt, rd_T52, List.getD_eq_getElem?_getD, show k < l4.length by omega]
    refine Ev.step (f := fun q => hornbeamref12_Sum.l1 q t [] k 0 1 b 0 l3 l4 m.c m.s m.q) (fun q => ?_) ?_
    · simp only [hornbeamref12_Sum.l0]
      rw [if_pos hkt]
    have hstep : ∀ q, hornbeamref12_Sum.l1 (q + 1) t [] k 0 1 b 0 l3 l4 m.c m.s m.q = (fun q => if (momR (Hb.momO Hb.opP m (toM (rd_T52 l4 k)))).2.2.2 = 0 then hornbeamref12_Sum.l0 q t [] (wrap64 ((k : Int) + 1)) 1 b 0 l3 l4 (momR (Hb.momO Hb.opP m (toM (rd_T52 l4 k)))).1 (momR (Hb.momO Hb.opP m (toM (rd_T52 l4 k)))).2.1 (momR (Hb.momO Hb.opP m (toM (rd_T52 l4 k)))).2.2.1 else some ([], 0, 0, 0, (momR (Hb.momO Hb.opP m (toM (rd_T52 l4 k)))).2.2.2)) q := by
      intro q
      simp only [hornbeamref12_Sum.l1]
      have hp := plus12_some hm hx
      rw [if_neg e00, if_pos trivial, if_pos c1, if_pos c2]
      rw [show hornbeamref12_plus.f m.c m.s m.q (rd_T52 l4 k).f0 (rd_T52 l4 k).f1 (rd_T52 l4 k).f2 = _ from hp, Option.bind_some]
    refine Ev.step hstep ?_
    cases hz : Hb.momO Hb.opP m (toM (rd_T52 l4 k)) with
    | error e =>
      have he := Hb.momO_err Hb.plus_is hz
      have he' : ¬ e = 0 := bne_iff_ne.1 he
      rw [Hb.sumM_err (by rw [hmA]; exact hz)]
      exact Ev.congr (f := fun _ => some ([], 0, 0, 0, e)) (fun q => if_neg he') (Ev.now _)
    | ok z =>
      rw [Hb.sumM_ok (by rw [hmA]; exact hz)]
      refine Ev.congr (f := fun q => hornbeamref12_Sum.l0 q t [] ((k + 1 : Nat) : Int) 1 b 0 l3 l4 z.c z.s z.q) (fun q => (if_pos rfl).trans (by rw [w64 (by omega) (by omega)]; rfl)) ?_
      exact ih0 (k + 1) z (by omega) ht (Hb.momO_in Hb.plus_is hz)
end
theorem ref_sum (a0 a1 a2 : Int) (l3 : List Int) (l4 : List S52) (f t : Int) (h3 : ∀ x ∈ l3, Hb.inR x) (h4 : ∀ x ∈ l4, (toM x).ok) :
    Ev (fun k => hornbeamref12_Sum.f k a0 a1 a2 l3 l4 f t) (sumR (Hb.sumO (hOf a0 a1 a2 l3 l4) f t)) := by
  unfold hornbeamref12_Sum.f hornbeamref12_Right.f
  simp only [Option.bind_some]
  by_cases hr : Hb.rightP (hOf a0 a1 a2 l3 l4)
  · rw [show Hb.rightB (hOf a0 a1 a2 l3 l4) = true from decide_eq_true hr]
    simp only [if_true]
    have hj : ∀ x, (f < 0 ∨ f > t ∨ t > a1) → x = true → Ev (fun k => hornbeamref12_Sum.j0 k f t x a0 a1 a2 l3 l4) (sumR (Hb.sumO (hOf a0 a1 a2 l3 l4) f t)) := by
      intro x hb hx
      rw [Hb.sum_1 hr hb]
      refine Ev.step (f := fun _ => some ([], 0, 0, 0, 1)) (fun q => ?_) (Ev.now _)
      simp only [hornbeamref12_Sum.j0]
      rw [if_pos hx]
    by_cases b1 : f < 0
    · simp only [if_pos b1]
      exact hj _ (by omega) rfl
    · simp only [if_neg b1]
      by_cases b2 : f > t
      · simp only [if_pos b2]
        exact hj _ (by omega) rfl
      · simp only [if_neg b2]
        by_cases b3 : t > a1
        · exact hj _ (by omega) (decide_eq_true b3)
        · have hb : ¬ (f < 0 ∨ f > t ∨ t > (hOf a0 a1 a2 l3 l4).bins) := by show ¬ (f < 0 ∨ f > t ∨ t > a1); omega
          rw [show decide (t > a1) = false from decide_eq_false b3]
          obtain ⟨y1, y2, z1, z2⟩ := Hb.may_le hr.1
          simp only [hOf] at y1 y2 z1 z2
          obtain ⟨fn, rfl⟩ : ∃ fn : Nat, f = fn := ⟨f.toNat, by omega⟩
          obtain ⟨tn, rfl⟩ : ∃ tn : Nat, t = tn := ⟨t.toNat, by omega⟩
          obtain ⟨bn, rfl⟩ : ∃ bn : Nat, a1 = bn := ⟨a1.toNat, by omega⟩
          obtain ⟨n, rfl⟩ : ∃ n : Nat, a2 = n := ⟨a2.toNat, by omega⟩
          have c1 : (0 : Int) ≤ (n : Int) := by omega
          have c2 : (n : Int).toNat ≤ 35184372088832 := by omega
          by_cases hk : a0 = 0
          · subst hk
            rw [Hb.sum_c hr hb rfl]
            have hlen : (l3.length : Int) = (bn : Int) * (n : Int) := by rcases hr.2 with ⟨_, e, _⟩ | ⟨e, _⟩ <;> first | exact e | exact absurd rfl e
            refine Ev.step (f := fun q => hornbeamref12_Sum.l0 q tn (List.replicate n 0) fn 0 bn n l3 l4 0 0 0) (fun q => ?_) ?_
            · simp only [hornbeamref12_Sum.j0]
              rw [if_neg (by decide), if_pos c1, if_pos c2]
              rfl
            · have := ref_out (hOf 0 bn n l3 l4) bn n tn l3 l4 rfl (by rw [← Int.natCast_mul] at hlen; omega) (by omega) (by omega) h3 (tn - fn) fn (List.replicate n 0) (by omega) (by omega) (by simp) (by intro y hy; rw [List.eq_of_mem_replicate hy]; decide)
              simpa [hOf] using this
          · have hm := hr.1
            unfold Hb.mayP at hm
            simp only [hOf] at hm
            obtain rfl : a0 = 1 := by omega
            obtain rfl : n = 0 := by omega
            rw [Hb.sum_m hr hb (show ¬ ((1 : Int) = 0) by decide)]
            have hlen : ((l4.map toM).length : Int) = bn := by rcases hr.2 with ⟨e, _⟩ | ⟨_, _, e⟩ <;> first | exact e | exact absurd e hk
            rw [List.length_map] at hlen
            refine Ev.step (f := fun q => hornbeamref12_Sum.l0 q tn [] fn 1 bn (0 : Nat) l3 l4 0 0 0) (fun q => ?_) ?_
            · simp only [hornbeamref12_Sum.j0]
              rw [if_neg (by decide), if_pos c1, if_pos c2]
              rfl
            · exact ref_moms (hOf 1 bn (0 : Nat) l3 l4) bn tn l3 l4 rfl (by omega) (by omega) h4 (tn - fn) fn Hb.m0 (by omega) (by omega) (by unfold Hb.Mom.ok Hb.m0; decide)
  · rw [show Hb.rightB (hOf a0 a1 a2 l3 l4) = false from decide_eq_false hr, Hb.sum_8 hr]
    exact Ev.now _
theorem same_counts (l : List Int) (hl : l.length ≤ 9223372036854775807) : Ev (fun k => hornbeamref12_SameCounts.f k l l) true := by
  have loop : ∀ (r i : Nat), i + r = l.length → Ev (fun k => hornbeamref12_SameCounts.l0 k l l i) true := by
    intro r
    induction r with
    | zero =>
      intro i hi
      have c : ¬ ((i : Int) < (l.length : Int)) := by omega
      refine Ev.step (f := fun _ => some true) (fun q => ?_) (Ev.now _)
      simp only [hornbeamref12_SameCounts.l0]
      rw [if_neg c]
    | succ r ih =>
      intro i hi
      have c : (i : Int) < (l.length : Int) := by omega
      have c0 : (0 : Int) ≤ (i : Int) := by omega
      refine Ev.step (f := fun q => hornbeamref12_SameCounts.l0 q l l ((i + 1 : Nat) : Int)) (fun q => ?_) (ih (i + 1) (by omega))
      simp only [hornbeamref12_SameCounts.l0]
      rw [if_pos c, if_pos c0, if_pos c, if_pos trivial, w64 (by omega) (by omega)]
      rfl
  unfold hornbeamref12_SameCounts.f
  simp only [if_true]
  exact loop l.length 0 (by omega)
theorem sumR_len (a0 a1 a2 : Int) (l3 : List Int) (l4 : List S52) (f t : Int) : ∃ R, R = sumR (Hb.sumO (hOf a0 a1 a2 l3 l4) f t) := ⟨_, rfl⟩
theorem sumIn_len (h : Hb.H) (at0 : Nat) : ∀ (r c : Nat) (cs cs' : List Int), Hb.sumIn h at0 r c cs = .ok cs' → cs'.length = cs.length
  | 0, c, cs, cs', e => by rw [Hb.sumIn] at e; cases e; rfl
  | r + 1, c, cs, cs', e => by
    rw [Hb.sumIn] at e
    split at e
    · cases e
    · rw [sumIn_len h at0 r _ _ _ e, List.length_set]
theorem sumC_len (h : Hb.H) (n : Nat) : ∀ (r k : Nat) (cs cs' : List Int), Hb.sumC h n r k cs = .ok cs' → cs'.length = cs.length
  | 0, k, cs, cs', e => by rw [Hb.sumC] at e; cases e; rfl
  | r + 1, k, cs, cs', e => by
    rw [Hb.sumC] at e
    split at e
    · cases e
    · rename_i h1
      rw [sumC_len h n r _ _ _ e, sumIn_len h _ _ _ _ _ h1]
theorem sum_len (h : Hb.H) (f t : Int) : (sumR (Hb.sumO h f t)).1.length ≤ 9223372036854775807 := by
  by_cases hr : Hb.rightP h
  · by_cases hb : f < 0 ∨ f > t ∨ t > h.bins
    · rw [Hb.sum_1 hr hb]; simp [sumR, Hb.valO]
    · by_cases hk : h.kind = 0
      · rw [Hb.sum_c hr hb hk]
        have hc := Hb.may_le hr.1
        cases hs : Hb.sumC h h.classes.toNat (t.toNat - f.toNat) f.toNat (List.replicate h.classes.toNat 0) with
        | error e => simp [sumR, Hb.upC, Hb.valO]
        | ok cs =>
          have := sumC_len _ _ _ _ _ _ hs
          simp only [sumR, Hb.upC, Hb.valO, this, List.length_replicate]
          omega
      · rw [Hb.sum_m hr hb hk]
        cases hs : Hb.sumM h (t.toNat - f.toNat) f.toNat Hb.m0 <;> simp [sumR, Hb.upM, Hb.valO]
  · rw [Hb.sum_8 hr]; simp [sumR, Hb.valO]
theorem HistSums_pure (a0 a1 a2 : Int) (l3 : List Int) (l4 : List S52) (f t : Int) (h3 : ∀ x ∈ l3, Hb.inR x) (h4 : ∀ x ∈ l4, (toM x).ok) :
    ∃ k, hornbeamlaw12_HistSums.f k a0 a1 a2 l3 l4 f t = some true := by
  refine Ev.rounds ?_
  unfold hornbeamlaw12_HistSums.f hornbeamlaw12_Great.f hornbeamlaw12_fixed.f hist_Sum.f
  rw [if_pos (okHB_of h3 h4)]
  have key : Ev (fun k => (hornbeamref12_Sum.f k a0 a1 a2 l3 l4 f t).bind fun bt180 => (hornbeamref12_SameCounts.f k (sumR (Hb.sumO (hOf a0 a1 a2 l3 l4) f t)).1 bt180.1).bind fun t189 => (if t189 = true then (if ((sumR (Hb.sumO (hOf a0 a1 a2 l3 l4) f t)).2.1 == bt180.2.1 && ((sumR (Hb.sumO (hOf a0 a1 a2 l3 l4) f t)).2.2.1 == bt180.2.2.1 && ((sumR (Hb.sumO (hOf a0 a1 a2 l3 l4) f t)).2.2.2.1 == bt180.2.2.2.1))) = true then (some ((sumR (Hb.sumO (hOf a0 a1 a2 l3 l4) f t)).2.2.2.2 == bt180.2.2.2.2)) else (some false)) else (some false))) true := by
    refine Ev.bind (ref_sum a0 a1 a2 l3 l4 f t h3 h4) ?_
    refine Ev.bind (same_counts _ (sum_len _ _ _)) ?_
    simp only [beq_self_eq_true, Bool.and_self, if_true]
    exact Ev.now _
  by_cases hg : (l3.length : Int) > 1000
  · simp only [if_pos hg, Option.bind_some, if_true]
    exact Ev.now _
  · simp only [if_neg hg, Option.bind_some]
    by_cases hg2 : (l4.length : Int) > 300
    · simp only [decide_eq_true hg2, if_true]
      exact Ev.now _
    · simp only [decide_eq_false hg2, Bool.false_eq_true, if_false, if_true]
      exact key
end Go.Proofs.Yteckbgpkoanhfaa.Pr
end

section
/- How a histogram among the arguments is read, as the printed texts say it. -/
namespace Go.Proofs.Yteckbgpkoanhfaa.Pr
set_option linter.unusedVariables false
open Go.RowKit Go.ChangeShapes Go.WideShapes Go.Deep Go.Proofs.YteckbgpkoanhfaaW.PrintWords Go.Proofs.YteckbgpkoanhfaaW.PrintLast Go.Proofs.YteckbgpkoanhfaaW.PrintMore
section
variable {T : Type} {enc : TypeId × Value → T} {W : World} {base : Nat} {sp : Nat → Bool} {held : Bool}
theorem rd_mom : Hy.Rd enc W base sp held k52 52 (fun x => (toM x).ok) := by
  intro fuel cs x h
  obtain ⟨m, hm, rfl⟩ := Hb.read_mom h
  exact ⟨⟨m.c, m.s, m.q⟩, k52_mk W ⟨m.c, m.s, m.q⟩, hm⟩
/-- A histogram, as it is read. -/
def IsHist (W : World) (v : Value) (a0 a1 a2 : Int) (l3 : List Int) (l4 : List S52) : Prop :=
  ∃ A3 c3 A4 c4, v = .agg #[.int .i64 a0, .int .i64 a1, .int .i64 a2, .slice A3 l3.length c3, .slice A4 l4.length c4] ∧ Kd.C (Kd.int .i64) W A3 l3.length l3 ∧ l3.length ≤ c3 ∧ Kd.C k52 W A4 l4.length l4 ∧ l4.length ≤ c4 ∧
    (∀ x ∈ l3, Hb.inR x) ∧ ∀ x ∈ l4, (toM x).ok
set_option maxRecDepth 100000 in
theorem read_histK {r : Reach} {b0 : Nat} {v : Value} {d : DataW T} {p : List MemPlace} (hv : Value.okWide Try.prog W r b0 36 v) (h : DataW.Trod enc Try.prog W base sp held 36 v d p) : ∃ a0 a1 a2 l3 l4, IsHist W v a0 a1 a2 l3 l4 := by
  obtain ⟨cs, rfl, hsz⟩ := okWide_struct Try.underlying36 hv
  obtain ⟨c0, c1, c2, c3, c4, rfl⟩ := Hb.array5 (hsz.trans Hb.cells_hist)
  obtain ⟨fuel, hfu⟩ := h
  obtain ⟨xs, n, _, _, hl, hlen, hf⟩ := DataW.trod_struct Try.underlying36 hfu
  have k1 : Try.prog.cellsOf 3 = 1 := by kernel_rfl
  have k3 : Try.prog.cellsOf 33 = 1 := by kernel_rfl
  have k4 : Try.prog.cellsOf 34 = 1 := by kernel_rfl
  have hx : xs.length = 5 := hlen
  have g0 : DataW.trod enc Try.prog W base sp held n 3 ((List.drop 0 [c0, c1, c2, c3, c4]).take (Try.prog.cellsOf 3)) = xs[0]? := hf 0 _ rfl
  have g1 : DataW.trod enc Try.prog W base sp held n 3 ((List.drop 1 [c0, c1, c2, c3, c4]).take (Try.prog.cellsOf 3)) = xs[1]? := hf 1 _ rfl
  have g2 : DataW.trod enc Try.prog W base sp held n 3 ((List.drop 2 [c0, c1, c2, c3, c4]).take (Try.prog.cellsOf 3)) = xs[2]? := hf 2 _ rfl
  have g3 : DataW.trod enc Try.prog W base sp held n 33 ((List.drop 3 [c0, c1, c2, c3, c4]).take (Try.prog.cellsOf 33)) = xs[3]? := hf 3 _ rfl
  have g4 : DataW.trod enc Try.prog W base sp held n 34 ((List.drop 4 [c0, c1, c2, c3, c4]).take (Try.prog.cellsOf 34)) = xs[4]? := hf 4 _ rfl
  rw [List.getElem?_eq_getElem (by omega), k1] at g0 g1 g2
  rw [List.getElem?_eq_getElem (by omega), k3] at g3
  rw [List.getElem?_eq_getElem (by omega), k4] at g4
  obtain ⟨z0, hz0, _, _⟩ := DataW.trod_int Try.underlying3 g0
  obtain ⟨z1, hz1, _, _⟩ := DataW.trod_int Try.underlying3 g1
  obtain ⟨z2, hz2, _, _⟩ := DataW.trod_int Try.underlying3 g2
  have e0 : [c0] = [.int .i64 z0] := hz0
  have e1 : [c1] = [.int .i64 z1] := hz1
  have e2 : [c2] = [.int .i64 z2] := hz2
  simp only [List.cons.injEq, and_true] at e0 e1 e2
  obtain ⟨l3, ⟨A3, cap3, e3, hc3, hk3⟩, o3⟩ := Hy.rd_slice enc W base sp held Try.underlying33 (by kernel_rfl) (Hy.rd_int enc W base sp held Try.underlying2) _ _ _ g3
  obtain ⟨l4, ⟨A4, cap4, e4, hc4, hk4⟩, o4⟩ := Hy.rd_slice enc W base sp held Try.underlying34 (by kernel_rfl) rd_mom _ _ _ g4
  have E3 : [c3] = [.slice A3 l3.length cap3] := e3
  have E4 : [c4] = [.slice A4 l4.length cap4] := e4
  simp only [List.cons.injEq, and_true] at E3 E4
  subst e0 e1 e2 E3 E4
  refine ⟨z0, z1, z2, l3, l4, A3, cap3, A4, cap4, rfl, hk3, hc3, hk4, hc4, fun x hx => ?_, fun x hx => ?_⟩
  · obtain ⟨i, hi⟩ := List.getElem?_of_mem hx
    exact Hy.wf_inR (o3 i x hi)
  · obtain ⟨i, hi⟩ := List.getElem?_of_mem hx
    exact o4 i x hi
end
end Go.Proofs.Yteckbgpkoanhfaa.Pr
end

section
/- The walk of the law HistSums. -/
namespace Go.Proofs.Yteckbgpkoanhfaa.Pr
set_option linter.unusedVariables false
open Go.RowKit Go.Proofs.YteckbgpkoanhfaaW.PrintWords
theorem sums_law (W : World) (v : Value) (hv : ∃ a0 a1 a2 l3 l4, IsHist W v a0 a1 a2 l3 l4) (f : Int) (wf : (Lit.int .i64 f).wf = true) (t : Int) (wt : (Lit.int .i64 t).wf = true) :
    Calls Try.prog 8 #[v, .int .i64 f, .int .i64 t] W fun e w' => e = .returned (.bool true) ∧ Below W.heap.size W w' := by
  obtain ⟨a0, a1, a2, l3, l4, A3, c3, A4, c4, rfl, k3, b3, k4, b4, o3, o4⟩ := hv
  obtain ⟨k, hk⟩ := HistSums_pure a0 a1 a2 l3 l4 f t o3 o4
  exact hornbeamlaw12_HistSums.calls k a0 a1 a2 A3 c3 l3 A4 c4 l4 f t true W k3 b3 k4 b4 hk
end Go.Proofs.Yteckbgpkoanhfaa.Pr
end

/- The walk of the law HistParts. -/
import Derived.Test.YteckbgpkoanhfaaHbPureParts
import Derived.Deep.RegionHeld3
import Derived.Deep.DeepCutAuto
namespace Go.Proofs.Yteckbgpkoanhfaa.Hb
set_option linter.unusedVariables false
open Go.RowKit

theorem bne_self' (x : Int) : (x != x) = false := by simp
theorem own_nb' {w : World} {base : Nat} {e t : TypeId} {size n g : Nat} {v : Value} {xs : List Value} {cs : Array Value} (h : w.ownsRow base e size v n xs) (hk : Blk w g cs t) (hte : e ≠ t) : ¬ v.ownBlock = some g := by
  intro hv
  rcases h.2 with ⟨rfl, _⟩ | ⟨q, cap, cur, rfl, _, hh, _⟩
  · simp [Value.ownBlock] at hv
  · have : q = g := by simpa [Value.ownBlock] using hv
    subst this
    have := (show w.heap[q]? = _ from hk).symm.trans hh
    simp at this
    exact hte this.2.symm
/-- Three histograms behind pointers, apart. -/
structure PL (gA gF gR N1 N2 : Nat) (a f r : H) (a1 a2 f1 f2 r1 r2 : Value) (w W : World) : Prop where
  mA : HM w.heap.size gA a a1 a2 W
  mF : HM N1 gF f f1 f2 W
  mR : HM N2 gR r r1 r2 W
  be : Below w.heap.size w W
  a1 : ∀ q, a1.ownBlock = some q → q < N1
  a2 : ∀ q, a2.ownBlock = some q → q < N1
  f1 : ∀ q, f1.ownBlock = some q → q < N2
  f2 : ∀ q, f2.ownBlock = some q → q < N2
  lA : gA < N1
  lF : N1 ≤ gF
  lG : gF < N2
  lR : N2 ≤ gR
  lB : w.heap.size ≤ N1
theorem PL.below {gA gF gR N1 N2 : Nat} {a f r : H} {a1 a2 f1 f2 r1 r2 : Value} {w W W1 : World} (p : PL gA gF gR N1 N2 a f r a1 a2 f1 f2 r1 r2 w W) (hb : Below W.heap.size W W1) : PL gA gF gR N1 N2 a f r a1 a2 f1 f2 r1 r2 w W1 :=
  ⟨p.mA.below hb, p.mF.below hb, p.mR.below hb, p.be.trans (hb.mono p.be.size), p.a1, p.a2, p.f1, p.f2, p.lA, p.lF, p.lG, p.lR, p.lB⟩
theorem own_ne' {w w' : World} {base : Nat} {row : Option Nat} (hg : w.grownBy w' row) {e : TypeId} {size n : Nat} {v : Value} {xs : List Value} (h : w.ownsRow base e size v n xs) (hr : ∀ k, row = some k → ¬ v.ownBlock = some k) : w'.ownsRow base e size v n xs := by
  refine h.kept hg ?_
  rcases h.2 with ⟨rfl, _⟩ | ⟨g, cap, cur, rfl, hb, _⟩
  · exact .inl rfl
  · right
    intro e
    exact hr g (by rw [← e]; rfl) rfl
theorem HM.grown' {base g : Nat} {h : H} {v1 v2 : Value} {w w' : World} {row : Option Nat} (m : HM base g h v1 v2 w) (hg : w.grownBy w' row) (h0 : ∀ k, row = some k → ¬ g = k) (h1 : ∀ k, row = some k → ¬ v1.ownBlock = some k) (h2 : ∀ k, row = some k → ¬ v2.ownBlock = some k) : HM base g h v1 v2 w' :=
  ⟨(hg.block g m.blk.lt (fun e => h0 g e.symm rfl)).trans m.blk, own_ne' hg m.r1 h1, own_ne' hg m.r2 h2⟩
/-- What a call of Add does to one of the three. -/
def AddL (K : World → Prop) (x : Int) (W : World) (e : Ending) (w' : World) : Prop :=
  e = .returned (.int .i64 x) ∧ K w' ∧ (∀ g cs, Blk W g cs 45 → Blk w' g cs 45) ∧ W.heap.size ≤ w'.heap.size
theorem fact_kept {W w' : World} {row : Option Nat} {base : Nat} {h : H} {g : Nat} {v1 v2 : Value} (m : HM base g h v1 v2 W) (hg : W.grownBy w' row) (hrow : row = none ∨ row = v1.ownBlock ∨ row = v2.ownBlock) :
    ∀ g cs, Blk W g cs 45 → Blk w' g cs 45 := by
  intro g cs hk
  refine (hg.block g hk.lt (fun e => ?_)).trans hk
  rcases hrow with h | h | h
  · rw [h] at e; cases e
  · have q := World.ownsRow.lt m.r1 g (by rw [← h]; exact e.symm)
    exact own_nb' m.r1 hk (by decide) (by rw [← h]; exact e.symm)
  · exact own_nb' m.r2 hk (by decide) (by rw [← h]; exact e.symm)
section
variable {gA gF gR N1 N2 : Nat} {a f r : H} {a1 a2 f1 f2 r1 r2 : Value} {w W : World} {b t k : Int}
theorem addA (p : PL gA gF gR N1 N2 a f r a1 a2 f1 f2 r1 r2 w W) (ho : okH a) (hl : a.counts.length ≤ 65792 ∧ a.moms.length ≤ 65792) (ht : inR t) (hk : inR k) :
    Calls Try.prog 21 #[.pointer (some ⟨gA, 0, none⟩), .int .i64 b, .int .i64 t, .int .i64 k] W (AddL (PL gA gF gR N1 N2 (valO a (addO a b t k)) f r a1 a2 f1 f2 r1 r2 w) (errO (addO a b t k)) W) := by
  refine (add_any a w.heap.size gA a1 a2 b t k W p.mA ho ht hk (by omega) (by omega)).mono ?_
  rintro e w3 ⟨row, rfl, hM3, hg3, hrow⟩
  have hq : ∀ q, row = some q → w.heap.size ≤ q ∧ q < N1 := fun q hq => by
    rcases hrow with h | h | h
    · rw [h] at hq; cases hq
    · exact ⟨(World.ownsRow.lt p.mA.r1 q (by rw [← h]; exact hq)).1, p.a1 q (by rw [← h]; exact hq)⟩
    · exact ⟨(World.ownsRow.lt p.mA.r2 q (by rw [← h]; exact hq)).1, p.a2 q (by rw [← h]; exact hq)⟩
  have lF := p.lF
  have lG := p.lG
  have lR := p.lR
  refine ⟨rfl, ⟨hM3, p.mF.grown hg3 (fun q e => (hq q e).2) lF, p.mR.grown hg3 (fun q e => by have := (hq q e).2; omega) lR, p.be.grown hg3 p.be.size (fun q e => (hq q e).1), p.a1, p.a2, p.f1, p.f2, p.lA, lF, lG, lR, p.lB⟩, fact_kept p.mA hg3 hrow, hg3.size⟩
theorem addF (p : PL gA gF gR N1 N2 a f r a1 a2 f1 f2 r1 r2 w W) (ho : okH f) (hl : f.counts.length ≤ 65792 ∧ f.moms.length ≤ 65792) (ht : inR t) (hk : inR k) :
    Calls Try.prog 21 #[.pointer (some ⟨gF, 0, none⟩), .int .i64 b, .int .i64 t, .int .i64 k] W (AddL (PL gA gF gR N1 N2 a (valO f (addO f b t k)) r a1 a2 f1 f2 r1 r2 w) (errO (addO f b t k)) W) := by
  refine (add_any f N1 gF f1 f2 b t k W p.mF ho ht hk (by omega) (by omega)).mono ?_
  rintro e w3 ⟨row, rfl, hM3, hg3, hrow⟩
  have hq : ∀ q, row = some q → N1 ≤ q ∧ q < N2 := fun q hq => by
    rcases hrow with h | h | h
    · rw [h] at hq; cases hq
    · exact ⟨(World.ownsRow.lt p.mF.r1 q (by rw [← h]; exact hq)).1, p.f1 q (by rw [← h]; exact hq)⟩
    · exact ⟨(World.ownsRow.lt p.mF.r2 q (by rw [← h]; exact hq)).1, p.f2 q (by rw [← h]; exact hq)⟩
  have lA := p.lA
  have lR := p.lR
  have lB := p.lB
  refine ⟨rfl, ⟨p.mA.grown' hg3 (fun q e => by have := (hq q e).1; omega) (fun q e e2 => by have := (hq q e).1; have := p.a1 q e2; omega) (fun q e e2 => by have := (hq q e).1; have := p.a2 q e2; omega), hM3, p.mR.grown hg3 (fun q e => (hq q e).2) lR, p.be.grown hg3 p.be.size (fun q e => by have := (hq q e).1; omega), p.a1, p.a2, p.f1, p.f2, lA, p.lF, p.lG, lR, lB⟩, fact_kept p.mF hg3 hrow, hg3.size⟩
theorem addR (p : PL gA gF gR N1 N2 a f r a1 a2 f1 f2 r1 r2 w W) (ho : okH r) (hl : r.counts.length ≤ 65792 ∧ r.moms.length ≤ 65792) (ht : inR t) (hk : inR k) :
    Calls Try.prog 21 #[.pointer (some ⟨gR, 0, none⟩), .int .i64 b, .int .i64 t, .int .i64 k] W (AddL (PL gA gF gR N1 N2 a f (valO r (addO r b t k)) a1 a2 f1 f2 r1 r2 w) (errO (addO r b t k)) W) := by
  refine (add_any r N2 gR r1 r2 b t k W p.mR ho ht hk (by omega) (by omega)).mono ?_
  rintro e w3 ⟨row, rfl, hM3, hg3, hrow⟩
  have hq : ∀ q, row = some q → N2 ≤ q := fun q hq => by
    rcases hrow with h | h | h
    · rw [h] at hq; cases hq
    · exact (World.ownsRow.lt p.mR.r1 q (by rw [← h]; exact hq)).1
    · exact (World.ownsRow.lt p.mR.r2 q (by rw [← h]; exact hq)).1
  have lA := p.lA
  have lF := p.lF
  have lG := p.lG
  have lB := p.lB
  refine ⟨rfl, ⟨p.mA.grown' hg3 (fun q e => by have := hq q e; omega) (fun q e e2 => by have := hq q e; have := p.a1 q e2; omega) (fun q e e2 => by have := hq q e; have := p.a2 q e2; omega), p.mF.grown' hg3 (fun q e => by have := hq q e; omega) (fun q e e2 => by have := hq q e; have := p.f1 q e2; omega) (fun q e e2 => by have := hq q e; have := p.f2 q e2; omega), hM3, p.be.grown hg3 p.be.size (fun q e => by have := hq q e; omega), p.a1, p.a2, p.f1, p.f2, lA, lF, lG, p.lR, lB⟩, fact_kept p.mR hg3 hrow, hg3.size⟩
end
set_option maxRecDepth 100000 in
set_option maxHeartbeats 8000000 in
theorem parts_err (k b c : Int) (A : Option Addr) (l : List Mom) (cap : Nat) (at' : Int) (w : World) (r : RdM w A l) (hl : l.length ≤ 100) (hat : 0 ≤ at' ∧ at' ≤ 255) (hm : ¬ mayP k b c) :
    Calls Try.prog 10 #[.agg #[.int .i64 k, .int .i64 b, .int .i64 c], .slice A l.length cap, .int .u8 at'] w fun e w' => e = .returned (.bool true) ∧ Below w.heap.size w w' := by
  have hn := fun w => new_any k b c w
  have ho := new_okH k b c
  have hls := new_lens k b c
  unfold ResH at hn
  obtain ⟨hh, hhh⟩ : ∃ x, valO h0 (newO k b c) = x := ⟨_, rfl⟩
  obtain ⟨e0, he0⟩ : ∃ x, errO (newO k b c) = x := ⟨_, rfl⟩
  rw [hhh] at hn ho hls
  rw [he0] at hn
  obtain rfl : e0 = 1 := by rw [← he0, new_not hm]; rfl
  have KN := Lib.hid hn
  have HO := Lib.hid ho
  have HLS := Lib.hid hls
  have R := Lib.hid r
  obtain ⟨n, hnn⟩ : ∃ n, l.length = n := ⟨_, rfl⟩
  have HN := Lib.hid hnn
  rw [hnn] at hl ⊢
  have d1 : decide (100 < (n : Int)) = false := decide_eq_false (by omega)
  clear hn r hnn ho hls hhh hm he0 hat hl
  go_enter Try.func10, Try.ntmps10
  go_wp2_with fail
  refine (KN.out _).mono ?_
  rintro e w1 ⟨v, rfl, ⟨v1, v2, rfl, r1, r2⟩, hb1⟩
  obtain ⟨B1, d1', rfl⟩ := own_slice r1
  obtain ⟨B2, d2', rfl⟩ := own_slice r2
  have kS := (Blk.new w #[.int .i64 k, .int .i64 b, .int .i64 c] 31).below hb1
  have bS : Below w.heap.size w w1 := ((Below.refl _ w).alloc (Nat.le_refl _) _).trans (hb1.mono (by simp))
  obtain ⟨s0, s1, s2⟩ := cells3 kS
  have sl := kS.lt
  have sn : w.heap.size ≠ w1.heap.size := by omega
  go_wp2_with fail
  obtain ⟨W2, e2⟩ : ∃ W2, W2 = w1.alloc (.cells #[.int .i64 hh.kind, .int .i64 hh.bins, .int .i64 hh.classes, .slice B1 hh.counts.length d1', .slice B2 hh.moms.length d2'] 36) := ⟨_, rfl⟩
  rw [← e2]
  have mA : HM w.heap.size w1.heap.size hh (.slice B1 hh.counts.length d1') (.slice B2 hh.moms.length d2') W2 := by
    rw [e2]
    exact ⟨Blk.new _ _ _, (World.ownsRow.mono r1 (by simp)).alloc _, (World.ownsRow.mono r2 (by simp)).alloc _⟩
  have q1 : ∀ q, (Value.slice B1 hh.counts.length d1').ownBlock = some q → q < W2.heap.size := fun q hq => by rw [e2]; have := (World.ownsRow.lt r1 q hq).2; simp; omega
  have q2 : ∀ q, (Value.slice B2 hh.moms.length d2').ownBlock = some q → q < W2.heap.size := fun q hq => by rw [e2]; have := (World.ownsRow.lt r2 q hq).2; simp; omega
  have bx : Below w1.heap.size w1 W2 := by rw [e2]; exact (Below.refl _ _).alloc (Nat.le_refl _) _
  replace kS := kS.below bx
  replace bS := bS.trans (bx.mono bS.size)
  obtain ⟨gA, hgA⟩ : ∃ g, w1.heap.size = g := ⟨_, rfl⟩
  rw [hgA] at mA ⊢
  have lA : gA < W2.heap.size := mA.blk.lt
  have sB : w.heap.size ≤ W2.heap.size := bS.size
  obtain ⟨s0, s1, s2⟩ := cells3 kS
  clear e2 r1 r2 hb1 sl sn bx hgA
  refine (KN.out _).mono ?_
  rintro e w3 ⟨v, rfl, ⟨v1, v2, rfl, r3, r4⟩, hb3⟩
  obtain ⟨C1, f1', rfl⟩ := own_slice r3
  obtain ⟨C2, f2', rfl⟩ := own_slice r4
  replace mA := mA.below hb3
  replace kS := kS.below hb3
  replace bS := bS.trans (hb3.mono bS.size)
  have z3 := hb3.size
  clear s0 s1 s2
  obtain ⟨s0, s1, s2⟩ := cells3 kS
  have sl := kS.lt
  have sn : w.heap.size ≠ w3.heap.size := by omega
  go_wp2_with fail
  obtain ⟨W4, e4⟩ : ∃ W4, W4 = w3.alloc (.cells #[.int .i64 hh.kind, .int .i64 hh.bins, .int .i64 hh.classes, .slice C1 hh.counts.length f1', .slice C2 hh.moms.length f2'] 36) := ⟨_, rfl⟩
  rw [← e4]
  have mF : HM W2.heap.size w3.heap.size hh (.slice C1 hh.counts.length f1') (.slice C2 hh.moms.length f2') W4 := by
    rw [e4]
    exact ⟨Blk.new _ _ _, r3.alloc _, r4.alloc _⟩
  have q3 : ∀ q, (Value.slice C1 hh.counts.length f1').ownBlock = some q → q < W4.heap.size := fun q hq => by rw [e4]; have := (World.ownsRow.lt r3 q hq).2; simp; omega
  have q4 : ∀ q, (Value.slice C2 hh.moms.length f2').ownBlock = some q → q < W4.heap.size := fun q hq => by rw [e4]; have := (World.ownsRow.lt r4 q hq).2; simp; omega
  have bx : Below w3.heap.size w3 W4 := by rw [e4]; exact (Below.refl _ _).alloc (Nat.le_refl _) _
  replace kS := kS.below bx
  replace bS := bS.trans (bx.mono bS.size)
  replace mA := mA.below bx
  have lF := mF.blk.lt
  obtain ⟨gF, hgF⟩ : ∃ g, w3.heap.size = g := ⟨_, rfl⟩
  obtain ⟨N1, hN1⟩ : ∃ g, W2.heap.size = g := ⟨_, rfl⟩
  rw [hgF] at mF lF z3 ⊢
  rw [hN1] at mF q1 q2 z3 sB lA
  clear s0 s1 s2
  obtain ⟨s0, s1, s2⟩ := cells3 kS
  clear e4 r3 r4 hb3 sl sn bx hgF hN1
  refine (KN.out _).mono ?_
  rintro e w5 ⟨v, rfl, ⟨v1, v2, rfl, r5, r6⟩, hb5⟩
  obtain ⟨D1, h1', rfl⟩ := own_slice r5
  obtain ⟨D2, h2', rfl⟩ := own_slice r6
  replace mA := mA.below hb5
  replace mF := mF.below hb5
  replace bS := bS.trans (hb5.mono bS.size)
  have z5 := hb5.size
  clear s0 s1 s2
  go_wp2_with fail
  obtain ⟨W6, e6⟩ : ∃ W6, W6 = w5.alloc (.cells #[.int .i64 hh.kind, .int .i64 hh.bins, .int .i64 hh.classes, .slice D1 hh.counts.length h1', .slice D2 hh.moms.length h2'] 36) := ⟨_, rfl⟩
  rw [← e6]
  have b6 : Below w.heap.size w W6 := by rw [e6]; exact bS.alloc bS.size _
  refine (fixed12_any _).mono ?_
  rintro e w7 ⟨rfl, hb7⟩
  go_wp2
  go_ret
  exact ⟨rfl, b6.trans (hb7.mono b6.size)⟩
set_option maxRecDepth 100000 in
set_option maxHeartbeats 8000000 in
theorem parts_ok (k b c : Int) (A : Option Addr) (l : List Mom) (cap : Nat) (at' : Int) (w : World) (r : RdM w A l) (hl : l.length ≤ 100) (hat : 0 ≤ at' ∧ at' ≤ 255) (hm : mayP k b c) :
    Calls Try.prog 10 #[.agg #[.int .i64 k, .int .i64 b, .int .i64 c], .slice A l.length cap, .int .u8 at'] w fun e w' => e = .returned (.bool true) ∧ Below w.heap.size w w' := by
  have hn := fun w => new_any k b c w
  have ho := new_okH k b c
  have hls := new_lens k b c
  have hpp : ∃ h, newO k b c = .ok h := by
    by_cases hk : k = 0
    · exact ⟨_, new_0 hm hk⟩
    · exact ⟨_, new_1 hm hk⟩
  obtain ⟨hn0, hnew⟩ := hpp
  unfold ResH at hn
  obtain ⟨hh, hhh⟩ : ∃ x, valO h0 (newO k b c) = x := ⟨_, rfl⟩
  obtain ⟨e0, he0⟩ : ∃ x, errO (newO k b c) = x := ⟨_, rfl⟩
  rw [hhh] at hn ho hls
  rw [he0] at hn
  obtain rfl : e0 = 0 := by rw [← he0, hnew]; rfl
  have HPP : Hid (PP hh hh hh 0) := Lib.hid (by rw [← hhh, hnew]; exact PP.new hnew)
  have KN := Lib.hid hn
  have HO := Lib.hid ho
  have HLS := Lib.hid hls
  have R := Lib.hid r
  obtain ⟨n, hnn⟩ : ∃ n, l.length = n := ⟨_, rfl⟩
  have HN := Lib.hid hnn
  rw [hnn] at hl ⊢
  have d1 : decide (100 < (n : Int)) = false := decide_eq_false (by omega)
  clear hn r hnn ho hls hhh hm he0 hnew
  go_enter Try.func10, Try.ntmps10
  go_wp2_with fail
  refine (KN.out _).mono ?_
  rintro e w1 ⟨v, rfl, ⟨v1, v2, rfl, r1, r2⟩, hb1⟩
  obtain ⟨B1, d1', rfl⟩ := own_slice r1
  obtain ⟨B2, d2', rfl⟩ := own_slice r2
  have kS := (Blk.new w #[.int .i64 k, .int .i64 b, .int .i64 c] 31).below hb1
  have bS : Below w.heap.size w w1 := ((Below.refl _ w).alloc (Nat.le_refl _) _).trans (hb1.mono (by simp))
  obtain ⟨s0, s1, s2⟩ := cells3 kS
  have sl := kS.lt
  have sn : w.heap.size ≠ w1.heap.size := by omega
  go_wp2_with fail
  obtain ⟨W2, e2⟩ : ∃ W2, W2 = w1.alloc (.cells #[.int .i64 hh.kind, .int .i64 hh.bins, .int .i64 hh.classes, .slice B1 hh.counts.length d1', .slice B2 hh.moms.length d2'] 36) := ⟨_, rfl⟩
  rw [← e2]
  have mA : HM w.heap.size w1.heap.size hh (.slice B1 hh.counts.length d1') (.slice B2 hh.moms.length d2') W2 := by
    rw [e2]
    exact ⟨Blk.new _ _ _, (World.ownsRow.mono r1 (by simp)).alloc _, (World.ownsRow.mono r2 (by simp)).alloc _⟩
  have q1 : ∀ q, (Value.slice B1 hh.counts.length d1').ownBlock = some q → q < W2.heap.size := fun q hq => by rw [e2]; have := (World.ownsRow.lt r1 q hq).2; simp; omega
  have q2 : ∀ q, (Value.slice B2 hh.moms.length d2').ownBlock = some q → q < W2.heap.size := fun q hq => by rw [e2]; have := (World.ownsRow.lt r2 q hq).2; simp; omega
  have bx : Below w1.heap.size w1 W2 := by rw [e2]; exact (Below.refl _ _).alloc (Nat.le_refl _) _
  replace kS := kS.below bx
  replace bS := bS.trans (bx.mono bS.size)
  obtain ⟨gA, hgA⟩ : ∃ g, w1.heap.size = g := ⟨_, rfl⟩
  rw [hgA] at mA ⊢
  have lA : gA < W2.heap.size := mA.blk.lt
  have sB : w.heap.size ≤ W2.heap.size := bS.size
  obtain ⟨s0, s1, s2⟩ := cells3 kS
  clear e2 r1 r2 hb1 sl sn bx hgA
  refine (KN.out _).mono ?_
  rintro e w3 ⟨v, rfl, ⟨v1, v2, rfl, r3, r4⟩, hb3⟩
  obtain ⟨C1, f1', rfl⟩ := own_slice r3
  obtain ⟨C2, f2', rfl⟩ := own_slice r4
  replace mA := mA.below hb3
  replace kS := kS.below hb3
  replace bS := bS.trans (hb3.mono bS.size)
  have z3 := hb3.size
  clear s0 s1 s2
  obtain ⟨s0, s1, s2⟩ := cells3 kS
  have sl := kS.lt
  have sn : w.heap.size ≠ w3.heap.size := by omega
  go_wp2_with fail
  obtain ⟨W4, e4⟩ : ∃ W4, W4 = w3.alloc (.cells #[.int .i64 hh.kind, .int .i64 hh.bins, .int .i64 hh.classes, .slice C1 hh.counts.length f1', .slice C2 hh.moms.length f2'] 36) := ⟨_, rfl⟩
  rw [← e4]
  have mF : HM W2.heap.size w3.heap.size hh (.slice C1 hh.counts.length f1') (.slice C2 hh.moms.length f2') W4 := by
    rw [e4]
    exact ⟨Blk.new _ _ _, r3.alloc _, r4.alloc _⟩
  have q3 : ∀ q, (Value.slice C1 hh.counts.length f1').ownBlock = some q → q < W4.heap.size := fun q hq => by rw [e4]; have := (World.ownsRow.lt r3 q hq).2; simp; omega
  have q4 : ∀ q, (Value.slice C2 hh.moms.length f2').ownBlock = some q → q < W4.heap.size := fun q hq => by rw [e4]; have := (World.ownsRow.lt r4 q hq).2; simp; omega
  have bx : Below w3.heap.size w3 W4 := by rw [e4]; exact (Below.refl _ _).alloc (Nat.le_refl _) _
  replace kS := kS.below bx
  replace bS := bS.trans (bx.mono bS.size)
  replace mA := mA.below bx
  have lF := mF.blk.lt
  obtain ⟨gF, hgF⟩ : ∃ g, w3.heap.size = g := ⟨_, rfl⟩
  obtain ⟨N1, hN1⟩ : ∃ g, W2.heap.size = g := ⟨_, rfl⟩
  rw [hgF] at mF lF z3 ⊢
  rw [hN1] at mF q1 q2 z3 sB lA
  clear s0 s1 s2
  obtain ⟨s0, s1, s2⟩ := cells3 kS
  clear e4 r3 r4 hb3 sl sn bx hgF hN1
  refine (KN.out _).mono ?_
  rintro e w5 ⟨v, rfl, ⟨v1, v2, rfl, r5, r6⟩, hb5⟩
  obtain ⟨D1, h1', rfl⟩ := own_slice r5
  obtain ⟨D2, h2', rfl⟩ := own_slice r6
  replace mA := mA.below hb5
  replace mF := mF.below hb5
  replace bS := bS.trans (hb5.mono bS.size)
  have z5 := hb5.size
  clear s0 s1 s2
  go_wp2_with fail
  obtain ⟨W6, e6⟩ : ∃ W6, W6 = w5.alloc (.cells #[.int .i64 hh.kind, .int .i64 hh.bins, .int .i64 hh.classes, .slice D1 hh.counts.length h1', .slice D2 hh.moms.length h2'] 36) := ⟨_, rfl⟩
  rw [← e6]
  have bx : Below w5.heap.size w5 W6 := by rw [e6]; exact (Below.refl _ _).alloc (Nat.le_refl _) _
  have PL0 : PL gA gF w5.heap.size N1 W4.heap.size hh hh hh (.slice B1 hh.counts.length d1') (.slice B2 hh.moms.length d2') (.slice C1 hh.counts.length f1') (.slice C2 hh.moms.length f2') (.slice D1 hh.counts.length h1') (.slice D2 hh.moms.length h2') w W6 := by
    refine ⟨mA.below bx, mF.below bx, ?_, bS.trans (bx.mono bS.size), q1, q2, q3, q4, lA, z3, lF, z5, sB⟩
    rw [e6]
    exact ⟨Blk.new _ _ _, r5.alloc _, r6.alloc _⟩
  obtain ⟨gR, hgR⟩ : ∃ g, w5.heap.size = g := ⟨_, rfl⟩
  obtain ⟨N2, hN2⟩ : ∃ g, W4.heap.size = g := ⟨_, rfl⟩
  rw [hgR, hN2] at PL0
  rw [hgR]
  clear e6 r5 r6 hb5 mA mF bS z5 kS bx hgR hN2 q1 q2 q3 q4 lA z3 lF sB
  obtain ⟨a1, ha1⟩ : ∃ a, Value.slice B1 hh.counts.length d1' = a := ⟨_, rfl⟩
  obtain ⟨a2, ha2⟩ : ∃ a, Value.slice B2 hh.moms.length d2' = a := ⟨_, rfl⟩
  obtain ⟨x1, hx1⟩ : ∃ a, Value.slice C1 hh.counts.length f1' = a := ⟨_, rfl⟩
  obtain ⟨x2, hx2⟩ : ∃ a, Value.slice C2 hh.moms.length f2' = a := ⟨_, rfl⟩
  obtain ⟨y1, hy1⟩ : ∃ a, Value.slice D1 hh.counts.length h1' = a := ⟨_, rfl⟩
  obtain ⟨y2, hy2⟩ : ∃ a, Value.slice D2 hh.moms.length h2' = a := ⟨_, rfl⟩
  rw [ha1, ha2, hx1, hx2, hy1, hy2] at PL0
  have HPL := Lib.hid PL0
  clear PL0 ha1 ha2 hx1 hx2 hy1 hy2
  go_loopw [65] (fun iv wr => ∃ (j m : Nat) (a f r : H), j ≤ n ∧ m ≤ j ∧ iv = .int .i64 j ∧ Hid (okH a ∧ okH f ∧ okH r) ∧ Hid (PP a f r m) ∧ Hid (PL gA gF gR N1 N2 a f r a1 a2 x1 x2 y1 y2 w wr) ∧ Hid (a.counts.length = hh.counts.length ∧ a.moms.length = hh.moms.length ∧ f.counts.length = hh.counts.length ∧ f.moms.length = hh.moms.length ∧ r.counts.length = hh.counts.length ∧ r.moms.length = hh.moms.length ∧ hh.counts.length ≤ 65792 ∧ hh.moms.length ≤ 65792)) (fun iv _ => n - (intOf iv).toNat)
  case atStart => exact ⟨0, 0, hh, hh, hh, by omega, by omega, rfl, Lib.hid ⟨HO.out, HO.out, HO.out⟩, HPP, HPL, Lib.hid (by have := HLS.out; omega)⟩
  case round =>
    obtain ⟨j, m, a, f, r, hj, hmj, rfl, HOK, HP, HL, HLN⟩ := hrel
    clear HPL HPP
    have hz := HL.out.be
    by_cases hlt : j < n
    · obtain ⟨ad, rfl, hq⟩ := (R.out.below hz).at (k := j) (by rw [HN.out]; exact hlt)
      obtain ⟨z1, z2, z3⟩ := hq j (by rw [HN.out]; exact hlt)
      obtain ⟨i1, i2, i3⟩ := R.out.okAt (k := j) (by rw [HN.out]; exact hlt)
      obtain ⟨u, hu⟩ : ∃ u, mAt l j = u := ⟨_, rfl⟩
      rw [hu] at z1 z2 z3 i1 i2 i3
      have I1 := Lib.hid i1
      have I2 := Lib.hid i2
      have I3 := Lib.hid i3
      have hlt' : (j : Int) < n := by omega
      clear hq hu i1 i2 i3 hz
      by_cases hskip : 1048576 < u.s ∨ u.s < -1048576 ∨ 32768 < u.q
      · have hsk : (1048576 < u.s) ∨ (¬ 1048576 < u.s ∧ u.s < -1048576) ∨ (¬ 1048576 < u.s ∧ ¬ u.s < -1048576 ∧ 32768 < u.q) := by omega
        clear hskip
        rcases hsk with s1 | ⟨s1, s2⟩ | ⟨s1, s2, s3⟩
        · have t1 : decide (1048576 < u.s) = true := decide_eq_true s1
          clear s1
          go_wp2
          go_roundw
          case rel => exact ⟨j + 1, m, a, f, r, hlt, by omega, by go_num, HOK, HP, Lib.hid (HL.out.below ((Below.refl _ _).alloc (Nat.le_refl _) _)), HLN⟩
          case measure => simp [intOf]; omega
        · have t1 : decide (1048576 < u.s) = false := decide_eq_false s1
          have t2 : decide (u.s < -1048576) = true := decide_eq_true s2
          clear s1 s2
          go_wp2
          go_roundw
          case rel => exact ⟨j + 1, m, a, f, r, hlt, by omega, by go_num, HOK, HP, Lib.hid (HL.out.below ((Below.refl _ _).alloc (Nat.le_refl _) _)), HLN⟩
          case measure => simp [intOf]; omega
        · have t1 : decide (1048576 < u.s) = false := decide_eq_false s1
          have t2 : decide (u.s < -1048576) = false := decide_eq_false s2
          have t3 : decide (32768 < u.q) = true := decide_eq_true s3
          clear s1 s2 s3
          go_wp2
          go_roundw
          case rel => exact ⟨j + 1, m, a, f, r, hlt, by omega, by go_num, HOK, HP, Lib.hid (HL.out.below ((Below.refl _ _).alloc (Nat.le_refl _) _)), HLN⟩
          case measure => simp [intOf]; omega
      · obtain ⟨s1, s2, s3⟩ : ¬ 1048576 < u.s ∧ ¬ u.s < -1048576 ∧ ¬ 32768 < u.q := by omega
        have t1 : decide (1048576 < u.s) = false := decide_eq_false s1
        have t2 : decide (u.s < -1048576) = false := decide_eq_false s2
        have t3 : decide (32768 < u.q) = false := decide_eq_false s3
        have HT := Lib.hid (show u.s.natAbs ≤ 1048576 ∧ u.q ≤ 32768 by omega)
        clear hskip s1 s2 s3
        by_cases hpart : at' ≤ (j : Int)
        · have tp : decide (at' ≤ (j : Int)) = true := decide_eq_true hpart
          have hlX := HLN.out
          have ADD := HP.out.swap.add (by omega) u.c u.s u.q HT.out.1 HT.out.2
          obtain ⟨xA, hxA⟩ : ∃ x, errO (addO a u.c u.s u.q) = x := ⟨_, rfl⟩
          obtain ⟨a', ha'⟩ : ∃ x, valO a (addO a u.c u.s u.q) = x := ⟨_, rfl⟩
          obtain ⟨xP, hxP⟩ : ∃ x, errO (addO r u.c u.s u.q) = x := ⟨_, rfl⟩
          obtain ⟨q', hq'⟩ : ∃ x, valO r (addO r u.c u.s u.q) = x := ⟨_, rfl⟩
          have hres : (xA = xP ∧ xA ≠ 6 ∧ a' = a ∧ q' = r) ∨ (xA = 0 ∧ xP = 0 ∧ PP a' f q' (m + 1)) := by
            rcases ADD with ⟨e, h6, h1, h2⟩ | ⟨a2', f2', h1, h2, hp⟩
            · left
              rw [h1] at hxA ha'
              rw [h2] at hxP hq'
              exact ⟨hxA.symm.trans hxP, by rw [← hxA]; exact h6, ha'.symm, hq'.symm⟩
            · right
              rw [h1] at hxA ha'
              rw [h2] at hxP hq'
              refine ⟨hxA.symm, hxP.symm, ?_⟩
              rw [← ha', ← hq']
              exact hp.swap
          have hlA := add_lens a u.c u.s u.q
          have hlQ := add_lens r u.c u.s u.q
          have hkA := add_ok u.c u.s u.q HOK.out.1
          have hkQ := add_ok (h := r) u.c u.s u.q HOK.out.2.2
          rw [ha'] at hlA hkA
          rw [hq'] at hlQ hkQ
          have HXA := Lib.hid hxA
          have HXP := Lib.hid hxP
          have HA' := Lib.hid ha'
          have HQ' := Lib.hid hq'
          have HRES := Lib.hid hres
          have HOK2 := Lib.hid (show okH a' ∧ okH f ∧ okH q' from ⟨hkA, ⟨HOK.out.2.1, hkQ⟩⟩)
          have HLN2 := Lib.hid (show a'.counts.length = hh.counts.length ∧ a'.moms.length = hh.moms.length ∧ f.counts.length = hh.counts.length ∧ f.moms.length = hh.moms.length ∧ q'.counts.length = hh.counts.length ∧ q'.moms.length = hh.moms.length ∧ hh.counts.length ≤ 65792 ∧ hh.moms.length ≤ 65792 from by omega)
          clear hpart ADD hxA ha' hxP hq' hres hlA hlQ hkA hkQ hlX
          go_upto_region 15 with (fail)
          obtain ⟨W7, e7⟩ : ∃ W, W = wr.alloc (.cells #[.int .i64 u.c, .int .i64 u.s, .int .i64 u.q] 45) := ⟨_, rfl⟩
          rw [← e7]
          have p7 := HL.out.below (W1 := W7) (by rw [e7]; exact (Below.refl _ _).alloc (Nat.le_refl _) _)
          have k7 : Blk W7 wr.heap.size #[.int .i64 u.c, .int .i64 u.s, .int .i64 u.q] 45 := by rw [e7]; exact Blk.new _ _ _
          obtain ⟨gX, hgX⟩ : ∃ g, wr.heap.size = g := ⟨_, rfl⟩
          rw [hgX] at k7 ⊢
          clear e7 z1 z2 z3 hgX
          have P0 := Lib.hid (p7.below ((Below.refl _ W7).drew))
          have K0 := Lib.hid (k7.below ((Below.refl _ W7).drew))
          obtain ⟨v0, v1, v2⟩ := cells3 k7
          clear p7 k7
          go_cut [16, 17] (fun ea ep wc => ea = .int .i64 xA ∧ ep = .int .i64 xP ∧ Hid (PL gA gF gR N1 N2 a' f q' a1 a2 x1 x2 y1 y2 w wc))
          case first =>
            go_region_held3 (fun W => W.cell? ⟨gX, 0, none⟩ = some (.int .i64 u.c) ∧ W.cell? ⟨gX, 1, none⟩ = some (.int .i64 u.s) ∧ W.cell? ⟨gX, 2, none⟩ = some (.int .i64 u.q)) (go_keep)
              (first
              | (go_at_call_of 21 (gA); first
                | (refine (addA PQ1.out HOK.out.1 (by have := HLN.out; omega) I2.out I3.out).mono ?_; rintro e w9 ⟨rfl, PB, kq9, zz9⟩; have PB2 := Lib.hid PB; obtain ⟨f0, f1, f2⟩ := cells3 (kq9 _ _ K1.out); clear PB kq9)
                | (refine (addA P0.out HOK.out.1 (by have := HLN.out; omega) I2.out I3.out).mono ?_; rintro e w8 ⟨rfl, PA, kq8, zz8⟩; have PA1 := Lib.hid PA; have K1 := Lib.hid (kq8 _ _ K0.out); obtain ⟨f0, f1, f2⟩ := cells3 K1.out; clear PA kq8))
              | (go_at_call_of 21 (gR); first
                | (refine (addR PA1.out HOK.out.2.2 (by have := HLN.out; omega) I2.out I3.out).mono ?_; rintro e w9 ⟨rfl, PB, kq9, zz9⟩; have PB2 := Lib.hid PB; obtain ⟨f0, f1, f2⟩ := cells3 (kq9 _ _ K1.out); clear PB kq9)
                | (refine (addR P0.out HOK.out.2.2 (by have := HLN.out; omega) I2.out I3.out).mono ?_; rintro e w8 ⟨rfl, PA, kq8, zz8⟩; have PQ1 := Lib.hid PA; have K1 := Lib.hid (kq8 _ _ K0.out); obtain ⟨f0, f1, f2⟩ := cells3 K1.out; clear PA kq8)))
            all_goals
              go_wp2
              go_meet
              case rel => exact ⟨by rw [HXA.out], by rw [HXP.out], Lib.hid (by rw [← HA'.out, ← HQ'.out]; exact PB2.out)⟩
          case rest =>
            obtain ⟨rfl, rfl, HPL2⟩ := hcut
            clear v0 v1 v2 P0 K0
            rcases HRES.out with ⟨hxx, h6, hA, hQ⟩ | ⟨hxx, hyy, hpp⟩
            · subst hxx
              have b1 := bne_self' xA
              have b2 : (xA == 6) = false := beq_eq_false_iff_ne.2 h6
              have HPP2 := Lib.hid (show PP a' f q' m by rw [hA, hQ]; exact HP.out)
              clear h6 hA hQ HRES
              go_wp2
              go_roundw
              case rel => exact ⟨j + 1, m, a', f, q', hlt, by omega, by go_num, HOK2, HPP2, HPL2, HLN2⟩
              case measure => simp [intOf]; omega
            · subst hxx hyy
              have HPP2 := Lib.hid hpp
              clear hpp HRES
              go_wp2
              go_roundw
              case rel => exact ⟨j + 1, m + 1, a', f, q', hlt, by omega, by go_num, HOK2, HPP2, HPL2, HLN2⟩
              case measure => simp [intOf]; omega
        · have tp : decide (at' ≤ (j : Int)) = false := decide_eq_false hpart
          have hlX := HLN.out
          have ADD := HP.out.add (by omega) u.c u.s u.q HT.out.1 HT.out.2
          obtain ⟨xA, hxA⟩ : ∃ x, errO (addO a u.c u.s u.q) = x := ⟨_, rfl⟩
          obtain ⟨a', ha'⟩ : ∃ x, valO a (addO a u.c u.s u.q) = x := ⟨_, rfl⟩
          obtain ⟨xP, hxP⟩ : ∃ x, errO (addO f u.c u.s u.q) = x := ⟨_, rfl⟩
          obtain ⟨q', hq'⟩ : ∃ x, valO f (addO f u.c u.s u.q) = x := ⟨_, rfl⟩
          have hres : (xA = xP ∧ xA ≠ 6 ∧ a' = a ∧ q' = f) ∨ (xA = 0 ∧ xP = 0 ∧ PP a' q' r (m + 1)) := by
            rcases ADD with ⟨e, h6, h1, h2⟩ | ⟨a2', f2', h1, h2, hp⟩
            · left
              rw [h1] at hxA ha'
              rw [h2] at hxP hq'
              exact ⟨hxA.symm.trans hxP, by rw [← hxA]; exact h6, ha'.symm, hq'.symm⟩
            · right
              rw [h1] at hxA ha'
              rw [h2] at hxP hq'
              refine ⟨hxA.symm, hxP.symm, ?_⟩
              rw [← ha', ← hq']
              exact hp
          have hlA := add_lens a u.c u.s u.q
          have hlQ := add_lens f u.c u.s u.q
          have hkA := add_ok u.c u.s u.q HOK.out.1
          have hkQ := add_ok (h := f) u.c u.s u.q HOK.out.2.1
          rw [ha'] at hlA hkA
          rw [hq'] at hlQ hkQ
          have HXA := Lib.hid hxA
          have HXP := Lib.hid hxP
          have HA' := Lib.hid ha'
          have HQ' := Lib.hid hq'
          have HRES := Lib.hid hres
          have HOK2 := Lib.hid (show okH a' ∧ okH q' ∧ okH r from ⟨hkA, ⟨hkQ, HOK.out.2.2⟩⟩)
          have HLN2 := Lib.hid (show a'.counts.length = hh.counts.length ∧ a'.moms.length = hh.moms.length ∧ q'.counts.length = hh.counts.length ∧ q'.moms.length = hh.moms.length ∧ r.counts.length = hh.counts.length ∧ r.moms.length = hh.moms.length ∧ hh.counts.length ≤ 65792 ∧ hh.moms.length ≤ 65792 from by omega)
          clear hpart ADD hxA ha' hxP hq' hres hlA hlQ hkA hkQ hlX
          go_upto_region 15 with (fail)
          obtain ⟨W7, e7⟩ : ∃ W, W = wr.alloc (.cells #[.int .i64 u.c, .int .i64 u.s, .int .i64 u.q] 45) := ⟨_, rfl⟩
          rw [← e7]
          have p7 := HL.out.below (W1 := W7) (by rw [e7]; exact (Below.refl _ _).alloc (Nat.le_refl _) _)
          have k7 : Blk W7 wr.heap.size #[.int .i64 u.c, .int .i64 u.s, .int .i64 u.q] 45 := by rw [e7]; exact Blk.new _ _ _
          obtain ⟨gX, hgX⟩ : ∃ g, wr.heap.size = g := ⟨_, rfl⟩
          rw [hgX] at k7 ⊢
          clear e7 z1 z2 z3 hgX
          have P0 := Lib.hid (p7.below ((Below.refl _ W7).drew))
          have K0 := Lib.hid (k7.below ((Below.refl _ W7).drew))
          obtain ⟨v0, v1, v2⟩ := cells3 k7
          clear p7 k7
          go_cut [16, 17] (fun ea ep wc => ea = .int .i64 xA ∧ ep = .int .i64 xP ∧ Hid (PL gA gF gR N1 N2 a' q' r a1 a2 x1 x2 y1 y2 w wc))
          case first =>
            go_region_held3 (fun W => W.cell? ⟨gX, 0, none⟩ = some (.int .i64 u.c) ∧ W.cell? ⟨gX, 1, none⟩ = some (.int .i64 u.s) ∧ W.cell? ⟨gX, 2, none⟩ = some (.int .i64 u.q)) (go_keep)
              (first
              | (go_at_call_of 21 (gA); first
                | (refine (addA PQ1.out HOK.out.1 (by have := HLN.out; omega) I2.out I3.out).mono ?_; rintro e w9 ⟨rfl, PB, kq9, zz9⟩; have PB2 := Lib.hid PB; obtain ⟨f0, f1, f2⟩ := cells3 (kq9 _ _ K1.out); clear PB kq9)
                | (refine (addA P0.out HOK.out.1 (by have := HLN.out; omega) I2.out I3.out).mono ?_; rintro e w8 ⟨rfl, PA, kq8, zz8⟩; have PA1 := Lib.hid PA; have K1 := Lib.hid (kq8 _ _ K0.out); obtain ⟨f0, f1, f2⟩ := cells3 K1.out; clear PA kq8))
              | (go_at_call_of 21 (gF); first
                | (refine (addF PA1.out HOK.out.2.1 (by have := HLN.out; omega) I2.out I3.out).mono ?_; rintro e w9 ⟨rfl, PB, kq9, zz9⟩; have PB2 := Lib.hid PB; obtain ⟨f0, f1, f2⟩ := cells3 (kq9 _ _ K1.out); clear PB kq9)
                | (refine (addF P0.out HOK.out.2.1 (by have := HLN.out; omega) I2.out I3.out).mono ?_; rintro e w8 ⟨rfl, PA, kq8, zz8⟩; have PQ1 := Lib.hid PA; have K1 := Lib.hid (kq8 _ _ K0.out); obtain ⟨f0, f1, f2⟩ := cells3 K1.out; clear PA kq8)))
            all_goals
              go_wp2
              go_meet
              case rel => exact ⟨by rw [HXA.out], by rw [HXP.out], Lib.hid (by rw [← HA'.out, ← HQ'.out]; exact PB2.out)⟩
          case rest =>
            obtain ⟨rfl, rfl, HPL2⟩ := hcut
            clear v0 v1 v2 P0 K0
            rcases HRES.out with ⟨hxx, h6, hA, hQ⟩ | ⟨hxx, hyy, hpp⟩
            · subst hxx
              have b1 := bne_self' xA
              have b2 : (xA == 6) = false := beq_eq_false_iff_ne.2 h6
              have HPP2 := Lib.hid (show PP a' q' r m by rw [hA, hQ]; exact HP.out)
              clear h6 hA hQ HRES
              go_wp2
              go_roundw
              case rel => exact ⟨j + 1, m, a', q', r, hlt, by omega, by go_num, HOK2, HPP2, HPL2, HLN2⟩
              case measure => simp [intOf]; omega
            · subst hxx hyy
              have HPP2 := Lib.hid hpp
              clear hpp HRES
              go_wp2
              go_roundw
              case rel => exact ⟨j + 1, m + 1, a', q', r, hlt, by omega, by go_num, HOK2, HPP2, HPL2, HLN2⟩
              case measure => simp [intOf]; omega
    · obtain rfl : j = n := by omega
      have hmg := HP.out.merge (by omega)
      have hls' := HP.out.less (by omega)
      have km := merge_any (HL.out.mF.rd HOK.out.2.1 (by have := HLN.out; omega)) (HL.out.mR.rd HOK.out.2.2 (by have := HLN.out; omega))
      rw [hmg] at km
      unfold ResH at km
      simp only [valO, errO] at km
      have KM := Lib.hid km
      have LE := Lib.hid hls'
      obtain ⟨p0, p1, p2, p3, p4⟩ := HL.out.mF.blk.cells5
      obtain ⟨s0, s1, s2, s3, s4⟩ := HL.out.mR.blk.cells5
      clear km hmg hls' hlt hz
      go_wp2_with fail
      refine KM.out.mono ?_
      rintro e w1 ⟨v, rfl, ⟨m1, m2, rfl, o1, o2⟩, hb1⟩
      obtain ⟨M1, g1, rfl⟩ := own_slice o1
      obtain ⟨M2, g2, rfl⟩ := own_slice o2
      have p1' := HL.out.below hb1
      have zz1 := hb1.size
      clear p0 p1 p2 p3 p4 s0 s1 s2 s3 s4 KM
      obtain ⟨p0, p1, p2, p3, p4⟩ := p1'.mA.blk.cells5
      obtain ⟨s0, s1, s2, s3, s4⟩ := p1'.mF.blk.cells5
      have lA1 := p1'.mA.blk.lt
      have lF1 := p1'.mF.blk.lt
      have nA1 : gA ≠ w1.heap.size := by omega
      have nF1 : gF ≠ w1.heap.size := by omega
      go_wp2_with fail
      obtain ⟨W2, e2⟩ : ∃ W, W = w1.alloc (.cells #[.int .i64 a.kind, .int .i64 a.bins, .int .i64 a.classes, .slice M1 a.counts.length g1, .slice M2 a.moms.length g2] 36) := ⟨_, rfl⟩
      rw [← e2]
      have bx : Below w1.heap.size w1 W2 := by rw [e2]; exact (Below.refl _ _).alloc (Nat.le_refl _) _
      have mM : HM wr.heap.size w1.heap.size a (.slice M1 a.counts.length g1) (.slice M2 a.moms.length g2) W2 := by
        rw [e2]
        exact ⟨Blk.new _ _ _, o1.alloc _, o2.alloc _⟩
      have p2' := p1'.below bx
      obtain ⟨gM, hgM⟩ : ∃ g, w1.heap.size = g := ⟨_, rfl⟩
      rw [hgM] at mM ⊢
      clear e2 bx o1 o2 hb1 p0 p1 p2 p3 p4 s0 s1 s2 s3 s4 lA1 lF1 nA1 nF1 p1' zz1 hgM
      have kl := less_any (p2'.mA.rd HOK.out.1 (by have := HLN.out; omega)) (p2'.mF.rd HOK.out.2.1 (by have := HLN.out; omega))
      rw [LE.out] at kl
      unfold ResH at kl
      simp only [valO, errO] at kl
      refine kl.mono ?_
      rintro e w3 ⟨v, rfl, ⟨m3, m4, rfl, o3, o4⟩, hb3⟩
      obtain ⟨M3, g3, rfl⟩ := own_slice o3
      obtain ⟨M4, g4, rfl⟩ := own_slice o4
      have p3' := p2'.below hb3
      replace mM := mM.below hb3
      clear kl hb3 p2'
      go_wp2_with fail
      obtain ⟨W4, e4⟩ : ∃ W, W = w3.alloc (.cells #[.int .i64 r.kind, .int .i64 r.bins, .int .i64 r.classes, .slice M3 r.counts.length g3, .slice M4 r.moms.length g4] 36) := ⟨_, rfl⟩
      rw [← e4]
      have bx : Below w3.heap.size w3 W4 := by rw [e4]; exact (Below.refl _ _).alloc (Nat.le_refl _) _
      have mN : HM W2.heap.size w3.heap.size r (.slice M3 r.counts.length g3) (.slice M4 r.moms.length g4) W4 := by
        rw [e4]
        exact ⟨Blk.new _ _ _, o3.alloc _, o4.alloc _⟩
      have p4' := p3'.below bx
      replace mM := mM.below bx
      obtain ⟨gN, hgN⟩ : ∃ g, w3.heap.size = g := ⟨_, rfl⟩
      rw [hgN] at mN ⊢
      clear e4 bx o3 o4 p3' hgN
      refine (fixed12_any _).mono ?_
      rintro e w5 ⟨rfl, hb5⟩
      replace mM := mM.below hb5
      replace mN := mN.below hb5
      have p5' := p4'.below hb5
      clear hb5 p4'
      obtain ⟨p0, p1, p2, p3, p4⟩ := mM.blk.cells5
      obtain ⟨s0, s1, s2, s3, s4⟩ := p5'.mA.blk.cells5
      go_wp2_with fail
      refine (same_any (mM.rd HOK.out.1 (by have := HLN.out; omega)) (p5'.mA.rd HOK.out.1 (by have := HLN.out; omega))).mono ?_
      rintro e w6 ⟨rfl, hb6⟩
      rw [show decide (a = a) = true from decide_eq_true rfl]
      replace mN := mN.below hb6
      have p6' := p5'.below hb6
      clear hb6 p5' p0 p1 p2 p3 p4 s0 s1 s2 s3 s4 mM
      obtain ⟨p0, p1, p2, p3, p4⟩ := mN.blk.cells5
      obtain ⟨s0, s1, s2, s3, s4⟩ := p6'.mR.blk.cells5
      go_wp2_with fail
      refine (same_any (mN.rd HOK.out.2.2 (by have := HLN.out; omega)) (p6'.mR.rd HOK.out.2.2 (by have := HLN.out; omega))).mono ?_
      rintro e w7 ⟨rfl, hb7⟩
      rw [show decide (r = r) = true from decide_eq_true rfl]
      go_wp2
      go_ret
      exact ⟨rfl, p6'.be.trans (hb7.mono p6'.be.size)⟩
end Go.Proofs.Yteckbgpkoanhfaa.Hb

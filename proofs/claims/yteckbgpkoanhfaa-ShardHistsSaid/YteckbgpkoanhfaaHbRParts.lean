/- The document's answer, layer 13: Parts. -/
import Derived.Test.YteckbgpkoanhfaaHbRHist
import Derived.Test.YteckbgpkoanhfaaHbParts2
import Derived.Test.YteckbgpkoanhfaaHbRefCut
import Derived.Test.YteckbgpkoanhfaaHbLawCuts
namespace Go.Proofs.Yteckbgpkoanhfaa.Hb
set_option linter.unusedVariables false
set_option linter.unusedSimpArgs false
open Go.RowKit

/-- What has come when k parts have. -/
structure QI (N : Nat) (f : Int × Int → Except Int H) (n p : Int) (sc : Array Value) (cv : Value) (w : World) (k : Nat) (hs : List H) (vs : List Value) (v : Value) (W : World) : Prop where
  b0 : Blk W N sc 72
  b1 : Blk W (N + 1) #[.int .i64 0, .int .i64 0, .int .i64 0, .slice none 0 0, .slice none 0 0] 36
  rc : W.ownsRow N 25 2 cv p.toNat (spanCells (upto n p p.toNat))
  row : W.ownsRow (N + 2) 36 5 v k (vs.flatMap aggL)
  hr : HR N W hs vs
  len : vs.length = k
  ok : (upto n p k).map f = hs.map .ok
  be : Below N w W
theorem QI.below {N : Nat} {f : Int × Int → Except Int H} {n p : Int} {sc : Array Value} {cv : Value} {w : World} {k : Nat} {hs : List H} {vs : List Value} {v : Value} {W W' : World} (x : QI N f n p sc cv w k hs vs v W) (hb : Below W.heap.size W W') : QI N f n p sc cv w k hs vs v W' :=
  ⟨x.b0.below hb, x.b1.below hb, own_below x.rc hb, own_below x.row hb, ⟨x.hr.len, fun i h v h1 h2 => (x.hr.at' i h v h1 h2).below hb⟩, x.len, x.ok, x.be.trans (hb.mono (by have := x.b0.lt; omega))⟩
theorem QI.put {N : Nat} {f : Int × Int → Except Int H} {n p : Int} {sc : Array Value} {cv : Value} {w : World} {k : Nat} {hs : List H} {vs : List Value} {v v' : Value} {W W' : World} {C1 C2 : Option Addr} {f1 f2 : Nat} {y : H} {X : Obj} (x : QI N f n p sc cv w k hs vs v W)
    (hn : HNew N y W (.agg #[.int .i64 y.kind, .int .i64 y.bins, .int .i64 y.classes, .slice C1 y.counts.length f1, .slice C2 y.moms.length f2])) (hg : (W.alloc X).grownBy W' v.ownBlock) (ho : W'.ownsRow (N + 2) 36 5 v' (k + 1) (vs.flatMap aggL ++ [.int .i64 y.kind, .int .i64 y.bins, .int .i64 y.classes, .slice C1 y.counts.length f1, .slice C2 y.moms.length f2])) (hf : f (fromAt n p k, fromAt n p (k + 1)) = .ok y) :
    QI N f n p sc cv w (k + 1) (hs ++ [y]) (vs ++ [.agg #[.int .i64 y.kind, .int .i64 y.bins, .int .i64 y.classes, .slice C1 y.counts.length f1, .slice C2 y.moms.length f2]]) v' W' := by
  have hb : Below W.heap.size W (W.alloc X) := (Below.refl _ _).alloc (Nat.le_refl _) _
  have hrow := x.row.alloc X
  have hlow : N ≤ W.heap.size := by have := x.b0.lt; omega
  have hnew : ∀ (h : H) (u : Value), HNew N h W u → HNew N h W' u := fun h u ⟨x1, x2, e, q1, q2⟩ =>
    ⟨x1, x2, e, own_ne2 hg (q1.alloc _) (fun k hk => own_apart (q1.alloc _) hrow (by decide) k hk), own_ne2 hg (q2.alloc _) (fun k hk => own_apart (q2.alloc _) hrow (by decide) k hk)⟩
  refine ⟨blk_grown (x.b0.below hb) hg (fun e => own_nb x.row x.b0 (by decide) e.symm), blk_grown (x.b1.below hb) hg (fun e => by have := (World.ownsRow.lt x.row _ e.symm).1; omega), own_ne2 hg (x.rc.alloc _) (fun k hk => own_apart (x.rc.alloc _) hrow (by decide) k hk), ?_, ⟨by simp [x.hr.len], ?_⟩, by simp [x.len], ?_, below_row' (x.be.alloc hlow X) hg (by simp; omega) (fun q hq => by have := (World.ownsRow.lt x.row q hq).1; omega)⟩
  · rw [List.flatMap_append]; exact ho
  · intro i h u h1 h2
    rcases Nat.lt_or_ge i hs.length with hlt | hge
    · rw [List.getElem?_append_left hlt] at h1
      rw [List.getElem?_append_left (by rw [x.hr.len]; exact hlt)] at h2
      exact hnew _ _ (x.hr.at' i h u h1 h2)
    · rw [List.getElem?_append_right hge] at h1
      rw [List.getElem?_append_right (by rw [x.hr.len]; exact hge), x.hr.len] at h2
      have e1 : i - hs.length = 0 := by
        have := (List.getElem?_eq_some_iff.1 h1).1
        simp at this; omega
      rw [e1] at h1 h2
      simp at h1 h2
      subst h1 h2
      exact hnew _ _ hn
  · rw [upto_succ, List.map_append, List.map_append, x.ok]
    simp [hf]
theorem QI.set5 {N : Nat} {f : Int × Int → Except Int H} {n p : Int} {sc : Array Value} {gc cc P : Nat} {w : World} {k : Nat} {hs : List H} {vs : List Value} {g go cap : Nat} {W : World} {y0 y1 y2 y3 y4 : Value} (x : QI N f n p sc (.slice (some ⟨gc, 0, none⟩) P cc) w k hs vs (.slice (some ⟨g, 0, none⟩) k cap) W) (h1 : N + 1 < go) (h2 : g < go) (x0 x1 x2 x3 x4 : Value) (kB : Blk W go #[y0, y1, y2, y3, y4] 36) :
    QI N f n p sc (.slice (some ⟨gc, 0, none⟩) P cc) w k hs vs (.slice (some ⟨g, 0, none⟩) k cap) (((((W.setCell ⟨go, 0, none⟩ x0).setCell ⟨go, 1, none⟩ x1).setCell ⟨go, 2, none⟩ x2).setCell ⟨go, 3, none⟩ x3).setCell ⟨go, 4, none⟩ x4) where
  b0 := ((((x.b0.other (p := ⟨go, 0, none⟩) (by show N ≠ go; omega) _).other (p := ⟨go, 1, none⟩) (by show N ≠ go; omega) _).other (p := ⟨go, 2, none⟩) (by show N ≠ go; omega) _).other (p := ⟨go, 3, none⟩) (by show N ≠ go; omega) _).other (p := ⟨go, 4, none⟩) (by show N ≠ go; omega) _
  b1 := ((((x.b1.other (p := ⟨go, 0, none⟩) (by show N + 1 ≠ go; omega) _).other (p := ⟨go, 1, none⟩) (by show N + 1 ≠ go; omega) _).other (p := ⟨go, 2, none⟩) (by show N + 1 ≠ go; omega) _).other (p := ⟨go, 3, none⟩) (by show N + 1 ≠ go; omega) _).other (p := ⟨go, 4, none⟩) (by show N + 1 ≠ go; omega) _
  rc := own_set5 x.rc kB (by decide) _ _ _ _ _
  row := by
    have hne : (Value.slice (some ⟨g, 0, none⟩) k cap).ownBlock ≠ some go := by simp [Value.ownBlock]; omega
    exact own_ne (own_ne (own_ne (own_ne (own_ne x.row hne) hne) hne) hne) hne
  hr := ⟨x.hr.len, fun i h v h1 h2 => by
    obtain ⟨a, b, e, q1, q2⟩ := x.hr.at' i h v h1 h2
    exact ⟨a, b, e, own_set5 q1 kB (by decide) _ _ _ _ _, own_set5 q2 kB (by decide) _ _ _ _ _⟩⟩
  len := x.len
  ok := x.ok
  be := below5 x.be (by omega) _ _ _ _ _
theorem relH {wr w8 : World} {h : H} {t : TypeId} {C1 C2 : Option Addr} {f1 f2 : Nat} (hb : Below wr.heap.size wr w8) (o1 : w8.ownsRow wr.heap.size 2 1 (.slice C1 h.counts.length f1) h.counts.length (ints h.counts)) (o2 : w8.ownsRow wr.heap.size 52 3 (.slice C2 h.moms.length f2) h.moms.length (momC h.moms)) :
    Hid (Blk (w8.alloc (.cells #[.int .i64 h.kind, .int .i64 h.bins, .int .i64 h.classes, .slice C1 h.counts.length f1, .slice C2 h.moms.length f2] t)) w8.heap.size #[.int .i64 h.kind, .int .i64 h.bins, .int .i64 h.classes, .slice C1 h.counts.length f1, .slice C2 h.moms.length f2] t) ∧
    Hid (HNew wr.heap.size h (w8.alloc (.cells #[.int .i64 h.kind, .int .i64 h.bins, .int .i64 h.classes, .slice C1 h.counts.length f1, .slice C2 h.moms.length f2] t)) (.agg #[.int .i64 h.kind, .int .i64 h.bins, .int .i64 h.classes, .slice C1 h.counts.length f1, .slice C2 h.moms.length f2])) ∧ Hid (wr.heap.size ≤ w8.heap.size) ∧ Hid (Below wr.heap.size wr (w8.alloc (.cells #[.int .i64 h.kind, .int .i64 h.bins, .int .i64 h.classes, .slice C1 h.counts.length f1, .slice C2 h.moms.length f2] t))) :=
  ⟨Lib.hid (Blk.new _ _ _), Lib.hid ⟨_, _, rfl, o1.alloc _, o2.alloc _⟩, Lib.hid hb.size, Lib.hid (hb.alloc hb.size _)⟩
theorem relH5 {wr w8 : World} {h : H} {C1 C2 : Option Addr} {f1 f2 : Nat} {x0 x1 x2 x3 x4 : Value} (hb : Below wr.heap.size wr w8) (kZ : Blk w8 wr.heap.size #[x0, x1, x2, x3, x4] 36) (o1 : w8.ownsRow wr.heap.size 2 1 (.slice C1 h.counts.length f1) h.counts.length (ints h.counts)) (o2 : w8.ownsRow wr.heap.size 52 3 (.slice C2 h.moms.length f2) h.moms.length (momC h.moms)) :
    Hid (Blk (((((w8.setCell ⟨wr.heap.size, 0, none⟩ (.int .i64 h.kind)).setCell ⟨wr.heap.size, 1, none⟩ (.int .i64 h.bins)).setCell ⟨wr.heap.size, 2, none⟩ (.int .i64 h.classes)).setCell ⟨wr.heap.size, 3, none⟩ (.slice C1 h.counts.length f1)).setCell ⟨wr.heap.size, 4, none⟩ (.slice C2 h.moms.length f2)) wr.heap.size #[.int .i64 h.kind, .int .i64 h.bins, .int .i64 h.classes, .slice C1 h.counts.length f1, .slice C2 h.moms.length f2] 36) ∧
    Hid (HNew wr.heap.size h (((((w8.setCell ⟨wr.heap.size, 0, none⟩ (.int .i64 h.kind)).setCell ⟨wr.heap.size, 1, none⟩ (.int .i64 h.bins)).setCell ⟨wr.heap.size, 2, none⟩ (.int .i64 h.classes)).setCell ⟨wr.heap.size, 3, none⟩ (.slice C1 h.counts.length f1)).setCell ⟨wr.heap.size, 4, none⟩ (.slice C2 h.moms.length f2)) (.agg #[.int .i64 h.kind, .int .i64 h.bins, .int .i64 h.classes, .slice C1 h.counts.length f1, .slice C2 h.moms.length f2])) ∧ Hid (wr.heap.size ≤ wr.heap.size) ∧ Hid (Below wr.heap.size wr (((((w8.setCell ⟨wr.heap.size, 0, none⟩ (.int .i64 h.kind)).setCell ⟨wr.heap.size, 1, none⟩ (.int .i64 h.bins)).setCell ⟨wr.heap.size, 2, none⟩ (.int .i64 h.classes)).setCell ⟨wr.heap.size, 3, none⟩ (.slice C1 h.counts.length f1)).setCell ⟨wr.heap.size, 4, none⟩ (.slice C2 h.moms.length f2))) :=
  ⟨Lib.hid (set5 kZ _ _ _ _ _), Lib.hid ⟨_, _, rfl, own_set5 o1 kZ (by decide) _ _ _ _ _, own_set5 o2 kZ (by decide) _ _ _ _ _⟩, Lib.hid (Nat.le_refl _), Lib.hid (below5 hb (Nat.le_refl _) _ _ _ _ _)⟩
theorem spans_in0 {W : World} {n p : Int} {cv : Value} {N : Nat} (hp : 1 ≤ p) (h : W.ownsRow N 25 2 cv p.toNat (spanCells (upto n p p.toNat))) : ∃ gc cap, cv = .slice (some ⟨gc, 0, none⟩) p.toNat cap := by
  obtain ⟨g, cap, rfl, _⟩ := own_open h (by omega)
  exact ⟨g, cap, rfl⟩
theorem spans_cell {W : World} {n p : Int} {gc cap N : Nat} (h : W.ownsRow N 25 2 (.slice (some ⟨gc, 0, none⟩) p.toNat cap) p.toNat (spanCells (upto n p p.toNat))) {k : Nat} (hk : k < p.toNat) :
    W.cell? ⟨gc, k * 2, none⟩ = some (.int .i64 (fromAt n p k)) ∧ W.cell? ⟨gc, k * 2 + 1, none⟩ = some (.int .i64 (fromAt n p (k + 1))) := by
  obtain ⟨h1, h2⟩ := spanCells_get _ k _ (upto_get n p p.toNat k hk)
  exact ⟨own_cell h h1, own_cell h h2⟩
set_option maxRecDepth 100000 in
set_option maxHeartbeats 8000000 in
theorem rparts_yes (s : Smp) (A1 A2 A3 : Option Addr) (c1 c2 c3 : Nat) (col : Int) (is : List Int) (Ar : Option Addr) (cr : Nat) (p : Int) (w : World) (RS : RdS w s A1 A2 A3) (RI : RdI w Ar is) (hli : is.length ≤ 9223372036854775807) (hcr : is.length ≤ cr) (hp : 1 ≤ p) (hp2 : p ≤ 64) :
    Calls Try.prog 37 #[.agg (smpC s A1 A2 A3 c1 c2 c3), .int .i64 col, .slice Ar is.length cr, .int .i64 p] w (ResH (partsO s col is p) w) := by
  obtain ⟨n, hn⟩ : ∃ n, is.length = n := ⟨_, rfl⟩
  have HN := Lib.hid hn
  rw [hn] at hli hcr ⊢
  obtain ⟨P, rfl⟩ : ∃ P : Nat, p = P := ⟨p.toNat, by omega⟩
  have KC := Lib.hid (fun w => rcut_yes (n : Int) (P : Int) (by omega) (by omega) hp hp2 w)
  obtain ⟨f, hf⟩ : ∃ f : Int × Int → Except Int H, (fun x => histO s col (cutI is x)) = f := ⟨_, rfl⟩
  have HF := Lib.hid hf
  have hpo : partsO s col is P = joinO (collO f (upto n P (P : Int).toNat)) := by unfold partsO; rw [if_pos ⟨hp, hp2⟩, hf, hn]
  have HPO := Lib.hid hpo
  have HRS := Lib.hid RS
  have HRI := Lib.hid RI
  have hP64 : P ≤ 64 := by omega
  have hP1 : 1 ≤ P := by omega
  have hpp : (P : Int).toNat = P := by omega
  have HPP := Lib.hid hpp
  unfold smpC
  obtain ⟨R, hR⟩ : ∃ R, partsO s col is P = R := ⟨_, rfl⟩
  have HR' := Lib.hid hR
  rw [hR]
  clear hpo hf RS RI hn hR
  go_enter Try.func37, Try.ntmps37
  go_wp2_with fail
  obtain ⟨W2, e2⟩ : ∃ W, W = (w.alloc (.cells #[.int .i64 s.k, .int .i64 s.cl, .int .i64 s.b, .int .i64 s.t, .int .i64 s.d, .int .i64 s.l, .int .i64 s.p, .int .i64 s.rows, .int .i64 s.cols, .slice A1 s.cells.length c1, .slice A2 s.tgt.length c2, .slice A3 s.wgt.length c3] 72)).alloc (.cells #[.int .i64 0, .int .i64 0, .int .i64 0, .slice none 0 0, .slice none 0 0] 36) := ⟨_, rfl⟩
  rw [← e2]
  have X := RH.new _ _ _ _ _ _ _ _ _ e2
  clear e2
  refine (KC.out _).mono ?_
  rintro e w3 ⟨cv, rfl, rc, hb3⟩
  have bs := X.be.size
  replace X := X.below hb3
  replace rc := World.ownsRow.mono rc bs
  obtain ⟨gc, cc, rfl⟩ := spans_in0 hp rc
  rw [hpp] at rc ⊢
  have hP0 : ((P : Int) == 0) = false := beq_eq_false_iff_ne.2 (by omega)
  clear hb3
  go_wp2
  obtain ⟨W4, e4⟩ : ∃ W, W = w3.alloc (.cells #[] 36) := ⟨_, rfl⟩
  rw [← e4]
  have lS := X.b1.lt
  have Q0 : QI w.heap.size f n P #[.int .i64 s.k, .int .i64 s.cl, .int .i64 s.b, .int .i64 s.t, .int .i64 s.d, .int .i64 s.l, .int .i64 s.p, .int .i64 s.rows, .int .i64 s.cols, .slice A1 s.cells.length c1, .slice A2 s.tgt.length c2, .slice A3 s.wgt.length c3] (.slice (some ⟨gc, 0, none⟩) P cc) w 0 [] [] (.slice (some ⟨w3.heap.size, 0, none⟩) 0 0) W4 := by
    have bb : Below w3.heap.size w3 W4 := by rw [e4]; exact (Below.refl _ _).alloc (Nat.le_refl _) _
    refine ⟨X.b0.below bb, X.b1.below bb, by rw [hpp]; exact own_below rc bb, ?_, ⟨rfl, fun i h v h1 h2 => by simp at h1⟩, rfl, rfl, X.be.trans (bb.mono X.be.size)⟩
    rw [e4]
    exact World.ownsRow_lit w3 #[] 0 (by omega) (by decide) rfl
  obtain ⟨g0, hg0⟩ : ∃ g, w3.heap.size = g := ⟨_, rfl⟩
  have hgc : gc < w3.heap.size := (World.ownsRow.lt rc gc rfl).2
  rw [hg0] at Q0 ⊢
  have HQ0 := Lib.hid Q0
  clear e4 X rc Q0 hg0 lS hgc hpp bs
  go_loopw [11, 12] (fun av iv wr => ∃ (k : Nat) (hs : List H) (vs : List Value) (B : Option Addr) (c : Nat), k ≤ P ∧ iv = .int .i64 k ∧ av = .slice B k c ∧ Hid (QI w.heap.size f n P #[.int .i64 s.k, .int .i64 s.cl, .int .i64 s.b, .int .i64 s.t, .int .i64 s.d, .int .i64 s.l, .int .i64 s.p, .int .i64 s.rows, .int .i64 s.cols, .slice A1 s.cells.length c1, .slice A2 s.tgt.length c2, .slice A3 s.wgt.length c3] (.slice (some ⟨gc, 0, none⟩) P cc) w k hs vs (.slice B k c) wr)) (fun av iv _ => P - (intOf iv).toNat)
  case atStart => exact ⟨0, [], [], _, _, by omega, rfl, rfl, HQ0⟩
  case round =>
    obtain ⟨k, hs, vs, B, c, hk, rfl, rfl, HQ⟩ := hrel
    clear HQ0
    have Q := HQ.out
    obtain ⟨p0, p1, p2, p3, p4⟩ := Q.b1.cells5
    have pf := Q.b1.frozen
    have pl := Q.b1.lt
    by_cases hlt : k < P
    · have hlt' : (k : Int) < P := by omega
      obtain ⟨a0, a1, a2, a3, a4, a5, a6, a7, a8, a9, a10, a11⟩ := Q.b0.cells12
      have rc := Q.rc
      rw [HPP.out] at rc
      have hsc := spans_cell (k := k) (n := n) (p := (P : Int)) (gc := gc) (cap := cc) (by rw [HPP.out]; exact rc) (by rw [HPP.out]; exact hlt)
      have f1 := fromAt_nonneg n P (by omega) (by omega) k
      have f2 := fromAt_nonneg n P (by omega) (by omega) (k + 1)
      have f3 := fromAt_le n P (by omega) (by omega) (k + 1) (by omega)
      have f4 : fromAt n P k ≤ fromAt n P (k + 1) := by
        have h0 : 0 ≤ (n : Int) / P := Int.ediv_nonneg (by omega) (by omega)
        rcases Int.lt_or_le (k : Int) ((n : Int) % P) with h | h
        · rw [fromAt_succ_lt n P k h]; omega
        · rw [fromAt_succ_ge n P k h]; omega
      obtain ⟨a, ha⟩ : ∃ a : Nat, fromAt n P k = a := ⟨(fromAt n P k).toNat, by omega⟩
      obtain ⟨b, hb⟩ : ∃ b : Nat, fromAt n P (k + 1) = b := ⟨(fromAt n P (k + 1)).toNat, by omega⟩
      rw [ha, hb] at hsc
      rw [ha] at f4
      rw [hb] at f3 f4
      have i1 : (a : Int) ≤ b := f4
      have i2 : (b : Int) ≤ cr := by omega
      obtain ⟨Ac, hAc⟩ : ∃ Ac, (if cr = a then Ar else Option.map (fun x => x.add a) Ar) = Ac := ⟨_, rfl⟩
      have hcut : RdI w Ac (cutI is ((a : Int), (b : Int))) := by
        have hg := HRI.out.g.cut a (b - a) cr (by rw [HN.out]; omega) (by rw [HN.out]; omega)
        rw [Nat.mul_one, hAc] at hg
        show RdI w Ac ((is.drop (a : Int).toNat).take ((b : Int) - a).toNat)
        rw [Int.toNat_natCast, show ((b : Int) - a).toNat = b - a by omega]
        exact hg.i (fun y hy => HRI.out.1 y (List.mem_of_mem_drop (List.mem_of_mem_take hy)))
      have hlc : (cutI is ((a : Int), (b : Int))).length = b - a := by
        show ((is.drop (a : Int).toNat).take ((b : Int) - a).toNat).length = _
        rw [Int.toNat_natCast, show ((b : Int) - a).toNat = b - a by omega]
        exact len_cut (by rw [HN.out]; omega)
      obtain ⟨rr, hrr⟩ : ∃ rr, histO s col (cutI is ((a : Int), (b : Int))) = rr := ⟨_, rfl⟩
      obtain ⟨hh, hhh⟩ : ∃ hh, valO h0 rr = hh := ⟨_, rfl⟩
      obtain ⟨er, her⟩ : ∃ er, errO rr = er := ⟨_, rfl⟩
      have KH : ∀ W', Below wr.heap.size wr W' → Calls Try.prog 35 #[.agg #[.int .i64 s.k, .int .i64 s.cl, .int .i64 s.b, .int .i64 s.t, .int .i64 s.d, .int .i64 s.l, .int .i64 s.p, .int .i64 s.rows, .int .i64 s.cols, .slice A1 s.cells.length c1, .slice A2 s.tgt.length c2, .slice A3 s.wgt.length c3], .int .i64 col, .slice Ac (b - a) (cr - a)] W' fun e w' => ∃ v, e = .returned (.tuple #[v, .int .i64 er]) ∧ HNew W'.heap.size hh w' v ∧ Below W'.heap.size W' w' := by
        intro W' hB
        have hB2 := HQ.out.be.trans (hB.mono HQ.out.be.size)
        have := rhist_any s A1 A2 A3 c1 c2 c3 col (cutI is ((a : Int), (b : Int))) Ac (cr - a) W' (HRS.out.below hB2) (hcut.below hB2) (by rw [hlc]; omega)
        rw [hlc, hrr] at this
        unfold smpC ResH at this
        rw [hhh, her] at this
        exact this
      have HKH := Lib.hid KH
      have HFR := Lib.hid (show f (fromAt n P k, fromAt n P (k + 1)) = rr by rw [← HF.out, ha, hb]; exact hrr)
      have HRR := Lib.hid hrr
      have HHH := Lib.hid hhh
      have HER := Lib.hid her
      obtain ⟨v1, v2⟩ := hsc
      have gcl : gc < wr.heap.size := (World.ownsRow.lt rc gc rfl).2
      have gcn : gc ≠ wr.heap.size := by omega
      have gcn' : wr.heap.size ≠ gc := by omega
      have wn : w.heap.size ≠ wr.heap.size := by omega
      have wn' : wr.heap.size ≠ w.heap.size := by omega
      clear KH hlc hcut hrr hhh her f1 f2 f3 f4 ha hb rc Q
      go_upto_region 8 with (fail)
      go_cut [13, 14] (fun ea eb wc => ∃ Bh u1 u2, ea = .pointer (some ⟨Bh, 0, none⟩) ∧ eb = .int .i64 er ∧ Hid (Blk wc Bh #[.int .i64 hh.kind, .int .i64 hh.bins, .int .i64 hh.classes, u1, u2] 36) ∧ Hid (HNew wr.heap.size hh wc (.agg #[.int .i64 hh.kind, .int .i64 hh.bins, .int .i64 hh.classes, u1, u2])) ∧ Hid (wr.heap.size ≤ Bh) ∧ Hid (Below wr.heap.size wr wc))
      case first =>
        go_region_held3 (fun W => W.cell? ⟨w.heap.size, 0, none⟩ = some (.int .i64 s.k) ∧ W.cell? ⟨w.heap.size, 1, none⟩ = some (.int .i64 s.cl) ∧ W.cell? ⟨w.heap.size, 2, none⟩ = some (.int .i64 s.b) ∧ W.cell? ⟨w.heap.size, 3, none⟩ = some (.int .i64 s.t) ∧ W.cell? ⟨w.heap.size, 4, none⟩ = some (.int .i64 s.d) ∧ W.cell? ⟨w.heap.size, 5, none⟩ = some (.int .i64 s.l) ∧ W.cell? ⟨w.heap.size, 6, none⟩ = some (.int .i64 s.p) ∧ W.cell? ⟨w.heap.size, 7, none⟩ = some (.int .i64 s.rows) ∧ W.cell? ⟨w.heap.size, 8, none⟩ = some (.int .i64 s.cols) ∧ W.cell? ⟨w.heap.size, 9, none⟩ = some (.slice A1 s.cells.length c1) ∧ W.cell? ⟨w.heap.size, 10, none⟩ = some (.slice A2 s.tgt.length c2) ∧ W.cell? ⟨w.heap.size, 11, none⟩ = some (.slice A3 s.wgt.length c3) ∧ W.cell? ⟨gc, k * 2, none⟩ = some (.int .i64 a) ∧ W.cell? ⟨gc, k * 2 + 1, none⟩ = some (.int .i64 b)) (go_keep)
          (first
            | (go_at_call 35; refine (HKH.out _ (by exact (Below.refl _ wr).drew)).mono ?_; rintro e w8 ⟨v8, rfl, ⟨y1, y2, rfl, o1, o2⟩, hb8⟩; obtain ⟨C1, g1, rfl⟩ := own_slice o1; obtain ⟨C2, g2, rfl⟩ := own_slice o2; have u0 : w8.cell? ⟨w.heap.size, 0, none⟩ = some (.int .i64 s.k) := keepc hb8 (by simp [*]); have u1 : w8.cell? ⟨w.heap.size, 1, none⟩ = some (.int .i64 s.cl) := keepc hb8 (by simp [*]); have u2 : w8.cell? ⟨w.heap.size, 2, none⟩ = some (.int .i64 s.b) := keepc hb8 (by simp [*]); have u3 : w8.cell? ⟨w.heap.size, 3, none⟩ = some (.int .i64 s.t) := keepc hb8 (by simp [*]); have u4 : w8.cell? ⟨w.heap.size, 4, none⟩ = some (.int .i64 s.d) := keepc hb8 (by simp [*]); have u5 : w8.cell? ⟨w.heap.size, 5, none⟩ = some (.int .i64 s.l) := keepc hb8 (by simp [*]); have u6 : w8.cell? ⟨w.heap.size, 6, none⟩ = some (.int .i64 s.p) := keepc hb8 (by simp [*]); have u7 : w8.cell? ⟨w.heap.size, 7, none⟩ = some (.int .i64 s.rows) := keepc hb8 (by simp [*]); have u8 : w8.cell? ⟨w.heap.size, 8, none⟩ = some (.int .i64 s.cols) := keepc hb8 (by simp [*]); have u9 : w8.cell? ⟨w.heap.size, 9, none⟩ = some (.slice A1 s.cells.length c1) := keepc hb8 (by simp [*]); have u10 : w8.cell? ⟨w.heap.size, 10, none⟩ = some (.slice A2 s.tgt.length c2) := keepc hb8 (by simp [*]); have u11 : w8.cell? ⟨w.heap.size, 11, none⟩ = some (.slice A3 s.wgt.length c3) := keepc hb8 (by simp [*]); have v1 : w8.cell? ⟨gc, k * 2, none⟩ = some (.int .i64 a) := keepc hb8 (by simp [*]); have v2 : w8.cell? ⟨gc, k * 2 + 1, none⟩ = some (.int .i64 b) := keepc hb8 (by simp [*]); have bb8 := ((Below.refl wr.heap.size wr).drew).trans hb8; have RL := relH (t := 36) bb8 o1 o2)
            | (go_at_call 35; refine (HKH.out _ (by exact ((Below.refl _ wr).alloc (Nat.le_refl _) _).drew)).mono ?_; rintro e w8 ⟨v8, rfl, ⟨y1, y2, rfl, o1, o2⟩, hb8⟩; obtain ⟨C1, g1, rfl⟩ := own_slice o1; obtain ⟨C2, g2, rfl⟩ := own_slice o2; have u0 : w8.cell? ⟨w.heap.size, 0, none⟩ = some (.int .i64 s.k) := keepc hb8 (by simp [*]); have u1 : w8.cell? ⟨w.heap.size, 1, none⟩ = some (.int .i64 s.cl) := keepc hb8 (by simp [*]); have u2 : w8.cell? ⟨w.heap.size, 2, none⟩ = some (.int .i64 s.b) := keepc hb8 (by simp [*]); have u3 : w8.cell? ⟨w.heap.size, 3, none⟩ = some (.int .i64 s.t) := keepc hb8 (by simp [*]); have u4 : w8.cell? ⟨w.heap.size, 4, none⟩ = some (.int .i64 s.d) := keepc hb8 (by simp [*]); have u5 : w8.cell? ⟨w.heap.size, 5, none⟩ = some (.int .i64 s.l) := keepc hb8 (by simp [*]); have u6 : w8.cell? ⟨w.heap.size, 6, none⟩ = some (.int .i64 s.p) := keepc hb8 (by simp [*]); have u7 : w8.cell? ⟨w.heap.size, 7, none⟩ = some (.int .i64 s.rows) := keepc hb8 (by simp [*]); have u8 : w8.cell? ⟨w.heap.size, 8, none⟩ = some (.int .i64 s.cols) := keepc hb8 (by simp [*]); have u9 : w8.cell? ⟨w.heap.size, 9, none⟩ = some (.slice A1 s.cells.length c1) := keepc hb8 (by simp [*]); have u10 : w8.cell? ⟨w.heap.size, 10, none⟩ = some (.slice A2 s.tgt.length c2) := keepc hb8 (by simp [*]); have u11 : w8.cell? ⟨w.heap.size, 11, none⟩ = some (.slice A3 s.wgt.length c3) := keepc hb8 (by simp [*]); have v1 : w8.cell? ⟨gc, k * 2, none⟩ = some (.int .i64 a) := keepc hb8 (by simp [*]); have v2 : w8.cell? ⟨gc, k * 2 + 1, none⟩ = some (.int .i64 b) := keepc hb8 (by simp [*]); have bbA := ((Below.refl wr.heap.size wr).alloc (Nat.le_refl _) (.cells #[.int .i64 0, .int .i64 0, .int .i64 0, .slice none 0 0, .slice none 0 0] 36)).drew; have bb8 := bbA.trans (hb8.mono bbA.size); have kZ : Blk w8 wr.heap.size #[.int .i64 0, .int .i64 0, .int .i64 0, .slice none 0 0, .slice none 0 0] 36 := (show Blk (wr.alloc (.cells #[.int .i64 0, .int .i64 0, .int .i64 0, .slice none 0 0, .slice none 0 0] 36)).drew wr.heap.size #[.int .i64 0, .int .i64 0, .int .i64 0, .slice none 0 0, .slice none 0 0] 36 from Blk.new wr _ _).below hb8; have zf := kZ.frozen; have zl := kZ.lt; obtain ⟨z0, z1, z2, z3, z4⟩ := kZ.cells5; have RL := relH5 (h := hh) bb8 kZ (World.ownsRow.mono o1 bbA.size) (World.ownsRow.mono o2 bbA.size)))
        all_goals
          go_wp2
          go_meet
          case rel => exact ⟨_, _, _, rfl, rfl, RL⟩
      case rest =>
        obtain ⟨Bh, u1, u2, rfl, rfl, HKB, HNN, HBW, HBE⟩ := hcut
        have Q2 := HQ.out.below HBE.out
        have HQ2 := Lib.hid Q2
        clear p0 p1 p2 p3 p4 pf pl a0 a1 a2 a3 a4 a5 a6 a7 a8 a9 a10 a11 v1 v2
        cases rr with
        | error e =>
          obtain rfl : e = er := HER.out
          have ee := hist_ne HRR.out
          have hfe : R = .error e := by
            rw [← HR'.out, HPO.out]
            have hpre : upto n P k ++ [(fromAt n P k, fromAt n P (k + 1))] <+: upto n P (P : Int).toNat := by rw [← upto_succ]; exact upto_prefix _ _ _ _ (by rw [HPP.out]; omega)
            rw [coll_err HFR.out HQ.out.ok hpre]
            rfl
          have HFE := Lib.hid hfe
          obtain ⟨p0, p1, p2, p3, p4⟩ := Q2.b1.cells5
          have pf := Q2.b1.frozen
          have pl := Q2.b1.lt
          clear hfe Q2
          go_wp2
          rw [HFE.out]
          refine bodyPost_ret (results_ct rfl _ _ (w.heap.size + 1) 36 _ _ rfl (set5 HQ2.out.b1 _ _ _ _ _) Try.underlying36 rfl size_hist) rfl ?_
          exact ⟨_, rfl, HNew.zero _ _, below5 HQ2.out.be (by omega) _ _ _ _ _⟩
        | ok y =>
          obtain rfl : y = hh := HHH.out
          obtain rfl : (0 : Int) = er := HER.out
          obtain ⟨x1, x2, hx, o1, o2⟩ := HNN.out
          simp only [Value.agg.injEq, Array.mk.injEq, List.cons.injEq, and_true, true_and] at hx
          obtain ⟨rfl, rfl⟩ := hx
          obtain ⟨C1, g1, rfl⟩ := own_slice o1
          obtain ⟨C2, g2, rfl⟩ := own_slice o2
          obtain ⟨i0, hi, hz0, hz1, hz2⟩ := info_parts info_hist
          obtain ⟨z0, z1, z2, z3, z4⟩ := HKB.out.cells5
          have e0 : ((0 : Int) != 0) = false := rfl
          have lq : w.heap.size + 2 ≤ wc.heap.size := by have := Q2.b1.lt; omega
          have hwr := HQ.out.be.size
          clear o1 o2
          go_wp2_with (at_builtin; refine wpList_append_own _ rfl _ _ 103 rfl (w.heap.size + 2) 36 i0 (.agg #[.int .i64 0, .int .i64 0, .int .i64 0, .slice none 0 0, .slice none 0 0]) 5 72 Try.underlying103 hi hz0 hz1 hz2 rfl (by decide) _ _ _ rfl (Q2.row.alloc _) ⟨wc.heap.size, 0, none⟩ 1 1 [.int .i64 y.kind, .int .i64 y.bins, .int .i64 y.classes, .slice C1 y.counts.length g1, .slice C2 y.moms.length g2] rfl rfl (cell_five _ _ _ _ _ _ _) (by simp [Value.oneCell']) (by unfold maxLen; omega) (by omega) (by simp; omega) ?_; intro v' w1 hown' hgrow _; obtain ⟨S', d', rfl⟩ := own_slice hown'; have Z := HQ2.out.put (HNN.out.mono hwr) hgrow hown' HFR.out)
          go_roundw
          case rel => exact ⟨k + 1, _, _, _, _, hlt, by go_num, rfl, Lib.hid Z⟩
          case measure => simp [intOf]; omega
    · obtain rfl : k = P := by omega
      have hpo := HPO.out
      rw [coll_ok (by rw [HPP.out]; exact Q.ok)] at hpo
      have hvl := Q.len
      have hhl := Q.hr.len
      rw [hvl] at hhl
      obtain ⟨g, cap, hv, hcap, hg1, hg2, hcell⟩ := own_open Q.row (by omega)
      simp only [Value.slice.injEq, true_and] at hv
      obtain ⟨rfl, rfl⟩ := hv
      obtain ⟨ha, ht, hcons⟩ : ∃ ha ht, hs = ha :: ht := by
        cases hs with
        | nil => simp at hhl; omega
        | cons a b => exact ⟨_, _, rfl⟩
      obtain ⟨B1, B2, f1, f2, X0⟩ := Q.hr.cells hcell (i := 0) (h := ha) (by rw [hcons]; rfl)
      rw [Nat.zero_mul] at X0
      have q0 := X0.p0
      have q1 := X0.p1
      have q2 := X0.p2
      have q3 := X0.p3
      have q4 := X0.p4
      simp only [Nat.zero_add] at q1 q2 q3 q4
      have hfine : ∀ x ∈ hs, fine x := by
        intro x hx
        obtain ⟨i, hi⟩ := List.getElem?_of_mem hx
        have hm := congrArg (fun l => l[i]?) Q.ok
        simp only [List.getElem?_map, hi, Option.map_some] at hm
        obtain ⟨z, _, hz⟩ := Option.map_eq_some_iff.1 hm
        rw [← HF.out] at hz
        exact hist_fine HRS.out.r2.1 HRS.out.r3.1 hz
      have HFI := Lib.hid hfine
      have HCO := Lib.hid hcons
      have HHL := Lib.hid hhl
      have HCE := Lib.hid hcell
      have HPR := Lib.hid (show R = joinO (.ok hs) by rw [← HR'.out, hpo])
      have HX0 := Lib.hid X0.nw
      have c1' : (1 : Int) ≤ k := by omega
      have gln : g ≠ wr.heap.size := by omega
      clear hpo hvl hhl hcell hfine X0 Q hlt
      go_wp2
      obtain ⟨W5, e5⟩ : ∃ W, W = wr.alloc (.cells #[.int .i64 ha.kind, .int .i64 ha.bins, .int .i64 ha.classes, .slice B1 ha.counts.length f1, .slice B2 ha.moms.length f2] 36) := ⟨_, rfl⟩
      rw [← e5]
      have bx : Below wr.heap.size wr W5 := by rw [e5]; exact (Below.refl _ _).alloc (Nat.le_refl _) _
      have O : HB w.heap.size wr.heap.size ha B1 B2 f1 f2 W5 := by
        obtain ⟨_, _, hh, o1, o2⟩ := HX0.out
        simp only [Value.agg.injEq, Array.mk.injEq, List.cons.injEq, and_true, true_and] at hh
        obtain ⟨rfl, rfl⟩ := hh
        rw [e5]
        exact ⟨Blk.new _ _ _, o1.alloc _, o2.alloc _⟩
      have HO := Lib.hid O
      have HQ5 := Lib.hid (HQ.out.below bx)
      have HFA := Lib.hid (HFI.out ha (by rw [HCO.out]; simp))
      obtain ⟨go, hgo⟩ : ∃ go, wr.heap.size = go := ⟨_, rfl⟩
      have lgo : w.heap.size + 1 < go := by omega
      have ggo : g < go := by omega
      rw [hgo] at HO gln ⊢
      have HRU := Lib.hid (show mergeO ha ht = mergeO ha (hs.drop 1) by rw [HCO.out]; rfl)
      clear O bx e5 q0 q1 q2 q3 q4 p0 p1 p2 p3 p4 pf pl hg1 hg2 hgo
      go_loopw [16] (fun iv wr => ∃ (j : Nat) (mo : H) (C1 C2 : Option Addr) (d1 d2 : Nat), 1 ≤ j ∧ j ≤ k ∧ iv = .int .i64 j ∧ Hid (QI w.heap.size f n k #[.int .i64 s.k, .int .i64 s.cl, .int .i64 s.b, .int .i64 s.t, .int .i64 s.d, .int .i64 s.l, .int .i64 s.p, .int .i64 s.rows, .int .i64 s.cols, .slice A1 s.cells.length c1, .slice A2 s.tgt.length c2, .slice A3 s.wgt.length c3] (.slice (some ⟨gc, 0, none⟩) k cc) w k hs vs (.slice (some ⟨g, 0, none⟩) k c) wr) ∧ Hid (HB w.heap.size go mo C1 C2 d1 d2 wr) ∧ Hid (fine mo) ∧ Hid (mergeO ha ht = mergeO mo (hs.drop j))) (fun iv _ => k - (intOf iv).toNat)
      case atStart => exact ⟨1, ha, _, _, _, _, by omega, by omega, rfl, HQ5, HO, HFA, HRU⟩
      case round =>
        obtain ⟨j, mo, C1, C2, d1, d2, hj1, hj2, rfl, HQc, HOc, HFc, HMc⟩ := hrel
        clear HQ5 HO HFA HRU
        obtain ⟨⟨t0, t1, t2, t3, t4⟩, tf, tl⟩ := HOc.out.cells
        by_cases hlt : j < k
        · have hlt' : (j : Int) < k := by omega
          have hjn : j < hs.length := by rw [← HHL.out]; exact hlt
          obtain ⟨hq, hhq⟩ : ∃ hq, hs[j]? = some hq := ⟨_, List.getElem?_eq_getElem hjn⟩
          obtain ⟨g', cap', hv', _, _, _, hcell⟩ := own_open HQc.out.row (by omega)
          simp only [Value.slice.injEq, Option.some.injEq, Addr.mk.injEq, and_true, true_and] at hv'
          obtain ⟨rfl, rfl⟩ := hv'
          obtain ⟨E1, E2, d3, d4, Xj⟩ := HQc.out.hr.cells hcell hhq
          have q0 := Xj.p0
          have q1 := Xj.p1
          have q2 := Xj.p2
          have q3 := Xj.p3
          have q4 := Xj.p4
          have HFJ := HFI.out hq (List.mem_of_getElem? hhq)
          have HDJ := Lib.hid (show hs.drop j = hq :: hs.drop (j + 1) by
            rw [List.drop_eq_getElem_cons hjn]
            rw [List.getElem?_eq_getElem hjn] at hhq
            rw [Option.some.inj hhq])
          obtain ⟨r, hr⟩ : ∃ r, bothO opP mo hq = r := ⟨_, rfl⟩
          obtain ⟨hm, hhm⟩ : ∃ hm, valO h0 r = hm := ⟨_, rfl⟩
          obtain ⟨em, hem⟩ : ∃ em, errO r = em := ⟨_, rfl⟩
          have hmc := fun W' (hb : Below wr.heap.size wr W') => rmerge_all ((HOc.out.new.rd HFc.out.1 HFc.out.2.1 HFc.out.2.2).below hb) ((Xj.nw.rd HFJ.1 HFJ.2.1 HFJ.2.2).below hb)
          rw [hr] at hmc
          unfold ResH at hmc
          rw [hhm, hem] at hmc
          have HMC := Lib.hid hmc
          have HR1 := Lib.hid hr
          have HHM := Lib.hid hhm
          have HEM := Lib.hid hem
          have wn : g ≠ wr.heap.size := by omega
          have wn' : wr.heap.size ≠ g := by omega
          have vn : go ≠ wr.heap.size := by omega
          have vn' : wr.heap.size ≠ go := by omega
          clear hmc hr hhm hem hcell Xj HFJ hhq hjn
          go_upto_region 16 with (fail)
          go_cut [17, 18] (fun ea eb wc => ∃ Bh u1 u2, ea = .pointer (some ⟨Bh, 0, none⟩) ∧ eb = .int .i64 em ∧ Hid (Blk wc Bh #[.int .i64 hm.kind, .int .i64 hm.bins, .int .i64 hm.classes, u1, u2] 36) ∧ Hid (HNew wr.heap.size hm wc (.agg #[.int .i64 hm.kind, .int .i64 hm.bins, .int .i64 hm.classes, u1, u2])) ∧ Hid (wr.heap.size ≤ Bh) ∧ Hid (Below wr.heap.size wr wc))
          case first =>
            go_region_held3 (fun W => W.cell? ⟨go, 0, none⟩ = some (.int .i64 mo.kind) ∧ W.cell? ⟨go, 1, none⟩ = some (.int .i64 mo.bins) ∧ W.cell? ⟨go, 2, none⟩ = some (.int .i64 mo.classes) ∧ W.cell? ⟨go, 3, none⟩ = some (.slice C1 mo.counts.length d1) ∧ W.cell? ⟨go, 4, none⟩ = some (.slice C2 mo.moms.length d2) ∧ W.cell? ⟨g, j * 5, none⟩ = some (.int .i64 hq.kind) ∧ W.cell? ⟨g, j * 5 + 1, none⟩ = some (.int .i64 hq.bins) ∧ W.cell? ⟨g, j * 5 + 2, none⟩ = some (.int .i64 hq.classes) ∧ W.cell? ⟨g, j * 5 + 3, none⟩ = some (.slice E1 hq.counts.length d3) ∧ W.cell? ⟨g, j * 5 + 4, none⟩ = some (.slice E2 hq.moms.length d4)) (go_keep)
              (first
                | (go_at_call 29; refine (HMC.out _ (by exact (Below.refl _ wr).drew)).mono ?_; rintro e w8 ⟨v8, rfl, ⟨y1, y2, rfl, o1, o2⟩, hb8⟩; obtain ⟨D1, g1, rfl⟩ := own_slice o1; obtain ⟨D2, g2, rfl⟩ := own_slice o2; have u0 : w8.cell? ⟨go, 0, none⟩ = some (.int .i64 mo.kind) := keepc hb8 (by simp [*]); have u1 : w8.cell? ⟨go, 1, none⟩ = some (.int .i64 mo.bins) := keepc hb8 (by simp [*]); have u2 : w8.cell? ⟨go, 2, none⟩ = some (.int .i64 mo.classes) := keepc hb8 (by simp [*]); have u3 : w8.cell? ⟨go, 3, none⟩ = some (.slice C1 mo.counts.length d1) := keepc hb8 (by simp [*]); have u4 : w8.cell? ⟨go, 4, none⟩ = some (.slice C2 mo.moms.length d2) := keepc hb8 (by simp [*]); have u5 : w8.cell? ⟨g, j * 5, none⟩ = some (.int .i64 hq.kind) := keepc hb8 (by simp [*]); have u6 : w8.cell? ⟨g, j * 5 + 1, none⟩ = some (.int .i64 hq.bins) := keepc hb8 (by simp [*]); have u7 : w8.cell? ⟨g, j * 5 + 2, none⟩ = some (.int .i64 hq.classes) := keepc hb8 (by simp [*]); have u8 : w8.cell? ⟨g, j * 5 + 3, none⟩ = some (.slice E1 hq.counts.length d3) := keepc hb8 (by simp [*]); have u9 : w8.cell? ⟨g, j * 5 + 4, none⟩ = some (.slice E2 hq.moms.length d4) := keepc hb8 (by simp [*]); have bb8 := ((Below.refl wr.heap.size wr).drew).trans hb8; have RL := relH (t := 36) bb8 o1 o2)
                | (go_at_call 29; refine (HMC.out _ (by exact ((Below.refl _ wr).alloc (Nat.le_refl _) _).drew)).mono ?_; rintro e w8 ⟨v8, rfl, ⟨y1, y2, rfl, o1, o2⟩, hb8⟩; obtain ⟨D1, g1, rfl⟩ := own_slice o1; obtain ⟨D2, g2, rfl⟩ := own_slice o2; have u0 : w8.cell? ⟨go, 0, none⟩ = some (.int .i64 mo.kind) := keepc hb8 (by simp [*]); have u1 : w8.cell? ⟨go, 1, none⟩ = some (.int .i64 mo.bins) := keepc hb8 (by simp [*]); have u2 : w8.cell? ⟨go, 2, none⟩ = some (.int .i64 mo.classes) := keepc hb8 (by simp [*]); have u3 : w8.cell? ⟨go, 3, none⟩ = some (.slice C1 mo.counts.length d1) := keepc hb8 (by simp [*]); have u4 : w8.cell? ⟨go, 4, none⟩ = some (.slice C2 mo.moms.length d2) := keepc hb8 (by simp [*]); have u5 : w8.cell? ⟨g, j * 5, none⟩ = some (.int .i64 hq.kind) := keepc hb8 (by simp [*]); have u6 : w8.cell? ⟨g, j * 5 + 1, none⟩ = some (.int .i64 hq.bins) := keepc hb8 (by simp [*]); have u7 : w8.cell? ⟨g, j * 5 + 2, none⟩ = some (.int .i64 hq.classes) := keepc hb8 (by simp [*]); have u8 : w8.cell? ⟨g, j * 5 + 3, none⟩ = some (.slice E1 hq.counts.length d3) := keepc hb8 (by simp [*]); have u9 : w8.cell? ⟨g, j * 5 + 4, none⟩ = some (.slice E2 hq.moms.length d4) := keepc hb8 (by simp [*]); have bbA := ((Below.refl wr.heap.size wr).alloc (Nat.le_refl _) (.cells #[.int .i64 0, .int .i64 0, .int .i64 0, .slice none 0 0, .slice none 0 0] 36)).drew; have bb8 := bbA.trans (hb8.mono bbA.size); have kZ : Blk w8 wr.heap.size #[.int .i64 0, .int .i64 0, .int .i64 0, .slice none 0 0, .slice none 0 0] 36 := (show Blk (wr.alloc (.cells #[.int .i64 0, .int .i64 0, .int .i64 0, .slice none 0 0, .slice none 0 0] 36)).drew wr.heap.size #[.int .i64 0, .int .i64 0, .int .i64 0, .slice none 0 0, .slice none 0 0] 36 from Blk.new wr _ _).below hb8; have zf := kZ.frozen; have zl := kZ.lt; obtain ⟨z0, z1, z2, z3, z4⟩ := kZ.cells5; have RL := relH5 (h := hm) bb8 kZ (World.ownsRow.mono o1 bbA.size) (World.ownsRow.mono o2 bbA.size)))
            all_goals
              go_wp2
              go_meet
              case rel => exact ⟨_, _, _, rfl, rfl, RL⟩
          case rest =>
            obtain ⟨Bh, u1, u2, rfl, rfl, HKB, HNN, HBW, HBE⟩ := hcut
            have Q2 := HQc.out.below HBE.out
            have HQ2 := Lib.hid Q2
            have O2 := HOc.out.below HBE.out
            have HO2 := Lib.hid O2
            have gol : go < wr.heap.size := tl
            clear t0 t1 t2 t3 t4 tf tl q0 q1 q2 q3 q4
            cases r with
            | error e =>
              obtain rfl : e = em := HEM.out
              have ee := both_ne HR1.out
              have hfe : R = .error e := by
                rw [HPR.out, HCO.out]
                show mergeO ha ht = _
                rw [HMc.out, HDJ.out, mergeO, HR1.out]
              have HFE := Lib.hid hfe
              obtain ⟨p0, p1, p2, p3, p4⟩ := Q2.b1.cells5
              have pf := Q2.b1.frozen
              have pl := Q2.b1.lt
              clear hfe Q2 O2
              go_wp2
              rw [HFE.out]
              refine bodyPost_ret (results_ct rfl _ _ (w.heap.size + 1) 36 _ _ rfl (set5 HQ2.out.b1 _ _ _ _ _) Try.underlying36 rfl size_hist) rfl ?_
              exact ⟨_, rfl, HNew.zero _ _, below5 HQ2.out.be (by omega) _ _ _ _ _⟩
            | ok m =>
              obtain rfl : m = hm := HHM.out
              obtain rfl : (0 : Int) = em := HEM.out
              obtain ⟨x1, x2, hx, o1, o2⟩ := HNN.out
              simp only [Value.agg.injEq, Array.mk.injEq, List.cons.injEq, and_true, true_and] at hx
              obtain ⟨rfl, rfl⟩ := hx
              obtain ⟨D1, g1, rfl⟩ := own_slice o1
              obtain ⟨D2, g2, rfl⟩ := own_slice o2
              have HMG := Lib.hid (show mergeO ha ht = mergeO m (hs.drop (j + 1)) by rw [HMc.out, HDJ.out, mergeO, HR1.out])
              have HFM := Lib.hid (both_fine HFc.out HR1.out)
              obtain ⟨z0, z1, z2, z3, z4⟩ := HKB.out.cells5
              obtain ⟨⟨t0, t1, t2, t3, t4⟩, tf, tl⟩ := O2.cells
              have e0 : ((0 : Int) != 0) = false := rfl
              have hwr := HQc.out.be.size
              have Bn : go ≠ Bh := by have := HBW.out; omega
              have Bn' := Bn.symm
              have HO3 := Lib.hid (HB.put m D1 D2 g1 g2 O2.blk (World.ownsRow.mono o1 hwr) (World.ownsRow.mono o2 hwr))
              have HQ3 := Lib.hid (Q2.set5 lgo ggo (.int .i64 m.kind) (.int .i64 m.bins) (.int .i64 m.classes) (.slice D1 m.counts.length g1) (.slice D2 m.moms.length g2) O2.blk)
              clear o1 o2 Q2 O2
              go_wp2
              go_roundw
              case rel => exact ⟨j + 1, m, _, _, _, _, by omega, hlt, by go_num, HQ3, HO3, HFM, HMG⟩
              case measure => simp [intOf]; omega
        · obtain rfl : j = k := by omega
          have hfe : R = .ok mo := by
            rw [HPR.out, HCO.out]
            show mergeO ha ht = _
            rw [HMc.out, HHL.out, List.drop_length]
            rfl
          have HFE := Lib.hid hfe
          have Q2 := HQc.out
          obtain ⟨p0, p1, p2, p3, p4⟩ := Q2.b1.cells5
          have pf := Q2.b1.frozen
          have pl := Q2.b1.lt
          clear hfe Q2
          go_wp2
          rw [HFE.out]
          refine bodyPost_ret (results_ct rfl _ _ (w.heap.size + 1) 36 _ _ rfl (set5 HQc.out.b1 _ _ _ _ _) Try.underlying36 rfl size_hist) rfl ?_
          exact ⟨_, rfl, ⟨_, _, rfl, own_set5 HOc.out.r1 HQc.out.b1 (by decide) _ _ _ _ _, own_set5 HOc.out.r2 HQc.out.b1 (by decide) _ _ _ _ _⟩, below5 HQc.out.be (by omega) _ _ _ _ _⟩
end Go.Proofs.Yteckbgpkoanhfaa.Hb

/- Texts joined: the walks and the plain laws that the claim HistAdds rests on. -/
import Derived.Test.YteckbgpkoanhfaaMHistAdds1
import Derived.Deep.RegionWith
import Derived.Deep.QuietTactic
import Derived.BigQuiet
import Derived.Deep.RegionHeld3
import Derived.Deep.DeepCutAuto
import Derived.Test.YteckbgpkoanhfaaMHistAdds2
import Derived.Test.YteckbgpkoanhfaaMHistAdds3
section
/- The walks of layer hist: Add of means. -/
namespace Go.Proofs.Yteckbgpkoanhfaa.Hb
open Go.RowKit

theorem momC_cons (m : Mom) (l : List Mom) : momC (m :: l) = .int .i64 m.c :: .int .i64 m.s :: .int .i64 m.q :: momC l := by simp [momC]
theorem momC_at : ∀ (l : List Mom) (i : Nat) (x : Mom), l[i]? = some x → (momC l)[i * 3]? = some (.int .i64 x.c) ∧ (momC l)[i * 3 + 1]? = some (.int .i64 x.s) ∧ (momC l)[i * 3 + 2]? = some (.int .i64 x.q)
  | [], i, x, h => by simp at h
  | m :: l, 0, x, h => by
    simp at h; subst h
    rw [momC_cons]; exact ⟨rfl, rfl, rfl⟩
  | m :: l, i + 1, x, h => by
    have ih := momC_at l i x (by simpa using h)
    rw [momC_cons, show (i + 1) * 3 = i * 3 + 3 by omega]
    exact ih
theorem momC_set : ∀ (l : List Mom) (i : Nat) (m : Mom), i < l.length → (((momC l).set (i * 3) (.int .i64 m.c)).set (i * 3 + 1) (.int .i64 m.s)).set (i * 3 + 2) (.int .i64 m.q) = momC (l.set i m)
  | [], i, m, h => by simp at h
  | x :: l, 0, m, h => by simp [momC_cons]
  | x :: l, i + 1, m, h => by
    have ih := momC_set l i m (by simpa using h)
    rw [List.set_cons_succ, momC_cons, momC_cons, ← ih, show (i + 1) * 3 = i * 3 + 3 by omega]
    rfl
theorem momentO_ok {t k : Int} {m : Mom} (hk : inR k) (h : momentO t k = .ok m) : m.ok := by
  unfold momentO at h
  cases h1 : lim (t * k) with
  | none => rw [h1] at h; cases h
  | some s =>
    rw [h1] at h; simp only at h
    cases h2 : lim (t * s) with
    | none => rw [h2] at h; cases h
    | some q =>
      rw [h2] at h
      cases h
      have a1 := lim_some h1
      have a2 := lim_some h2
      exact ⟨hk, by rw [a1.1]; exact a1.2, by rw [a2.1]; exact a2.2⟩
theorem own_ne {w : World} {base : Nat} {e : TypeId} {size n g i : Nat} {v u : Value} {xs : List Value} (h : w.ownsRow base e size v n xs) (hne : v.ownBlock ≠ some g) : (w.setCell ⟨g, i, none⟩ u).ownsRow base e size v n xs :=
  h.kept (row := some g) ⟨rfl, rfl, rfl, by simp [World.setCell], fun k _ hk => Below.heap_setCell _ _ _ k (fun e => hk (by rw [e]))⟩ (.inr hne)
theorem store3 {w : World} {base g n cap : Nat} {e : TypeId} {size : Nat} {xs : List Value} (h : w.ownsRow base e size (.slice (some ⟨g, 0, none⟩) n cap) n xs) (i j k : Nat) (a b c : Value) :
    (((w.setCell ⟨g, i, none⟩ a).setCell ⟨g, j, none⟩ b).setCell ⟨g, k, none⟩ c).ownsRow base e size (.slice (some ⟨g, 0, none⟩) n cap) n (((xs.set i a).set j b).set k c) ∧ w.grownBy (((w.setCell ⟨g, i, none⟩ a).setCell ⟨g, j, none⟩ b).setCell ⟨g, k, none⟩ c) (some g) := by
  have s1 := h.stored i a
  have s2 := s1.1.stored j b
  have s3 := s2.1.stored k c
  refine ⟨s3.1, s3.2.os.trans (s2.2.os.trans s1.2.os), s3.2.tape.trans (s2.2.tape.trans s1.2.tape), s3.2.output.trans (s2.2.output.trans s1.2.output), Nat.le_trans s1.2.size (Nat.le_trans s2.2.size s3.2.size), fun x hx hne => ?_⟩
  exact (s3.2.block x (Nat.lt_of_lt_of_le hx (Nat.le_trans s1.2.size s2.2.size)) hne).trans ((s2.2.block x (Nat.lt_of_lt_of_le hx s1.2.size) hne).trans (s1.2.block x hx hne))
theorem hm_box {base g B gr n c : Nat} {h : H} {v1 : Value} {W : World} {x0 x1 x2 : Value} (m : HM base g h v1 (.slice (some ⟨gr, 0, none⟩) n c) W) (kB : Blk W B #[x0, x1, x2] 52) (h1 : g ≠ B) (h2 : gr ≠ B) (a b d : Value) :
    HM base g h v1 (.slice (some ⟨gr, 0, none⟩) n c) (((W.setCell ⟨B, 0, none⟩ a).setCell ⟨B, 1, none⟩ b).setCell ⟨B, 2, none⟩ d) where
  blk := ((m.blk.other (p := ⟨B, 0, none⟩) h1 _).other (p := ⟨B, 1, none⟩) h1 _).other (p := ⟨B, 2, none⟩) h1 _
  r1 := own_set (own_set (own_set m.r1 kB (by decide)) (kB.set 0 _) (by decide)) ((kB.set 0 _).set 1 _) (by decide)
  r2 := by
    have hne : (Value.slice (some ⟨gr, 0, none⟩) n c).ownBlock ≠ some B := by simpa [Value.ownBlock] using h2
    exact own_ne (own_ne (own_ne m.r2 hne) hne) hne
theorem AddP.err' {h : H} {bin t k : Int} {base g : Nat} {v1 v2 : Value} {w w' : World} {e : Ending} {x : Int} (hx : addO h bin t k = .error x) (hm : HM base g h v1 v2 w') (h1 : e = .returned (.int .i64 x)) (hb : Below w.heap.size w w') : AddP h bin t k base g v1 v2 w e w' := by
  refine ⟨none, ?_, ?_, ⟨hb.os, hb.tape, hb.output, hb.size, fun k hk _ => hb.block k hk⟩, .inl rfl⟩
  · rw [hx, h1]; rfl
  · rw [hx]; exact hm

set_option maxRecDepth 100000 in
set_option maxHeartbeats 4000000 in
theorem add_mom (h : H) (base g : Nat) (v1 v2 : Value) (bin t k : Int) (w : World) (hm : HM base g h v1 v2 w) (ho : okH h) (htR : inR t) (hkR : inR k) (hl1 : h.counts.length ≤ 9223372036854775807) (hl2 : h.moms.length ≤ 9223372036854775807) (hr : rightP h) (hbad : ¬ addBad h bin t) (hk : ¬ k < 0) (h0 : ¬ h.kind = 0) :
    Calls Try.prog 21 #[.pointer (some ⟨g, 0, none⟩), .int .i64 bin, .int .i64 t, .int .i64 k] w (AddP h bin t k base g v1 v2 w) := by
  have hadd := add_m hr hbad hk h0
  obtain ⟨A1, c1, rfl⟩ := own_slice hm.r1
  obtain ⟨A2, c2, rfl⟩ := own_slice hm.r2
  have ra := fun w => right_any h A1 A2 c1 c2 w hl1 hl2
  rw [show rightB h = true from decide_eq_true hr] at ra
  unfold hV at ra
  obtain ⟨y1, y2, z1, z2⟩ := may_le hr.1
  have x1 : ¬ bin < 0 := fun e => hbad (.inl e)
  have x2 : ¬ bin ≥ h.bins := fun e => hbad (.inr (.inl e))
  have k0 : (h.kind == 0) = false := beq_eq_false_iff_ne.2 h0
  have hlen : (h.moms.length : Int) = h.bins := by rcases hr.2 with ⟨e, _⟩ | ⟨_, _, e⟩ <;> first | exact e | exact absurd e h0
  obtain ⟨at', rfl⟩ : ∃ tn : Nat, bin = tn := ⟨bin.toNat, by omega⟩
  obtain ⟨n, hn⟩ : ∃ n, h.moms.length = n := ⟨_, rfl⟩
  have hlt : at' < n := by omega
  rw [Int.toNat_natCast] at hadd
  obtain ⟨x, hx⟩ : ∃ x, h.moms.getD at' m0 = x := ⟨_, rfl⟩
  rw [hx] at hadd
  have hxm : h.moms[at']? = some x := by
    rw [List.getD_eq_getElem?_getD] at hx
    rw [List.getElem?_eq_getElem (by omega)] at hx ⊢
    simpa using hx
  have hxR : x.ok := ho.o2 x (List.mem_of_getElem? hxm)
  have hn257 : n ≤ 257 := by omega
  obtain ⟨gr, cap, hv, _, _, _, _⟩ := own_open hm.r2 (by omega)
  simp only [Value.slice.injEq, true_and] at hv
  obtain ⟨rfl, -⟩ := hv
  have HXR := Lib.hid hxR
  have HADD := Lib.hid hadd
  have HX := Lib.hid hxm
  have RA := Lib.hid ra
  have hn1 : (at' : Int) < n := by omega
  rw [hn] at RA
  have HM0 := Lib.hid hm
  have qb := hm.blk
  rw [hn] at qb
  obtain ⟨p0, p1, p2, p3, p4⟩ := qb.cells5
  have x5 : ¬ h.bins ≤ at' := by omega
  have d1 : decide ((at' : Int) < 0) = false := decide_eq_false x1
  have d2 : decide (h.bins ≤ at') = false := decide_eq_false x5
  have e0 : ((0 : Int) == 0) = true := rfl
  have e0' : ((0 : Int) != 0) = false := rfl
  have mm := fun w => moment_any t k htR hkR w
  clear hm qb hadd hxm hx ra hr hbad h0 hl1 hl2 ho x2 hlen hxR htR
  cases hlim : momentO t k with
  | error e1 =>
    rw [hlim] at mm HADD
    have ee : (e1 != 0) = true := by
      unfold momentO at hlim
      cases h1 : lim (t * k) with
      | none => rw [h1] at hlim; cases hlim; rfl
      | some s =>
        rw [h1] at hlim; simp only at hlim
        cases h2 : lim (t * s) with
        | none => rw [h2] at hlim; cases hlim; rfl
        | some q => rw [h2] at hlim; cases hlim
    have MM := Lib.hid mm
    clear mm hlim
    go_enter Try.func21, Try.ntmps21
    go_wp2_with (first
      | (go_at_call 20; refine (RA.out _).mono ?_; rintro e w1 ⟨rfl, hb⟩; have hm1 := HM0.out.below hb; have qb := hm1.blk; rw [hn] at qb; obtain ⟨q0, q1, q2, q3, q4⟩ := qb.cells5; have HM1 := Lib.hid hm1; clear hm1 qb)
      | (go_at_call 46; refine (MM.out _).mono ?_; rintro e w2 ⟨rfl, hb2⟩; simp only [momE, momV, valO, errO]))
    go_ret
    exact AddP.err HADD.out HM0.out rfl ((hb.trans (hb2.mono hb.size)).alloc (Nat.le_trans hb.size hb2.size) _)
  | ok m =>
    rw [hlim] at mm HADD
    have HMR := Lib.hid (momentO_ok hkR hlim)
    have MM := Lib.hid mm
    clear mm hlim
    go_enter Try.func21, Try.ntmps21
    go_wp2_with (first
      | (go_at_call 20; refine (RA.out _).mono ?_; rintro e w1 ⟨rfl, hb⟩; have hm1 := HM0.out.below hb; have qb := hm1.blk; rw [hn] at qb; obtain ⟨q0, q1, q2, q3, q4⟩ := qb.cells5; have HM1 := Lib.hid hm1; clear hm1 qb)
      | (go_at_call 46; refine (MM.out _).mono ?_; rintro e w2 ⟨rfl, hb2⟩; simp only [momE, momV, valO, errO]; have hm2 := HM1.out.below hb2; have qb := hm2.blk; rw [hn] at qb; clear q0 q1 q2 q3 q4; obtain ⟨q0, q1, q2, q3, q4⟩ := qb.cells5; have HM2 := Lib.hid hm2; clear hm2 qb)
      | fail)
    obtain ⟨W3, e3⟩ : ∃ W3, W3 = w2.alloc (.cells #[.int .i64 m.c, .int .i64 m.s, .int .i64 m.q] 52) := ⟨_, rfl⟩
    rw [← e3]
    have kB : Blk W3 w2.heap.size #[.int .i64 m.c, .int .i64 m.s, .int .i64 m.q] 52 := by rw [e3]; exact Blk.new _ _ _
    have bl3 : Below w2.heap.size w2 W3 := by rw [e3]; exact (Below.refl _ _).alloc (Nat.le_refl _) _
    have HM3 := Lib.hid (HM2.out.below bl3)
    have s3 : w2.heap.size < W3.heap.size := by rw [e3]; simp
    obtain ⟨B, hB⟩ : ∃ B, w2.heap.size = B := ⟨_, rfl⟩
    have gB : g < B := by rw [← hB]; exact HM2.out.blk.lt
    have grB : gr < B := by rw [← hB]; exact (World.ownsRow.lt HM2.out.r2 gr rfl).2
    have gB1 : g ≠ B := by omega
    have gB2 : B ≠ g := by omega
    have gB3 : gr ≠ B := by omega
    have gB4 : B ≠ gr := by omega
    have wB : w.heap.size ≤ B := by rw [← hB]; exact Nat.le_trans hb.size hb2.size
    have bl0 : Below w.heap.size w W3 := hb.trans ((hb2.mono hb.size).trans (bl3.mono (Nat.le_trans hb.size hb2.size)))
    rw [hB] at kB s3 ⊢
    clear e3 bl3 hB HM2 HM1 hb2 q0 q1 q2 q3 q4
    have qb := HM3.out.blk
    rw [hn] at qb
    obtain ⟨q0, q1, q2, q3, q4⟩ := qb.cells5
    obtain ⟨u0, u1, u2⟩ := cells3 kB
    obtain ⟨hx1, hx2, hx3⟩ := momC_at h.moms at' x HX.out
    have t1 := own_cell HM3.out.r2 hx1
    have t2 := own_cell HM3.out.r2 hx2
    have t3 := own_cell HM3.out.r2 hx3
    clear hx1 hx2 hx3 qb
    have g1 : gr < W3.heap.size := World.block_lt_of_cell? W3 _ t1
    have g2 : g < W3.heap.size := World.block_lt_of_cell? W3 _ q4
    obtain ⟨rz, hrz⟩ : ∃ rz, momO opP x m = rz := ⟨_, rfl⟩
    obtain ⟨z1, z2, z3, z4, hz⟩ : ∃ z1 z2 z3 z4, momE rz = .tuple #[.agg #[.int .i64 z1, .int .i64 z2, .int .i64 z3], .int .i64 z4] := ⟨_, _, _, _, rfl⟩
    have HZ := Lib.hid hz
    have HRZ := Lib.hid hrz
    clear hz hrz
    go_cut [13] (fun ev wc => ev = .int .i64 z4 ∧ Blk wc B #[.int .i64 z1, .int .i64 z2, .int .i64 z3] 52 ∧ HM base g h (.slice A1 h.counts.length c1) (.slice (some ⟨gr, 0, none⟩) h.moms.length c2) wc ∧ Below w.heap.size w wc)
    case first =>
      have b8 : Below W3.heap.size W3 (W3.alloc (.cells #[.func (.func 48) #[] #[]] 109)).drew := ((Below.refl _ W3).alloc (Nat.le_refl _) _).drew
      have HM8 := Lib.hid (HM3.out.below b8)
      have kB8 := kB.below b8
      have bl8 := bl0.trans (b8.mono bl0.size)
      have g8 := moments1_any 48 opP plus_is x m HXR.out HMR.out W3.heap.size (W3.alloc (.cells #[.func (.func 48) #[] #[]] 109)).drew (by
        have := (Blk.new W3 #[.func (.func 48) #[] #[]] 109).below ((Below.refl _ _).drew)
        exact this.cells1)
      rw [HRZ.out, HZ.out] at g8
      have G8 := Lib.hid g8
      clear g8
      go_region_with (first
        | (go_at_call 47; refine (moments_any 48 _).mono ?_; rintro e w3 ⟨rfl, rfl⟩)
        | (go_at_call 67; refine G8.out.mono ?_; rintro e w3 ⟨rfl, hb3⟩; have HM9 := HM8.out.below hb3; have kB9 := kB8.below hb3; clear u0 u1 u2; obtain ⟨u0, u1, u2⟩ := cells3 kB9; have uf := kB9.frozen))
      all_goals
        go_wp2
        go_meet
        case rel => exact ⟨rfl, set3 kB9 _ _ _, hm_box HM9 kB9 gB1 gB3 _ _ _, below3 (bl8.trans (hb3.mono bl8.size)) wB _ _ _⟩
    case rest =>
      obtain ⟨rfl, kC, HMC, bC⟩ := hcut
      clear q0 q1 q2 q3 q4 u0 u1 u2 t1 t2 t3
      have HMc := Lib.hid HMC
      have qb := HMC.blk
      rw [hn] at qb
      obtain ⟨q0, q1, q2, q3, q4⟩ := qb.cells5
      obtain ⟨u0, u1, u2⟩ := cells3 kC
      obtain ⟨hx1, hx2, hx3⟩ := momC_at h.moms at' x HX.out
      have t1 := own_cell HMC.r2 hx1
      have t2 := own_cell HMC.r2 hx2
      have t3 := own_cell HMC.r2 hx3
      have fr := fun i => World.ownsRow.frozenAt HMC.r2 i
      have rn := row_ne HMC.blk HMC.r2 (by decide)
      clear hx1 hx2 hx3 qb HMC
      have hz := HZ.out
      have hadd := HADD.out
      simp only [HRZ.out] at hadd
      cases rz with
      | error e1 =>
        simp only [momE, momV, valO, errO, m0, Value.tuple.injEq, Array.mk.injEq, List.cons.injEq, Value.agg.injEq, Value.int.injEq, and_true, true_and] at hz
        obtain ⟨⟨rfl, rfl, rfl⟩, rfl⟩ := hz
        have ee : (e1 == 0) = false := by
          have := momO_err plus_is HRZ.out
          simpa using this
        have HA := Lib.hid hadd
        clear hadd
        go_wp2
        go_ret
        subst hn
        exact AddP.err' HA.out HMc.out rfl bC
      | ok z =>
        simp only [momE, momV, valO, errO, Value.tuple.injEq, Array.mk.injEq, List.cons.injEq, Value.agg.injEq, Value.int.injEq, and_true, true_and] at hz
        obtain ⟨⟨rfl, rfl, rfl⟩, rfl⟩ := hz
        have HA := Lib.hid hadd
        clear hadd
        go_wp2
        have rn' := rn.symm
        go_region_held3 (fun W => W.cell? ⟨g, 4, none⟩ = some (.slice (some ⟨gr, 0, none⟩) n c2) ∧ W.cell? ⟨B, 0, none⟩ = some (.int .i64 z.c) ∧ W.cell? ⟨B, 1, none⟩ = some (.int .i64 z.s) ∧ W.cell? ⟨B, 2, none⟩ = some (.int .i64 z.q)) (go_keep) (fail)
        all_goals
          go_wp2
          go_ret
          have hst := store3 HMc.out.r2 (at' * 3) (at' * 3 + 1) (at' * 3 + 2) (.int .i64 z.c) (.int .i64 z.s) (.int .i64 z.q)
          refine ⟨some gr, by rw [HA.out]; rfl, ?_, below_row bC ⟨hst.2.os, hst.2.tape, hst.2.output, hst.2.size, hst.2.block⟩, .inr (.inr rfl)⟩
          rw [HA.out]
          refine ⟨?_, ?_, ?_⟩
          · exact ((HMc.out.blk.other (p := ⟨gr, at' * 3, none⟩) rn _).other (p := ⟨gr, at' * 3 + 1, none⟩) rn _).other (p := ⟨gr, at' * 3 + 2, none⟩) rn _
          · have s1 := World.ownsRow.stored HMc.out.r2 (at' * 3) (.int .i64 z.c)
            have s2 := World.ownsRow.stored s1.1 (at' * 3 + 1) (.int .i64 z.s)
            exact own_other (own_other (own_other HMc.out.r1 HMc.out.r2 (by decide)) s1.1 (by decide)) s2.1 (by decide)
          · have := hst.1
            rw [momC_set _ _ _ (by rw [hn]; exact hlt)] at this
            simp only [valO, List.length_set]
            exact this
end Go.Proofs.Yteckbgpkoanhfaa.Hb
end

section
/- Add, of any histogram; the chapter's example. -/
namespace Go.Proofs.Yteckbgpkoanhfaa.Hb
open Go.RowKit

theorem add_any (h : H) (base g : Nat) (v1 v2 : Value) (bin t k : Int) (w : World) (hm : HM base g h v1 v2 w) (ho : okH h) (htR : inR t) (hkR : inR k) (hl1 : h.counts.length ≤ 9223372036854775807) (hl2 : h.moms.length ≤ 9223372036854775807) :
    Calls Try.prog 21 #[.pointer (some ⟨g, 0, none⟩), .int .i64 bin, .int .i64 t, .int .i64 k] w (AddP h bin t k base g v1 v2 w) := by
  by_cases hr : rightP h
  · by_cases hb : addBad h bin t
    · exact (add_range h base g v1 v2 bin t k w hm hl1 hl2 hr hb).mono fun e w' ⟨h1, h2⟩ => AddP.err (add_5 hr hb) hm h1 h2
    · by_cases hk : k < 0
      · exact (add_neg h base g v1 v2 bin t k w hm hl1 hl2 hr hb hk).mono fun e w' ⟨h1, h2⟩ => AddP.err (add_1 hr hb hk) hm h1 h2
      · by_cases h0 : h.kind = 0
        · exact add_count h base g v1 v2 bin t k w hm ho hkR hl1 hl2 hr hb hk h0
        · exact add_mom h base g v1 v2 bin t k w hm ho htR hkR hl1 hl2 hr hb hk h0
  · exact (add_bad h base g v1 v2 bin t k w hm hl1 hl2 hr).mono fun e w' ⟨h1, h2⟩ => AddP.err (add_8 hr) hm h1 h2
theorem momO_in {f : Nat} {op : Int → Int → Bool → Except Int Int} (hop : IsOp f op) {x y m : Mom} (h : momO op x y = .ok m) : m.ok := by
  unfold momO at h
  cases h1 : op x.c y.c false with
  | error e1 => rw [h1] at h; cases h
  | ok c =>
    rw [h1] at h; simp only at h
    cases h2 : op x.s y.s true with
    | error e1 => rw [h2] at h; cases h
    | ok s =>
      rw [h2] at h; simp only at h
      cases h3 : op x.q y.q false with
      | error e1 => rw [h3] at h; cases h
      | ok q => rw [h3] at h; cases h; exact ⟨hop.ok h1, hop.ok h2, hop.ok h3⟩
/-- What is behind Add stays within. -/
theorem okH_add {h h' : H} {bin t k : Int} (ho : okH h) (e : addO h bin t k = .ok h') : okH h' := by
  by_cases hr : rightP h
  · by_cases hb : addBad h bin t
    · rw [add_5 hr hb] at e; cases e
    · by_cases hk : k < 0
      · rw [add_1 hr hb hk] at e; cases e
      · by_cases h0 : h.kind = 0
        · rw [add_c hr hb hk h0] at e
          cases hl : lim (h.counts.getD (bin * h.classes + t).toNat 0 + k) with
          | none => rw [hl] at e; cases e
          | some n =>
            rw [hl] at e
            cases e
            have := lim_some hl
            refine ⟨fun x hx => ?_, ho.o2⟩
            rcases List.mem_or_eq_of_mem_set hx with h1 | rfl
            · exact ho.o1 x h1
            · rw [this.1]; exact this.2
        · rw [add_m hr hb hk h0] at e
          cases hm : momentO t k with
          | error e1 => rw [hm] at e; cases e
          | ok m =>
            rw [hm] at e
            simp only at e
            cases hm2 : momO opP (h.moms.getD bin.toNat m0) m with
            | error e1 => rw [hm2] at e; cases e
            | ok m' =>
              rw [hm2] at e
              cases e
              refine ⟨ho.o1, fun x hx => ?_⟩
              rcases List.mem_or_eq_of_mem_set hx with h1 | rfl
              · exact ho.o2 x h1
              · exact momO_in plus_is hm2
  · rw [add_8 hr] at e; cases e
theorem okH_new {k b c : Int} {h : H} (e : newO k b c = .ok h) : okH h := by
  have h0 : inR 0 := ⟨by decide, by decide⟩
  by_cases hm : mayP k b c
  · by_cases hk : k = 0
    · rw [new_0 hm hk] at e; cases e
      exact ⟨fun x hx => by rw [(List.mem_replicate.1 hx).2]; exact h0, fun m hx => by simp at hx⟩
    · rw [new_1 hm hk] at e; cases e
      exact ⟨fun x hx => by simp at hx, fun m hx => by rw [(List.mem_replicate.1 hx).2]; exact ⟨h0, h0, h0⟩⟩
  · rw [new_not hm] at e; cases e
theorem eq_mom (d : Nat) (w : World) (x0 x1 x2 y0 y1 y2 : Int) :
    (Op.equalIn (d + 2) 52 (.agg #[.int .i64 x0, .int .i64 x1, .int .i64 x2]) (.agg #[.int .i64 y0, .int .i64 y1, .int .i64 y2])).run Try.prog w = .ok (x0 == y0 && (x1 == y1 && (x2 == y2 && true))) w := by
  refine eqs_of Try.underlying52 (by kernel_rfl) ?_
  refine eqf_cons (by rfl) (by go_simp; rfl) (by go_simp; rfl) (by go_simp) ?_
  refine eqf_cons (by rfl) (by go_simp; rfl) (by go_simp; rfl) (by go_simp) ?_
  exact eqf_cons (by rfl) (by go_simp; rfl) (by go_simp; rfl) (by go_simp) eqf_nil
def fx0 : H := ⟨1, 2, 0, [], [m0, m0]⟩
def fx1 : H := ⟨1, 2, 0, [], [m0, ⟨2, 6, 18⟩]⟩
theorem fx_new : newO 1 2 0 = .ok fx0 := by rw [new_1 (by decide) (by decide)]; rfl
theorem fx_add : addO fx0 1 3 2 = .ok fx1 := by rw [add_m (by decide) (by decide) (by decide) (by decide)]; rfl
theorem fx_ok : okH fx0 := okH_new fx_new
set_option maxRecDepth 100000 in
set_option maxHeartbeats 4000000 in
theorem fixed12_any (w : World) : Calls Try.prog 16 #[] w fun e w' => e = .returned (.bool true) ∧ Below w.heap.size w w' := by
  have hn := fun w => new_any 1 2 0 w
  rw [fx_new] at hn
  have KN := Lib.hid hn
  clear hn
  go_enter Try.func16, Try.ntmps16
  go_wp2_with fail
  refine (KN.out _).mono ?_
  rintro e w1 ⟨v, rfl, ⟨v1, v2, rfl, r1, r2⟩, hb⟩
  simp only [errO, valO] at r1 r2 ⊢
  obtain ⟨gr, cap, rfl, _, gr1, gr2, _⟩ := own_open r2 (by decide)
  obtain ⟨A1, c1, rfl⟩ := own_slice r1
  go_wp2_with fail
  obtain ⟨W2, e2⟩ : ∃ W2, W2 = w1.alloc (.cells #[.int .i64 fx0.kind, .int .i64 fx0.bins, .int .i64 fx0.classes, .slice A1 fx0.counts.length c1, .slice (some ⟨gr, 0, none⟩) fx0.moms.length cap] 36) := ⟨_, rfl⟩
  rw [← e2]
  have hM : HM w.heap.size w1.heap.size fx0 (.slice A1 fx0.counts.length c1) (.slice (some ⟨gr, 0, none⟩) fx0.moms.length cap) W2 := by
    rw [e2]
    exact ⟨Blk.new _ _ _, r1.alloc _, r2.alloc _⟩
  have bW : Below w.heap.size w W2 := by rw [e2]; exact hb.alloc hb.size _
  obtain ⟨B, hB⟩ : ∃ B, w1.heap.size = B := ⟨_, rfl⟩
  rw [hB] at hM ⊢
  clear e2 r1 r2 hB gr2
  refine (add_any fx0 w.heap.size B _ _ 1 3 2 W2 hM fx_ok (by decide) (by decide) (by decide) (by decide)).mono ?_
  rintro e w3 ⟨row, rfl, hM3, hg3, hrow⟩
  rw [fx_add] at hM3 ⊢
  simp only [errO, valO] at hM3 ⊢
  have b3 : Below w.heap.size w w3 := bW.grown hg3 bW.size (fun k hk => by
    rcases hrow with h | h | h
    · rw [h] at hk; cases hk
    · exact (World.ownsRow.lt hM.r1 k (by rw [← h]; exact hk)).1
    · exact (World.ownsRow.lt hM.r2 k (by rw [← h]; exact hk)).1)
  obtain ⟨q0, q1, q2, q3, q4⟩ := hM3.blk.cells5
  have t1 := own_cell hM3.r2 (j := 3) (u := .int .i64 2) rfl
  have t2 := own_cell hM3.r2 (j := 4) (u := .int .i64 6) rfl
  have t3 := own_cell hM3.r2 (j := 5) (u := .int .i64 18) rfl
  have hq := fun (w : World) x0 x1 x2 y0 y1 y2 => eq_mom 9998 w x0 x1 x2 y0 y1 y2
  clear hM hM3 hg3 hrow
  go_wp2
  go_ret
  exact ⟨rfl, b3⟩
end Go.Proofs.Yteckbgpkoanhfaa.Hb
end

section
/- The walks of the document's answer, layer 12: Same; Merge and Less of the layer itself. -/
namespace Go.Proofs.Yteckbgpkoanhfaa.Hb
open Go.RowKit

theorem boxes3 (w : World) (X1 X2 X3 : Array Value) (t1 t2 t3 : TypeId) (W : World) (h : W = ((w.alloc (.cells X1 t1)).alloc (.cells X2 t2)).alloc (.cells X3 t3)) :
    Blk W (w.heap.size + 1 + 1) X3 t3 ∧ Below w.heap.size w W ∧ W.heap.size = w.heap.size + 1 + 1 + 1 := by
  subst h
  refine ⟨?_, ?_, by simp⟩
  · have := Blk.new ((w.alloc (.cells X1 t1)).alloc (.cells X2 t2)) X3 t3
    simpa using this
  · exact (((Below.refl _ w).alloc (Nat.le_refl _) _).alloc (by simp) _).alloc (by simp; omega) _
theorem boxes2' (w : World) (X1 X2 : Array Value) (t1 t2 : TypeId) (W : World) (h : W = (w.alloc (.cells X1 t1)).alloc (.cells X2 t2)) :
    Blk W w.heap.size X1 t1 ∧ Blk W (w.heap.size + 1) X2 t2 ∧ Below w.heap.size w W ∧ W.heap.size = w.heap.size + 1 + 1 := by
  subst h
  refine ⟨?_, ?_, ?_, by simp⟩
  · exact (Blk.new w X1 t1).below ((Below.refl _ _).alloc (Nat.le_refl _) _)
  · have := Blk.new (w.alloc (.cells X1 t1)) X2 t2
    simpa using this
  · exact ((Below.refl _ w).alloc (Nat.le_refl _) _).alloc (by simp) _
set_option maxRecDepth 100000 in
set_option maxHeartbeats 1000000 in
theorem merge_any {a b : H} {va vb : Value} {w : World} (ra : RdH w a va) (rb : RdH w b vb) : Calls Try.prog 24 #[va, vb] w (ResH (bothO opP a b) w) := by
  obtain ⟨A1, A2, c1, c2, rfl, r1, r2, l1, l2⟩ := ra
  obtain ⟨A3, A4, c3, c4, rfl, r3, r4, l3, l4⟩ := rb
  have hb := fun W (h : Below w.heap.size w W) => both_any 48 opP plus_is a b A1 A2 A3 A4 c1 c2 c3 c4 W l1 l2 l3 l4 (r1.below h) (r2.below h) (r3.below h) (r4.below h)
  unfold hV at hb ⊢
  have HB := Lib.hid hb
  clear hb
  go_enter Try.func24, Try.ntmps24
  go_wp2_with fail
  obtain ⟨W4, e4⟩ : ∃ W4, W4 = ((w.alloc (.cells #[.int .i64 a.kind, .int .i64 a.bins, .int .i64 a.classes, .slice A1 a.counts.length c1, .slice A2 a.moms.length c2] 36)).alloc (.cells #[.int .i64 b.kind, .int .i64 b.bins, .int .i64 b.classes, .slice A3 b.counts.length c3, .slice A4 b.moms.length c4] 36)).alloc (.cells #[.int .i64 0, .int .i64 0, .int .i64 0, .slice none 0 0, .slice none 0 0] 36) := ⟨_, rfl⟩
  rw [← e4]
  obtain ⟨k3, kb, ks⟩ := boxes3 w _ _ _ _ _ _ W4 e4
  clear e4
  refine (HB.out W4 kb).mono ?_
  rintro e w5 ⟨v, rfl, ⟨v1, v2, rfl, o1, o2⟩, hb5⟩
  obtain ⟨B1, d1, rfl⟩ := own_slice o1
  obtain ⟨B2, d2, rfl⟩ := own_slice o2
  have k5 := k3.below hb5
  obtain ⟨p0, p1, p2, p3, p4⟩ := k5.cells5
  have pf := k5.frozen
  have b5 := kb.trans (hb5.mono kb.size)
  have O1 := Lib.hid (World.ownsRow.mono o1 (base' := w.heap.size) kb.size)
  have O2 := Lib.hid (World.ownsRow.mono o2 (base' := w.heap.size) kb.size)
  clear o1 o2
  go_wp2
  refine bodyPost_ret (results_ct rfl _ _ (w.heap.size + 1 + 1) 36 _ _ rfl (set5 k5 _ _ _ _ _) Try.underlying36 rfl size_hist) rfl ?_
  exact ⟨_, rfl, ⟨_, _, rfl, own_set5 O1.out k5 (by decide) _ _ _ _ _, own_set5 O2.out k5 (by decide) _ _ _ _ _⟩, below5 b5 (by omega) _ _ _ _ _⟩
set_option maxRecDepth 100000 in
set_option maxHeartbeats 1000000 in
theorem less_any {a b : H} {va vb : Value} {w : World} (ra : RdH w a va) (rb : RdH w b vb) : Calls Try.prog 30 #[va, vb] w (ResH (bothO opM a b) w) := by
  obtain ⟨A1, A2, c1, c2, rfl, r1, r2, l1, l2⟩ := ra
  obtain ⟨A3, A4, c3, c4, rfl, r3, r4, l3, l4⟩ := rb
  have hb := fun W (h : Below w.heap.size w W) => both_any 54 opM minus_is a b A1 A2 A3 A4 c1 c2 c3 c4 W l1 l2 l3 l4 (r1.below h) (r2.below h) (r3.below h) (r4.below h)
  unfold hV at hb ⊢
  have HB := Lib.hid hb
  clear hb
  go_enter Try.func30, Try.ntmps30
  go_wp2_with fail
  obtain ⟨W4, e4⟩ : ∃ W4, W4 = ((w.alloc (.cells #[.int .i64 a.kind, .int .i64 a.bins, .int .i64 a.classes, .slice A1 a.counts.length c1, .slice A2 a.moms.length c2] 36)).alloc (.cells #[.int .i64 b.kind, .int .i64 b.bins, .int .i64 b.classes, .slice A3 b.counts.length c3, .slice A4 b.moms.length c4] 36)).alloc (.cells #[.int .i64 0, .int .i64 0, .int .i64 0, .slice none 0 0, .slice none 0 0] 36) := ⟨_, rfl⟩
  rw [← e4]
  obtain ⟨k3, kb, ks⟩ := boxes3 w _ _ _ _ _ _ W4 e4
  clear e4
  refine (HB.out W4 kb).mono ?_
  rintro e w5 ⟨v, rfl, ⟨v1, v2, rfl, o1, o2⟩, hb5⟩
  obtain ⟨B1, d1, rfl⟩ := own_slice o1
  obtain ⟨B2, d2, rfl⟩ := own_slice o2
  have k5 := k3.below hb5
  obtain ⟨p0, p1, p2, p3, p4⟩ := k5.cells5
  have pf := k5.frozen
  have b5 := kb.trans (hb5.mono kb.size)
  have O1 := Lib.hid (World.ownsRow.mono o1 (base' := w.heap.size) kb.size)
  have O2 := Lib.hid (World.ownsRow.mono o2 (base' := w.heap.size) kb.size)
  clear o1 o2
  go_wp2
  refine bodyPost_ret (results_ct rfl _ _ (w.heap.size + 1 + 1) 36 _ _ rfl (set5 k5 _ _ _ _ _) Try.underlying36 rfl size_hist) rfl ?_
  exact ⟨_, rfl, ⟨_, _, rfl, own_set5 O1.out k5 (by decide) _ _ _ _ _, own_set5 O2.out k5 (by decide) _ _ _ _ _⟩, below5 b5 (by omega) _ _ _ _ _⟩

theorem decF {a b : H} (h : ¬ a = b) : Ending.returned (.bool false) = .returned (.bool (decide (a = b))) := by rw [decide_eq_false h]
set_option maxRecDepth 100000 in
set_option maxHeartbeats 4000000 in
theorem same_head {a b : H} {va vb : Value} {w : World} (ra : RdH w a va) (rb : RdH w b vb) (hne : ¬ (a.kind = b.kind ∧ a.bins = b.bins ∧ a.classes = b.classes ∧ a.counts.length = b.counts.length ∧ a.moms.length = b.moms.length)) : Calls Try.prog 19 #[va, vb] w fun e w' => e = .returned (.bool (decide (a = b))) ∧ Below w.heap.size w w' := by
  obtain ⟨A1, A2, c1, c2, rfl, r1, r2, l1, l2⟩ := ra
  obtain ⟨A3, A4, c3, c4, rfl, r3, r4, l3, l4⟩ := rb
  unfold hV
  have D := decF (a := a) (b := b) (fun e => hne (by rw [e]; exact ⟨rfl, rfl, rfl, rfl, rfl⟩))
  have hx : (a.kind ≠ b.kind) ∨ (a.kind = b.kind ∧ a.bins ≠ b.bins) ∨ (a.kind = b.kind ∧ a.bins = b.bins ∧ a.classes ≠ b.classes) ∨ (a.kind = b.kind ∧ a.bins = b.bins ∧ a.classes = b.classes ∧ a.counts.length ≠ b.counts.length) ∨ (a.kind = b.kind ∧ a.bins = b.bins ∧ a.classes = b.classes ∧ a.counts.length = b.counts.length ∧ a.moms.length ≠ b.moms.length) := by omega
  have D' := Lib.hid D
  have f1 : ∀ {x y : Int}, x ≠ y → (x != y) = true := fun h => bne_iff_ne.2 h
  have f2 : ∀ {x y : Int}, x = y → (x != y) = false := fun h => bne_eq_false_iff_eq.2 h
  have i1 : ∀ {x y : Nat}, x ≠ y → (x : Int) ≠ y := fun h => by omega
  have i2 : ∀ {x y : Nat}, x = y → (x : Int) = y := fun h => by omega
  clear hne D r1 r2 r3 r4 l1 l2 l3 l4
  rcases hx with x1 | ⟨x1, x2⟩ | ⟨x1, x2, x3⟩ | ⟨x1, x2, x3, x4⟩ | ⟨x1, x2, x3, x4, x5⟩
  · replace x1 := f1 x1
    clear f1 f2 i1 i2
    go_enter Try.func19, Try.ntmps19
    go_wp2
    go_ret
    exact ⟨D'.out, ((Below.refl _ w).alloc (Nat.le_refl _) _).alloc (by simp) _⟩
  · replace x1 := f2 x1
    replace x2 := f1 x2
    clear f1 f2 i1 i2
    go_enter Try.func19, Try.ntmps19
    go_wp2
    go_ret
    exact ⟨D'.out, ((Below.refl _ w).alloc (Nat.le_refl _) _).alloc (by simp) _⟩
  · replace x1 := f2 x1
    replace x2 := f2 x2
    replace x3 := f1 x3
    clear f1 f2 i1 i2
    go_enter Try.func19, Try.ntmps19
    go_wp2
    go_ret
    exact ⟨D'.out, ((Below.refl _ w).alloc (Nat.le_refl _) _).alloc (by simp) _⟩
  · replace x1 := f2 x1
    replace x2 := f2 x2
    replace x3 := f2 x3
    replace x4 := f1 (i1 x4)
    clear f1 f2 i1 i2
    go_enter Try.func19, Try.ntmps19
    go_wp2
    go_ret
    exact ⟨D'.out, ((Below.refl _ w).alloc (Nat.le_refl _) _).alloc (by simp) _⟩
  · replace x1 := f2 x1
    replace x2 := f2 x2
    replace x3 := f2 x3
    replace x4 := f2 (i2 x4)
    replace x5 := f1 (i1 x5)
    clear f1 f2 i1 i2
    go_enter Try.func19, Try.ntmps19
    go_wp2
    go_ret
    exact ⟨D'.out, ((Below.refl _ w).alloc (Nat.le_refl _) _).alloc (by simp) _⟩
end Go.Proofs.Yteckbgpkoanhfaa.Hb
end

section
/- The walk of layer hist: Sum of classes. -/
namespace Go.Proofs.Yteckbgpkoanhfaa.Hb
open Go.RowKit

/-- One bin's counts, added. -/
def sumIn (h : H) (at0 : Nat) : Nat → Nat → List Int → Except Int (List Int)
  | 0, _, cs => .ok cs
  | r + 1, c, cs => match lim (cs.getD c 0 + h.counts.getD (at0 + c) 0) with
    | none => .error 6
    | some x => sumIn h at0 r (c + 1) (cs.set c x)
def sumC (h : H) (n : Nat) : Nat → Nat → List Int → Except Int (List Int)
  | 0, _, cs => .ok cs
  | r + 1, k, cs => match sumIn h (k * n) n 0 cs with
    | .error e => .error e
    | .ok cs' => sumC h n r (k + 1) cs'
def sumM (h : H) : Nat → Nat → Mom → Except Int Mom
  | 0, _, m => .ok m
  | r + 1, k, m => match momO opP m (mAt h.moms k) with
    | .error e => .error e
    | .ok m' => sumM h r (k + 1) m'
def upC : Except Int (List Int) → Except Int (List Int × Mom)
  | .error e => .error e
  | .ok cs => .ok (cs, m0)
def upM : Except Int Mom → Except Int (List Int × Mom)
  | .error e => .error e
  | .ok m => .ok ([], m)
/-- What bins come to. -/
def sumO (h : H) (f t : Int) : Except Int (List Int × Mom) :=
  if rightP h then
    (if f < 0 ∨ f > t ∨ t > h.bins then .error 1
    else if h.kind = 0 then upC (sumC h h.classes.toNat (t.toNat - f.toNat) f.toNat (List.replicate h.classes.toNat 0))
    else upM (sumM h (t.toNat - f.toNat) f.toNat m0))
  else .error 8
theorem sum_8 {h : H} {f t : Int} (hr : ¬ rightP h) : sumO h f t = .error 8 := if_neg hr
theorem sum_1 {h : H} {f t : Int} (hr : rightP h) (hb : f < 0 ∨ f > t ∨ t > h.bins) : sumO h f t = .error 1 := by unfold sumO; rw [if_pos hr, if_pos hb]
theorem sum_c {h : H} {f t : Int} (hr : rightP h) (hb : ¬ (f < 0 ∨ f > t ∨ t > h.bins)) (hk : h.kind = 0) : sumO h f t = upC (sumC h h.classes.toNat (t.toNat - f.toNat) f.toNat (List.replicate h.classes.toNat 0)) := by unfold sumO; rw [if_pos hr, if_neg hb, if_pos hk]
theorem sum_m {h : H} {f t : Int} (hr : rightP h) (hb : ¬ (f < 0 ∨ f > t ∨ t > h.bins)) (hk : ¬ h.kind = 0) : sumO h f t = upM (sumM h (t.toNat - f.toNat) f.toNat m0) := by unfold sumO; rw [if_pos hr, if_neg hb, if_neg hk]
theorem sumIn_none {h : H} {at0 r c : Nat} {cs : List Int} (hl : lim (cs.getD c 0 + h.counts.getD (at0 + c) 0) = none) : sumIn h at0 (r + 1) c cs = .error 6 := by rw [sumIn, hl]
theorem sumIn_some {h : H} {at0 r c : Nat} {cs : List Int} {x : Int} (hl : lim (cs.getD c 0 + h.counts.getD (at0 + c) 0) = some x) : sumIn h at0 (r + 1) c cs = sumIn h at0 r (c + 1) (cs.set c x) := by rw [sumIn, hl]
theorem sumC_err {h : H} {n r k : Nat} {cs : List Int} {e : Int} (hl : sumIn h (k * n) n 0 cs = .error e) : sumC h n (r + 1) k cs = .error e := by rw [sumC, hl]
theorem sumC_ok {h : H} {n r k : Nat} {cs cs' : List Int} (hl : sumIn h (k * n) n 0 cs = .ok cs') : sumC h n (r + 1) k cs = sumC h n r (k + 1) cs' := by rw [sumC, hl]
theorem sumM_err {h : H} {r k : Nat} {m : Mom} {e : Int} (hl : momO opP m (mAt h.moms k) = .error e) : sumM h (r + 1) k m = .error e := by rw [sumM, hl]
theorem sumM_ok {h : H} {r k : Nat} {m m' : Mom} (hl : momO opP m (mAt h.moms k) = .ok m') : sumM h (r + 1) k m = sumM h r (k + 1) m' := by rw [sumM, hl]
/-- What Sum answers. -/
def SumP (r : Except Int (List Int × Mom)) (w : World) (e : Ending) (w' : World) : Prop :=
  ∃ v, e = .returned (.tuple #[v, momV (valO ([], m0) r).2, .int .i64 (errO r)]) ∧ w'.ownsRow w.heap.size 2 1 v (valO ([], m0) r).1.length (ints (valO ([], m0) r).1) ∧ Below w.heap.size w w'
theorem SumP.err {x : Int} {r : Except Int (List Int × Mom)} (hr : r = .error x) {w w' : World} {e : Ending} (he : e = .returned (.tuple #[.slice none 0 0, .agg #[.int .i64 0, .int .i64 0, .int .i64 0], .int .i64 x])) (hb : Below w.heap.size w w') : SumP r w e w' := by
  subst hr
  exact ⟨_, he, World.ownsRow_nil _ _ _ _, hb⟩
/-- Results, the second of which lies in memory. -/
theorem results_tct {P : Program} {fn : Func} {a p u : Tmp} {ty : TypeId} (h : fn.results = #[.tmp a, .cell p ty, .tmp u]) (tmps : Array Value) (w : World) (g : Nat) (t : TypeId) (cs : Array Value) (d : TypeDesc)
    (hp : tmps.getD p undef = .pointer (some ⟨g, 0, none⟩)) (hg : Blk w g cs t)
    (hu : P.underlying ty = some d) (hd : (match d with | .struct _ | .array _ _ => true | _ => false) = true) (hi : (P.info? ty).map (·.size) = some cs.size) :
    (results fn tmps).run P w = .ok (.tuple #[tmps.getD a undef, .agg cs, tmps.getD u undef]) w := by
  have hp' : tmps[p]?.getD undef = .pointer (some ⟨g, 0, none⟩) := by simpa using hp
  simp [results, h, hp', asAddr, run_loadVar_row w g t ty cs (0, 0) d hg hu hd hi]

theorem bad_test {f t b : Int} (h : f < 0 ∨ f > t ∨ t > b) : (decide (f < 0) || (decide (f > t) || decide (t > b))) = true := by simp only [Bool.or_eq_true, decide_eq_true_iff]; omega

set_option maxRecDepth 100000 in
set_option maxHeartbeats 4000000 in
theorem sum_bad (h : H) (A1 A2 : Option Addr) (c1 c2 : Nat) (f t : Int) (w : World) (hl1 : h.counts.length ≤ 9223372036854775807) (hl2 : h.moms.length ≤ 9223372036854775807) (hr : ¬ rightP h) :
    Calls Try.prog 25 #[hV h A1 A2 c1 c2, .int .i64 f, .int .i64 t] w (SumP (sumO h f t) w) := by
  have ra := fun w => right_any h A1 A2 c1 c2 w hl1 hl2
  rw [show rightB h = false from decide_eq_false hr] at ra
  have RA := Lib.hid ra
  have HS := Lib.hid (sum_8 (f := f) (t := t) hr)
  unfold hV at RA ⊢
  clear ra hl1 hl2 hr
  go_enter Try.func25, Try.ntmps25
  go_wp2_with fail
  obtain ⟨W2, e2⟩ : ∃ W2, W2 = (w.alloc (.cells #[.int .i64 h.kind, .int .i64 h.bins, .int .i64 h.classes, .slice A1 h.counts.length c1, .slice A2 h.moms.length c2] 36)).alloc (.cells #[.int .i64 0, .int .i64 0, .int .i64 0] 52) := ⟨_, rfl⟩
  rw [← e2]
  obtain ⟨k0, k1, kb, ks⟩ := boxes2' w _ _ _ _ W2 e2
  clear e2
  refine (RA.out _).mono ?_
  rintro e w1 ⟨rfl, hb⟩
  replace k1 := k1.below hb
  replace kb := kb.trans (hb.mono kb.size)
  obtain ⟨q0, q1, q2⟩ := cells3 k1
  have qf := k1.frozen
  go_wp2
  refine bodyPost_ret (results_tct rfl _ _ (w.heap.size + 1) 52 _ _ rfl (set3 k1 _ _ _) Try.underlying52 rfl size_mom) rfl ?_
  exact SumP.err HS.out rfl (below3 kb (by omega) _ _ _)

set_option maxRecDepth 100000 in
set_option maxHeartbeats 4000000 in
theorem sum_range (h : H) (A1 A2 : Option Addr) (c1 c2 : Nat) (f t : Int) (w : World) (hl1 : h.counts.length ≤ 9223372036854775807) (hl2 : h.moms.length ≤ 9223372036854775807) (hr : rightP h) (hbad : f < 0 ∨ f > t ∨ t > h.bins) :
    Calls Try.prog 25 #[hV h A1 A2 c1 c2, .int .i64 f, .int .i64 t] w (SumP (sumO h f t) w) := by
  have ra := fun w => right_any h A1 A2 c1 c2 w hl1 hl2
  rw [show rightB h = true from decide_eq_true hr] at ra
  have RA := Lib.hid ra
  have HS := Lib.hid (sum_1 (f := f) (t := t) hr hbad)
  unfold hV at RA ⊢
  have hx : (f < 0) ∨ (¬ f < 0 ∧ f > t) ∨ (¬ f < 0 ∧ ¬ f > t ∧ t > h.bins) := by omega
  clear ra hl1 hl2 hr hbad
  rcases hx with x1 | ⟨x1, x2⟩ | ⟨x1, x2, x3⟩
  · have d1 : decide (f < 0) = true := decide_eq_true x1
    clear x1
    go_enter Try.func25, Try.ntmps25
    go_wp2_with fail
    obtain ⟨W2, e2⟩ : ∃ W2, W2 = (w.alloc (.cells #[.int .i64 h.kind, .int .i64 h.bins, .int .i64 h.classes, .slice A1 h.counts.length c1, .slice A2 h.moms.length c2] 36)).alloc (.cells #[.int .i64 0, .int .i64 0, .int .i64 0] 52) := ⟨_, rfl⟩
    rw [← e2]
    obtain ⟨k0, k1, kb, ks⟩ := boxes2' w _ _ _ _ W2 e2
    clear e2
    refine (RA.out _).mono ?_
    rintro e w1 ⟨rfl, hb⟩
    replace k0 := k0.below hb
    replace k1 := k1.below hb
    replace kb := kb.trans (hb.mono kb.size)
    obtain ⟨p0, p1, p2, p3, p4⟩ := k0.cells5
    obtain ⟨q0, q1, q2⟩ := cells3 k1
    have qf := k1.frozen
    go_wp2
    refine bodyPost_ret (results_tct rfl _ _ (w.heap.size + 1) 52 _ _ rfl (set3 k1 _ _ _) Try.underlying52 rfl size_mom) rfl ?_
    exact SumP.err HS.out rfl (below3 kb (by omega) _ _ _)
  · have d1 : decide (f < 0) = false := decide_eq_false x1
    have d2 : decide (t < f) = true := decide_eq_true x2
    clear x1 x2
    go_enter Try.func25, Try.ntmps25
    go_wp2_with fail
    obtain ⟨W2, e2⟩ : ∃ W2, W2 = (w.alloc (.cells #[.int .i64 h.kind, .int .i64 h.bins, .int .i64 h.classes, .slice A1 h.counts.length c1, .slice A2 h.moms.length c2] 36)).alloc (.cells #[.int .i64 0, .int .i64 0, .int .i64 0] 52) := ⟨_, rfl⟩
    rw [← e2]
    obtain ⟨k0, k1, kb, ks⟩ := boxes2' w _ _ _ _ W2 e2
    clear e2
    refine (RA.out _).mono ?_
    rintro e w1 ⟨rfl, hb⟩
    replace k0 := k0.below hb
    replace k1 := k1.below hb
    replace kb := kb.trans (hb.mono kb.size)
    obtain ⟨p0, p1, p2, p3, p4⟩ := k0.cells5
    obtain ⟨q0, q1, q2⟩ := cells3 k1
    have qf := k1.frozen
    go_wp2
    refine bodyPost_ret (results_tct rfl _ _ (w.heap.size + 1) 52 _ _ rfl (set3 k1 _ _ _) Try.underlying52 rfl size_mom) rfl ?_
    exact SumP.err HS.out rfl (below3 kb (by omega) _ _ _)
  · have d1 : decide (f < 0) = false := decide_eq_false x1
    have d2 : decide (t < f) = false := decide_eq_false x2
    have d3 : decide (h.bins < t) = true := decide_eq_true x3
    clear x1 x2 x3
    go_enter Try.func25, Try.ntmps25
    go_wp2_with fail
    obtain ⟨W2, e2⟩ : ∃ W2, W2 = (w.alloc (.cells #[.int .i64 h.kind, .int .i64 h.bins, .int .i64 h.classes, .slice A1 h.counts.length c1, .slice A2 h.moms.length c2] 36)).alloc (.cells #[.int .i64 0, .int .i64 0, .int .i64 0] 52) := ⟨_, rfl⟩
    rw [← e2]
    obtain ⟨k0, k1, kb, ks⟩ := boxes2' w _ _ _ _ W2 e2
    clear e2
    refine (RA.out _).mono ?_
    rintro e w1 ⟨rfl, hb⟩
    replace k0 := k0.below hb
    replace k1 := k1.below hb
    replace kb := kb.trans (hb.mono kb.size)
    obtain ⟨p0, p1, p2, p3, p4⟩ := k0.cells5
    obtain ⟨q0, q1, q2⟩ := cells3 k1
    have qf := k1.frozen
    go_wp2
    refine bodyPost_ret (results_tct rfl _ _ (w.heap.size + 1) 52 _ _ rfl (set3 k1 _ _ _) Try.underlying52 rfl size_mom) rfl ?_
    exact SumP.err HS.out rfl (below3 kb (by omega) _ _ _)

/-- The blocks of a call of Sum. -/
structure SB (x0 x1 x2 x3 x4 : Value) (m : Mom) (n gA : Nat) (w W : World) : Prop where
  b0 : Blk W n #[x0, x1, x2, x3, x4] 36
  b1 : Blk W (n + 1) #[.int .i64 0, .int .i64 0, .int .i64 0] 52
  b2 : Blk W gA #[.int .i64 m.c, .int .i64 m.s, .int .i64 m.q] 52
  be : Below n w W
  lt : n + 1 < gA
theorem SB.below {x0 x1 x2 x3 x4 : Value} {m : Mom} {n gA : Nat} {w W W1 : World} (h : SB x0 x1 x2 x3 x4 m n gA w W) (hb : Below W.heap.size W W1) : SB x0 x1 x2 x3 x4 m n gA w W1 :=
  ⟨h.b0.below hb, h.b1.below hb, h.b2.below hb, h.be.trans (hb.mono (by have := h.b0.lt; omega)), h.lt⟩
theorem SB.drewN {x0 x1 x2 x3 x4 : Value} {m : Mom} {n gA : Nat} {w W : World} (h : SB x0 x1 x2 x3 x4 m n gA w W) (k : Nat) : SB x0 x1 x2 x3 x4 m n gA w (W.drewN k) :=
  ⟨h.b0.drewN k, h.b1.drewN k, h.b2.drewN k, below_drewN h.be k, h.lt⟩
theorem SB.store {x0 x1 x2 x3 x4 : Value} {m : Mom} {n gA gr c nn i : Nat} {w W : World} {xs : List Value} {u : Value} (h : SB x0 x1 x2 x3 x4 m n gA w W) (ho : W.ownsRow n 2 1 (.slice (some ⟨gr, 0, none⟩) nn c) nn xs) : SB x0 x1 x2 x3 x4 m n gA w (W.setCell ⟨gr, i, none⟩ u) :=
  ⟨h.b0.other (p := ⟨gr, i, none⟩) (row_ne h.b0 ho (by decide)) _, h.b1.other (p := ⟨gr, i, none⟩) (row_ne h.b1 ho (by decide)) _, h.b2.other (p := ⟨gr, i, none⟩) (row_ne h.b2 ho (by decide)) _, h.be.setCell (p := ⟨gr, i, none⟩) (World.ownsRow.lt ho gr rfl).1 _, h.lt⟩
theorem SB.cells {x0 x1 x2 x3 x4 : Value} {m : Mom} {n gA : Nat} {w W : World} (h : SB x0 x1 x2 x3 x4 m n gA w W) :
    (W.cell? ⟨n, 0, none⟩ = some x0 ∧ W.cell? ⟨n, 1, none⟩ = some x1 ∧ W.cell? ⟨n, 2, none⟩ = some x2 ∧ W.cell? ⟨n, 3, none⟩ = some x3 ∧ W.cell? ⟨n, 4, none⟩ = some x4) ∧
    (W.cell? ⟨n + 1, 0, none⟩ = some (.int .i64 0) ∧ W.cell? ⟨n + 1, 1, none⟩ = some (.int .i64 0) ∧ W.cell? ⟨n + 1, 2, none⟩ = some (.int .i64 0)) ∧
    (W.cell? ⟨gA, 0, none⟩ = some (.int .i64 m.c) ∧ W.cell? ⟨gA, 1, none⟩ = some (.int .i64 m.s) ∧ W.cell? ⟨gA, 2, none⟩ = some (.int .i64 m.q)) ∧
    (∀ i, W.frozen? ⟨n + 1, i, none⟩ = false) ∧ (∀ i, W.frozen? ⟨gA, i, none⟩ = false) := ⟨h.b0.cells5, cells3 h.b1, cells3 h.b2, h.b1.frozen, h.b2.frozen⟩
theorem blk_grown' {w w' : World} {g : Nat} {cs : Array Value} {t : TypeId} (h : Blk w g cs t) (hg : w.grownBy w' none) : Blk w' g cs t := (hg.block g h.lt (by simp)).trans h
theorem set_inR {cs : List Int} {i : Nat} {x : Int} (h : ∀ y ∈ cs, inR y) (hx : inR x) : ∀ y ∈ cs.set i x, inR y := by
  intro y hy
  rcases List.mem_or_eq_of_mem_set hy with hy | rfl
  · exact h y hy
  · exact hx
theorem getD_inR {cs : List Int} {i : Nat} (h : ∀ y ∈ cs, inR y) (hi : i < cs.length) : inR (cs.getD i 0) := by
  rw [List.getD_eq_getElem?_getD, List.getElem?_eq_getElem hi]
  exact h _ (List.getElem_mem hi)
theorem ints_at {cs : List Int} {i : Nat} (hi : i < cs.length) : (ints cs)[i]? = some (.int .i64 (cs.getD i 0)) := by
  simp [ints, List.getD_eq_getElem?_getD, List.getElem?_eq_getElem hi]
theorem sum_at {k n c b : Nat} (h1 : k < b) (h2 : c < n) : k * n + c < b * n := by
  have : (k + 1) * n ≤ b * n := Nat.mul_le_mul_right _ h1
  rw [Nat.add_mul, Nat.one_mul] at this
  omega
end Go.Proofs.Yteckbgpkoanhfaa.Hb
end

section
/- The walk of layer hist: Sum of classes, its loops. -/
namespace Go.Proofs.Yteckbgpkoanhfaa.Hb
open Go.RowKit

set_option maxRecDepth 100000 in
set_option maxHeartbeats 8000000 in
theorem sum_count (b n : Nat) (cnt : List Int) (ms : List Mom) (A1 A2 : Option Addr) (c1 c2 : Nat) (f t : Nat) (w : World) (r1 : RdI w A1 cnt) (hl2 : ms.length ≤ 9223372036854775807) (hr : rightP ⟨0, b, n, cnt, ms⟩) (hft : f ≤ t) (htb : t ≤ b) (hn : n ≤ 256) (hb257 : b ≤ 257) (hlen : cnt.length = b * n) :
    Calls Try.prog 25 #[hV ⟨0, b, n, cnt, ms⟩ A1 A2 c1 c2, .int .i64 f, .int .i64 t] w (SumP (upC (sumC ⟨0, b, n, cnt, ms⟩ n (t - f) f (List.replicate n 0))) w) := by
  obtain ⟨i0, hi, hz0, hz1, hz2⟩ := info_parts info_int
  have hbn : b * n ≤ 65792 := by have := Nat.mul_le_mul hb257 hn; omega
  have ra := fun w => right_any ⟨0, b, n, cnt, ms⟩ A1 A2 c1 c2 w (by show cnt.length ≤ _; omega) hl2
  rw [show rightB ⟨0, b, n, cnt, ms⟩ = true from decide_eq_true hr] at ra
  unfold hV at ra ⊢
  simp only at ra ⊢
  obtain ⟨L, hL⟩ : ∃ L, cnt.length = L := ⟨_, rfl⟩
  rw [hL] at ra hlen ⊢
  have HL := Lib.hid hL
  have RA := Lib.hid ra
  have HR1 := Lib.hid r1
  obtain ⟨S, hS⟩ : ∃ S, sumC ⟨0, b, n, cnt, ms⟩ n (t - f) f (List.replicate n 0) = S := ⟨_, rfl⟩
  rw [hS]
  have HS := Lib.hid hS
  have d1 : decide ((f : Int) < 0) = false := decide_eq_false (by omega)
  have d2 : decide (t < f) = false := decide_eq_false (by omega)
  have d3 : decide (b < t) = false := decide_eq_false (by omega)
  have hL65 : L ≤ 65792 := by omega
  have HLEN := Lib.hid hlen
  clear ra r1 hr hl2 hL hS hlen
  have zn : (n : Int).toNat = n := Int.toNat_natCast n
  go_enter Try.func25, Try.ntmps25
  go_wp2_with fail
  obtain ⟨W2, e2⟩ : ∃ W2, W2 = (w.alloc (.cells #[.int .i64 0, .int .i64 b, .int .i64 n, .slice A1 L c1, .slice A2 ms.length c2] 36)).alloc (.cells #[.int .i64 0, .int .i64 0, .int .i64 0] 52) := ⟨_, rfl⟩
  rw [← e2]
  obtain ⟨k0, k1, kb, ks⟩ := boxes2' w _ _ _ _ W2 e2
  clear e2
  refine (RA.out _).mono ?_
  rintro e w1 ⟨rfl, hb⟩
  replace k0 := k0.below hb
  replace k1 := k1.below hb
  replace kb := kb.trans (hb.mono kb.size)
  clear hb ks
  obtain ⟨p0, p1, p2, p3, p4⟩ := k0.cells5
  go_wp2_with (at_make; refine wpList_make_full _ rfl _ _ 33 rfl w.heap.size 2 i0 (.int .i64 0) 1 Try.underlying33 hi hz0 hz1 .i64 .i64 _ _ n rfl rfl rfl rfl (by rw [hz2]; omega) (by unfold maxLen; omega) kb.size ?_; intro w2 hown hgrow)
  have hb2 : Below w.heap.size w w2 := kb.grown hgrow kb.size (fun k hk => by cases hk)
  have s12 : w1.heap.size ≤ w2.heap.size := hgrow.size
  have hw1 : w.heap.size ≤ w1.heap.size := kb.size
  have kl := k1.lt
  have k0' := blk_grown' k0 hgrow
  have k1' := blk_grown' k1 hgrow
  obtain ⟨W3, e3⟩ : ∃ W3, W3 = w2.alloc (.cells #[.int .i64 0, .int .i64 0, .int .i64 0] 52) := ⟨_, rfl⟩
  rw [← e3]
  have sb : SB (.int .i64 0) (.int .i64 b) (.int .i64 n) (.slice A1 L c1) (.slice A2 ms.length c2) m0 w.heap.size w2.heap.size w W3 := by
    rw [e3]
    exact ⟨k0'.below ((Below.refl _ _).alloc (Nat.le_refl _) _), k1'.below ((Below.refl _ _).alloc (Nat.le_refl _) _), Blk.new _ _ _, hb2.alloc hb2.size _, Nat.lt_of_lt_of_le kl s12⟩
  have hrow : W3.ownsRow w.heap.size 2 1 (.slice (some ⟨w1.heap.size, 0, none⟩) n n) n (ints (List.replicate n 0)) := by
    rw [e3, ints_zeros, ← toList_madeCells_one]
    rw [Nat.mul_one] at hown
    exact hown.alloc _
  obtain ⟨gA, hgA⟩ : ∃ gA, w2.heap.size = gA := ⟨_, rfl⟩
  obtain ⟨gr, hgr⟩ : ∃ gr, w1.heap.size = gr := ⟨_, rfl⟩
  rw [hgA] at sb ⊢
  rw [hgr] at hrow ⊢
  clear e3 hown hgrow hb2 k0 k1 k0' k1' kl kb hgA hgr s12 hw1 p0 p1 p2 p3 p4 hi hz0 hz1 hz2 zn
  go_loopw [11] (fun iv wr => ∃ (k : Nat) (cs : List Int), f ≤ k ∧ k ≤ t ∧ iv = .int .i64 k ∧ Hid (cs.length = n) ∧ Hid (∀ y ∈ cs, inR y) ∧ Hid (sumC ⟨0, b, n, cnt, ms⟩ n (t - k) k cs = S) ∧ wr.ownsRow w.heap.size 2 1 (.slice (some ⟨gr, 0, none⟩) n n) n (ints cs) ∧ SB (.int .i64 0) (.int .i64 b) (.int .i64 n) (.slice A1 L c1) (.slice A2 ms.length c2) m0 w.heap.size gA w wr) (fun iv _ => t - (intOf iv).toNat)
  case atStart => exact ⟨f, List.replicate n 0, Nat.le_refl _, hft, rfl, Lib.hid (by simp), Lib.hid (by intro y hy; rw [List.eq_of_mem_replicate hy]; decide), HS, hrow, sb⟩
  case round =>
    obtain ⟨k, cs, hfk, hkt, rfl, HCL, HCR, HSC, hro, hsb⟩ := hrel
    by_cases hlt : k < t
    · obtain ⟨wo, rfl⟩ : ∃ wo : World, wo = wr := ⟨_, rfl⟩
      clear hrow sb
      go_wp2
      go_loopw [51] (fun cv wr => ∃ (c : Nat) (ds : List Int), c ≤ n ∧ cv = .int .i64 c ∧ Hid (ds.length = n) ∧ Hid (∀ y ∈ ds, inR y) ∧ Hid (sumIn ⟨0, b, n, cnt, ms⟩ (k * n) n 0 cs = sumIn ⟨0, b, n, cnt, ms⟩ (k * n) (n - c) c ds) ∧ wr.ownsRow w.heap.size 2 1 (.slice (some ⟨gr, 0, none⟩) n n) n (ints ds) ∧ SB (.int .i64 0) (.int .i64 b) (.int .i64 n) (.slice A1 L c1) (.slice A2 ms.length c2) m0 w.heap.size gA w wr) (fun cv _ => n - (intOf cv).toNat)
      case atStart => exact ⟨0, cs, by omega, rfl, HCL, HCR, Lib.hid rfl, hro, hsb⟩
      case round =>
        obtain ⟨c, ds, hcn, rfl, HDL, HDR, HIN, hrd, hsd⟩ := hrel
        obtain ⟨⟨p0, p1, p2, p3, p4⟩, ⟨q0, q1, q2⟩, ⟨a0, a1, a2⟩, qf, af⟩ := hsd.cells
        by_cases hlc : c < n
        · have hat := sum_at (k := k) (b := b) (show k < b by omega) hlc
          obtain ⟨P, hP⟩ : ∃ P, k * n = P := ⟨_, rfl⟩
          have hPi : (k : Int) * (n : Int) = (P : Int) := by rw [← hP]; simp
          rw [hP] at hat
          rw [← HLEN.out] at hat
          have hr1 := (HR1.out.below hsd.be).at (k := P + c) (by rw [HL.out]; exact hat)
          have hx1 := (HR1.out).inR (k := P + c) (by rw [HL.out]; exact hat)
          obtain ⟨ad, rfl, hr2⟩ := hr1
          have x1 := hr2 (P + c) (by rw [HL.out]; exact hat)
          have x2 := own_cell hrd (ints_at (i := c) (by rw [HDL.out]; exact hlc))
          have hx2 := getD_inR HDR.out (i := c) (by rw [HDL.out]; exact hlc)
          have xf := World.ownsRow.frozenAt hrd c
          obtain ⟨u, hu⟩ : ∃ u, ds.getD c 0 = u := ⟨_, rfl⟩
          obtain ⟨v, hv⟩ : ∃ v, cnt.getD (P + c) 0 = v := ⟨_, rfl⟩
          rw [hu] at x2 hx2
          rw [hv] at x1 hx1
          have hp := fun w => pplus_any u v hx2 hx1 w
          have hnc : n - c = (n - (c + 1)) + 1 := by omega
          have w4 : (P : Int) + (c : Int) < L := by omega
          have w3 : 0 ≤ (P : Int) + (c : Int) := by omega
          have w2 : ((P : Int) + (c : Int)).toNat = P + c := by omega
          have w0 : IntKind.i64.wrap ((k : Int) * (n : Int)) = (P : Int) := by rw [hPi]; exact IntWalk.i64_in _ ⟨by omega, by omega⟩
          have w1 : IntKind.i64.wrap ((P : Int) + (c : Int)) = (P : Int) + c := IntWalk.i64_in _ ⟨by clear w0; omega, by clear w0; omega⟩
          cases hlim : lim (u + v) with
          | none =>
            rw [hlim] at hp
            simp only [res] at hp
            have HP := Lib.hid hp
            have HE := Lib.hid (sumIn_none (h := ⟨0, b, n, cnt, ms⟩) (at0 := k * n) (r := n - (c + 1)) (c := c) (cs := ds) (by rw [hu, hP]; show lim (u + cnt.getD (P + c) 0) = none; rw [hv]; exact hlim))
            rw [hnc] at HIN
            have HNC := Lib.hid hnc
            clear hp hlim hnc hu hv hP hPi hr2 hx1 hx2
            go_wp2
            go_quiet ((go_at_call 45; exact Calls.quiet_of_same ((HP.out _).mono fun _ _ h => ⟨h.1, h.2.symm⟩)))
            go_wp2
            refine bodyPost_ret (results_tct rfl _ _ (w.heap.size + 1) 52 _ _ rfl (set3 (hsd.drewN _).b1 _ _ _) Try.underlying52 rfl size_mom) rfl ?_
            refine SumP.err (x := 6) ?_ rfl (below3 (hsd.drewN _).be (by omega) _ _ _)
            rw [← HSC.out, show t - k = (t - (k + 1)) + 1 by omega, sumC_err (HIN.out.trans HE.out)]
            rfl
          | some z =>
            rw [hlim] at hp
            simp only [res] at hp
            have HP := Lib.hid hp
            have HE := Lib.hid (sumIn_some (h := ⟨0, b, n, cnt, ms⟩) (at0 := k * n) (r := n - (c + 1)) (c := c) (cs := ds) (x := z) (by rw [hu, hP]; show lim (u + cnt.getD (P + c) 0) = some z; rw [hv]; exact hlim))
            have HZ := Lib.hid (show inR z by have := lim_some hlim; rw [this.1]; exact this.2)
            rw [hnc] at HIN
            clear hp hlim hnc hu hv hP hPi hr2 hx1 hx2
            go_wp2
            go_quiet ((go_at_call 45; exact Calls.quiet_of_same ((HP.out _).mono fun _ _ h => ⟨h.1, h.2.symm⟩)))
            go_wp2
            go_roundw
            case rel => exact ⟨c + 1, ds.set c z, hlc, by go_num, Lib.hid (by rw [List.length_set]; exact HDL.out), Lib.hid (set_inR HDR.out HZ.out), Lib.hid (HIN.out.trans HE.out), by rw [← ints_set]; exact (World.ownsRow.stored (own_drewN hrd _) c (.int .i64 z)).1, (hsd.drewN _).store (own_drewN hrd _)⟩
            case measure => simp [intOf]; omega
        · obtain rfl : c = n := by omega
          have HE := Lib.hid (HIN.out.trans (by rw [Nat.sub_self]; rfl : _ = .ok ds))
          clear hlc
          go_wp2
          go_roundw
          case rel => exact ⟨k + 1, ds, by omega, hlt, by go_num, HDL, HDR, Lib.hid (by rw [← HSC.out, show t - k = (t - (k + 1)) + 1 by omega, sumC_ok HE.out]), hrd, hsd⟩
          case measure => simp [intOf]; omega
    · obtain rfl : k = t := by omega
      obtain ⟨⟨p0, p1, p2, p3, p4⟩, ⟨q0, q1, q2⟩, ⟨a0, a1, a2⟩, qf, af⟩ := hsb.cells
      have HE := Lib.hid (HSC.out.symm.trans (by rw [Nat.sub_self]; rfl : _ = .ok cs))
      replace a0 : wr.cell? ⟨gA, 0, none⟩ = some (.int .i64 0) := a0
      replace a1 : wr.cell? ⟨gA, 1, none⟩ = some (.int .i64 0) := a1
      replace a2 : wr.cell? ⟨gA, 2, none⟩ = some (.int .i64 0) := a2
      have lA := hsb.lt
      have n1 : w.heap.size + 1 ≠ gA := by omega
      have n2 : gA ≠ w.heap.size + 1 := by omega
      clear hlt
      go_wp2
      go_region_held3 (fun W => W.cell? ⟨gA, 0, none⟩ = some (.int .i64 0) ∧ W.cell? ⟨gA, 1, none⟩ = some (.int .i64 0) ∧ W.cell? ⟨gA, 2, none⟩ = some (.int .i64 0)) (go_keep) (fail)
      all_goals
        go_wp2
        refine bodyPost_ret (results_tct rfl _ _ (w.heap.size + 1) 52 _ _ rfl (set3 hsb.b1 _ _ _) Try.underlying52 rfl size_mom) rfl ?_
        have hS := HE.out
        refine ⟨.slice (some ⟨gr, 0, none⟩) n n, ?_, ?_, below3 (hsb.drewN 1).be (by omega) _ _ _⟩
        · rw [hS]; rfl
        · rw [hS]
          show World.ownsRow _ _ _ _ _ cs.length (ints cs)
          rw [HCL.out]
          exact own_set (own_set (own_set (own_drewN hro 1) (hsb.drewN 1).b1 (by decide)) ((hsb.drewN 1).b1.set 0 _) (by decide)) (((hsb.drewN 1).b1.set 0 _).set 1 _) (by decide)
end Go.Proofs.Yteckbgpkoanhfaa.Hb
end

section
/- The walk of layer hist: Sum of means. -/
namespace Go.Proofs.Yteckbgpkoanhfaa.Hb
open Go.RowKit

theorem moments_b (f : Nat) (w : World) : Calls Try.prog 47 #[.func (.func f) #[] #[]] w fun e w' => e = .returned (.func (.func 67) #[] #[.pointer (some ⟨w.heap.size, 0, none⟩)]) ∧ w'.cell? ⟨w.heap.size, 0, none⟩ = some (.func (.func f) #[] #[]) ∧ Below w.heap.size w w' ∧ w.heap.size < w'.heap.size := by
  refine (moments_any f w).mono ?_
  rintro e w' ⟨rfl, rfl⟩
  exact ⟨rfl, (Blk.new w #[.func (.func f) #[] #[]] 109).cells1, (Below.refl _ _).alloc (Nat.le_refl _) _, by simp⟩
theorem relS1 {wr w3 w1 : World} {t : TypeId} (z0 z1 z2 a b c : Value) (h3 : Below (wr.alloc (.cells #[z0, z1, z2] t)).drew.heap.size (wr.alloc (.cells #[z0, z1, z2] t)).drew w3) (hb : Below w3.heap.size w3 w1) :
    Blk (((w1.setCell ⟨wr.heap.size, 0, none⟩ a).setCell ⟨wr.heap.size, 1, none⟩ b).setCell ⟨wr.heap.size, 2, none⟩ c) wr.heap.size #[a, b, c] t ∧ wr.heap.size ≤ wr.heap.size ∧
    Below wr.heap.size wr (((w1.setCell ⟨wr.heap.size, 0, none⟩ a).setCell ⟨wr.heap.size, 1, none⟩ b).setCell ⟨wr.heap.size, 2, none⟩ c) := by
  have h0 : Blk (wr.alloc (.cells #[z0, z1, z2] t)).drew wr.heap.size #[z0, z1, z2] t := Blk.new wr #[z0, z1, z2] t
  have h2 : Below wr.heap.size wr (wr.alloc (.cells #[z0, z1, z2] t)).drew := ((Below.refl _ wr).alloc (Nat.le_refl _) _).drew
  have h5 := h2.trans (h3.mono h2.size)
  exact ⟨set3 ((h0.below h3).below hb) a b c, Nat.le_refl _, below3 (h5.trans (hb.mono h5.size)) (Nat.le_refl _) a b c⟩
theorem relS2 {wr w3 w1 : World} {t : TypeId} (z0 z1 z2 a b c : Value) (h3 : Below wr.drew.heap.size wr.drew w3) (hb : Below (w3.alloc (.cells #[z0, z1, z2] t)).heap.size (w3.alloc (.cells #[z0, z1, z2] t)) w1) :
    Blk (((w1.setCell ⟨w3.heap.size, 0, none⟩ a).setCell ⟨w3.heap.size, 1, none⟩ b).setCell ⟨w3.heap.size, 2, none⟩ c) w3.heap.size #[a, b, c] t ∧ wr.heap.size ≤ w3.heap.size ∧
    Below wr.heap.size wr (((w1.setCell ⟨w3.heap.size, 0, none⟩ a).setCell ⟨w3.heap.size, 1, none⟩ b).setCell ⟨w3.heap.size, 2, none⟩ c) := by
  have h0 : Blk (w3.alloc (.cells #[z0, z1, z2] t)) w3.heap.size #[z0, z1, z2] t := Blk.new w3 #[z0, z1, z2] t
  have h4 : Below wr.heap.size wr w3 := ((Below.refl _ wr).drew).trans h3
  have h2 : Below wr.heap.size wr (w3.alloc (.cells #[z0, z1, z2] t)) := h4.alloc h4.size _
  exact ⟨set3 (h0.below hb) a b c, h4.size, below3 (h2.trans (hb.mono h2.size)) h4.size a b c⟩
theorem relS3 {wr w3 w1 : World} {t : TypeId} (a b c : Value) (h3 : Below wr.drew.heap.size wr.drew w3) (hb : Below w3.heap.size w3 w1) :
    Blk (w1.alloc (.cells #[a, b, c] t)) w1.heap.size #[a, b, c] t ∧ wr.heap.size ≤ w1.heap.size ∧ Below wr.heap.size wr (w1.alloc (.cells #[a, b, c] t)) := by
  have h4 : Below wr.heap.size wr w3 := ((Below.refl _ wr).drew).trans h3
  have h5 := h4.trans (hb.mono h4.size)
  exact ⟨Blk.new _ _ _, h5.size, h5.alloc h5.size _⟩
theorem SB.all {x0 x1 x2 x3 x4 : Value} {m m' : Mom} {n gA : Nat} {w W : World} (h : SB x0 x1 x2 x3 x4 m n gA w W) : SB x0 x1 x2 x3 x4 m' n gA w (((W.setCell ⟨gA, 0, none⟩ (.int .i64 m'.c)).setCell ⟨gA, 1, none⟩ (.int .i64 m'.s)).setCell ⟨gA, 2, none⟩ (.int .i64 m'.q)) where
  b0 := ((h.b0.other (p := ⟨gA, 0, none⟩) (by have := h.lt; show n ≠ gA; omega) _).other (p := ⟨gA, 1, none⟩) (by have := h.lt; show n ≠ gA; omega) _).other (p := ⟨gA, 2, none⟩) (by have := h.lt; show n ≠ gA; omega) _
  b1 := ((h.b1.other (p := ⟨gA, 0, none⟩) (by have := h.lt; show n + 1 ≠ gA; omega) _).other (p := ⟨gA, 1, none⟩) (by have := h.lt; show n + 1 ≠ gA; omega) _).other (p := ⟨gA, 2, none⟩) (by have := h.lt; show n + 1 ≠ gA; omega) _
  b2 := set3 h.b2 _ _ _
  be := below3 h.be (by have := h.lt; omega) _ _ _
  lt := h.lt

set_option maxRecDepth 100000 in
set_option maxHeartbeats 8000000 in
theorem sum_moms (b : Nat) (cnt : List Int) (ms : List Mom) (A1 A2 : Option Addr) (c1 c2 : Nat) (f t : Nat) (w : World) (r2 : RdM w A2 ms) (hl1 : cnt.length ≤ 9223372036854775807) (hr : rightP ⟨1, b, 0, cnt, ms⟩) (hft : f ≤ t) (htb : t ≤ b) (hb257 : b ≤ 257) (hlen : ms.length = b) :
    Calls Try.prog 25 #[hV ⟨1, b, 0, cnt, ms⟩ A1 A2 c1 c2, .int .i64 f, .int .i64 t] w (SumP (upM (sumM ⟨1, b, 0, cnt, ms⟩ (t - f) f m0)) w) := by
  have ra := fun w => right_any ⟨1, b, 0, cnt, ms⟩ A1 A2 c1 c2 w hl1 (by show ms.length ≤ _; omega)
  rw [show rightB ⟨1, b, 0, cnt, ms⟩ = true from decide_eq_true hr] at ra
  unfold hV at ra ⊢
  simp only at ra ⊢
  obtain ⟨L, hL⟩ : ∃ L, ms.length = L := ⟨_, rfl⟩
  rw [hL] at ra hlen ⊢
  have HL := Lib.hid hL
  have RA := Lib.hid ra
  have HR2 := Lib.hid r2
  obtain ⟨S, hS⟩ : ∃ S, sumM ⟨1, b, 0, cnt, ms⟩ (t - f) f m0 = S := ⟨_, rfl⟩
  rw [hS]
  have HS := Lib.hid hS
  have d1 : decide ((f : Int) < 0) = false := decide_eq_false (by omega)
  have d2 : decide (t < f) = false := decide_eq_false (by omega)
  have d3 : decide (b < t) = false := decide_eq_false (by omega)
  have HLEN := Lib.hid hlen
  clear ra r2 hr hl1 hL hS hlen
  go_enter Try.func25, Try.ntmps25
  go_wp2_with fail
  obtain ⟨W2, e2⟩ : ∃ W2, W2 = (w.alloc (.cells #[.int .i64 1, .int .i64 b, .int .i64 0, .slice A1 cnt.length c1, .slice A2 L c2] 36)).alloc (.cells #[.int .i64 0, .int .i64 0, .int .i64 0] 52) := ⟨_, rfl⟩
  rw [← e2]
  obtain ⟨k0, k1, kb, ks⟩ := boxes2' w _ _ _ _ W2 e2
  clear e2
  refine (RA.out _).mono ?_
  rintro e w1 ⟨rfl, hb⟩
  replace k0 := k0.below hb
  replace k1 := k1.below hb
  replace kb := kb.trans (hb.mono kb.size)
  clear hb ks
  obtain ⟨p0, p1, p2, p3, p4⟩ := k0.cells5
  go_wp2
  obtain ⟨W3, e3⟩ : ∃ W3, W3 = w1.alloc (.cells #[.int .i64 0, .int .i64 0, .int .i64 0] 52) := ⟨_, rfl⟩
  rw [← e3]
  have sb : SB (.int .i64 1) (.int .i64 b) (.int .i64 0) (.slice A1 cnt.length c1) (.slice A2 L c2) m0 w.heap.size w1.heap.size w W3 := by
    rw [e3]
    exact ⟨k0.below ((Below.refl _ _).alloc (Nat.le_refl _) _), k1.below ((Below.refl _ _).alloc (Nat.le_refl _) _), Blk.new _ _ _, kb.alloc kb.size _, k1.lt⟩
  obtain ⟨gA, hgA⟩ : ∃ gA, w1.heap.size = gA := ⟨_, rfl⟩
  rw [hgA] at sb ⊢
  clear e3 k0 k1 kb hgA p0 p1 p2 p3 p4
  go_loopw [11] (fun iv wr => ∃ (k : Nat) (m : Mom), f ≤ k ∧ k ≤ t ∧ iv = .int .i64 k ∧ Hid m.ok ∧ Hid (sumM ⟨1, b, 0, cnt, ms⟩ (t - k) k m = S) ∧ SB (.int .i64 1) (.int .i64 b) (.int .i64 0) (.slice A1 cnt.length c1) (.slice A2 L c2) m w.heap.size gA w wr) (fun iv _ => t - (intOf iv).toNat)
  case atStart => exact ⟨f, m0, Nat.le_refl _, hft, rfl, Lib.hid (by unfold Mom.ok m0; decide), HS, sb⟩
  case round =>
    obtain ⟨k, m, hfk, hkt, rfl, HMR, HSM, hsb⟩ := hrel
    clear sb
    by_cases hlt : k < t
    · obtain ⟨wo, rfl⟩ : ∃ wo : World, wo = wr := ⟨_, rfl⟩
      go_wp2
      go_loopw [51] (fun cv wr => cv = .int .i64 0 ∧ SB (.int .i64 1) (.int .i64 b) (.int .i64 0) (.slice A1 cnt.length c1) (.slice A2 L c2) m w.heap.size gA w wr) (fun _ _ => 0)
      case atStart => exact ⟨rfl, hsb⟩
      case round =>
        obtain ⟨rfl, hsd⟩ := hrel
        clear hsb
        obtain ⟨⟨p0, p1, p2, p3, p4⟩, ⟨q0, q1, q2⟩, ⟨a0, a1, a2⟩, qf, af⟩ := hsd.cells
        have hr1 := (HR2.out.below hsd.be).at (k := k) (by rw [HL.out, HLEN.out]; omega)
        have hx1 := (HR2.out).okAt (k := k) (by rw [HL.out, HLEN.out]; omega)
        obtain ⟨ad, rfl, hr2⟩ := hr1
        obtain ⟨x1, x2, x3⟩ := hr2 k (by rw [HL.out, HLEN.out]; omega)
        obtain ⟨u, hu⟩ : ∃ u, mAt ms k = u := ⟨_, rfl⟩
        rw [hu] at x1 x2 x3 hx1
        have KC := Lib.hid (fun (g : Nat) (W : World) (hW : W.cell? ⟨g, 0, none⟩ = some (.func (.func 48) #[] #[])) => moments1_any 48 opP plus_is m u HMR.out hx1 g W hW)
        obtain ⟨z1, z2, z3, z4, hz⟩ : ∃ z1 z2 z3 z4, momE (momO opP m u) = .tuple #[.agg #[.int .i64 z1, .int .i64 z2, .int .i64 z3], .int .i64 z4] := ⟨_, _, _, _, rfl⟩
        have HZ := Lib.hid hz
        have HU := Lib.hid hu
        have hkL : k < L := by rw [HLEN.out]; omega
        clear hz hu hr2 hx1
        have adl : (ad.add (k * 3)).block < wr.heap.size := World.block_lt_of_cell? wr _ x1
        have gAl : gA < wr.heap.size := World.block_lt_of_cell? wr _ a0
        have gnl : w.heap.size < wr.heap.size := World.block_lt_of_cell? wr _ p0
        have lA := hsd.lt
        have n1 : (ad.add (k * 3)).block ≠ wr.heap.size := by omega
        have n2 : wr.heap.size ≠ (ad.add (k * 3)).block := by omega
        have n3 : gA ≠ wr.heap.size := by omega
        have n4 : wr.heap.size ≠ gA := by omega
        have n5 : w.heap.size ≠ wr.heap.size := by omega
        have n6 : wr.heap.size ≠ w.heap.size := by omega
        go_upto_region 21 with (fail)
        go_cut [15, 16] (fun p ev wc => ∃ B, p = .pointer (some ⟨B, 0, none⟩) ∧ ev = .int .i64 z4 ∧ Blk wc B #[.int .i64 z1, .int .i64 z2, .int .i64 z3] 52 ∧ wr.heap.size ≤ B ∧ Below wr.heap.size wr wc)
        case first =>
          go_region_held3 (fun W => W.cell? ⟨gA, 0, none⟩ = some (.int .i64 m.c) ∧ W.cell? ⟨gA, 1, none⟩ = some (.int .i64 m.s) ∧ W.cell? ⟨gA, 2, none⟩ = some (.int .i64 m.q) ∧ W.cell? ⟨w.heap.size, 4, none⟩ = some (.slice (some ad) L c2) ∧ W.cell? (ad.add (k * 3)) = some (.int .i64 u.c) ∧ W.cell? ⟨(ad.add (k * 3)).block, (ad.add (k * 3)).off + 1, none⟩ = some (.int .i64 u.s) ∧ W.cell? ⟨(ad.add (k * 3)).block, (ad.add (k * 3)).off + 2, none⟩ = some (.int .i64 u.q)) (go_keep)
            (first
            | (go_at_call 47; refine (moments_b 48 _).mono ?_; rintro e w3 ⟨rfl, hc3, hb3, hl3⟩; (try simp at hc3); have hs3 : wr.heap.size < w3.heap.size := (by have h := hl3; simp at h; omega); have hne3 : wr.heap.size ≠ w3.heap.size := (by omega); have hne3' : w3.heap.size ≠ wr.heap.size := (by omega); have m1 : gA ≠ w3.heap.size := (by omega); have m2 : w3.heap.size ≠ gA := (by omega); have m3 : (ad.add (k * 3)).block ≠ w3.heap.size := (by omega); have m4 : w3.heap.size ≠ (ad.add (k * 3)).block := (by omega); have m5 : w.heap.size ≠ w3.heap.size := (by omega); have m6 : w3.heap.size ≠ w.heap.size := (by omega); obtain ⟨hcc3, hff3⟩ := bcell hb3; have q0 : w3.cell? ⟨gA, 0, none⟩ = some (.int .i64 m.c) := keepc hb3 (by simp [*]); have q1 : w3.cell? ⟨gA, 1, none⟩ = some (.int .i64 m.s) := keepc hb3 (by simp [*]); have q2 : w3.cell? ⟨gA, 2, none⟩ = some (.int .i64 m.q) := keepc hb3 (by simp [*]); have q3 : w3.cell? ⟨w.heap.size, 4, none⟩ = some (.slice (some ad) L c2) := keepc hb3 (by simp [*]); have q4 : w3.cell? (ad.add (k * 3)) = some (.int .i64 u.c) := keepc hb3 (by simp [*]); have q5 : w3.cell? ⟨(ad.add (k * 3)).block, (ad.add (k * 3)).off + 1, none⟩ = some (.int .i64 u.s) := keepc hb3 (by simp [*]); have q6 : w3.cell? ⟨(ad.add (k * 3)).block, (ad.add (k * 3)).off + 2, none⟩ = some (.int .i64 u.q) := keepc hb3 (by simp [*]))
            | (go_at_call 67; refine (KC.out _ _ (by first | assumption | exact (((Below.refl _ _).alloc (Nat.le_refl _) _).cell (p := ⟨wr.heap.size, 0, none⟩) (by assumption)).trans hc3 | (simp [*]))).mono ?_; rintro e w4 ⟨rfl, hb4⟩; rw [HZ.out]; have hs4 : wr.heap.size < w4.heap.size := (by have h := hb4.size; (try simp at h); omega); obtain ⟨hcc4, hff4⟩ := bcell hb4; have r0 : w4.cell? ⟨gA, 0, none⟩ = some (.int .i64 m.c) := keepc hb4 (by simp [*]); have r1 : w4.cell? ⟨gA, 1, none⟩ = some (.int .i64 m.s) := keepc hb4 (by simp [*]); have r2 : w4.cell? ⟨gA, 2, none⟩ = some (.int .i64 m.q) := keepc hb4 (by simp [*]); have r3 : w4.cell? ⟨w.heap.size, 4, none⟩ = some (.slice (some ad) L c2) := keepc hb4 (by simp [*]); have r4 : w4.cell? (ad.add (k * 3)) = some (.int .i64 u.c) := keepc hb4 (by simp [*]); have r5 : w4.cell? ⟨(ad.add (k * 3)).block, (ad.add (k * 3)).off + 1, none⟩ = some (.int .i64 u.s) := keepc hb4 (by simp [*]); have r6 : w4.cell? ⟨(ad.add (k * 3)).block, (ad.add (k * 3)).off + 2, none⟩ = some (.int .i64 u.q) := keepc hb4 (by simp [*])))
          all_goals
            go_wp2
            go_meet
            case rel => first | exact ⟨_, rfl, rfl, relS1 _ _ _ _ _ _ hb3 hb4⟩ | exact ⟨_, rfl, rfl, relS2 _ _ _ _ _ _ hb3 hb4⟩ | exact ⟨_, rfl, rfl, relS3 _ _ _ hb3 hb4⟩
        case rest =>
          obtain ⟨B, rfl, rfl, hBk, hB1, hB2⟩ := hcut
          have hz := HZ.out
          have hs2 := hsd.below hB2
          clear p0 p1 p2 p3 p4 q0 q1 q2 a0 a1 a2 qf af x1 x2 x3 n1 n2 n3 n4 n5 n6
          obtain ⟨⟨p0, p1, p2, p3, p4⟩, ⟨q0, q1, q2⟩, ⟨a0, a1, a2⟩, qf, af⟩ := hs2.cells
          obtain ⟨v1, v2, v3⟩ := cells3 hBk
          have n1 : B ≠ gA := by omega
          have n2 : gA ≠ B := by omega
          cases hop1 : momO opP m u with
          | error e1 =>
            rw [hop1] at hz
            simp only [momE, momV, valO, errO, m0, Value.tuple.injEq, Array.mk.injEq, List.cons.injEq, Value.agg.injEq, Value.int.injEq, and_true, true_and] at hz
            obtain ⟨⟨rfl, rfl, rfl⟩, rfl⟩ := hz
            have ee := momO_err plus_is hop1
            have HE := Lib.hid (sumM_err (h := ⟨1, b, 0, cnt, ms⟩) (r := t - (k + 1)) (k := k) (m := m) (e := e1) (by show momO opP m (mAt ms k) = _; rw [HU.out]; exact hop1))
            clear hop1
            go_wp2
            refine bodyPost_ret (results_tct rfl _ _ (w.heap.size + 1) 52 _ _ rfl (set3 hs2.b1 _ _ _) Try.underlying52 rfl size_mom) rfl ?_
            refine SumP.err (x := e1) ?_ rfl (below3 hs2.be (by omega) _ _ _)
            rw [← HSM.out, show t - k = (t - (k + 1)) + 1 by omega, HE.out]
            rfl
          | ok z =>
            rw [hop1] at hz
            simp only [momE, momV, valO, errO, Value.tuple.injEq, Array.mk.injEq, List.cons.injEq, Value.agg.injEq, Value.int.injEq, and_true, true_and] at hz
            obtain ⟨⟨rfl, rfl, rfl⟩, rfl⟩ := hz
            have HE := Lib.hid (sumM_ok (h := ⟨1, b, 0, cnt, ms⟩) (r := t - (k + 1)) (k := k) (m := m) (m' := z) (by show momO opP m (mAt ms k) = _; rw [HU.out]; exact hop1))
            have HM' := Lib.hid (momO_in plus_is hop1)
            have e0 : ((0 : Int) != 0) = false := rfl
            clear hop1
            go_wp2
            go_roundw
            case rel => exact ⟨k + 1, z, by omega, hlt, by go_num, HM', Lib.hid (by rw [← HSM.out, show t - k = (t - (k + 1)) + 1 by omega, HE.out]), hs2.all⟩
            case measure => simp [intOf]; omega
    · obtain rfl : k = t := by omega
      obtain ⟨⟨p0, p1, p2, p3, p4⟩, ⟨q0, q1, q2⟩, ⟨a0, a1, a2⟩, qf, af⟩ := hsb.cells
      have HE := Lib.hid (HSM.out.symm.trans (by rw [Nat.sub_self]; rfl : _ = .ok m))
      have lA := hsb.lt
      have n1 : w.heap.size + 1 ≠ gA := by omega
      have n2 : gA ≠ w.heap.size + 1 := by omega
      clear hlt
      go_wp2
      go_region_held3 (fun W => W.cell? ⟨gA, 0, none⟩ = some (.int .i64 m.c) ∧ W.cell? ⟨gA, 1, none⟩ = some (.int .i64 m.s) ∧ W.cell? ⟨gA, 2, none⟩ = some (.int .i64 m.q)) (go_keep) (fail)
      all_goals
        go_wp2
        refine bodyPost_ret (results_tct rfl _ _ (w.heap.size + 1) 52 _ _ rfl (set3 hsb.b1 _ _ _) Try.underlying52 rfl size_mom) rfl ?_
        have hS := HE.out
        refine ⟨.slice none 0 0, ?_, ?_, below3 (hsb.drewN 1).be (by omega) _ _ _⟩
        · rw [hS]; rfl
        · rw [hS]; exact World.ownsRow_nil _ _ _ _
/-- Sum, of any histogram. -/
theorem sum_any {h : H} {vh : Value} {w : World} (f t : Int) (ra : RdH w h vh) : Calls Try.prog 25 #[vh, .int .i64 f, .int .i64 t] w (SumP (sumO h f t) w) := by
  obtain ⟨A1, A2, c1, c2, rfl, r1, r2, l1, l2⟩ := ra
  by_cases hr : rightP h
  · by_cases hb : f < 0 ∨ f > t ∨ t > h.bins
    · exact sum_range h A1 A2 c1 c2 f t w l1 l2 hr hb
    · obtain ⟨kd, b, c, cnt, ms⟩ := h
      obtain ⟨y1, y2, z1, z2⟩ := may_le hr.1
      simp only at hb y1 y2 z1 z2 r1 r2 l1 l2
      obtain ⟨fn, rfl⟩ : ∃ fn : Nat, f = fn := ⟨f.toNat, by omega⟩
      obtain ⟨tn, rfl⟩ : ∃ tn : Nat, t = tn := ⟨t.toNat, by omega⟩
      obtain ⟨bn, rfl⟩ : ∃ bn : Nat, b = bn := ⟨b.toNat, by omega⟩
      obtain ⟨n, rfl⟩ : ∃ n : Nat, c = n := ⟨c.toNat, by omega⟩
      by_cases hk : kd = 0
      · subst hk
        rw [sum_c hr hb rfl]
        have hlen : (cnt.length : Int) = bn * n := by rcases hr.2 with ⟨_, e, _⟩ | ⟨e, _⟩ <;> first | exact e | exact absurd rfl e
        exact sum_count bn n cnt ms A1 A2 c1 c2 fn tn w r1 l2 hr (by omega) (by omega) (by omega) (by omega) (by rw [← Int.natCast_mul] at hlen; omega)
      · have hm := hr.1
        unfold mayP at hm
        simp only at hm
        obtain rfl : kd = 1 := by omega
        obtain rfl : n = 0 := by omega
        rw [sum_m hr hb (show ¬ ((1 : Int) = 0) by decide)]
        have hlen : (ms.length : Int) = bn := by rcases hr.2 with ⟨e, _⟩ | ⟨_, _, e⟩ <;> first | exact e | exact absurd e hk
        exact sum_moms bn cnt ms A1 A2 c1 c2 fn tn w r2 l1 hr (by omega) (by omega) (by omega) (by omega)
  · exact sum_bad h A1 A2 c1 c2 f t w l1 l2 hr
end Go.Proofs.Yteckbgpkoanhfaa.Hb
end

section
/- Contracts by hand, as the printed texts use them: Sum of layer 12. -/
namespace Go.Proofs.Yteckbgpkoanhfaa.Pr
set_option linter.unusedVariables false
open Go.RowKit Go.Proofs.YteckbgpkoanhfaaW.PrintWords Go.Proofs.YteckbgpkoanhfaaW.PrintLast Go.Proofs.YteckbgpkoanhfaaW.PrintMore

def okHB (l3 : List Int) (l4 : List S52) : Bool := l3.all inB && l4.all fun x => momB (toM x)
theorem okHB_is {l3 : List Int} {l4 : List S52} (h : okHB l3 l4 = true) : (∀ x ∈ l3, Hb.inR x) ∧ ∀ x ∈ l4, (toM x).ok := by
  unfold okHB at h
  rw [Bool.and_eq_true, List.all_eq_true, List.all_eq_true] at h
  exact ⟨fun x hx => inB_is (h.1 x hx), fun x hx => momB_is (h.2 x hx)⟩
theorem okHB_of {l3 : List Int} {l4 : List S52} (h3 : ∀ x ∈ l3, Hb.inR x) (h4 : ∀ x ∈ l4, (toM x).ok) : okHB l3 l4 = true := by
  unfold okHB
  rw [Bool.and_eq_true, List.all_eq_true, List.all_eq_true]
  exact ⟨fun x hx => by simp [inB, h3 x hx], fun x hx => momB_of (h4 x hx)⟩
theorem rdH_of {w : World} {a0 a1 a2 : Int} {A3 A4 : Option Addr} {c3 c4 : Nat} {l3 : List Int} {l4 : List S52} (h3 : Kd.C (Kd.int .i64) w A3 l3.length l3) (h4 : Kd.C k52 w A4 l4.length l4) (ho : okHB l3 l4 = true) :
    Hb.RdH w (hOf a0 a1 a2 l3 l4) (.agg #[.int .i64 a0, .int .i64 a1, .int .i64 a2, .slice A3 l3.length c3, .slice A4 l4.length c4]) := by
  obtain ⟨o1, o2⟩ := okHB_is ho
  refine ⟨A3, A4, c3, c4, by simp [Hb.hV, hOf], Hy.rdI_of_C h3 o1, rdM_of_C h4 o2, Hy.len_of_C h3, ?_⟩
  show (l4.map toM).length ≤ _
  rw [List.length_map]
  exact Hy.len_of_C h4
def sumR (r : Except Int (List Int × Hb.Mom)) : List Int × Int × Int × Int × Int := ((Hb.valO ([], Hb.m0) r).1, (Hb.valO ([], Hb.m0) r).2.c, (Hb.valO ([], Hb.m0) r).2.s, (Hb.valO ([], Hb.m0) r).2.q, Hb.errO r)
def hist_Sum.f (a0_0 : Int) (a0_1 : Int) (a0_2 : Int) (l0_3 : List Int) (l0_4 : List (S52)) (a1 : Int) (a2 : Int) : Option (List Int × Int × Int × Int × Int) :=
  if okHB l0_3 l0_4 = true then some (sumR (Hb.sumO (hOf a0_0 a0_1 a0_2 l0_3 l0_4) a1 a2)) else none
theorem hist_Sum.calls (a0_0 : Int) (a0_1 : Int) (a0_2 : Int) (A0_3 : Option Addr) (c0_3 : Nat) (l0_3 : List Int) (A0_4 : Option Addr) (c0_4 : Nat) (l0_4 : List (S52)) (a1 : Int) (a2 : Int) (r1 : List Int) (r2 : Int) (r3 : Int) (r4 : Int) (r5 : Int) (w : World) (hr0_3 : Kd.C (Kd.int .i64) w A0_3 l0_3.length l0_3) (hc0_3 : l0_3.length ≤ c0_3) (hr0_4 : Kd.C k52 w A0_4 l0_4.length l0_4) (hc0_4 : l0_4.length ≤ c0_4) (h : hist_Sum.f a0_0 a0_1 a0_2 l0_3 l0_4 a1 a2 = some (r1, r2, r3, r4, r5)) :
    Calls Try.prog 25 #[.agg #[.int .i64 a0_0, .int .i64 a0_1, .int .i64 a0_2, .slice A0_3 l0_3.length c0_3, .slice A0_4 l0_4.length c0_4], .int .i64 a1, .int .i64 a2] w fun e w' => ∃ v0_ : Value, e = .returned (.tuple #[v0_, .agg #[.int .i64 r2, .int .i64 r3, .int .i64 r4], .int .i64 r5]) ∧ Kd.R (Kd.int .i64) 2 w' w.heap.size (fun _ => True) v0_ r1 ∧ Below w.heap.size w w' := by
  unfold hist_Sum.f at h
  split at h
  · rename_i ho
    refine (Hb.sum_any a1 a2 (rdH_of (a0 := a0_0) (a1 := a0_1) (a2 := a0_2) (c3 := c0_3) (c4 := c0_4) hr0_3 hr0_4 ho)).mono ?_
    rintro e w' ⟨v, rfl, ho', hb⟩
    have h' := Option.some.inj h
    unfold sumR at h'
    simp only [Prod.mk.injEq] at h'
    obtain ⟨e1, e2, e3, e4, e5⟩ := h'
    refine ⟨v, ?_, ?_, hb⟩
    · rw [← e2, ← e3, ← e4, ← e5]; rfl
    · rw [e1] at ho'
      exact Hy.R_of_ints ho'
  · cases h
end Go.Proofs.Yteckbgpkoanhfaa.Pr
end

section
/- The walk of the document's answer, layer 12: Same, of equal heads. -/
namespace Go.Proofs.Yteckbgpkoanhfaa.Hb
open Go.RowKit

theorem eq_of_at {α : Type} {d : α} {l m : List α} (hl : l.length = m.length) (h : ∀ i, i < l.length → l.getD i d = m.getD i d) : l = m := by
  apply List.ext_getElem hl
  intro i h1 h2
  have := h i h1
  simpa [List.getD_eq_getElem?_getD, List.getElem?_eq_getElem h1, List.getElem?_eq_getElem h2] using this
set_option maxRecDepth 100000 in
set_option maxHeartbeats 4000000 in
theorem same_body {a b : H} {va vb : Value} {w : World} (ra : RdH w a va) (rb : RdH w b vb) (x1 : a.kind = b.kind) (x2 : a.bins = b.bins) (x3 : a.classes = b.classes) (x4 : a.counts.length = b.counts.length) (x5 : a.moms.length = b.moms.length) : Calls Try.prog 19 #[va, vb] w fun e w' => e = .returned (.bool (decide (a = b))) ∧ Below w.heap.size w w' := by
  obtain ⟨A1, A2, c1, c2, rfl, r1, r2, l1, l2⟩ := ra
  obtain ⟨A3, A4, c3, c4, rfl, r3, r4, l3, l4⟩ := rb
  have DF : ∀ (k : Nat), k < a.counts.length → (a.counts.getD k 0 != b.counts.getD k 0) = true → Ending.returned (.bool false) = .returned (.bool (decide (a = b))) := fun k _ h => decF (fun e => by rw [e] at h; simp at h)
  have DM : ∀ (k : Nat), k < a.moms.length → ¬ mAt a.moms k = mAt b.moms k → Ending.returned (.bool false) = .returned (.bool (decide (a = b))) := fun k _ h => decF (fun e => h (by rw [e]))
  have DT : (∀ i, i < a.counts.length → a.counts.getD i 0 = b.counts.getD i 0) → (∀ i, i < a.moms.length → mAt a.moms i = mAt b.moms i) → Ending.returned (.bool true) = .returned (.bool (decide (a = b))) := fun h1 h2 => by
    have e1 := eq_of_at x4 h1
    have e2 := eq_of_at x5 h2
    rw [decide_eq_true]
    obtain ⟨k, bi, c, cs, ms⟩ := a
    obtain ⟨k', bi', c', cs', ms'⟩ := b
    simp only at x1 x2 x3 e1 e2
    rw [x1, x2, x3, e1, e2]
  unfold hV
  have hq := fun (w : World) x0 x1 x2 y0 y1 y2 => eq_mom 9998 w x0 x1 x2 y0 y1 y2
  have R1 := Lib.hid r1
  have R2 := Lib.hid r2
  have R3 := Lib.hid r3
  have R4 := Lib.hid r4
  obtain ⟨n, hn⟩ : ∃ n, a.counts.length = n := ⟨_, rfl⟩
  obtain ⟨m, hm⟩ : ∃ m, a.moms.length = m := ⟨_, rfl⟩
  have hn' : b.counts.length = n := by rw [← x4, hn]
  have hm' : b.moms.length = m := by rw [← x5, hm]
  have HN := Lib.hid hn
  have HM := Lib.hid hm
  have HN' := Lib.hid hn'
  have HM' := Lib.hid hm'
  have DF' := Lib.hid DF
  have DM' := Lib.hid DM
  have DT' := Lib.hid DT
  replace x1 : (a.kind != b.kind) = false := bne_eq_false_iff_eq.2 x1
  replace x2 : (a.bins != b.bins) = false := bne_eq_false_iff_eq.2 x2
  replace x3 : (a.classes != b.classes) = false := bne_eq_false_iff_eq.2 x3
  have x6 : ((n : Int) != n) = false := bne_eq_false_iff_eq.2 rfl
  have x7 : ((m : Int) != m) = false := bne_eq_false_iff_eq.2 rfl
  rw [hn, hm, hn', hm']
  rw [hn] at l1
  rw [hm] at l2
  clear x4 x5 r1 r2 r3 r4 l3 l4 hn hm hn' hm' DF DM DT
  go_enter Try.func19, Try.ntmps19
  go_wp2
  obtain ⟨W2, e2⟩ : ∃ W2, W2 = (w.alloc (.cells #[.int .i64 a.kind, .int .i64 a.bins, .int .i64 a.classes, .slice A1 n c1, .slice A2 m c2] 36)).alloc (.cells #[.int .i64 b.kind, .int .i64 b.bins, .int .i64 b.classes, .slice A3 n c3, .slice A4 m c4] 36) := ⟨_, rfl⟩
  rw [← e2]
  obtain ⟨k0, k1, kb, ks⟩ := boxes2' w _ _ _ _ W2 e2
  clear e2
  go_loopw [5] (fun iv wr => ∃ k : Nat, k ≤ n ∧ iv = .int .i64 k ∧ Hid (∀ i, i < k → a.counts.getD i 0 = b.counts.getD i 0) ∧ Below W2.heap.size W2 wr) (fun iv _ => n - (intOf iv).toNat)
  case atStart => exact ⟨0, Nat.zero_le _, rfl, Lib.hid (fun i hi => by omega), Below.refl _ _⟩
  case round =>
    obtain ⟨k, hk, rfl, HK, hB⟩ := hrel
    have kk0 := k0.below hB
    have kk1 := k1.below hB
    obtain ⟨p0, p1, p2, p3, p4⟩ := kk0.cells5
    obtain ⟨q0, q1, q2, q3, q4⟩ := kk1.cells5
    clear kk0 kk1
    by_cases hlt : k < n
    · have hb0 := kb.trans (hB.mono kb.size)
      obtain ⟨ad1, rfl, ha⟩ := (R1.out.below hb0).at (k := k) (by rw [HN.out]; exact hlt)
      obtain ⟨ad2, rfl, hb⟩ := (R3.out.below hb0).at (k := k) (by rw [HN'.out]; exact hlt)
      have y1 := ha k (by rw [HN.out]; exact hlt)
      have y2 := hb k (by rw [HN'.out]; exact hlt)
      obtain ⟨u, hu⟩ : ∃ u, a.counts.getD k 0 = u := ⟨_, rfl⟩
      obtain ⟨u', hu'⟩ : ∃ u', b.counts.getD k 0 = u' := ⟨_, rfl⟩
      rw [hu] at y1
      rw [hu'] at y2
      have HU := Lib.hid hu
      have HU' := Lib.hid hu'
      have hlt' : (k : Int) < n := by omega
      clear ha hb hu hu'
      cases huu : (u != u') with
      | true =>
        go_wp2
        go_quiet (fail)
        go_wp2
        go_ret
        exact ⟨DF'.out k (by rw [HN.out]; exact hlt) (by rw [HU.out, HU'.out]; exact huu), below_drewN hb0 _⟩
      | false =>
        have heq : u = u' := bne_eq_false_iff_eq.1 huu
        have HK' : Hid (∀ i, i < k + 1 → a.counts.getD i 0 = b.counts.getD i 0) := Lib.hid (fun i hi => by
          by_cases e : i = k
          · rw [e, HU.out, HU'.out, heq]
          · exact HK.out i (by omega))
        clear heq
        go_wp2
        go_quiet (fail)
        go_wp2
        exact ⟨⟨k + 1, hlt, by go_num, HK', below_drewN hB _⟩, by simp [intOf]; omega⟩
    · obtain rfl : k = n := by omega
      clear hlt
      go_wp2
      go_loopw [6] (fun iv wr2 => ∃ k2 : Nat, k2 ≤ m ∧ iv = .int .i64 k2 ∧ Hid (∀ i, i < k2 → mAt a.moms i = mAt b.moms i) ∧ Below W2.heap.size W2 wr2) (fun iv _ => m - (intOf iv).toNat)
      case atStart => exact ⟨0, Nat.zero_le _, rfl, Lib.hid (fun i hi => by omega), hB⟩
      case round =>
        obtain ⟨k2, hk2, rfl, HK2, hB2⟩ := hrel
        clear p0 p1 p2 p3 p4 q0 q1 q2 q3 q4
        have kk0 := k0.below hB2
        have kk1 := k1.below hB2
        obtain ⟨p0, p1, p2, p3, p4⟩ := kk0.cells5
        obtain ⟨q0, q1, q2, q3, q4⟩ := kk1.cells5
        clear kk0 kk1
        have hb0 := kb.trans (hB2.mono kb.size)
        by_cases hlt : k2 < m
        · obtain ⟨ad1, rfl, ha⟩ := (R2.out.below hb0).at (k := k2) (by rw [HM.out]; exact hlt)
          obtain ⟨ad2, rfl, hb⟩ := (R4.out.below hb0).at (k := k2) (by rw [HM'.out]; exact hlt)
          obtain ⟨y1, y2, y3⟩ := ha k2 (by rw [HM.out]; exact hlt)
          obtain ⟨z1, z2, z3⟩ := hb k2 (by rw [HM'.out]; exact hlt)
          obtain ⟨u, hu⟩ : ∃ u, mAt a.moms k2 = u := ⟨_, rfl⟩
          obtain ⟨u', hu'⟩ : ∃ u', mAt b.moms k2 = u' := ⟨_, rfl⟩
          rw [hu] at y1 y2 y3
          rw [hu'] at z1 z2 z3
          have HU := Lib.hid hu
          have HU' := Lib.hid hu'
          have hlt' : (k2 : Int) < m := by omega
          clear ha hb hu hu'
          by_cases huu : u = u'
          · have HK' : Hid (∀ i, i < k2 + 1 → mAt a.moms i = mAt b.moms i) := Lib.hid (fun i hi => by
              by_cases e : i = k2
              · rw [e, HU.out, HU'.out, huu]
              · exact HK2.out i (by omega))
            subst huu
            have hs : (u.c == u.c && (u.s == u.s && (u.q == u.q && true))) = true := by simp
            go_wp2
            go_quiet (fail)
            go_wp2
            exact ⟨⟨k2 + 1, hlt, by go_num, HK', below_drewN hB2 _⟩, by simp [intOf]; omega⟩
          · have hs : (u.c == u'.c && (u.s == u'.s && (u.q == u'.q && true))) = false := by
              rw [Bool.eq_false_iff]
              intro h
              simp only [Bool.and_true, Bool.and_eq_true, beq_iff_eq] at h
              exact huu (by obtain ⟨_, _, _⟩ := u; obtain ⟨_, _, _⟩ := u'; simp only at h; rw [h.1, h.2.1, h.2.2])
            have D2 := Lib.hid (DM'.out k2 (by rw [HM.out]; exact hlt) (by rw [HU.out, HU'.out]; exact huu))
            clear huu
            go_wp2
            go_quiet (fail)
            go_wp2
            all_goals first
              | (rename_i h; simp only [Bool.not_eq_false'] at h; rw [h.1, h.2.1, h.2.2] at hs; exact absurd hs (by decide))
              | (go_ret; exact ⟨D2.out, below_drewN hb0 _⟩)
        · obtain rfl : k2 = m := by omega
          clear hlt
          go_wp2
          go_ret
          exact ⟨DT'.out (by rw [HN.out]; exact HK.out) (by rw [HM.out]; exact HK2.out), hb0⟩
theorem same_any {a b : H} {va vb : Value} {w : World} (ra : RdH w a va) (rb : RdH w b vb) : Calls Try.prog 19 #[va, vb] w fun e w' => e = .returned (.bool (decide (a = b))) ∧ Below w.heap.size w w' := by
  by_cases h : a.kind = b.kind ∧ a.bins = b.bins ∧ a.classes = b.classes ∧ a.counts.length = b.counts.length ∧ a.moms.length = b.moms.length
  · exact same_body ra rb h.1 h.2.1 h.2.2.1 h.2.2.2.1 h.2.2.2.2
  · exact same_head ra rb h
end Go.Proofs.Yteckbgpkoanhfaa.Hb
end

section
/- What two histograms made one come to; the law HistTurns. -/
namespace Go.Proofs.Yteckbgpkoanhfaa.Hb
open Go.RowKit

theorem rows_len {α : Type} {op : α → α → Except Int α} : ∀ (a b l : List α), rowsO op a b = .ok l → l.length = a.length
  | [], _, l, h => by cases h; rfl
  | _ :: _, [], l, h => by cases h
  | x :: xs, y :: ys, l, h => by
    rw [rowsO] at h
    cases h2 : op x y with
    | error e1 => rw [h2] at h; cases h
    | ok z =>
      rw [h2] at h; simp only at h
      cases h3 : rowsO op xs ys with
      | error e1 => rw [h3] at h; cases h
      | ok zs => rw [h3] at h; cases h; simpa using rows_len xs ys zs h3
theorem rows_all {α : Type} {op : α → α → Except Int α} {P : α → Prop} (hop : ∀ x y z, op x y = .ok z → P z) : ∀ (a b l : List α), rowsO op a b = .ok l → ∀ x ∈ l, P x
  | [], _, l, h => by cases h; simp
  | _ :: _, [], l, h => by cases h
  | x :: xs, y :: ys, l, h => by
    rw [rowsO] at h
    cases h2 : op x y with
    | error e1 => rw [h2] at h; cases h
    | ok z =>
      rw [h2] at h; simp only at h
      cases h3 : rowsO op xs ys with
      | error e1 => rw [h3] at h; cases h
      | ok zs =>
        rw [h3] at h; cases h
        intro u hu
        rcases List.mem_cons.1 hu with rfl | hu
        · exact hop _ _ _ h2
        · exact rows_all hop xs ys zs h3 u hu
theorem rows_comm {α : Type} {op : α → α → Except Int α} (hop : ∀ x y, op x y = op y x) : ∀ (a b : List α), a.length = b.length → rowsO op a b = rowsO op b a
  | [], [], _ => rfl
  | [], _ :: _, h => by simp at h
  | _ :: _, [], h => by simp at h
  | x :: xs, y :: ys, h => by rw [rowsO, rowsO, hop x y, rows_comm hop xs ys (by simpa using h)]
theorem rows_assoc {α : Type} {op : α → α → Except Int α} (hop : ∀ {x y z u v s t : α}, op x y = .ok u → op u z = .ok v → op y z = .ok s → op x s = .ok t → v = t) :
    ∀ (a b c x l z r : List α), rowsO op a b = .ok x → rowsO op x c = .ok l → rowsO op b c = .ok z → rowsO op a z = .ok r → l = r
  | [], _, _, x, l, _, r, h1, h2, _, h4 => by cases h1; cases h2; cases h4; rfl
  | _ :: _, [], _, _, _, _, _, h1, _, _, _ => by cases h1
  | a :: as0, b :: bs, c, x, l, z, r, h1, h2, h3, h4 => by
    rw [rowsO] at h1
    cases e1 : op a b with
    | error e => rw [e1] at h1; cases h1
    | ok u =>
      rw [e1] at h1; simp only at h1
      cases e2 : rowsO op as0 bs with
      | error e => rw [e2] at h1; cases h1
      | ok us =>
        rw [e2] at h1; cases h1
        cases c with
        | nil => cases h2
        | cons c cs =>
          rw [rowsO] at h2 h3
          cases f1 : op u c with
          | error e => rw [f1] at h2; cases h2
          | ok v =>
            rw [f1] at h2; simp only at h2
            cases f2 : rowsO op us cs with
            | error e => rw [f2] at h2; cases h2
            | ok vs =>
              rw [f2] at h2; cases h2
              cases g1 : op b c with
              | error e => rw [g1] at h3; cases h3
              | ok s =>
                rw [g1] at h3; simp only at h3
                cases g2 : rowsO op bs cs with
                | error e => rw [g2] at h3; cases h3
                | ok ss =>
                  rw [g2] at h3; cases h3
                  rw [rowsO] at h4
                  cases k1 : op a s with
                  | error e => rw [k1] at h4; cases h4
                  | ok t =>
                    rw [k1] at h4; simp only at h4
                    cases k2 : rowsO op as0 ss with
                    | error e => rw [k2] at h4; cases h4
                    | ok ts0 =>
                      rw [k2] at h4; cases h4
                      rw [hop e1 f1 g1 k1, rows_assoc hop as0 bs cs us vs ss ts0 e2 f2 g2 k2]
theorem opP_comm (a b : Int) (s : Bool) : opP a b s = opP b a s := by unfold opP; rw [Int.add_comm]
theorem opP_val {a b x : Int} {s : Bool} (h : opP a b s = .ok x) : x = a + b := by
  unfold opP at h
  cases hl : lim (a + b) with
  | none => rw [hl] at h; cases h
  | some y => rw [hl] at h; cases h; exact (lim_some hl).1
theorem opP_assoc {s : Bool} {x y z u v p t : Int} (h1 : opP x y s = .ok u) (h2 : opP u z s = .ok v) (h3 : opP y z s = .ok p) (h4 : opP x p s = .ok t) : v = t := by
  rw [opP_val h2, opP_val h1, opP_val h4, opP_val h3, Int.add_assoc]
theorem momO_comm (x y : Mom) : momO opP x y = momO opP y x := by unfold momO; rw [opP_comm x.c, opP_comm x.s, opP_comm x.q]
theorem momO_val {x y m : Mom} (h : momO opP x y = .ok m) : m = ⟨x.c + y.c, x.s + y.s, x.q + y.q⟩ := by
  unfold momO at h
  cases h1 : opP x.c y.c false with
  | error e1 => rw [h1] at h; cases h
  | ok c =>
    rw [h1] at h; simp only at h
    cases h2 : opP x.s y.s true with
    | error e1 => rw [h2] at h; cases h
    | ok s =>
      rw [h2] at h; simp only at h
      cases h3 : opP x.q y.q false with
      | error e1 => rw [h3] at h; cases h
      | ok q => rw [h3] at h; cases h; rw [opP_val h1, opP_val h2, opP_val h3]
theorem momO_assoc {x y z u v p t : Mom} (h1 : momO opP x y = .ok u) (h2 : momO opP u z = .ok v) (h3 : momO opP y z = .ok p) (h4 : momO opP x p = .ok t) : v = t := by
  rw [momO_val h2, momO_val h1, momO_val h4, momO_val h3]
  simp only [Int.add_assoc]
theorem like_symm {a b : H} (h : likeP a b) : likeP b a := ⟨h.2.1, h.1, h.2.2.1.symm, h.2.2.2.1.symm, h.2.2.2.2.symm⟩
theorem like_len {a b : H} (h : likeP a b) : a.counts.length = b.counts.length ∧ a.moms.length = b.moms.length := by
  obtain ⟨ra, rb, e1, e2, e3⟩ := h
  rcases ra.2 with ⟨k1, l1, m1⟩ | ⟨k1, l1, m1⟩ <;> rcases rb.2 with ⟨k2, l2, m2⟩ | ⟨k2, l2, m2⟩
  · rw [e2, e3] at l1; omega
  · omega
  · omega
  · omega
theorem both_parts {op : Int → Int → Bool → Except Int Int} {a b x : H} (h : bothO op a b = .ok x) : likeP a b ∧ rowsO (fun x y => op x y false) a.counts b.counts = .ok x.counts ∧ rowsO (momO op) a.moms b.moms = .ok x.moms ∧ x.kind = a.kind ∧ x.bins = a.bins ∧ x.classes = a.classes := by
  unfold bothO at h
  split at h
  · next hl =>
    cases h1 : rowsO (fun x y => op x y false) a.counts b.counts with
    | error e => rw [h1] at h; cases h
    | ok c =>
      rw [h1] at h; simp only at h
      cases h2 : rowsO (momO op) a.moms b.moms with
      | error e => rw [h2] at h; cases h
      | ok m => rw [h2] at h; cases h; exact ⟨hl, rfl, rfl, rfl, rfl, rfl⟩
  · cases h
theorem both_comm (a b : H) : bothO opP a b = bothO opP b a := by
  by_cases h : likeP a b
  · have hl := like_len h
    unfold bothO
    rw [if_pos h, if_pos (like_symm h), rows_comm (fun x y => opP_comm x y false) _ _ hl.1, rows_comm momO_comm _ _ hl.2, h.2.2.1, h.2.2.2.1, h.2.2.2.2]
  · rw [both_err h, both_err (fun e => h (like_symm e))]
theorem both_assoc {a b c x l z r : H} (h1 : bothO opP a b = .ok x) (h2 : bothO opP x c = .ok l) (h3 : bothO opP b c = .ok z) (h4 : bothO opP a z = .ok r) : l = r := by
  obtain ⟨_, c1, m1, k1, b1, s1⟩ := both_parts h1
  obtain ⟨_, c2, m2, k2, b2, s2⟩ := both_parts h2
  obtain ⟨_, c3, m3, k3, b3, s3⟩ := both_parts h3
  obtain ⟨_, c4, m4, k4, b4, s4⟩ := both_parts h4
  have e1 := rows_assoc (fun h1 h2 h3 h4 => opP_assoc h1 h2 h3 h4) _ _ _ _ _ _ _ c1 c2 c3 c4
  have e2 := rows_assoc (fun h1 h2 h3 h4 => momO_assoc h1 h2 h3 h4) _ _ _ _ _ _ _ m1 m2 m3 m4
  obtain ⟨k, bi, cl, cs, ms⟩ := l
  obtain ⟨k', bi', cl', cs', ms'⟩ := r
  simp only at *
  rw [k2, b2, s2, k4, b4, s4, k1, b1, s1, e1, e2]
theorem okH_both {f : Nat} {op : Int → Int → Bool → Except Int Int} (hop : IsOp f op) (a b : H) : okH (valO h0 (bothO op a b)) := by
  cases h : bothO op a b with
  | error e => exact ⟨by simp [valO, h0], by simp [valO, h0]⟩
  | ok x =>
    obtain ⟨_, c1, m1, _⟩ := both_parts h
    exact ⟨rows_all (fun x y z e => hop.ok e) _ _ _ c1, rows_all (fun x y z e => momO_in hop e) _ _ _ m1⟩
theorem len_both {op : Int → Int → Bool → Except Int Int} (a b : H) : (valO h0 (bothO op a b)).counts.length ≤ a.counts.length ∧ (valO h0 (bothO op a b)).moms.length ≤ a.moms.length := by
  cases h : bothO op a b with
  | error e => simp [valO, h0]
  | ok x =>
    obtain ⟨_, c1, m1, _⟩ := both_parts h
    have e1 := rows_len _ _ _ c1
    have e2 := rows_len _ _ _ m1
    simp only [valO]; omega
theorem both_no0 {f : Nat} {op : Int → Int → Bool → Except Int Int} (hop : IsOp f op) {a b : H} {e : Int} (h : bothO op a b = .error e) : (e != 0) = true := by
  by_cases hl : likeP a b
  · have hn := like_len hl
    unfold bothO at h
    rw [if_pos hl] at h
    cases h1 : rowsO (fun x y => op x y false) a.counts b.counts with
    | error e1 =>
      rw [h1] at h; cases h
      exact rows_errP (P := fun e => (e != 0) = true) (fun x y e h => by rcases hop.err h with rfl | rfl <;> rfl) _ _ _ (by omega) h1
    | ok c =>
      rw [h1] at h; simp only at h
      cases h2 : rowsO (momO op) a.moms b.moms with
      | error e1 =>
        rw [h2] at h; cases h
        exact rows_errP (P := fun e => (e != 0) = true) (fun x y e h => momO_err hop h) _ _ _ (by omega) h2
      | ok m => rw [h2] at h; cases h
  · rw [both_err hl] at h; cases h; rfl
theorem RdH.lens {w : World} {h : H} {v : Value} (r : RdH w h v) : h.counts.length ≤ 9223372036854775807 ∧ h.moms.length ≤ 9223372036854775807 := by
  obtain ⟨A1, A2, c1, c2, e, r1, r2, l⟩ := r
  exact l
/-- What comes back: read again. -/
def ResR (r : Except Int H) (w : World) (e : Ending) (w' : World) : Prop := ∃ v, e = .returned (.tuple #[v, .int .i64 (errO r)]) ∧ RdH w' (valO h0 r) v ∧ Below w.heap.size w w'
theorem merge_rd {a b : H} {va vb : Value} {w : World} (ra : RdH w a va) (rb : RdH w b vb) : Calls Try.prog 24 #[va, vb] w (ResR (bothO opP a b) w) :=
  (merge_any ra rb).mono fun _ _ ⟨v, h1, h2, h3⟩ => ⟨v, h1, h2.rd (okH_both plus_is a b) (Nat.le_trans (len_both a b).1 ra.lens.1) (Nat.le_trans (len_both a b).2 ra.lens.2), h3⟩
theorem less_rd {a b : H} {va vb : Value} {w : World} (ra : RdH w a va) (rb : RdH w b vb) : Calls Try.prog 30 #[va, vb] w (ResR (bothO opM a b) w) :=
  (less_any ra rb).mono fun _ _ ⟨v, h1, h2, h3⟩ => ⟨v, h1, h2.rd (okH_both minus_is a b) (Nat.le_trans (len_both a b).1 ra.lens.1) (Nat.le_trans (len_both a b).2 ra.lens.2), h3⟩

def greatB (h : H) : Bool := decide (1000 < h.counts.length) || decide (300 < h.moms.length)
set_option maxRecDepth 100000 in
theorem great_any {a : H} {va : Value} {w : World} (ra : RdH w a va) : Calls Try.prog 23 #[va] w fun e w' => e = .returned (.bool (greatB a)) ∧ Below w.heap.size w w' := by
  obtain ⟨A1, A2, c1, c2, rfl, r1, r2, l1, l2⟩ := ra
  unfold hV greatB
  obtain ⟨n, hn⟩ : ∃ n, a.counts.length = n := ⟨_, rfl⟩
  obtain ⟨m, hm⟩ : ∃ m, a.moms.length = m := ⟨_, rfl⟩
  rw [hn, hm] at *
  clear hn hm r1 r2
  by_cases h1 : 1000 < n
  · rw [decide_eq_true h1]
    have e1 : decide (1000 < (n : Int)) = true := decide_eq_true (by omega)
    go_enter Try.func23, Try.ntmps23
    go_wp2
    go_ret
    exact ⟨rfl, (Below.refl _ _).alloc (Nat.le_refl _) _⟩
  · rw [decide_eq_false h1]
    have e1 : decide (1000 < (n : Int)) = false := decide_eq_false (by omega)
    by_cases h2 : 300 < m
    · rw [decide_eq_true h2]
      have e2 : decide (300 < (m : Int)) = true := decide_eq_true (by omega)
      go_enter Try.func23, Try.ntmps23
      go_wp2
      go_ret
      exact ⟨rfl, (Below.refl _ _).alloc (Nat.le_refl _) _⟩
    · rw [decide_eq_false h2]
      have e2 : decide (300 < (m : Int)) = false := decide_eq_false (by omega)
      go_enter Try.func23, Try.ntmps23
      go_wp2
      go_ret
      exact ⟨rfl, (Below.refl _ _).alloc (Nat.le_refl _) _⟩
end Go.Proofs.Yteckbgpkoanhfaa.Hb
end

section
/- Plain laws: the document's New and Add of layer 12, as they are printed, are the plain functions. -/
namespace Go.Proofs.Yteckbgpkoanhfaa.Pr
set_option linter.unusedVariables false
open Go.RowKit Go.Proofs.YteckbgpkoanhfaaW.PrintWords Go.Proofs.YteckbgpkoanhfaaW.PrintLast Go.Proofs.YteckbgpkoanhfaaW.PrintMore

theorem wr {i : Int} (h0 : -9223372036854775808 ≤ i) (h1 : i ≤ 9223372036854775807) : wrap64 i = i := by unfold wrap64; omega
theorem rdn (l : List Int) (i : Nat) : rd l (i : Int) = l.getD i 0 := rfl
def ofM (m : Hb.Mom) : S52 := ⟨m.c, m.s, m.q⟩
theorem map_toM (l : List Hb.Mom) : (l.map ofM).map toM = l := by
  rw [List.map_map]
  exact List.map_id l
theorem map_ofM (l : List S52) : (l.map toM).map ofM = l := by
  rw [List.map_map]
  exact List.map_id l
theorem hOf_eq (h : Hb.H) : hOf h.kind h.bins h.classes h.counts (h.moms.map ofM) = h := by unfold hOf; rw [map_toM]
theorem rd_ofM (l : List Hb.Mom) (i : Nat) (hi : i < l.length) : rd_T52 (l.map ofM) (i : Int) = ofM (l.getD i Hb.m0) := by
  simp [rd_T52, List.getD_eq_getElem?_getD, hi]
def hist6 (h : Hb.H) (e : Int) : Int × Int × Int × List Int × List S52 × Int := (h.kind, h.bins, h.classes, h.counts, h.moms.map ofM, e)
def addR (h : Hb.H) : Except Int Hb.H → Int × Int × Int × List Int × List S52 × Int
  | .ok h' => hist6 h' 0
  | .error e => hist6 h e
theorem plus4 {a b : Int} (ha : Hb.inR a) (hb : Hb.inR b) : hornbeamref04_Plus.f a b = some (pairO (Hb.lim (a + b))) := op2_some ha hb
theorem times4 {a b : Int} (ha : Hb.inR a) (hb : Hb.inR b) : hornbeamref04_Times64.f a b = some (pairO (Hb.lim (a * b))) := op2_some ha hb
theorem copy_f (h : Hb.H) (h1 : h.counts.length ≤ 65792) (h2 : h.moms.length ≤ 65792) : hornbeamref12_Copy.f h.kind h.bins h.classes h.counts (h.moms.map ofM) = some (h.kind, h.bins, h.classes, h.counts, h.moms.map ofM) := by
  unfold hornbeamref12_Copy.f
  have c1 : ([] : List Int).length + h.counts.length < 17592186044416 := by simp; omega
  have c2 : ([] : List S52).length + (h.moms.map ofM).length < 5864062014805 := by simp; omega
  simp only [Option.bind_some]
  rw [if_pos c1, if_pos c2, List.nil_append, List.nil_append]
section
variable (h : Hb.H) (bin t w : Int)
theorem add_j1_bad (hr : Hb.rightP h) (hb : Hb.addBad h bin t) : Ev (fun q => hornbeamref12_Add.j1 q bin t w true h.kind h.bins h.classes h.counts (h.moms.map ofM)) (addR h (Hb.addO h bin t w)) := by
  rw [Hb.add_5 hr hb]
  refine Ev.step (f := fun _ => some (hist6 h 5)) (fun q => ?_) (Ev.now _)
  simp only [hornbeamref12_Add.j1]
  rfl
theorem add_j1 (ho : Hb.okH h) (ht : Hb.inR t) (hw : Hb.inR w) (hr : Hb.rightP h) (hb : ¬ Hb.addBad h bin t) : Ev (fun q => hornbeamref12_Add.j1 q bin t w false h.kind h.bins h.classes h.counts (h.moms.map ofM)) (addR h (Hb.addO h bin t w)) := by
  have hs := Hb.right_small hr
  have cp := copy_f h hs.1 (by omega)
  have ff : ¬ (false = true) := by decide
  have hb1 : ¬ bin < 0 := fun e => hb (.inl e)
  have hb2 : ¬ bin ≥ h.bins := fun e => hb (.inr (.inl e))
  by_cases hneg : w < 0
  · rw [Hb.add_1 hr hb hneg]
    refine Ev.step (f := fun _ => some (hist6 h 1)) (fun q => ?_) (Ev.now _)
    simp only [hornbeamref12_Add.j1]
    rw [if_neg ff, if_pos hneg]
    rfl
  · by_cases hk : h.kind = 0
    · obtain ⟨y1, y2, z1, z2⟩ := Hb.may_le hr.1
      have hlen : (h.counts.length : Int) = h.bins * h.classes := by rcases hr.2 with ⟨_, e, _⟩ | ⟨e, _⟩ <;> first | exact e | exact absurd hk e
      have hb3 : ¬ t < 0 := fun e => hb (.inr (.inr ⟨hk, .inl e⟩))
      have hb4 : ¬ t ≥ h.classes := fun e => hb (.inr (.inr ⟨hk, .inr e⟩))
      have hP0 := Int.mul_nonneg (show 0 ≤ bin by omega) z1
      have hPB : bin * h.classes + h.classes ≤ h.bins * h.classes := by
        have := Int.mul_le_mul_of_nonneg_right (show bin + 1 ≤ h.bins by omega) z1
        rw [Int.add_mul] at this
        omega
      obtain ⟨at', hat⟩ : ∃ at' : Nat, bin * h.classes + t = at' := ⟨(bin * h.classes + t).toNat, by omega⟩
      have hlt : at' < h.counts.length := by omega
      have hs1 := hs.1
      have hxR := Hb.getD_inR ho.o1 hlt
      have hadd := Hb.add_c hr hb hneg hk
      rw [hat, Int.toNat_natCast] at hadd
      have c1 : (0 : Int) ≤ (at' : Int) := by omega
      have c2 : (at' : Int) < (h.counts.length : Int) := by omega
      have b1 : -9223372036854775808 ≤ bin * h.classes := by omega
      have b2 : bin * h.classes ≤ 9223372036854775807 := by omega
      have b3 : (-9223372036854775808 : Int) ≤ (at' : Int) := by omega
      have b4 : (at' : Int) ≤ 9223372036854775807 := by omega
      have e1 : wrap64 (wrap64 (bin * h.classes) + t) = (at' : Int) := by rw [wr b1 b2, hat, wr b3 b4]
      have hst : ∀ q, hornbeamref12_Add.j1 (q + 1) bin t w false h.kind h.bins h.classes h.counts (h.moms.map ofM) = some (addR h (Hb.addO h bin t w)) := by
        intro q
        simp only [hornbeamref12_Add.j1]
        rw [if_neg ff, if_neg hneg, cp, Option.bind_some, if_pos hk, e1, if_pos c1, if_pos c2, rdn, plus4 hxR hw, Option.bind_some, hadd]
        cases Hb.lim (h.counts.getD at' 0 + w) with
        | none => rfl
        | some z =>
          simp only [pairO]
          rw [if_pos trivial, if_pos c2, Int.toNat_natCast]
          rfl
      exact Ev.step (f := fun _ => some (addR h (Hb.addO h bin t w))) hst (Ev.now _)
    · have hadd := Hb.add_m hr hb hneg hk
      have hlen : (h.moms.length : Int) = h.bins := by rcases hr.2 with ⟨e, _⟩ | ⟨_, _, e⟩ <;> first | exact e | exact absurd e hk
      obtain ⟨at', rfl⟩ : ∃ tn : Nat, bin = tn := ⟨bin.toNat, by omega⟩
      rw [Int.toNat_natCast] at hadd
      have hlt : at' < h.moms.length := by omega
      have c1 : (0 : Int) ≤ (at' : Int) := by omega
      have c2 : (at' : Int) < ((h.moms.map ofM).length : Int) := by rw [List.length_map]; omega
      have hx : (h.moms.getD at' Hb.m0).ok := by
        rw [List.getD_eq_getElem?_getD, List.getElem?_eq_getElem hlt]
        exact ho.o2 _ (List.getElem_mem hlt)
      have hrd := rd_ofM h.moms at' hlt
      have hst : ∀ q, hornbeamref12_Add.j1 (q + 1) at' t w false h.kind h.bins h.classes h.counts (h.moms.map ofM) = some (addR h (Hb.addO h at' t w)) := by
        intro q
        simp only [hornbeamref12_Add.j1]
        rw [if_neg ff, if_neg hneg, cp, Option.bind_some, if_neg hk, times4 ht hw, Option.bind_some, hadd]
        cases h1 : Hb.lim (t * w) with
        | none => rw [Hb.momentO_1 h1]; rfl
        | some s =>
          have hsR : Hb.inR s := by have := Hb.lim_some h1; rw [this.1]; exact this.2
          simp only [pairO]
          rw [if_pos trivial, times4 ht hsR, Option.bind_some]
          cases h2 : Hb.lim (t * s) with
          | none => rw [Hb.momentO_2 h1 h2]; rfl
          | some z =>
            have hm3 := Hb.momentO_3 h1 h2
            have hmk := Hb.momentO_ok hw hm3
            have hp := plus12_some hx hmk
            rw [hm3]
            simp only [pairO]
            rw [if_pos trivial, if_pos c1, if_pos c2, hrd]
            simp only [ofM]
            rw [hp, Option.bind_some]
            cases hz : Hb.momO Hb.opP (h.moms.getD at' Hb.m0) ⟨w, s, z⟩ with
            | error e =>
              have he := Hb.momO_err Hb.plus_is hz
              exact if_neg (bne_iff_ne.1 he)
            | ok m =>
              refine (if_pos rfl).trans ?_
              rw [if_pos c2, Int.toNat_natCast]
              show some (h.kind, h.bins, h.classes, h.counts, (h.moms.map ofM).set at' (ofM m), (0 : Int)) = some (h.kind, h.bins, h.classes, h.counts, (h.moms.set at' m).map ofM, (0 : Int))
              rw [List.map_set]
      exact Ev.step (f := fun _ => some (addR h (Hb.addO h at' t w))) hst (Ev.now _)
theorem ref_add (ho : Hb.okH h) (ht : Hb.inR t) (hw : Hb.inR w) : Ev (fun q => hornbeamref12_Add.f q h.kind h.bins h.classes h.counts (h.moms.map ofM) bin t w) (addR h (Hb.addO h bin t w)) := by
  unfold hornbeamref12_Add.f hornbeamref12_Right.f
  simp only [Option.bind_some, hOf_eq]
  by_cases hr : Hb.rightP h
  · rw [show Hb.rightB h = true from decide_eq_true hr]
    simp only [if_true]
    have five : ∀ x : Bool, x = true → Hb.addBad h bin t → Ev (fun q => hornbeamref12_Add.j0 q bin t w x h.kind h.bins h.classes h.counts (h.moms.map ofM)) (addR h (Hb.addO h bin t w)) := by
      intro x hx hb
      rw [Hb.add_5 hr hb]
      refine Ev.step (f := fun _ => some (hist6 h 5)) (fun q => ?_) (Ev.now _)
      simp only [hornbeamref12_Add.j0]
      rw [if_pos hx]
      rfl
    by_cases b1 : bin < 0
    · simp only [if_pos b1]
      exact five _ rfl (.inl b1)
    · simp only [if_neg b1]
      by_cases b2 : bin ≥ h.bins
      · exact five _ (decide_eq_true b2) (.inr (.inl b2))
      · rw [decide_eq_false b2]
        have ff : ¬ (false = true) := by decide
        obtain ⟨y1, y2, z1, z2⟩ := Hb.may_le hr.1
        by_cases hk : h.kind = 0
        · by_cases t0 : t < 0
          · refine Ev.step (f := fun q => hornbeamref12_Add.j1 q bin t w true h.kind h.bins h.classes h.counts (h.moms.map ofM)) (fun q => ?_) (add_j1_bad h bin t w hr (.inr (.inr ⟨hk, .inl t0⟩)))
            simp only [hornbeamref12_Add.j0]
            rw [if_neg ff, if_pos hk, if_pos t0]
          · by_cases t1 : t > 255
            · refine Ev.step (f := fun q => hornbeamref12_Add.j1 q bin t w true h.kind h.bins h.classes h.counts (h.moms.map ofM)) (fun q => ?_) (add_j1_bad h bin t w hr (.inr (.inr ⟨hk, .inr (by omega)⟩)))
              simp only [hornbeamref12_Add.j0]
              rw [if_neg ff, if_pos hk, if_neg t0, if_pos t1]
            · by_cases t2 : t ≥ h.classes
              · refine Ev.step (f := fun q => hornbeamref12_Add.j1 q bin t w true h.kind h.bins h.classes h.counts (h.moms.map ofM)) (fun q => ?_) (add_j1_bad h bin t w hr (.inr (.inr ⟨hk, .inr t2⟩)))
                simp only [hornbeamref12_Add.j0]
                rw [if_neg ff, if_pos hk, if_neg t0, if_neg t1, decide_eq_true t2]
              · refine Ev.step (f := fun q => hornbeamref12_Add.j1 q bin t w false h.kind h.bins h.classes h.counts (h.moms.map ofM)) (fun q => ?_) (add_j1 h bin t w ho ht hw hr (by rintro (e | e | ⟨_, e | e⟩) <;> omega))
                simp only [hornbeamref12_Add.j0]
                rw [if_neg ff, if_pos hk, if_neg t0, if_neg t1, decide_eq_false t2]
        · refine Ev.step (f := fun q => hornbeamref12_Add.j1 q bin t w false h.kind h.bins h.classes h.counts (h.moms.map ofM)) (fun q => ?_) (add_j1 h bin t w ho ht hw hr (by rintro (e | e | ⟨e, _⟩) <;> first | exact hk e | omega))
          simp only [hornbeamref12_Add.j0]
          rw [if_neg ff, if_neg hk]
  · rw [show Hb.rightB h = false from decide_eq_false hr, Hb.add_8 hr]
    exact Ev.now _
end
/-! New. -/
theorem ref_may (k b c : Int) : Ev (fun q => hornbeamref12_May.f q k b c) (Hb.mayB k b c) := by
  unfold hornbeamref12_May.f
  have hj : ∀ x : Bool, Ev (fun q => hornbeamref12_May.j0 q k c x) (if x = true then false else if k = 0 then decide (c ≥ 2) && decide (c ≤ 256) else if k = 1 then c == 0 else false) := by
    intro x
    refine Ev.step (f := fun _ => some (if x = true then false else if k = 0 then decide (c ≥ 2) && decide (c ≤ 256) else if k = 1 then c == 0 else false)) (fun q => ?_) (Ev.now _)
    simp only [hornbeamref12_May.j0]
    by_cases h1 : x = true
    · rw [if_pos h1, if_pos h1]
    · rw [if_neg h1, if_neg h1]
      by_cases h2 : k = 0
      · rw [if_pos h2, if_pos h2]
        by_cases h3 : c ≥ 2
        · rw [if_pos h3, decide_eq_true h3, Bool.true_and]
        · rw [if_neg h3, decide_eq_false h3, Bool.false_and]
      · rw [if_neg h2, if_neg h2]
        by_cases h3 : k = 1
        · rw [if_pos h3, if_pos h3]
        · rw [if_neg h3, if_neg h3]
  by_cases b1 : b < 1
  · simp only [if_pos b1]
    have := hj true
    rw [if_pos rfl] at this
    rwa [show Hb.mayB k b c = false from decide_eq_false (by unfold Hb.mayP; omega)]
  · simp only [if_neg b1]
    have := hj (decide (b > 257))
    have e : (if decide (b > 257) = true then false else if k = 0 then decide (c ≥ 2) && decide (c ≤ 256) else if k = 1 then c == 0 else false) = Hb.mayB k b c := by
      unfold Hb.mayB
      by_cases b2 : b > 257
      · rw [if_pos (decide_eq_true b2)]
        exact (decide_eq_false (by unfold Hb.mayP; omega)).symm
      · rw [if_neg (by simpa using b2)]
        by_cases h2 : k = 0
        · rw [if_pos h2, Bool.eq_iff_iff, Bool.and_eq_true, decide_eq_true_iff, decide_eq_true_iff, decide_eq_true_iff]
          unfold Hb.mayP
          omega
        · rw [if_neg h2]
          by_cases h3 : k = 1
          · rw [if_pos h3, Bool.eq_iff_iff, beq_iff_eq, decide_eq_true_iff]
            unfold Hb.mayP
            omega
          · rw [if_neg h3]
            exact (decide_eq_false (by unfold Hb.mayP; omega)).symm
    rwa [e] at this
def newR : Except Int Hb.H → Int × Int × Int × List Int × List S52 × Int
  | .ok h => hist6 h 0
  | .error e => hist6 Hb.h0 e
theorem new_in (b n : Nat) (i : Nat) (R) (hb : b ≤ 257) (hn : n ≤ 256) (hi : i < b) (hk : Ev (fun q => hornbeamref12_New.l0 q 0 b n ((i : Int) + 1) 0 b n (List.replicate ((i + 1) * n) 0) []) R) : ∀ (r c : Nat), c + r = n → Ev (fun q => hornbeamref12_New.l1 q 0 b n i c 0 b n (List.replicate (i * n + c) 0) []) R := by
  intro r
  induction r with
  | zero =>
    intro c hc
    have h1 : ¬ ((c : Int) < (n : Int)) := by omega
    have h2 : ¬ ((0 : Int) = 1) := by decide
    have e : i * n + c = (i + 1) * n := by rw [Nat.add_mul]; omega
    refine Ev.step (f := fun q => hornbeamref12_New.l0 q 0 b n ((i : Int) + 1) 0 b n (List.replicate ((i + 1) * n) 0) []) (fun q => ?_) hk
    simp only [hornbeamref12_New.l1]
    rw [if_neg h1, if_neg h2, wr (by omega) (by omega), e]
  | succ r ih =>
    intro c hc
    have h1 : (c : Int) < (n : Int) := by omega
    have hm : i * n + c < b * n := Hb.sum_at hi (by omega)
    have hbn : b * n ≤ 65792 := by have := Nat.mul_le_mul hb hn; omega
    have h2 : (List.replicate (i * n + c) (0 : Int)).length < 17592186044416 := by rw [List.length_replicate]; omega
    refine Ev.step (f := fun q => hornbeamref12_New.l1 q 0 b n i ((c + 1 : Nat) : Int) 0 b n (List.replicate (i * n + (c + 1)) 0) []) (fun q => ?_) (ih (c + 1) (by omega))
    simp only [hornbeamref12_New.l1]
    rw [if_pos h1, if_pos h2, wr (by omega) (by omega), ← Nat.add_assoc, List.replicate_succ']
    rfl
theorem new_out0 (b n : Nat) (hb : b ≤ 257) (hn : n ≤ 256) : ∀ (r i : Nat), i + r = b → Ev (fun q => hornbeamref12_New.l0 q 0 b n i 0 b n (List.replicate (i * n) 0) []) (0, b, n, List.replicate (b * n) 0, [], 0) := by
  intro r
  induction r with
  | zero =>
    intro i hi
    obtain rfl : i = b := by omega
    have h1 : ¬ ((i : Int) < (i : Int)) := by omega
    refine Ev.step (f := fun _ => some ((0 : Int), (i : Int), (n : Int), List.replicate (i * n) (0 : Int), ([] : List S52), (0 : Int))) (fun q => ?_) (Ev.now _)
    simp only [hornbeamref12_New.l0]
    rw [if_neg h1]
  | succ r ih =>
    intro i hi
    have h1 : (i : Int) < (b : Int) := by omega
    refine Ev.step (f := fun q => hornbeamref12_New.l1 q 0 b n i (0 : Nat) 0 b n (List.replicate (i * n + 0) 0) []) (fun q => ?_) (new_in b n i _ hb hn (by omega) (ih (i + 1) (by omega)) n 0 (by omega))
    simp only [hornbeamref12_New.l0]
    rw [if_pos h1]
    rfl
theorem new_out1 (b : Nat) (hb : b ≤ 257) : ∀ (r i : Nat), i + r = b → Ev (fun q => hornbeamref12_New.l0 q 1 b 0 i 1 b 0 [] (List.replicate i ⟨0, 0, 0⟩)) (1, b, 0, [], List.replicate b ⟨0, 0, 0⟩, 0) := by
  intro r
  induction r with
  | zero =>
    intro i hi
    obtain rfl : i = b := by omega
    have h1 : ¬ ((i : Int) < (i : Int)) := by omega
    refine Ev.step (f := fun _ => some ((1 : Int), (i : Int), (0 : Int), ([] : List Int), List.replicate i (⟨0, 0, 0⟩ : S52), (0 : Int))) (fun q => ?_) (Ev.now _)
    simp only [hornbeamref12_New.l0]
    rw [if_neg h1]
  | succ r ih =>
    intro i hi
    have h1 : (i : Int) < (b : Int) := by omega
    have h2 : ¬ ((0 : Int) < 0) := by decide
    have h3 : (List.replicate i (⟨0, 0, 0⟩ : S52)).length < 5864062014805 := by rw [List.length_replicate]; omega
    refine Ev.step (f := fun q => hornbeamref12_New.l1 q 1 b 0 i 0 1 b 0 [] (List.replicate i ⟨0, 0, 0⟩)) (fun q => ?_) (Ev.step (f := fun q => hornbeamref12_New.l0 q 1 b 0 ((i + 1 : Nat) : Int) 1 b 0 [] (List.replicate (i + 1) ⟨0, 0, 0⟩)) (fun q => ?_) (ih (i + 1) (by omega)))
    · simp only [hornbeamref12_New.l0]
      rw [if_pos h1]
    · simp only [hornbeamref12_New.l1]
      rw [if_neg h2, if_pos trivial, if_pos h3, wr (by omega) (by omega), List.replicate_succ']
      rfl
theorem ref_new (k b c : Int) : Ev (fun q => hornbeamref12_New.f q k b c) (newR (Hb.newO k b c)) := by
  unfold hornbeamref12_New.f
  refine Ev.bind (ref_may k b c) ?_
  by_cases h0 : Hb.mayP k b c
  · rw [show Hb.mayB k b c = true from decide_eq_true h0]
    simp only [if_true]
    obtain ⟨y1, y2, z1, z2⟩ := Hb.may_le h0
    obtain ⟨bn, rfl⟩ : ∃ bn : Nat, b = bn := ⟨b.toNat, by omega⟩
    obtain ⟨n, rfl⟩ : ∃ n : Nat, c = n := ⟨c.toNat, by omega⟩
    by_cases hk : k = 0
    · subst hk
      rw [Hb.new_0 h0 rfl]
      have := new_out0 bn n (by omega) (by omega) bn 0 (by omega)
      rw [Nat.zero_mul] at this
      have e : ((bn : Int) * (n : Int)).toNat = bn * n := by rw [← Int.natCast_mul, Int.toNat_natCast]
      simp only [newR, hist6, e]
      exact this
    · have hm := h0
      unfold Hb.mayP at hm
      obtain rfl : k = 1 := by omega
      obtain rfl : n = 0 := by omega
      rw [Hb.new_1 h0 hk]
      have := new_out1 bn (by omega) bn 0 (by omega)
      simp only [newR, hist6, Int.toNat_natCast, List.map_replicate]
      exact this
  · rw [show Hb.mayB k b c = false from decide_eq_false h0, Hb.new_not h0]
    exact Ev.now _
end Go.Proofs.Yteckbgpkoanhfaa.Pr
end

section
/- Rows of numbers and of moments between two vocabularies. -/
namespace Go.Proofs.Yteckbgpkoanhfaa.Pr
set_option linter.unusedVariables false
open Go.RowKit Go.Proofs.YteckbgpkoanhfaaW.PrintWords Go.Proofs.YteckbgpkoanhfaaW.PrintLast Go.Proofs.YteckbgpkoanhfaaW.PrintMore

theorem reps_tail {α : Type} {R : α → List Value → Prop} {size : Nat} {p : α} {ps : List α} {c cs : List Value} (hc : c.length = size) (h : Reps R size (p :: ps) (c ++ cs)) : R p c ∧ Reps R size ps cs := by
  obtain ⟨hl, hr⟩ := h
  refine ⟨?_, ?_, ?_⟩
  · have := hr 0 p rfl
    rw [Nat.zero_mul, List.drop_zero, List.take_append_of_le_length (by omega), List.take_of_length_le (by omega)] at this
    exact this
  · rw [List.length_append, List.length_cons, hc, Nat.add_mul, Nat.one_mul] at hl
    omega
  · intro j q hq
    have := hr (j + 1) q (by simpa using hq)
    rw [Nat.add_mul, Nat.one_mul, List.drop_append, List.drop_of_length_le (by omega), List.nil_append, hc, Nat.add_sub_cancel] at this
    exact this
theorem reps_ints {w : World} {base : Nat} {ok : Nat → Prop} : ∀ (l : List Int), Reps ((Kd.int .i64).M w base ok) 1 l (Hb.ints l)
  | [] => Reps.none _ _
  | x :: l => Reps.one (v := .int .i64 x) rfl (reps_ints l)
theorem ints_reps {w : World} {base : Nat} {ok : Nat → Prop} : ∀ (l : List Int) (inner : List Value), Reps ((Kd.int .i64).M w base ok) 1 l inner → inner = Hb.ints l
  | [], inner, h => List.length_eq_zero_iff.1 (by have := h.1; simpa using this)
  | x :: l, inner, h => by
    match inner, h with
    | [], h => have := h.1; simp at this
    | c :: cs, h =>
      obtain ⟨h1, h2⟩ := reps_tail (c := [c]) (cs := cs) rfl h
      have h1' : [c] = [Value.int .i64 x] := h1
      simp only [List.cons.injEq, and_true] at h1'
      rw [h1', ints_reps l cs h2]
      rfl
theorem reps_moms {w : World} {base : Nat} {ok : Nat → Prop} : ∀ (l : List S52), Reps (k52.M w base ok) 3 l (Hb.momC (l.map toM))
  | [] => Reps.none _ _
  | x :: l => by
    rw [List.map_cons, Hb.momC_cons']
    exact Reps.c3 (k52_mkM w base ok x) (reps_moms l)
theorem moms_reps {w : World} {base : Nat} {ok : Nat → Prop} : ∀ (l : List S52) (inner : List Value), Reps (k52.M w base ok) 3 l inner → inner = Hb.momC (l.map toM)
  | [], inner, h => List.length_eq_zero_iff.1 (by have := h.1; simpa using this)
  | x :: l, inner, h => by
    match inner, h with
    | [], h => have := h.1; simp at this
    | [_], h => have := h.1; simp at this; omega
    | [_, _], h => have := h.1; simp at this; omega
    | a :: b :: c :: cs, h =>
      obtain ⟨h1, h2⟩ := reps_tail (c := [a, b, c]) (cs := cs) rfl h
      have h1' := k52_openM h1
      simp only [List.cons.injEq, and_true] at h1'
      obtain ⟨e1, e2, e3⟩ := h1'
      rw [List.map_cons, Hb.momC_cons', e1, e2, e3, moms_reps l cs h2]
      rfl
section
variable {w : World} {base : Nat} {ok : Nat → Prop} {v : Value}
theorem RI_of {l : List Int} (h : w.ownsRow base 2 1 v l.length (Hb.ints l)) (hok : ∀ k, v.ownBlock = some k → ok k) : Kd.R (Kd.int .i64) 2 w base ok v l :=
  ⟨hok, _, h, reps_ints l⟩
theorem own_of_RI {l : List Int} (h : Kd.R (Kd.int .i64) 2 w base ok v l) : w.ownsRow base 2 1 v l.length (Hb.ints l) := by
  obtain ⟨_, inner, ho, hr⟩ := h
  rw [← ints_reps l inner hr]
  exact ho
theorem RM_of {l : List S52} (h : w.ownsRow base 52 3 v l.length (Hb.momC (l.map toM))) (hok : ∀ k, v.ownBlock = some k → ok k) : Kd.R k52 52 w base ok v l :=
  ⟨hok, _, h, reps_moms l⟩
theorem own_of_RM {l : List S52} (h : Kd.R k52 52 w base ok v l) : w.ownsRow base 52 3 v l.length (Hb.momC (l.map toM)) := by
  obtain ⟨_, inner, ho, hr⟩ := h
  rw [← moms_reps l inner hr]
  exact ho
end
end Go.Proofs.Yteckbgpkoanhfaa.Pr
end

section
/- Contracts of the document's New and Add of layer 12, out of the printed ones. -/
namespace Go.Proofs.Yteckbgpkoanhfaa.Pr
set_option linter.unusedVariables false
open Go.RowKit Go.Proofs.YteckbgpkoanhfaaW.PrintWords Go.Proofs.YteckbgpkoanhfaaW.PrintLast Go.Proofs.YteckbgpkoanhfaaW.PrintMore
open Hb (H HNew ResH addO newO valO errO okH inR h0 Blk)

theorem HNew.split {base : Nat} {h : H} {w : World} {v1 v2 : Value} {l3 : List Int} {l4 : List S52} {a0 a1 a2 : Int} (e : (a0, a1, a2, l3, l4) = (h.kind, h.bins, h.classes, h.counts, h.moms.map ofM)) {ok : Nat → Prop}
    (r1 : Kd.R (Kd.int .i64) 2 w base ok v1 l3) (r2 : Kd.R k52 52 w base ok v2 l4) : HNew base h w (.agg #[.int .i64 a0, .int .i64 a1, .int .i64 a2, v1, v2]) := by
  simp only [Prod.mk.injEq] at e
  obtain ⟨rfl, rfl, rfl, rfl, rfl⟩ := e
  refine ⟨v1, v2, rfl, own_of_RI r1, ?_⟩
  have := own_of_RM r2
  rw [map_toM, List.length_map] at this
  exact this
theorem rnew_any (k b c : Int) (w : World) : Calls Try.prog 18 #[.int .i64 k, .int .i64 b, .int .i64 c] w (ResH (newO k b c) w) := by
  obtain ⟨q, hq⟩ := (ref_new k b c).rounds
  obtain ⟨r, hr⟩ : ∃ r, newR (newO k b c) = r := ⟨_, rfl⟩
  rw [hr] at hq
  obtain ⟨x1, x2, x3, x4, x5, x6⟩ := r
  refine (hornbeamref12_New.calls q k b c x1 x2 x3 x4 x5 x6 w hq).mono ?_
  rintro e w' ⟨v1, v2, rfl, r1, r2, hb⟩
  have hx : (x1, x2, x3, x4, x5) = ((valO h0 (newO k b c)).kind, (valO h0 (newO k b c)).bins, (valO h0 (newO k b c)).classes, (valO h0 (newO k b c)).counts, (valO h0 (newO k b c)).moms.map ofM) ∧ x6 = errO (newO k b c) := by
    cases hn : newO k b c with
    | ok h =>
      rw [hn] at hr
      simp only [newR, hist6, Prod.mk.injEq] at hr
      obtain ⟨rfl, rfl, rfl, rfl, rfl, rfl⟩ := hr
      exact ⟨rfl, rfl⟩
    | error e =>
      rw [hn] at hr
      simp only [newR, hist6, Prod.mk.injEq] at hr
      obtain ⟨rfl, rfl, rfl, rfl, rfl, rfl⟩ := hr
      exact ⟨rfl, rfl⟩
  exact ⟨_, by rw [hx.2], HNew.split hx.1 r1 r2, hb⟩
theorem radd_any {h : H} {u1 u2 : Value} (bin t k : Int) (ho : okH h) (ht : inR t) (hk : inR k) (N : Nat) (w : World) (hN : N ≤ w.heap.size) (o1 : w.ownsRow N 2 1 u1 h.counts.length (Hb.ints h.counts)) (o2 : w.ownsRow N 52 3 u2 h.moms.length (Hb.momC h.moms)) :
    Calls Try.prog 22 #[.agg #[.int .i64 h.kind, .int .i64 h.bins, .int .i64 h.classes, u1, u2], .int .i64 bin, .int .i64 t, .int .i64 k] w fun e w' => ∃ v', e = .returned (.tuple #[v', .int .i64 (errO (addO h bin t k))]) ∧ HNew N (valO h (addO h bin t k)) w' v' ∧ Kept w w' (fun b => u1.ownBlock = some b ∨ u2.ownBlock = some b) ∧ Below N w w' := by
  obtain ⟨q, hq⟩ := (ref_add h bin t k ho ht hk).rounds
  obtain ⟨r, hr⟩ : ∃ r, addR h (addO h bin t k) = r := ⟨_, rfl⟩
  rw [hr] at hq
  obtain ⟨x1, x2, x3, x4, x5, x6⟩ := r
  obtain ⟨w0, hw0, hB⟩ : ∃ w0 : World, w0.heap.size = N ∧ Below w0.heap.size w0 w := by
    refine ⟨{ w with heap := w.heap.extract 0 N }, by simp; omega, rfl, rfl, rfl, by simp; omega, fun i hi => ?_⟩
    simp at hi ⊢
    rw [Array.getElem?_extract]
    simp
    omega
  have hx : (x1, x2, x3, x4, x5) = ((valO h (addO h bin t k)).kind, (valO h (addO h bin t k)).bins, (valO h (addO h bin t k)).classes, (valO h (addO h bin t k)).counts, (valO h (addO h bin t k)).moms.map ofM) ∧ x6 = errO (addO h bin t k) := by
    cases hn : addO h bin t k with
    | ok h' =>
      rw [hn] at hr
      simp only [addR, hist6, Prod.mk.injEq] at hr
      obtain ⟨rfl, rfl, rfl, rfl, rfl, rfl⟩ := hr
      exact ⟨rfl, rfl⟩
    | error e =>
      rw [hn] at hr
      simp only [addR, hist6, Prod.mk.injEq] at hr
      obtain ⟨rfl, rfl, rfl, rfl, rfl, rfl⟩ := hr
      exact ⟨rfl, rfl⟩
  have r1 : Kd.R (Kd.int .i64) 2 w w0.heap.size (fun b => u1.ownBlock = some b) u1 h.counts := RI_of (by rw [hw0]; exact o1) (fun b hb => hb)
  have r2 : Kd.R k52 52 w w0.heap.size (fun b => u2.ownBlock = some b) u2 (h.moms.map ofM) := RM_of (by rw [hw0, map_toM, List.length_map]; exact o2) (fun b hb => hb)
  refine (hornbeamref12_Add.calls q h.kind h.bins h.classes (fun b => u1.ownBlock = some b) u1 h.counts (fun b => u2.ownBlock = some b) u2 (h.moms.map ofM) bin t k x1 x2 x3 x4 x5 x6 w0 w hB r1 r2 hq).mono ?_
  rintro e w' ⟨v1, v2, rfl, r1', r2', hb, hk'⟩
  rw [hw0] at r1' r2' hb
  refine ⟨_, by rw [hx.2], HNew.split hx.1 r1' r2', hk', ?_⟩
  refine ⟨hb.os.trans hB.os.symm, hb.tape.trans hB.tape.symm, hb.output.trans hB.output.symm, by have := hk'.1; omega, fun i hi => hk'.2 i (by omega) ?_⟩
  rintro (e | e)
  · have := (World.ownsRow.lt o1 i e).1; omega
  · have := (World.ownsRow.lt o2 i e).1; omega
end Go.Proofs.Yteckbgpkoanhfaa.Pr
end

section
/- Contracts by hand, as the printed texts use them: the chapter's example of layer 12. -/
namespace Go.Proofs.Yteckbgpkoanhfaa.Pr
set_option linter.unusedVariables false
open Go.RowKit
def hornbeamlaw12_fixed.f : Option (Bool) := some true
theorem hornbeamlaw12_fixed.calls (r : Bool) (w : World) (h : hornbeamlaw12_fixed.f = some r) :
    Calls Try.prog 16 #[] w fun e w' => e = .returned (.bool r) ∧ Below w.heap.size w w' := by
  rw [← Option.some.inj h]
  exact Hb.fixed12_any w
end Go.Proofs.Yteckbgpkoanhfaa.Pr
end

section
/- The walk of the law HistAdds. -/
namespace Go.Proofs.Yteckbgpkoanhfaa.Hb
set_option linter.unusedVariables false
open Go.RowKit Go.ChangeShapes Go.WideShapes Go.Deep

set_option maxRecDepth 100000 in
theorem add_nil (w : World) : Calls Try.prog 21 #[.pointer none, .int .i64 0, .int .i64 0, .int .i64 0] w fun e w' => e = .returned (.int .i64 8) ∧ Below w.heap.size w w' := by
  go_enter Try.func21, Try.ntmps21
  go_wp2
  go_ret
  exact ⟨rfl, Below.refl _ _⟩
theorem HM.new {base g : Nat} {h : H} {v1 v2 : Value} {W : World} (m : HM base g h v1 v2 W) : HNew base h W (.agg #[.int .i64 h.kind, .int .i64 h.bins, .int .i64 h.classes, v1, v2]) := ⟨_, _, rfl, m.r1, m.r2⟩
theorem HM.rd {base g : Nat} {h : H} {v1 v2 : Value} {W : World} (m : HM base g h v1 v2 W) (ho : okH h) (hl : h.counts.length ≤ 65792 ∧ h.moms.length ≤ 65792) : RdH W h (.agg #[.int .i64 h.kind, .int .i64 h.bins, .int .i64 h.classes, v1, v2]) := m.new.rd ho (by omega) (by omega)
theorem add_lens (h : H) (b t k : Int) : (valO h (addO h b t k)).counts.length = h.counts.length ∧ (valO h (addO h b t k)).moms.length = h.moms.length := by
  by_cases hr : rightP h
  · by_cases hb : addBad h b t
    · rw [add_5 hr hb]; exact ⟨rfl, rfl⟩
    · by_cases hn : k < 0
      · rw [add_1 hr hb hn]; exact ⟨rfl, rfl⟩
      · by_cases h0 : h.kind = 0
        · rw [add_c hr hb hn h0]
          cases lim (h.counts.getD (b * h.classes + t).toNat 0 + k) with
          | none => exact ⟨rfl, rfl⟩
          | some x => exact ⟨by simp [valO], rfl⟩
        · rw [add_m hr hb hn h0]
          cases momentO t k with
          | error e => exact ⟨rfl, rfl⟩
          | ok m =>
            simp only
            cases momO opP (h.moms.getD b.toNat m0) m with
            | error e => exact ⟨rfl, rfl⟩
            | ok m' => exact ⟨rfl, by simp [valO]⟩
  · rw [add_8 hr]; exact ⟨rfl, rfl⟩
theorem add_ok {h : H} (b t k : Int) (ho : okH h) : okH (valO h (addO h b t k)) := by
  cases e : addO h b t k with
  | error x => exact ho
  | ok h' => exact okH_add ho e
theorem new_okH (k b c : Int) : okH (valO h0 (newO k b c)) := by
  cases e : newO k b c with
  | error x => exact ⟨by simp [valO, h0], by simp [valO, h0]⟩
  | ok h' => exact okH_new e
theorem new_right (k b c : Int) : (errO (newO k b c) = 0 ∧ rightP (valO h0 (newO k b c))) ∨ (errO (newO k b c) = 1) := by
  by_cases h : mayP k b c
  · left
    obtain ⟨b1, b2, b3⟩ := id h
    by_cases hk : k = 0
    · rw [new_0 h hk]
      have hbc := bins_classes b1 b2 (show 2 ≤ c by omega) (show c ≤ 256 by omega)
      refine ⟨rfl, h, .inl ⟨hk, ?_, rfl⟩⟩
      simp only [valO, List.length_replicate]
      omega
    · rw [new_1 h hk]
      refine ⟨rfl, h, .inr ⟨hk, rfl, ?_⟩⟩
      simp only [valO, List.length_replicate]
      omega
  · right
    rw [new_not h]; rfl
theorem new_lens (k b c : Int) : (valO h0 (newO k b c)).counts.length ≤ 65792 ∧ (valO h0 (newO k b c)).moms.length ≤ 65792 := by
  cases e : newO k b c with
  | error x => simp [valO, h0]
  | ok h' =>
    rcases new_right k b c with ⟨_, hr⟩ | h1
    · rw [e] at hr
      have := right_small hr
      exact ⟨this.1, by have := this.2; show h'.moms.length ≤ _; simp only [valO] at this; omega⟩
    · rw [e] at h1; cases h1
/-! What is written stays below a bound: all from there on is as it was. -/
theorem grown_own {w w' : World} {N : Nat} {row : Option Nat} (hg : w.grownBy w' row) (hr : ∀ k, row = some k → k < N) {e : TypeId} {size n : Nat} {v : Value} {xs : List Value} (h : w.ownsRow N e size v n xs) : w'.ownsRow N e size v n xs := by
  refine h.kept hg ?_
  rcases h.2 with ⟨rfl, _⟩ | ⟨g, cap, cur, rfl, hb, _⟩
  · exact .inl rfl
  · right
    intro e
    have := hr g (by rw [← e]; rfl)
    omega
theorem grown_blk {w w' : World} {N g : Nat} {row : Option Nat} (hg : w.grownBy w' row) (hr : ∀ k, row = some k → k < N) {cs : Array Value} {t : TypeId} (h : Blk w g cs t) (hN : N ≤ g) : Blk w' g cs t :=
  (hg.block g h.lt (fun e => by have := hr g e.symm; omega)).trans h
theorem HM.grown {N g : Nat} {h : H} {v1 v2 : Value} {w w' : World} {row : Option Nat} (m : HM N g h v1 v2 w) (hg : w.grownBy w' row) (hr : ∀ k, row = some k → k < N) (hN : N ≤ g) : HM N g h v1 v2 w' :=
  ⟨grown_blk hg hr m.blk hN, grown_own hg hr m.r1, grown_own hg hr m.r2⟩
theorem bne_self (x : Int) : (x != x) = false := by simp
/-- The law's two histograms, at each round's head. -/
structure AL (gH gW N : Nat) (hc : H) (v1 v2 u1 u2 : Value) (w W : World) : Prop where
  mH : HM w.heap.size gH hc v1 v2 W
  mW : HM N gW hc u1 u2 W
  be : Below w.heap.size w W
  l1 : ∀ q, v1.ownBlock = some q → q < N
  l2 : ∀ q, v2.ownBlock = some q → q < N
  lH : gH < N
  lW : N ≤ gW
  lB : w.heap.size ≤ N
theorem AL.below {gH gW N : Nat} {hc : H} {v1 v2 u1 u2 : Value} {w W W1 : World} (a : AL gH gW N hc v1 v2 u1 u2 w W) (hb : Below W.heap.size W W1) : AL gH gW N hc v1 v2 u1 u2 w W1 :=
  ⟨a.mH.below hb, a.mW.below hb, a.be.trans (hb.mono a.be.size), a.l1, a.l2, a.lH, a.lW, a.lB⟩
theorem AL.cells {gH gW N : Nat} {hc : H} {v1 v2 u1 u2 : Value} {w W : World} (a : AL gH gW N hc v1 v2 u1 u2 w W) :
    (W.cell? ⟨gH, 0, none⟩ = some (.int .i64 hc.kind) ∧ W.cell? ⟨gH, 1, none⟩ = some (.int .i64 hc.bins) ∧ W.cell? ⟨gH, 2, none⟩ = some (.int .i64 hc.classes) ∧ W.cell? ⟨gH, 3, none⟩ = some v1 ∧ W.cell? ⟨gH, 4, none⟩ = some v2) ∧
    (W.cell? ⟨gW, 0, none⟩ = some (.int .i64 hc.kind) ∧ W.cell? ⟨gW, 1, none⟩ = some (.int .i64 hc.bins) ∧ W.cell? ⟨gW, 2, none⟩ = some (.int .i64 hc.classes) ∧ W.cell? ⟨gW, 3, none⟩ = some u1 ∧ W.cell? ⟨gW, 4, none⟩ = some u2) ∧ (∀ i, W.frozen? ⟨gW, i, none⟩ = false) :=
  ⟨a.mH.blk.cells5, a.mW.blk.cells5, a.mW.blk.frozen⟩
theorem AL.low {gH gW N : Nat} {hc : H} {v1 v2 u1 u2 : Value} {w W : World} (a : AL gH gW N hc v1 v2 u1 u2 w W) : N ≤ W.heap.size := by have := a.mW.blk.lt; have := a.lW; omega
theorem own_low {w w' : World} {N base : Nat} {e : TypeId} {size n : Nat} {v : Value} {xs : List Value} (h : w.ownsRow base e size v n xs) (hb : Below N w w') (hl : ∀ q, v.ownBlock = some q → q < N) : w'.ownsRow base e size v n xs := by
  refine ⟨h.1, ?_⟩
  rcases h.2 with h2 | ⟨g, cap, cur, rfl, hg, hh, r⟩
  · exact .inl h2
  · exact .inr ⟨g, cap, cur, rfl, hg, (hb.block g (hl g rfl)).trans hh, r⟩
theorem HM.low {N base g : Nat} {h : H} {v1 v2 : Value} {w w' : World} (m : HM base g h v1 v2 w) (hb : Below N w w') (hg : g < N) (l1 : ∀ q, v1.ownBlock = some q → q < N) (l2 : ∀ q, v2.ownBlock = some q → q < N) : HM base g h v1 v2 w' :=
  ⟨(hb.block g hg).trans m.blk, own_low m.r1 hb l1, own_low m.r2 hb l2⟩
theorem own_nb {w : World} {base : Nat} {e t : TypeId} {size n g : Nat} {v : Value} {xs : List Value} {cs : Array Value} (h : w.ownsRow base e size v n xs) (hk : Blk w g cs t) (hte : e ≠ t) : ¬ v.ownBlock = some g := by
  intro hv
  rcases h.2 with ⟨rfl, _⟩ | ⟨q, cap, cur, rfl, _, hh, _⟩
  · simp [Value.ownBlock] at hv
  · have : q = g := by simpa [Value.ownBlock] using hv
    subst this
    have := (show w.heap[q]? = _ from hk).symm.trans hh
    simp at this
    exact hte this.2.symm
theorem kept_blk {w w' : World} {S : Nat → Prop} {g : Nat} {cs : Array Value} {t : TypeId} (h : Blk w g cs t) (hk : w.heap.size ≤ w'.heap.size ∧ ∀ i, i < w.heap.size → ¬ S i → w'.heap[i]? = w.heap[i]?) (hn : ¬ S g) : Blk w' g cs t := (hk.2 g h.lt hn).trans h
theorem HM.other5 {base g gW : Nat} {h : H} {v1 v2 : Value} {W : World} {x0 x1 x2 x3 x4 : Value} (m : HM base g h v1 v2 W) (k : Blk W gW #[x0, x1, x2, x3, x4] 36) (hne : g ≠ gW) (a b c d e : Value) :
    HM base g h v1 v2 (((((W.setCell ⟨gW, 0, none⟩ a).setCell ⟨gW, 1, none⟩ b).setCell ⟨gW, 2, none⟩ c).setCell ⟨gW, 3, none⟩ d).setCell ⟨gW, 4, none⟩ e) :=
  ⟨((((m.blk.other (p := ⟨gW, 0, none⟩) hne _).other (p := ⟨gW, 1, none⟩) hne _).other (p := ⟨gW, 2, none⟩) hne _).other (p := ⟨gW, 3, none⟩) hne _).other (p := ⟨gW, 4, none⟩) hne _, own_set5 m.r1 k (by decide) _ _ _ _ _, own_set5 m.r2 k (by decide) _ _ _ _ _⟩
set_option maxRecDepth 100000 in
set_option maxHeartbeats 8000000 in
theorem adds_walk (k b c : Int) (A : Option Addr) (l : List Mom) (cap : Nat) (w : World) (r : RdM w A l) (hl : l.length ≤ 100) :
    Calls Try.prog 5 #[.agg #[.int .i64 k, .int .i64 b, .int .i64 c], .slice A l.length cap] w fun e w' => e = .returned (.bool true) ∧ Below w.heap.size w w' := by
  have hn := fun w => new_any k b c w
  have hm := fun w => Pr.rnew_any k b c w
  have ho := new_okH k b c
  have hls := new_lens k b c
  have hrt := new_right k b c
  unfold ResH at hn hm
  obtain ⟨hh, hhh⟩ : ∃ x, valO h0 (newO k b c) = x := ⟨_, rfl⟩
  obtain ⟨e0, he0⟩ : ∃ x, errO (newO k b c) = x := ⟨_, rfl⟩
  rw [hhh] at hn hm ho hls hrt
  rw [he0] at hn hm hrt
  have KN := Lib.hid hn
  have KM := Lib.hid hm
  have HO := Lib.hid ho
  have HLS := Lib.hid hls
  have R := Lib.hid r
  obtain ⟨n, hnn⟩ : ∃ n, l.length = n := ⟨_, rfl⟩
  have HN := Lib.hid hnn
  rw [hnn] at hl ⊢
  have d1 : decide (100 < (n : Int)) = false := decide_eq_false (by omega)
  have hx : ((e0 == 0) = true ∧ rightB hh = true) ∨ (e0 == 0) = false := by
    rcases hrt with ⟨h1, h2⟩ | h1
    · left; exact ⟨beq_iff_eq.2 h1, decide_eq_true h2⟩
    · right; rw [h1]; rfl
  have hne := bne_self e0
  clear hn hm r hnn ho hls hrt hhh he0
  rcases hx with ⟨x0, x1⟩ | x0
  · go_enter Try.func5, Try.ntmps5
    go_wp2_with fail
    refine (KN.out _).mono ?_
    rintro e w1 ⟨v, rfl, ⟨v1, v2, rfl, r1, r2⟩, hb1⟩
    obtain ⟨B1, d1', rfl⟩ := own_slice r1
    obtain ⟨B2, d2', rfl⟩ := own_slice r2
    have kS := (Blk.new w #[.int .i64 k, .int .i64 b, .int .i64 c] 31).below hb1
    have bS : Below w.heap.size w w1 := ((Below.refl _ w).alloc (Nat.le_refl _) _).trans (hb1.mono (by simp))
    have lS := kS.lt
    obtain ⟨s0, s1, s2⟩ := cells3 kS
    have nS : w.heap.size ≠ w1.heap.size := by omega
    go_wp2_with fail
    obtain ⟨W2, e2⟩ : ∃ W2, W2 = w1.alloc (.cells #[.int .i64 hh.kind, .int .i64 hh.bins, .int .i64 hh.classes, .slice B1 hh.counts.length d1', .slice B2 hh.moms.length d2'] 36) := ⟨_, rfl⟩
    rw [← e2]
    have M1 : HM w.heap.size w1.heap.size hh (.slice B1 hh.counts.length d1') (.slice B2 hh.moms.length d2') W2 := by
      rw [e2]
      exact ⟨Blk.new _ _ _, (World.ownsRow.mono r1 (by simp)).alloc _, (World.ownsRow.mono r2 (by simp)).alloc _⟩
    have bW2 : Below w.heap.size w W2 := by rw [e2]; exact bS.alloc bS.size _
    have sB : w.heap.size ≤ W2.heap.size := bW2.size
    have zW2 : W2.heap.size = w1.heap.size + 1 := by rw [e2]; simp
    obtain ⟨gH, hgH⟩ : ∃ g, w1.heap.size = g := ⟨_, rfl⟩
    have q1 : ∀ q, (Value.slice B1 hh.counts.length d1').ownBlock = some q → q < gH := fun q hq => by rw [← hgH]; exact (World.ownsRow.lt r1 q hq).2
    have q2 : ∀ q, (Value.slice B2 hh.moms.length d2').ownBlock = some q → q < gH := fun q hq => by rw [← hgH]; exact (World.ownsRow.lt r2 q hq).2
    rw [hgH] at M1 zW2 ⊢
    clear e2 r1 r2 hb1 kS bS lS s0 s1 s2 nS hgH
    refine (KM.out _).mono ?_
    rintro e w3 ⟨v, rfl, ⟨u1, u2, rfl, r3, r4⟩, hb3⟩
    obtain ⟨C1, f1, rfl⟩ := own_slice r3
    obtain ⟨C2, f2, rfl⟩ := own_slice r4
    replace M1 := M1.below hb3
    replace bW2 := bW2.trans (hb3.mono bW2.size)
    have zW3 := hb3.size
    obtain ⟨p0, p1, p2, p3, p4⟩ := M1.blk.cells5
    have lH := M1.blk.lt
    have nH : gH ≠ w3.heap.size := by omega
    have nH' : w3.heap.size ≠ gH := by omega
    go_wp2_with fail
    obtain ⟨W4, e4⟩ : ∃ W4, W4 = w3.alloc (.cells #[.int .i64 hh.kind, .int .i64 hh.bins, .int .i64 hh.classes, .slice C1 hh.counts.length f1, .slice C2 hh.moms.length f2] 36) := ⟨_, rfl⟩
    rw [← e4]
    have AL0 : AL gH w3.heap.size W2.heap.size hh (.slice B1 hh.counts.length d1') (.slice B2 hh.moms.length d2') (.slice C1 hh.counts.length f1) (.slice C2 hh.moms.length f2) w W4 := by
      rw [e4]
      exact ⟨M1.below ((Below.refl _ _).alloc (Nat.le_refl _) _), ⟨Blk.new _ _ _, r3.alloc _, r4.alloc _⟩, bW2.alloc bW2.size _, fun q hq => by have := q1 q hq; omega, fun q hq => by have := q2 q hq; omega, by omega, zW3, sB⟩
    obtain ⟨gW, hgW⟩ : ∃ g, w3.heap.size = g := ⟨_, rfl⟩
    obtain ⟨N, hN⟩ : ∃ g, W2.heap.size = g := ⟨_, rfl⟩
    rw [hgW, hN] at AL0
    clear sB
    rw [hgW]
    clear e4 r3 r4 hb3 M1 bW2 zW3 q1 q2 p0 p1 p2 p3 p4 lH nH nH' hgW hN zW2
    refine (same_any (AL0.mH.rd HO.out HLS.out) (AL0.mW.rd HO.out HLS.out)).mono ?_
    rintro e w5 ⟨rfl, hb5⟩
    replace AL0 := AL0.below hb5
    rw [show decide (hh = hh) = true from decide_eq_true rfl]
    clear hb5
    obtain ⟨⟨p0, p1, p2, p3, p4⟩, ⟨y0, y1, y2, y3, y4⟩, yf⟩ := AL0.cells
    have ra := fun w => right_any hh B1 B2 d1' d2' w (by have := HLS.out; omega) (by have := HLS.out; omega)
    rw [x1] at ra
    unfold hV at ra
    have RA := Lib.hid ra
    clear ra
    go_wp2_with fail
    refine (RA.out _).mono ?_
    rintro e w6 ⟨rfl, hb6⟩
    replace AL0 := AL0.below hb6
    clear hb6 RA p0 p1 p2 p3 p4 y0 y1 y2 y3 y4 yf
    go_wp2
    obtain ⟨a1, ha1⟩ : ∃ a, Value.slice B1 hh.counts.length d1' = a := ⟨_, rfl⟩
    obtain ⟨a2, ha2⟩ : ∃ a, Value.slice B2 hh.moms.length d2' = a := ⟨_, rfl⟩
    rw [ha1, ha2] at AL0
    have HA1 := Lib.hid ha1
    have HA2 := Lib.hid ha2
    have HAL := Lib.hid AL0
    clear AL0 ha1 ha2
    go_loopw [58] (fun iv wr => ∃ (j : Nat) (hc : H) (u1 u2 : Value), j ≤ n ∧ iv = .int .i64 j ∧ Hid (okH hc) ∧ Hid (hc.counts.length = hh.counts.length ∧ hc.moms.length = hh.moms.length) ∧ Hid (AL gH gW N hc a1 a2 u1 u2 w wr)) (fun iv _ => n - (intOf iv).toNat)
    case atStart => exact ⟨0, hh, _, _, by omega, rfl, HO, Lib.hid ⟨rfl, rfl⟩, HAL⟩
    case round =>
      obtain ⟨j, hc, u1, u2, hj, rfl, HOc, HLc, HAc⟩ := hrel
      clear HAL
      have a := HAc.out
      by_cases hlt : j < n
      · obtain ⟨ad, rfl, ha⟩ := (R.out.below a.be).at (k := j) (by rw [HN.out]; exact hlt)
        obtain ⟨z1, z2, z3⟩ := ha j (by rw [HN.out]; exact hlt)
        obtain ⟨i1, i2, i3⟩ := R.out.okAt (k := j) (by rw [HN.out]; exact hlt)
        obtain ⟨u, hu⟩ : ∃ u, mAt l j = u := ⟨_, rfl⟩
        rw [hu] at z1 z2 z3 i1 i2 i3
        have I1 := Lib.hid i1
        have I2 := Lib.hid i2
        have I3 := Lib.hid i3
        have hlt' : (j : Int) < n := by omega
        clear ha hu i1 i2 i3 a
        go_wp2_with fail
        obtain ⟨W7, e7⟩ : ∃ W, W = wr.alloc (.cells #[.int .i64 u.c, .int .i64 u.s, .int .i64 u.q] 45) := ⟨_, rfl⟩
        rw [← e7]
        have a7 := HAc.out.below (W1 := W7) (by rw [e7]; exact (Below.refl _ _).alloc (Nat.le_refl _) _)
        have kF : Blk W7 wr.heap.size #[.int .i64 u.c, .int .i64 u.s, .int .i64 u.q] 45 := by rw [e7]; exact Blk.new _ _ _
        have nF : N ≤ wr.heap.size := HAc.out.low
        have wF : gW ≠ wr.heap.size := by have := HAc.out.mW.blk.lt; omega
        obtain ⟨gF, hgF⟩ : ∃ g, wr.heap.size = g := ⟨_, rfl⟩
        rw [hgF] at kF nF wF ⊢
        clear e7 z1 z2 z3 hgF
        refine (add_any hc w.heap.size gH a1 a2 u.c u.s u.q W7 a7.mH HOc.out I2.out I3.out (by have := HLc.out; have := HLS.out; omega) (by have := HLc.out; have := HLS.out; omega)).mono ?_
        rintro e w8 ⟨row, rfl, hM8, hg8, hrow⟩
        have hrN : ∀ q, row = some q → q < N := fun q hq => by
          rcases hrow with h | h | h
          · rw [h] at hq; cases hq
          · exact a7.l1 q (by rw [← h]; exact hq)
          · exact a7.l2 q (by rw [← h]; exact hq)
        have m8 := a7.mW.grown hg8 hrN a7.lW
        have k8 := grown_blk hg8 hrN kF nF
        have b8 : Below w.heap.size w w8 := a7.be.grown hg8 a7.be.size (fun q hq => by
          rcases hrow with h | h | h
          · rw [h] at hq; cases hq
          · exact (World.ownsRow.lt a7.mH.r1 q (by rw [← h]; exact hq)).1
          · exact (World.ownsRow.lt a7.mH.r2 q (by rw [← h]; exact hq)).1)
        have z8 : N ≤ w8.heap.size := Nat.le_trans a7.low hg8.size
        have lH := a7.lH
        have lW := a7.lW
        have lB := a7.lB
        have L1 := Lib.hid a7.l1
        have L2 := Lib.hid a7.l2
        clear hrow hrN hg8 kF a7
        obtain ⟨X, hX⟩ : ∃ X, addO hc u.c u.s u.q = X := ⟨_, rfl⟩
        have hlen := add_lens hc u.c u.s u.q
        have hok := add_ok u.c u.s u.q HOc.out
        have hra := fun w hN o1 o2 => Pr.radd_any (h := hc) (u1 := u1) (u2 := u2) u.c u.s u.q HOc.out I2.out I3.out N w hN o1 o2
        rw [hX] at hM8 hlen hok hra ⊢
        obtain ⟨hd, hhd⟩ : ∃ hd, valO hc X = hd := ⟨_, rfl⟩
        obtain ⟨ex, hex⟩ : ∃ ex, errO X = ex := ⟨_, rfl⟩
        rw [hhd] at hM8 hlen hok hra
        rw [hex] at hra ⊢
        have HOK := Lib.hid hok
        have HLN := Lib.hid (show hd.counts.length = hh.counts.length ∧ hd.moms.length = hh.moms.length by have := HLc.out; omega)
        have HRA := Lib.hid (hra w8 z8 m8.r1 m8.r2)
        have hxx := bne_self ex
        clear hok hlen hra hX hhd hex
        obtain ⟨C1', f1', rfl⟩ := own_slice m8.r1
        obtain ⟨C2', f2', rfl⟩ := own_slice m8.r2
        obtain ⟨y0, y1, y2, y3, y4⟩ := m8.blk.cells5
        obtain ⟨v0, v1, v2⟩ := cells3 k8
        go_wp2_with fail
        refine HRA.out.mono ?_
        rintro e w9 ⟨v', rfl, ⟨t1, t2, rfl, n1, n2⟩, hk9, hb9⟩
        obtain ⟨D1, g1, rfl⟩ := own_slice n1
        obtain ⟨D2, g2, rfl⟩ := own_slice n2
        have M9 := hM8.low hb9 lH L1.out L2.out
        have kW9 := kept_blk m8.blk hk9 (by
          rintro (e | e)
          · exact own_nb m8.r1 m8.blk (by decide) e
          · exact own_nb m8.r2 m8.blk (by decide) e)
        have b9 : Below w.heap.size w w9 := b8.trans (hb9.mono (by have := hM8.blk.lt; omega))
        clear HRA hM8 hk9 hb9 b8 k8 y0 y1 y2 y3 y4 v0 v1 v2 m8 z8
        obtain ⟨p0, p1, p2, p3, p4⟩ := M9.blk.cells5
        have s9 := M9.blk.lt
        have n9 : gH ≠ w9.heap.size := by omega
        have n9' : w9.heap.size ≠ gH := by omega
        have nHW : gH ≠ gW := by omega
        have sW9 := kW9.lt
        go_wp2_with fail
        obtain ⟨W10, e10⟩ : ∃ W, W = w9.alloc (.cells #[.int .i64 hd.kind, .int .i64 hd.bins, .int .i64 hd.classes, .slice D1 hd.counts.length g1, .slice D2 hd.moms.length g2] 36) := ⟨_, rfl⟩
        rw [← e10]
        have bl10 : Below w9.heap.size w9 W10 := by rw [e10]; exact (Below.refl _ _).alloc (Nat.le_refl _) _
        have m10 : HM N w9.heap.size hd (.slice D1 hd.counts.length g1) (.slice D2 hd.moms.length g2) W10 := by
          rw [e10]
          exact ⟨Blk.new _ _ _, n1.alloc _, n2.alloc _⟩
        have M10 := M9.below bl10
        have kW10 := kW9.below bl10
        have b10 := b9.trans (bl10.mono b9.size)
        have nW10 : gW ≠ w9.heap.size := by omega
        obtain ⟨gD, hgD⟩ : ∃ g, w9.heap.size = g := ⟨_, rfl⟩
        rw [hgD] at m10 nW10 ⊢
        clear e10 bl10 M9 kW9 b9 n1 n2 p0 p1 p2 p3 p4 s9 n9 n9' sW9 hgD
        refine (same_any (M10.rd HOK.out (by have := HLN.out; have := HLS.out; omega)) (m10.rd HOK.out (by have := HLN.out; have := HLS.out; omega))).mono ?_
        rintro e w11 ⟨rfl, hb11⟩
        rw [show decide (hd = hd) = true from decide_eq_true rfl]
        replace M10 := M10.below hb11
        replace m10 := m10.below hb11
        replace kW10 := kW10.below hb11
        replace b10 := b10.trans (hb11.mono b10.size)
        clear hb11
        obtain ⟨p0, p1, p2, p3, p4⟩ := m10.blk.cells5
        obtain ⟨y0, y1, y2, y3, y4⟩ := kW10.cells5
        have yf := kW10.frozen
        go_wp2
        go_roundw
        case rel => exact ⟨j + 1, hd, _, _, hlt, by go_num, HOK, HLN, Lib.hid ⟨M10.other5 kW10 nHW _ _ _ _ _, ⟨set5 kW10 _ _ _ _ _, own_set5 m10.r1 kW10 (by decide) _ _ _ _ _, own_set5 m10.r2 kW10 (by decide) _ _ _ _ _⟩, below5 b10 (by omega) _ _ _ _ _, L1.out, L2.out, lH, lW, lB⟩⟩
        case measure => simp [intOf]; omega
      · obtain rfl : j = n := by omega
        have bA := a.be
        clear hlt a
        go_wp2_with (first
          | (go_at_call 16; refine (fixed12_any _).mono ?_; rintro e w4 ⟨rfl, hb4⟩)
          | (go_at_call 21; refine (add_nil _).mono ?_; rintro e w5 ⟨rfl, hb5⟩))
        go_ret
        exact ⟨rfl, bA.trans ((hb4.mono bA.size).trans (hb5.mono (Nat.le_trans bA.size hb4.size)))⟩
  · go_enter Try.func5, Try.ntmps5
    go_wp2_with fail
    refine (KN.out _).mono ?_
    rintro e w1 ⟨v, rfl, ⟨v1, v2, rfl, r1, r2⟩, hb1⟩
    obtain ⟨B1, d1', rfl⟩ := own_slice r1
    obtain ⟨B2, d2', rfl⟩ := own_slice r2
    have kS := (Blk.new w #[.int .i64 k, .int .i64 b, .int .i64 c] 31).below hb1
    have bS : Below w.heap.size w w1 := ((Below.refl _ w).alloc (Nat.le_refl _) _).trans (hb1.mono (by simp))
    have lS := kS.lt
    obtain ⟨s0, s1, s2⟩ := cells3 kS
    have nS : w.heap.size ≠ w1.heap.size := by omega
    go_wp2_with fail
    obtain ⟨W2, e2⟩ : ∃ W2, W2 = w1.alloc (.cells #[.int .i64 hh.kind, .int .i64 hh.bins, .int .i64 hh.classes, .slice B1 hh.counts.length d1', .slice B2 hh.moms.length d2'] 36) := ⟨_, rfl⟩
    rw [← e2]
    have M1 : HM w.heap.size w1.heap.size hh (.slice B1 hh.counts.length d1') (.slice B2 hh.moms.length d2') W2 := by
      rw [e2]
      exact ⟨Blk.new _ _ _, (World.ownsRow.mono r1 (by simp)).alloc _, (World.ownsRow.mono r2 (by simp)).alloc _⟩
    have bW2 : Below w.heap.size w W2 := by rw [e2]; exact bS.alloc bS.size _
    have sB : w.heap.size ≤ W2.heap.size := bW2.size
    have zW2 : W2.heap.size = w1.heap.size + 1 := by rw [e2]; simp
    obtain ⟨gH, hgH⟩ : ∃ g, w1.heap.size = g := ⟨_, rfl⟩
    have q1 : ∀ q, (Value.slice B1 hh.counts.length d1').ownBlock = some q → q < gH := fun q hq => by rw [← hgH]; exact (World.ownsRow.lt r1 q hq).2
    have q2 : ∀ q, (Value.slice B2 hh.moms.length d2').ownBlock = some q → q < gH := fun q hq => by rw [← hgH]; exact (World.ownsRow.lt r2 q hq).2
    rw [hgH] at M1 zW2 ⊢
    clear e2 r1 r2 hb1 kS bS lS s0 s1 s2 nS hgH
    refine (KM.out _).mono ?_
    rintro e w3 ⟨v, rfl, ⟨u1, u2, rfl, r3, r4⟩, hb3⟩
    obtain ⟨C1, f1, rfl⟩ := own_slice r3
    obtain ⟨C2, f2, rfl⟩ := own_slice r4
    replace M1 := M1.below hb3
    replace bW2 := bW2.trans (hb3.mono bW2.size)
    have zW3 := hb3.size
    obtain ⟨p0, p1, p2, p3, p4⟩ := M1.blk.cells5
    have lH := M1.blk.lt
    have nH : gH ≠ w3.heap.size := by omega
    have nH' : w3.heap.size ≠ gH := by omega
    go_wp2_with fail
    obtain ⟨W4, e4⟩ : ∃ W4, W4 = w3.alloc (.cells #[.int .i64 hh.kind, .int .i64 hh.bins, .int .i64 hh.classes, .slice C1 hh.counts.length f1, .slice C2 hh.moms.length f2] 36) := ⟨_, rfl⟩
    rw [← e4]
    have AL0 : AL gH w3.heap.size W2.heap.size hh (.slice B1 hh.counts.length d1') (.slice B2 hh.moms.length d2') (.slice C1 hh.counts.length f1) (.slice C2 hh.moms.length f2) w W4 := by
      rw [e4]
      exact ⟨M1.below ((Below.refl _ _).alloc (Nat.le_refl _) _), ⟨Blk.new _ _ _, r3.alloc _, r4.alloc _⟩, bW2.alloc bW2.size _, fun q hq => by have := q1 q hq; omega, fun q hq => by have := q2 q hq; omega, by omega, zW3, sB⟩
    obtain ⟨gW, hgW⟩ : ∃ g, w3.heap.size = g := ⟨_, rfl⟩
    obtain ⟨N, hN⟩ : ∃ g, W2.heap.size = g := ⟨_, rfl⟩
    rw [hgW, hN] at AL0
    clear sB
    rw [hgW]
    clear e4 r3 r4 hb3 M1 bW2 zW3 q1 q2 p0 p1 p2 p3 p4 lH nH nH' hgW hN zW2
    refine (same_any (AL0.mH.rd HO.out HLS.out) (AL0.mW.rd HO.out HLS.out)).mono ?_
    rintro e w5 ⟨rfl, hb5⟩
    replace AL0 := AL0.below hb5
    rw [show decide (hh = hh) = true from decide_eq_true rfl]
    clear hb5
    obtain ⟨⟨p0, p1, p2, p3, p4⟩, ⟨y0, y1, y2, y3, y4⟩, yf⟩ := AL0.cells
    go_wp2
    clear p0 p1 p2 p3 p4 y0 y1 y2 y3 y4 yf
    obtain ⟨a1, ha1⟩ : ∃ a, Value.slice B1 hh.counts.length d1' = a := ⟨_, rfl⟩
    obtain ⟨a2, ha2⟩ : ∃ a, Value.slice B2 hh.moms.length d2' = a := ⟨_, rfl⟩
    rw [ha1, ha2] at AL0
    have HA1 := Lib.hid ha1
    have HA2 := Lib.hid ha2
    have HAL := Lib.hid AL0
    clear AL0 ha1 ha2
    go_loopw [58] (fun iv wr => ∃ (j : Nat) (hc : H) (u1 u2 : Value), j ≤ n ∧ iv = .int .i64 j ∧ Hid (okH hc) ∧ Hid (hc.counts.length = hh.counts.length ∧ hc.moms.length = hh.moms.length) ∧ Hid (AL gH gW N hc a1 a2 u1 u2 w wr)) (fun iv _ => n - (intOf iv).toNat)
    case atStart => exact ⟨0, hh, _, _, by omega, rfl, HO, Lib.hid ⟨rfl, rfl⟩, HAL⟩
    case round =>
      obtain ⟨j, hc, u1, u2, hj, rfl, HOc, HLc, HAc⟩ := hrel
      clear HAL
      have a := HAc.out
      by_cases hlt : j < n
      · obtain ⟨ad, rfl, ha⟩ := (R.out.below a.be).at (k := j) (by rw [HN.out]; exact hlt)
        obtain ⟨z1, z2, z3⟩ := ha j (by rw [HN.out]; exact hlt)
        obtain ⟨i1, i2, i3⟩ := R.out.okAt (k := j) (by rw [HN.out]; exact hlt)
        obtain ⟨u, hu⟩ : ∃ u, mAt l j = u := ⟨_, rfl⟩
        rw [hu] at z1 z2 z3 i1 i2 i3
        have I1 := Lib.hid i1
        have I2 := Lib.hid i2
        have I3 := Lib.hid i3
        have hlt' : (j : Int) < n := by omega
        clear ha hu i1 i2 i3 a
        go_wp2_with fail
        obtain ⟨W7, e7⟩ : ∃ W, W = wr.alloc (.cells #[.int .i64 u.c, .int .i64 u.s, .int .i64 u.q] 45) := ⟨_, rfl⟩
        rw [← e7]
        have a7 := HAc.out.below (W1 := W7) (by rw [e7]; exact (Below.refl _ _).alloc (Nat.le_refl _) _)
        have kF : Blk W7 wr.heap.size #[.int .i64 u.c, .int .i64 u.s, .int .i64 u.q] 45 := by rw [e7]; exact Blk.new _ _ _
        have nF : N ≤ wr.heap.size := HAc.out.low
        have wF : gW ≠ wr.heap.size := by have := HAc.out.mW.blk.lt; omega
        obtain ⟨gF, hgF⟩ : ∃ g, wr.heap.size = g := ⟨_, rfl⟩
        rw [hgF] at kF nF wF ⊢
        clear e7 z1 z2 z3 hgF
        refine (add_any hc w.heap.size gH a1 a2 u.c u.s u.q W7 a7.mH HOc.out I2.out I3.out (by have := HLc.out; have := HLS.out; omega) (by have := HLc.out; have := HLS.out; omega)).mono ?_
        rintro e w8 ⟨row, rfl, hM8, hg8, hrow⟩
        have hrN : ∀ q, row = some q → q < N := fun q hq => by
          rcases hrow with h | h | h
          · rw [h] at hq; cases hq
          · exact a7.l1 q (by rw [← h]; exact hq)
          · exact a7.l2 q (by rw [← h]; exact hq)
        have m8 := a7.mW.grown hg8 hrN a7.lW
        have k8 := grown_blk hg8 hrN kF nF
        have b8 : Below w.heap.size w w8 := a7.be.grown hg8 a7.be.size (fun q hq => by
          rcases hrow with h | h | h
          · rw [h] at hq; cases hq
          · exact (World.ownsRow.lt a7.mH.r1 q (by rw [← h]; exact hq)).1
          · exact (World.ownsRow.lt a7.mH.r2 q (by rw [← h]; exact hq)).1)
        have z8 : N ≤ w8.heap.size := Nat.le_trans a7.low hg8.size
        have lH := a7.lH
        have lW := a7.lW
        have lB := a7.lB
        have L1 := Lib.hid a7.l1
        have L2 := Lib.hid a7.l2
        clear hrow hrN hg8 kF a7
        obtain ⟨X, hX⟩ : ∃ X, addO hc u.c u.s u.q = X := ⟨_, rfl⟩
        have hlen := add_lens hc u.c u.s u.q
        have hok := add_ok u.c u.s u.q HOc.out
        have hra := fun w hN o1 o2 => Pr.radd_any (h := hc) (u1 := u1) (u2 := u2) u.c u.s u.q HOc.out I2.out I3.out N w hN o1 o2
        rw [hX] at hM8 hlen hok hra ⊢
        obtain ⟨hd, hhd⟩ : ∃ hd, valO hc X = hd := ⟨_, rfl⟩
        obtain ⟨ex, hex⟩ : ∃ ex, errO X = ex := ⟨_, rfl⟩
        rw [hhd] at hM8 hlen hok hra
        rw [hex] at hra ⊢
        have HOK := Lib.hid hok
        have HLN := Lib.hid (show hd.counts.length = hh.counts.length ∧ hd.moms.length = hh.moms.length by have := HLc.out; omega)
        have HRA := Lib.hid (hra w8 z8 m8.r1 m8.r2)
        have hxx := bne_self ex
        clear hok hlen hra hX hhd hex
        obtain ⟨C1', f1', rfl⟩ := own_slice m8.r1
        obtain ⟨C2', f2', rfl⟩ := own_slice m8.r2
        obtain ⟨y0, y1, y2, y3, y4⟩ := m8.blk.cells5
        obtain ⟨v0, v1, v2⟩ := cells3 k8
        go_wp2_with fail
        refine HRA.out.mono ?_
        rintro e w9 ⟨v', rfl, ⟨t1, t2, rfl, n1, n2⟩, hk9, hb9⟩
        obtain ⟨D1, g1, rfl⟩ := own_slice n1
        obtain ⟨D2, g2, rfl⟩ := own_slice n2
        have M9 := hM8.low hb9 lH L1.out L2.out
        have kW9 := kept_blk m8.blk hk9 (by
          rintro (e | e)
          · exact own_nb m8.r1 m8.blk (by decide) e
          · exact own_nb m8.r2 m8.blk (by decide) e)
        have b9 : Below w.heap.size w w9 := b8.trans (hb9.mono (by have := hM8.blk.lt; omega))
        clear HRA hM8 hk9 hb9 b8 k8 y0 y1 y2 y3 y4 v0 v1 v2 m8 z8
        obtain ⟨p0, p1, p2, p3, p4⟩ := M9.blk.cells5
        have s9 := M9.blk.lt
        have n9 : gH ≠ w9.heap.size := by omega
        have n9' : w9.heap.size ≠ gH := by omega
        have nHW : gH ≠ gW := by omega
        have sW9 := kW9.lt
        go_wp2_with fail
        obtain ⟨W10, e10⟩ : ∃ W, W = w9.alloc (.cells #[.int .i64 hd.kind, .int .i64 hd.bins, .int .i64 hd.classes, .slice D1 hd.counts.length g1, .slice D2 hd.moms.length g2] 36) := ⟨_, rfl⟩
        rw [← e10]
        have bl10 : Below w9.heap.size w9 W10 := by rw [e10]; exact (Below.refl _ _).alloc (Nat.le_refl _) _
        have m10 : HM N w9.heap.size hd (.slice D1 hd.counts.length g1) (.slice D2 hd.moms.length g2) W10 := by
          rw [e10]
          exact ⟨Blk.new _ _ _, n1.alloc _, n2.alloc _⟩
        have M10 := M9.below bl10
        have kW10 := kW9.below bl10
        have b10 := b9.trans (bl10.mono b9.size)
        have nW10 : gW ≠ w9.heap.size := by omega
        obtain ⟨gD, hgD⟩ : ∃ g, w9.heap.size = g := ⟨_, rfl⟩
        rw [hgD] at m10 nW10 ⊢
        clear e10 bl10 M9 kW9 b9 n1 n2 p0 p1 p2 p3 p4 s9 n9 n9' sW9 hgD
        refine (same_any (M10.rd HOK.out (by have := HLN.out; have := HLS.out; omega)) (m10.rd HOK.out (by have := HLN.out; have := HLS.out; omega))).mono ?_
        rintro e w11 ⟨rfl, hb11⟩
        rw [show decide (hd = hd) = true from decide_eq_true rfl]
        replace M10 := M10.below hb11
        replace m10 := m10.below hb11
        replace kW10 := kW10.below hb11
        replace b10 := b10.trans (hb11.mono b10.size)
        clear hb11
        obtain ⟨p0, p1, p2, p3, p4⟩ := m10.blk.cells5
        obtain ⟨y0, y1, y2, y3, y4⟩ := kW10.cells5
        have yf := kW10.frozen
        go_wp2
        go_roundw
        case rel => exact ⟨j + 1, hd, _, _, hlt, by go_num, HOK, HLN, Lib.hid ⟨M10.other5 kW10 nHW _ _ _ _ _, ⟨set5 kW10 _ _ _ _ _, own_set5 m10.r1 kW10 (by decide) _ _ _ _ _, own_set5 m10.r2 kW10 (by decide) _ _ _ _ _⟩, below5 b10 (by omega) _ _ _ _ _, L1.out, L2.out, lH, lW, lB⟩⟩
        case measure => simp [intOf]; omega
      · obtain rfl : j = n := by omega
        have bA := a.be
        clear hlt a
        go_wp2_with (first
          | (go_at_call 16; refine (fixed12_any _).mono ?_; rintro e w4 ⟨rfl, hb4⟩)
          | (go_at_call 21; refine (add_nil _).mono ?_; rintro e w5 ⟨rfl, hb5⟩))
        go_ret
        exact ⟨rfl, bA.trans ((hb4.mono bA.size).trans (hb5.mono (Nat.le_trans bA.size hb4.size)))⟩
end Go.Proofs.Yteckbgpkoanhfaa.Hb
end

section
/- How a shape and facts among the arguments are read. -/
namespace Go.Proofs.Yteckbgpkoanhfaa.Hb
set_option linter.unusedVariables false
open Go.RowKit Go.ChangeShapes Go.WideShapes Go.Deep
section
variable {T : Type} {enc : TypeId × Value → T} {W : World} {base : Nat} {sp : Nat → Bool} {held : Bool}
theorem array3 {α : Type} {cs : Array α} (h : cs.size = 3) : ∃ c0 c1 c2, cs = #[c0, c1, c2] := by
  obtain ⟨l⟩ := cs
  match l, h with
  | [c0, c1, c2], _ => exact ⟨c0, c1, c2, rfl⟩
theorem read_fact {fuel : Nat} {cs : List Value} {x : DataW T × List MemPlace} (h : DataW.trod enc Try.prog W base sp held fuel 45 cs = some x) : ∃ m : Mom, m.ok ∧ cs = [.int .i64 m.c, .int .i64 m.s, .int .i64 m.q] := by
  obtain ⟨xs, n, _, _, hl, hlen, hf⟩ := DataW.trod_struct Try.underlying45 h
  rw [show Try.prog.cellsOf 45 = 3 from by kernel_rfl] at hl
  obtain ⟨a, b, c, rfl⟩ := list3 hl
  have k1 : Try.prog.cellsOf 2 = 1 := by kernel_rfl
  have k2 : Try.prog.cellsOf 3 = 1 := by kernel_rfl
  have hx : xs.length = 3 := hlen
  have g0 : DataW.trod enc Try.prog W base sp held n 3 ((List.drop 0 [a, b, c]).take (Try.prog.cellsOf 3)) = xs[0]? := hf 0 _ rfl
  have g1 : DataW.trod enc Try.prog W base sp held n 2 ((List.drop 1 [a, b, c]).take (Try.prog.cellsOf 2)) = xs[1]? := hf 1 _ rfl
  have g2 : DataW.trod enc Try.prog W base sp held n 3 ((List.drop 2 [a, b, c]).take (Try.prog.cellsOf 3)) = xs[2]? := hf 2 _ rfl
  rw [List.getElem?_eq_getElem (by omega), k2] at g0 g2
  rw [List.getElem?_eq_getElem (by omega), k1] at g1
  obtain ⟨z0, hz0, _, w0⟩ := DataW.trod_int Try.underlying3 g0
  obtain ⟨z1, hz1, _, w1⟩ := DataW.trod_int Try.underlying2 g1
  obtain ⟨z2, hz2, _, w2⟩ := DataW.trod_int Try.underlying3 g2
  have hz0 : [a] = [.int .i64 z0] := hz0
  have hz1 : [b] = [.int .i64 z1] := hz1
  have hz2 : [c] = [.int .i64 z2] := hz2
  simp only [List.cons.injEq, and_true] at hz0 hz1 hz2
  exact ⟨⟨z0, z1, z2⟩, ⟨lit_inR w0, lit_inR w1, lit_inR w2⟩, by rw [hz0, hz1, hz2]⟩
set_option maxRecDepth 100000 in
theorem read_facts {r : Reach} {b0 : Nat} {v : Value} {d : DataW T} {p : List MemPlace} (hv : Value.okWide Try.prog W r b0 32 v) (h : DataW.Trod enc Try.prog W base sp held 32 v d p) : ∃ A l cap, v = .slice A l.length cap ∧ RdM W A l ∧ l.length ≤ 9223372036854775807 := by
  obtain ⟨sa, sl, sc, rfl⟩ := okWide_slice Try.underlying32 hv
  obtain ⟨fuel, h⟩ := h
  have h : DataW.trod enc Try.prog W base sp held fuel 32 [.slice sa sl sc] = some (d, p) := h
  rcases open_slice Try.underlying32 h with ⟨hc, _⟩ | ⟨a, len, cap, m, n, D, Pl, hc, hb, hl, hm, hmm, _, hx⟩
  · cases hc
    exact ⟨none, [], 0, rfl, ⟨by simp, .inl rfl⟩, by simp⟩
  · cases hc
    have hml : sl ≤ m := by rw [hmm]; split <;> omega
    have hv : ∀ i, i < sl → ∃ m : Mom, m.ok ∧ W.cell? (a.add (i * 3)) = some (.int .i64 m.c) ∧ W.cell? ⟨(a.add (i * 3)).block, (a.add (i * 3)).off + 1, none⟩ = some (.int .i64 m.s) ∧ W.cell? ⟨(a.add (i * 3)).block, (a.add (i * 3)).off + 2, none⟩ = some (.int .i64 m.q) := fun i hi => by
      obtain ⟨cs', h1, h2⟩ := hx i (by omega)
      obtain ⟨mm, hok, rfl⟩ := read_fact h2
      rw [show Try.prog.cellsOf 45 = 3 from by kernel_rfl] at h1
      obtain ⟨_, _, hcell⟩ := World.cells?_some h1
      have c0 := hcell 0 (by omega)
      have c1 := hcell 1 (by omega)
      have c2 := hcell 2 (by omega)
      refine ⟨mm, hok, ?_, ?_, ?_⟩
      · simpa [Addr.add] using c0
      · simpa [Addr.add] using c1
      · simpa [Addr.add] using c2
    obtain ⟨M, hM⟩ := choose_lt (α := Mom) (p := fun i m => m.ok ∧ W.cell? (a.add (i * 3)) = some (.int .i64 m.c) ∧ W.cell? ⟨(a.add (i * 3)).block, (a.add (i * 3)).off + 1, none⟩ = some (.int .i64 m.s) ∧ W.cell? ⟨(a.add (i * 3)).block, (a.add (i * 3)).off + 2, none⟩ = some (.int .i64 m.q)) hv
    refine ⟨some a, (List.range sl).map M, sc, by simp, ⟨?_, .inr ⟨a, rfl, fun i hi => ?_⟩⟩, by simp; unfold maxLen at hm; omega⟩
    · intro x hx'
      obtain ⟨i, hi, rfl⟩ := List.mem_map.1 hx'
      exact (hM i (by simpa using hi)).1
    · have hi' : i < sl := by simpa using hi
      have : mAt ((List.range sl).map M) i = M i := by simp [mAt, List.getD_eq_getElem?_getD, hi']
      rw [this]
      exact (hM i hi').2
set_option maxRecDepth 100000 in
theorem read_shape {r : Reach} {b0 : Nat} {v : Value} {d : DataW T} {p : List MemPlace} (hv : Value.okWide Try.prog W r b0 31 v) (h : DataW.Trod enc Try.prog W base sp held 31 v d p) : ∃ k b c : Int, v = .agg #[.int .i64 k, .int .i64 b, .int .i64 c] := by
  obtain ⟨cs, rfl, hsz⟩ := okWide_struct Try.underlying31 hv
  obtain ⟨c0, c1, c2, rfl⟩ := array3 (hsz.trans (by kernel_rfl : Try.prog.cellsOf 31 = 3))
  obtain ⟨fuel, hfu⟩ := h
  obtain ⟨xs, n, _, _, hl, hlen, hf⟩ := DataW.trod_struct Try.underlying31 hfu
  have k1 : Try.prog.cellsOf 3 = 1 := by kernel_rfl
  have hx : xs.length = 3 := hlen
  have g0 : DataW.trod enc Try.prog W base sp held n 3 ((List.drop 0 [c0, c1, c2]).take (Try.prog.cellsOf 3)) = xs[0]? := hf 0 _ rfl
  have g1 : DataW.trod enc Try.prog W base sp held n 3 ((List.drop 1 [c0, c1, c2]).take (Try.prog.cellsOf 3)) = xs[1]? := hf 1 _ rfl
  have g2 : DataW.trod enc Try.prog W base sp held n 3 ((List.drop 2 [c0, c1, c2]).take (Try.prog.cellsOf 3)) = xs[2]? := hf 2 _ rfl
  rw [List.getElem?_eq_getElem (by omega), k1] at g0 g1 g2
  obtain ⟨z0, hz0, _, _⟩ := DataW.trod_int Try.underlying3 g0
  obtain ⟨z1, hz1, _, _⟩ := DataW.trod_int Try.underlying3 g1
  obtain ⟨z2, hz2, _, _⟩ := DataW.trod_int Try.underlying3 g2
  have e0 : [c0] = [.int .i64 z0] := hz0
  have e1 : [c1] = [.int .i64 z1] := hz1
  have e2 : [c2] = [.int .i64 z2] := hz2
  simp only [List.cons.injEq, and_true] at e0 e1 e2
  subst e0 e1 e2
  exact ⟨z0, z1, z2, rfl⟩
end
end Go.Proofs.Yteckbgpkoanhfaa.Hb
end

section
/- The law HistAdds, of any arguments. -/
namespace Go.Proofs.Yteckbgpkoanhfaa.Hb
set_option linter.unusedVariables false
open Go.RowKit
set_option maxRecDepth 100000 in
theorem adds_big (v : Value) (hv : ∃ k b c : Int, v = .agg #[.int .i64 k, .int .i64 b, .int .i64 c]) (A : Option Addr) (n cap : Nat) (w : World) (hn : 100 < n) :
    Calls Try.prog 5 #[v, .slice A n cap] w fun e w' => e = .returned (.bool true) ∧ Below w.heap.size w w' := by
  obtain ⟨k, b, c, rfl⟩ := hv
  have d1 : decide (100 < (n : Int)) = true := decide_eq_true (by omega)
  clear hn
  go_enter Try.func5, Try.ntmps5
  go_wp2_with (go_at_call 16; refine (fixed12_any _).mono ?_; rintro e w4 ⟨rfl, hb4⟩)
  go_ret
  exact ⟨rfl, ((Below.refl _ w).alloc (Nat.le_refl _) _).trans (hb4.mono (by simp))⟩
theorem adds_any (W : World) (v : Value) (hv : ∃ k b c : Int, v = .agg #[.int .i64 k, .int .i64 b, .int .i64 c]) (u : Value) (hu : ∃ A l cap, u = .slice A l.length cap ∧ RdM W A l ∧ l.length ≤ 9223372036854775807) :
    Calls Try.prog 5 #[v, u] W fun e w' => e = .returned (.bool true) ∧ Below W.heap.size W w' := by
  obtain ⟨A, l, cap, rfl, r, hl⟩ := hu
  by_cases h : l.length ≤ 100
  · obtain ⟨k, b, c, rfl⟩ := hv
    exact adds_walk k b c A l cap W r h
  · exact adds_big v hv A l.length cap W (by omega)
end Go.Proofs.Yteckbgpkoanhfaa.Hb
end

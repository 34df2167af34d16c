/- The walks of layer hist: Add of means. -/
import Derived.Test.YteckbgpkoanhfaaHbHistF
import Derived.Deep.RegionWith
namespace Go.Proofs.Yteckbgpkoanhfaa.Hb
open Go.RowKit

theorem momC_cons (m : Mom) (l : List Mom) : momC (m :: l) = .int .i64 m.c :: .int .i64 m.s :: .int .i64 m.q :: momC l := by simp [momC]
theorem momC_at : ∀ (l : List Mom) (i : Nat) (x : Mom), l[i]? = some x → (momC l)[i * 3]? = some (.int .i64 x.c) ∧ (momC l)[i * 3 + 1]? = some (.int .i64 x.s) ∧ (momC l)[i * 3 + 2]? = some (.int .i64 x.q)
  | [], i, x, h => by simp at h
  | m :: l, 0, x, h => by
    simp at h; subst h
    rw [momC_cons]; exact ⟨rfl, rfl, rfl⟩
  | m :: l, i + 1, x, h => by
    have ih := momC_at l i x (by simpa using h)
    rw [momC_cons, show (i + 1) * 3 = i * 3 + 3 by omega]
    exact ih
theorem momC_set : ∀ (l : List Mom) (i : Nat) (m : Mom), i < l.length → (((momC l).set (i * 3) (.int .i64 m.c)).set (i * 3 + 1) (.int .i64 m.s)).set (i * 3 + 2) (.int .i64 m.q) = momC (l.set i m)
  | [], i, m, h => by simp at h
  | x :: l, 0, m, h => by simp [momC_cons]
  | x :: l, i + 1, m, h => by
    have ih := momC_set l i m (by simpa using h)
    rw [List.set_cons_succ, momC_cons, momC_cons, ← ih, show (i + 1) * 3 = i * 3 + 3 by omega]
    rfl
theorem momentO_ok {t k : Int} {m : Mom} (hk : inR k) (h : momentO t k = .ok m) : m.ok := by
  unfold momentO at h
  cases h1 : lim (t * k) with
  | none => rw [h1] at h; cases h
  | some s =>
    rw [h1] at h; simp only at h
    cases h2 : lim (t * s) with
    | none => rw [h2] at h; cases h
    | some q =>
      rw [h2] at h
      cases h
      have a1 := lim_some h1
      have a2 := lim_some h2
      exact ⟨hk, by rw [a1.1]; exact a1.2, by rw [a2.1]; exact a2.2⟩
theorem own_ne {w : World} {base : Nat} {e : TypeId} {size n g i : Nat} {v u : Value} {xs : List Value} (h : w.ownsRow base e size v n xs) (hne : v.ownBlock ≠ some g) : (w.setCell ⟨g, i, none⟩ u).ownsRow base e size v n xs :=
  h.kept (row := some g) ⟨rfl, rfl, rfl, by simp [World.setCell], fun k _ hk => Below.heap_setCell _ _ _ k (fun e => hk (by rw [e]))⟩ (.inr hne)
theorem store3 {w : World} {base g n cap : Nat} {e : TypeId} {size : Nat} {xs : List Value} (h : w.ownsRow base e size (.slice (some ⟨g, 0, none⟩) n cap) n xs) (i j k : Nat) (a b c : Value) :
    (((w.setCell ⟨g, i, none⟩ a).setCell ⟨g, j, none⟩ b).setCell ⟨g, k, none⟩ c).ownsRow base e size (.slice (some ⟨g, 0, none⟩) n cap) n (((xs.set i a).set j b).set k c) ∧ w.grownBy (((w.setCell ⟨g, i, none⟩ a).setCell ⟨g, j, none⟩ b).setCell ⟨g, k, none⟩ c) (some g) := by
  have s1 := h.stored i a
  have s2 := s1.1.stored j b
  have s3 := s2.1.stored k c
  refine ⟨s3.1, s3.2.os.trans (s2.2.os.trans s1.2.os), s3.2.tape.trans (s2.2.tape.trans s1.2.tape), s3.2.output.trans (s2.2.output.trans s1.2.output), Nat.le_trans s1.2.size (Nat.le_trans s2.2.size s3.2.size), fun x hx hne => ?_⟩
  exact (s3.2.block x (Nat.lt_of_lt_of_le hx (Nat.le_trans s1.2.size s2.2.size)) hne).trans ((s2.2.block x (Nat.lt_of_lt_of_le hx s1.2.size) hne).trans (s1.2.block x hx hne))
theorem hm_box {base g B gr n c : Nat} {h : H} {v1 : Value} {W : World} {x0 x1 x2 : Value} (m : HM base g h v1 (.slice (some ⟨gr, 0, none⟩) n c) W) (kB : Blk W B #[x0, x1, x2] 52) (h1 : g ≠ B) (h2 : gr ≠ B) (a b d : Value) :
    HM base g h v1 (.slice (some ⟨gr, 0, none⟩) n c) (((W.setCell ⟨B, 0, none⟩ a).setCell ⟨B, 1, none⟩ b).setCell ⟨B, 2, none⟩ d) where
  blk := ((m.blk.other (p := ⟨B, 0, none⟩) h1 _).other (p := ⟨B, 1, none⟩) h1 _).other (p := ⟨B, 2, none⟩) h1 _
  r1 := own_set (own_set (own_set m.r1 kB (by decide)) (kB.set 0 _) (by decide)) ((kB.set 0 _).set 1 _) (by decide)
  r2 := by
    have hne : (Value.slice (some ⟨gr, 0, none⟩) n c).ownBlock ≠ some B := by simpa [Value.ownBlock] using h2
    exact own_ne (own_ne (own_ne m.r2 hne) hne) hne
theorem AddP.err' {h : H} {bin t k : Int} {base g : Nat} {v1 v2 : Value} {w w' : World} {e : Ending} {x : Int} (hx : addO h bin t k = .error x) (hm : HM base g h v1 v2 w') (h1 : e = .returned (.int .i64 x)) (hb : Below w.heap.size w w') : AddP h bin t k base g v1 v2 w e w' := by
  refine ⟨none, ?_, ?_, ⟨hb.os, hb.tape, hb.output, hb.size, fun k hk _ => hb.block k hk⟩, .inl rfl⟩
  · rw [hx, h1]; rfl
  · rw [hx]; exact hm

set_option maxRecDepth 100000 in
set_option maxHeartbeats 4000000 in
theorem add_mom (h : H) (base g : Nat) (v1 v2 : Value) (bin t k : Int) (w : World) (hm : HM base g h v1 v2 w) (ho : okH h) (htR : inR t) (hkR : inR k) (hl1 : h.counts.length ≤ 9223372036854775807) (hl2 : h.moms.length ≤ 9223372036854775807) (hr : rightP h) (hbad : ¬ addBad h bin t) (hk : ¬ k < 0) (h0 : ¬ h.kind = 0) :
    Calls Try.prog 21 #[.pointer (some ⟨g, 0, none⟩), .int .i64 bin, .int .i64 t, .int .i64 k] w (AddP h bin t k base g v1 v2 w) := by
  have hadd := add_m hr hbad hk h0
  obtain ⟨A1, c1, rfl⟩ := own_slice hm.r1
  obtain ⟨A2, c2, rfl⟩ := own_slice hm.r2
  have ra := fun w => right_any h A1 A2 c1 c2 w hl1 hl2
  rw [show rightB h = true from decide_eq_true hr] at ra
  unfold hV at ra
  obtain ⟨y1, y2, z1, z2⟩ := may_le hr.1
  have x1 : ¬ bin < 0 := fun e => hbad (.inl e)
  have x2 : ¬ bin ≥ h.bins := fun e => hbad (.inr (.inl e))
  have k0 : (h.kind == 0) = false := beq_eq_false_iff_ne.2 h0
  have hlen : (h.moms.length : Int) = h.bins := by rcases hr.2 with ⟨e, _⟩ | ⟨_, _, e⟩ <;> first | exact e | exact absurd e h0
  obtain ⟨at', rfl⟩ : ∃ tn : Nat, bin = tn := ⟨bin.toNat, by omega⟩
  obtain ⟨n, hn⟩ : ∃ n, h.moms.length = n := ⟨_, rfl⟩
  have hlt : at' < n := by omega
  rw [Int.toNat_natCast] at hadd
  obtain ⟨x, hx⟩ : ∃ x, h.moms.getD at' m0 = x := ⟨_, rfl⟩
  rw [hx] at hadd
  have hxm : h.moms[at']? = some x := by
    rw [List.getD_eq_getElem?_getD] at hx
    rw [List.getElem?_eq_getElem (by omega)] at hx ⊢
    simpa using hx
  have hxR : x.ok := ho.o2 x (List.mem_of_getElem? hxm)
  have hn257 : n ≤ 257 := by omega
  obtain ⟨gr, cap, hv, _, _, _, _⟩ := own_open hm.r2 (by omega)
  simp only [Value.slice.injEq, true_and] at hv
  obtain ⟨rfl, -⟩ := hv
  have HXR := Lib.hid hxR
  have HADD := Lib.hid hadd
  have HX := Lib.hid hxm
  have RA := Lib.hid ra
  have hn1 : (at' : Int) < n := by omega
  rw [hn] at RA
  have HM0 := Lib.hid hm
  have qb := hm.blk
  rw [hn] at qb
  obtain ⟨p0, p1, p2, p3, p4⟩ := qb.cells5
  have x5 : ¬ h.bins ≤ at' := by omega
  have d1 : decide ((at' : Int) < 0) = false := decide_eq_false x1
  have d2 : decide (h.bins ≤ at') = false := decide_eq_false x5
  have e0 : ((0 : Int) == 0) = true := rfl
  have e0' : ((0 : Int) != 0) = false := rfl
  have mm := fun w => moment_any t k htR hkR w
  clear hm qb hadd hxm hx ra hr hbad h0 hl1 hl2 ho x2 hlen hxR htR
  cases hlim : momentO t k with
  | error e1 =>
    rw [hlim] at mm HADD
    have ee : (e1 != 0) = true := by
      unfold momentO at hlim
      cases h1 : lim (t * k) with
      | none => rw [h1] at hlim; cases hlim; rfl
      | some s =>
        rw [h1] at hlim; simp only at hlim
        cases h2 : lim (t * s) with
        | none => rw [h2] at hlim; cases hlim; rfl
        | some q => rw [h2] at hlim; cases hlim
    have MM := Lib.hid mm
    clear mm hlim
    go_enter Try.func21, Try.ntmps21
    go_wp2_with (first
      | (go_at_call 20; refine (RA.out _).mono ?_; rintro e w1 ⟨rfl, hb⟩; have hm1 := HM0.out.below hb; have qb := hm1.blk; rw [hn] at qb; obtain ⟨q0, q1, q2, q3, q4⟩ := qb.cells5; have HM1 := Lib.hid hm1; clear hm1 qb)
      | (go_at_call 46; refine (MM.out _).mono ?_; rintro e w2 ⟨rfl, hb2⟩; simp only [momE, momV, valO, errO]))
    go_ret
    exact AddP.err HADD.out HM0.out rfl ((hb.trans (hb2.mono hb.size)).alloc (Nat.le_trans hb.size hb2.size) _)
  | ok m =>
    rw [hlim] at mm HADD
    have HMR := Lib.hid (momentO_ok hkR hlim)
    have MM := Lib.hid mm
    clear mm hlim
    go_enter Try.func21, Try.ntmps21
    go_wp2_with (first
      | (go_at_call 20; refine (RA.out _).mono ?_; rintro e w1 ⟨rfl, hb⟩; have hm1 := HM0.out.below hb; have qb := hm1.blk; rw [hn] at qb; obtain ⟨q0, q1, q2, q3, q4⟩ := qb.cells5; have HM1 := Lib.hid hm1; clear hm1 qb)
      | (go_at_call 46; refine (MM.out _).mono ?_; rintro e w2 ⟨rfl, hb2⟩; simp only [momE, momV, valO, errO]; have hm2 := HM1.out.below hb2; have qb := hm2.blk; rw [hn] at qb; clear q0 q1 q2 q3 q4; obtain ⟨q0, q1, q2, q3, q4⟩ := qb.cells5; have HM2 := Lib.hid hm2; clear hm2 qb)
      | fail)
    obtain ⟨W3, e3⟩ : ∃ W3, W3 = w2.alloc (.cells #[.int .i64 m.c, .int .i64 m.s, .int .i64 m.q] 52) := ⟨_, rfl⟩
    rw [← e3]
    have kB : Blk W3 w2.heap.size #[.int .i64 m.c, .int .i64 m.s, .int .i64 m.q] 52 := by rw [e3]; exact Blk.new _ _ _
    have bl3 : Below w2.heap.size w2 W3 := by rw [e3]; exact (Below.refl _ _).alloc (Nat.le_refl _) _
    have HM3 := Lib.hid (HM2.out.below bl3)
    have s3 : w2.heap.size < W3.heap.size := by rw [e3]; simp
    obtain ⟨B, hB⟩ : ∃ B, w2.heap.size = B := ⟨_, rfl⟩
    have gB : g < B := by rw [← hB]; exact HM2.out.blk.lt
    have grB : gr < B := by rw [← hB]; exact (World.ownsRow.lt HM2.out.r2 gr rfl).2
    have gB1 : g ≠ B := by omega
    have gB2 : B ≠ g := by omega
    have gB3 : gr ≠ B := by omega
    have gB4 : B ≠ gr := by omega
    have wB : w.heap.size ≤ B := by rw [← hB]; exact Nat.le_trans hb.size hb2.size
    have bl0 : Below w.heap.size w W3 := hb.trans ((hb2.mono hb.size).trans (bl3.mono (Nat.le_trans hb.size hb2.size)))
    rw [hB] at kB s3 ⊢
    clear e3 bl3 hB HM2 HM1 hb2 q0 q1 q2 q3 q4
    have qb := HM3.out.blk
    rw [hn] at qb
    obtain ⟨q0, q1, q2, q3, q4⟩ := qb.cells5
    obtain ⟨u0, u1, u2⟩ := cells3 kB
    obtain ⟨hx1, hx2, hx3⟩ := momC_at h.moms at' x HX.out
    have t1 := own_cell HM3.out.r2 hx1
    have t2 := own_cell HM3.out.r2 hx2
    have t3 := own_cell HM3.out.r2 hx3
    clear hx1 hx2 hx3 qb
    have g1 : gr < W3.heap.size := World.block_lt_of_cell? W3 _ t1
    have g2 : g < W3.heap.size := World.block_lt_of_cell? W3 _ q4
    obtain ⟨rz, hrz⟩ : ∃ rz, momO opP x m = rz := ⟨_, rfl⟩
    obtain ⟨z1, z2, z3, z4, hz⟩ : ∃ z1 z2 z3 z4, momE rz = .tuple #[.agg #[.int .i64 z1, .int .i64 z2, .int .i64 z3], .int .i64 z4] := ⟨_, _, _, _, rfl⟩
    have HZ := Lib.hid hz
    have HRZ := Lib.hid hrz
    clear hz hrz
    go_cut [13] (fun ev wc => ev = .int .i64 z4 ∧ Blk wc B #[.int .i64 z1, .int .i64 z2, .int .i64 z3] 52 ∧ HM base g h (.slice A1 h.counts.length c1) (.slice (some ⟨gr, 0, none⟩) h.moms.length c2) wc ∧ Below w.heap.size w wc)
    case first =>
      have b8 : Below W3.heap.size W3 (W3.alloc (.cells #[.func (.func 48) #[] #[]] 109)).drew := ((Below.refl _ W3).alloc (Nat.le_refl _) _).drew
      have HM8 := Lib.hid (HM3.out.below b8)
      have kB8 := kB.below b8
      have bl8 := bl0.trans (b8.mono bl0.size)
      have g8 := moments1_any 48 opP plus_is x m HXR.out HMR.out W3.heap.size (W3.alloc (.cells #[.func (.func 48) #[] #[]] 109)).drew (by
        have := (Blk.new W3 #[.func (.func 48) #[] #[]] 109).below ((Below.refl _ _).drew)
        exact this.cells1)
      rw [HRZ.out, HZ.out] at g8
      have G8 := Lib.hid g8
      clear g8
      go_region_with (first
        | (go_at_call 47; refine (moments_any 48 _).mono ?_; rintro e w3 ⟨rfl, rfl⟩)
        | (go_at_call 67; refine G8.out.mono ?_; rintro e w3 ⟨rfl, hb3⟩; have HM9 := HM8.out.below hb3; have kB9 := kB8.below hb3; clear u0 u1 u2; obtain ⟨u0, u1, u2⟩ := cells3 kB9; have uf := kB9.frozen))
      all_goals
        go_wp2
        go_meet
        case rel => exact ⟨rfl, set3 kB9 _ _ _, hm_box HM9 kB9 gB1 gB3 _ _ _, below3 (bl8.trans (hb3.mono bl8.size)) wB _ _ _⟩
    case rest =>
      obtain ⟨rfl, kC, HMC, bC⟩ := hcut
      clear q0 q1 q2 q3 q4 u0 u1 u2 t1 t2 t3
      have HMc := Lib.hid HMC
      have qb := HMC.blk
      rw [hn] at qb
      obtain ⟨q0, q1, q2, q3, q4⟩ := qb.cells5
      obtain ⟨u0, u1, u2⟩ := cells3 kC
      obtain ⟨hx1, hx2, hx3⟩ := momC_at h.moms at' x HX.out
      have t1 := own_cell HMC.r2 hx1
      have t2 := own_cell HMC.r2 hx2
      have t3 := own_cell HMC.r2 hx3
      have fr := fun i => World.ownsRow.frozenAt HMC.r2 i
      have rn := row_ne HMC.blk HMC.r2 (by decide)
      clear hx1 hx2 hx3 qb HMC
      have hz := HZ.out
      have hadd := HADD.out
      simp only [HRZ.out] at hadd
      cases rz with
      | error e1 =>
        simp only [momE, momV, valO, errO, m0, Value.tuple.injEq, Array.mk.injEq, List.cons.injEq, Value.agg.injEq, Value.int.injEq, and_true, true_and] at hz
        obtain ⟨⟨rfl, rfl, rfl⟩, rfl⟩ := hz
        have ee : (e1 == 0) = false := by
          have := momO_err plus_is HRZ.out
          simpa using this
        have HA := Lib.hid hadd
        clear hadd
        go_wp2
        go_ret
        subst hn
        exact AddP.err' HA.out HMc.out rfl bC
      | ok z =>
        simp only [momE, momV, valO, errO, Value.tuple.injEq, Array.mk.injEq, List.cons.injEq, Value.agg.injEq, Value.int.injEq, and_true, true_and] at hz
        obtain ⟨⟨rfl, rfl, rfl⟩, rfl⟩ := hz
        have HA := Lib.hid hadd
        clear hadd
        go_wp2
        have rn' := rn.symm
        go_region_held3 (fun W => W.cell? ⟨g, 4, none⟩ = some (.slice (some ⟨gr, 0, none⟩) n c2) ∧ W.cell? ⟨B, 0, none⟩ = some (.int .i64 z.c) ∧ W.cell? ⟨B, 1, none⟩ = some (.int .i64 z.s) ∧ W.cell? ⟨B, 2, none⟩ = some (.int .i64 z.q)) (go_keep) (fail)
        all_goals
          go_wp2
          go_ret
          have hst := store3 HMc.out.r2 (at' * 3) (at' * 3 + 1) (at' * 3 + 2) (.int .i64 z.c) (.int .i64 z.s) (.int .i64 z.q)
          refine ⟨some gr, by rw [HA.out]; rfl, ?_, below_row bC ⟨hst.2.os, hst.2.tape, hst.2.output, hst.2.size, hst.2.block⟩, .inr (.inr rfl)⟩
          rw [HA.out]
          refine ⟨?_, ?_, ?_⟩
          · exact ((HMc.out.blk.other (p := ⟨gr, at' * 3, none⟩) rn _).other (p := ⟨gr, at' * 3 + 1, none⟩) rn _).other (p := ⟨gr, at' * 3 + 2, none⟩) rn _
          · have s1 := World.ownsRow.stored HMc.out.r2 (at' * 3) (.int .i64 z.c)
            have s2 := World.ownsRow.stored s1.1 (at' * 3 + 1) (.int .i64 z.s)
            exact own_other (own_other (own_other HMc.out.r1 HMc.out.r2 (by decide)) s1.1 (by decide)) s2.1 (by decide)
          · have := hst.1
            rw [momC_set _ _ _ (by rw [hn]; exact hlt)] at this
            simp only [valO, List.length_set]
            exact this
end Go.Proofs.Yteckbgpkoanhfaa.Hb

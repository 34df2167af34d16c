/- The walk of oob.Error. -/
import Derived.Test.YtbhikceekldenaaHbVotes
namespace Go.Proofs.Ytbhikceekldenaa.Hb
set_option linter.unusedVariables false
set_option linter.unusedSimpArgs false
open Go.RowKit

def errO (g : Grv) : Int × Int := if mayG g then errGo g.k (votesO g) g.tgt else (0, 0)
theorem err_none {kind t : Int} {vs : List (Option Int)} {ts : List Int} : errGo kind (none :: vs) (t :: ts) = errGo kind vs ts := rfl
theorem err_some {kind v t : Int} {vs : List (Option Int)} {ts : List Int} : errGo kind (some v :: vs) (t :: ts) = ((errGo kind vs ts).1 + (if kind = 1 then (v - t) * (v - t) else if v ≠ t then 1 else 0), (errGo kind vs ts).2 + 1) := rfl
theorem sq_bound {F : Int} (h1 : -2097152 ≤ F) (h2 : F ≤ 2097152) : 0 ≤ F * F ∧ F * F ≤ 4398046511104 := by
  have e : F * F = (F.natAbs : Int) * F.natAbs := (Int.natAbs_mul_self' F).symm
  have h : F.natAbs ≤ 2097152 := by omega
  have := Nat.mul_le_mul h h
  rw [e, ← Int.natCast_mul]
  omega
/-- What a vote and a target may be. -/
theorem vote_tgt {g : Grv} (hmay : mayG g = true) (hok : OkG g) {i : Nat} (hi : i < g.rows.toNat) {v : Int} (h : (votesO g)[i]? = some (some v)) :
    (g.k = 0 ∨ g.k = 1) ∧ -1048576 ≤ v ∧ v ≤ 1048576 ∧ -1048576 ≤ g.tgt.getD i 0 ∧ g.tgt.getD i 0 ≤ 1048576 := by
  obtain ⟨a1, a2, a3⟩ := may_is hmay
  obtain ⟨hc, hmat, _, _, _, hlen⟩ := head_is a1
  have hsh := (chk_shape hc).2.2
  rw [votes_at hi] at h
  have hv := Option.some.inj h
  unfold voteAt at hv
  split at hv
  · cases hv
  · rename_i h0
    obtain ⟨u, e1, e2, e3⟩ := vote_at hmay (fun t ht => by have := hok.tt t ht; omega) hok.lt h0
    rw [e1] at hv
    simp only [Option.some.injEq] at hv
    subst hv
    have ht := a3 (g.tgt.getD i 0) (by
      rw [List.getD_eq_getElem?_getD, List.getElem?_eq_getElem (by omega)]
      exact List.getElem_mem _)
    unfold tgtB at ht
    rcases hsh with ⟨k0, c1, c2⟩ | ⟨k1, c1⟩
    · have := e2 k0
      rw [if_pos k0] at ht
      have := of_decide_eq_true ht
      omega
    · have := e3 k1
      rw [if_neg (by omega)] at ht
      have := of_decide_eq_true ht
      omega
theorem drop_at {is : List Int} {j : Nat} (h : j < is.length) : is.drop j = is.getD j 0 :: is.drop (j + 1) := by
  rw [List.drop_eq_getElem_cons h, List.getD_eq_getElem?_getD, List.getElem?_eq_getElem h]; rfl
structure ErI (GV : Array Value) (B O R : Nat) (num den : Int) (w w1 wr : World) : Prop where
  kB : Blk wr B GV 38
  kO : Blk wr O #[.int .i64 num, .int .i64 den] 48
  kR : Blk wr R #[.int .i64 0, .int .i64 0] 48
  b1 : Below w1.heap.size w1 wr
  be : Below w.heap.size w wr
theorem ErI.den {GV : Array Value} {B O R : Nat} {num den den' : Int} {w w1 wr : World} (h : ErI GV B O R num den w w1 wr) (h1 : B ≠ O) (h2 : R ≠ O) (h3 : w.heap.size ≤ O) (h4 : w1.heap.size ≤ O) (o : Obj) (q : Nat) :
    ErI GV B O R num den' w w1 (((wr.setCell ⟨O, 1, none⟩ (.int .i64 den')).alloc o).drewN q) := by
  have a : Below wr.heap.size (wr.setCell ⟨O, 1, none⟩ (.int .i64 den')) ((wr.setCell ⟨O, 1, none⟩ (.int .i64 den')).alloc o) := (Below.refl _ _).alloc (by simp) _
  have a' : Below (wr.setCell ⟨O, 1, none⟩ (.int .i64 den')).heap.size (wr.setCell ⟨O, 1, none⟩ (.int .i64 den')) ((wr.setCell ⟨O, 1, none⟩ (.int .i64 den')).alloc o) := (Below.refl _ _).alloc (Nat.le_refl _) _
  exact ⟨((h.kB.other (p := ⟨O, 1, none⟩) h1 _).below a').drewN q, (((h.kO.set 1 (.int .i64 den')).below a').drewN q : _), ((h.kR.other (p := ⟨O, 1, none⟩) h2 _).below a').drewN q,
    ((h.b1.setCell (p := ⟨O, 1, none⟩) h4 _).alloc (by simp; exact h.b1.size) _).trans ⟨rfl, rfl, rfl, Nat.le_refl _, fun _ _ => rfl⟩, ((h.be.setCell (p := ⟨O, 1, none⟩) h3 _).alloc (by simp; exact h.be.size) _).trans ⟨rfl, rfl, rfl, Nat.le_refl _, fun _ _ => rfl⟩⟩
theorem ErI.num {GV : Array Value} {B O R : Nat} {num den num' : Int} {w w1 wr : World} (h : ErI GV B O R num den w w1 wr) (h1 : B ≠ O) (h2 : R ≠ O) (h3 : w.heap.size ≤ O) (h4 : w1.heap.size ≤ O) :
    ErI GV B O R num' den w w1 (wr.setCell ⟨O, 0, none⟩ (.int .i64 num')) :=
  ⟨h.kB.other (p := ⟨O, 0, none⟩) h1 _, h.kO.set 0 (.int .i64 num'), h.kR.other (p := ⟨O, 0, none⟩) h2 _, h.b1.setCell (p := ⟨O, 0, none⟩) h4 _, h.be.setCell (p := ⟨O, 0, none⟩) h3 _⟩
theorem signed_size : (Try.prog.info? 48).map (·.size) = some 2 := by kernel_rfl
set_option maxRecDepth 100000 in
set_option maxHeartbeats 8000000 in
theorem error_any (g : Grv) (Ac At Aw Ag : Option Addr) (cc ct cw cg : Nat) (w : World) (hok : OkG g) (hrows : mayG g = true → g.rows ≤ 1048576) (hr : RG w g Ac At Aw Ag) :
    Calls Try.prog 21 #[.agg (grvA g Ac At Aw Ag cc ct cw cg)] w fun e w' => e = .returned (.tuple #[.agg #[.int .i64 (errO g).1, .int .i64 (errO g).2], .int .i64 (if mayG g then 0 else 8)]) ∧ Below w.heap.size w w' := by
  have KV := Lib.hid (fun w hr => votes_any g Ac At Aw Ag cc ct cw cg w hok hr)
  have hsz : (Try.prog.info? 38).map (·.size) = some (grvA g Ac At Aw Ag cc ct cw cg).size := by kernel_rfl
  have HRG := Lib.hid hr
  cases hmay : mayG g with
  | false =>
    have e : errO g = (0, 0) := by unfold errO; rw [hmay]; rfl
    rw [e]
    have e2 : votesR g = [] := by unfold votesR; rw [hmay]; rfl
    rw [hmay, e2] at KV
    have HF : Hid ((if false = true then (0 : Int) else 8) = 8) := Lib.hid rfl
    rw [HF.out] at KV ⊢
    obtain ⟨GV, hGV⟩ : ∃ V, grvA g Ac At Aw Ag cc ct cw cg = V := ⟨_, rfl⟩
    rw [hGV] at KV hsz ⊢
    clear e e2 hGV hmay hrows hok hr
    go_enter Try.func21, Try.ntmps21
    go_upto_region 1 with (fail)
    have kB := (Blk.new w GV 38).below ((Below.refl _ _).alloc (Nat.le_refl _) (.cells #[.int .i64 0, .int .i64 0] 48))
    have kR := Blk.new (w.alloc (.cells GV 38)) #[.int .i64 0, .int .i64 0] 48
    rw [World.size_alloc] at kR
    have HBE := Lib.hid (((Below.refl w.heap.size w).alloc (Nat.le_refl _) (.cells GV 38)).alloc (by simp) (.cells #[.int .i64 0, .int .i64 0] 48))
    obtain ⟨W0, hW0⟩ : ∃ W, (w.alloc (.cells GV 38)).alloc (.cells #[.int .i64 0, .int .i64 0] 48) = W := ⟨_, rfl⟩
    rw [hW0] at kB kR HBE ⊢
    go_wp2_with (refine wpList_load_row rfl 38 (.tmp 1) rfl w.heap.size rfl 38 GV (0, 0) _ kB Try.underlying38 rfl hsz ?_)
    refine (KV.out _ (HRG.out.below HBE.out)).mono ?_
    rintro e w1 ⟨v, rfl, ho, hb⟩
    have HBE1 := Lib.hid (HBE.out.trans (hb.mono HBE.out.size))
    have kR1 := kR.below hb
    have r0 := kR1.cell 0
    have r1 := kR1.cell 1
    have r2 := fun i => kR1.frozen i
    have hlR := kR1.lt
    simp only [List.getElem?_toArray, List.getElem?_cons_zero, List.getElem?_cons_succ] at r0 r1
    clear hb kR kB ho hW0
    go_wp2_with fail
    exact bodyPost_ret (results_ct rfl _ _ (w.heap.size + 1) 48 _ _ rfl ((kR1.set 0 _).set 1 _) Try.underlying48 rfl signed_size) rfl ⟨rfl, (HBE1.out.setCell (p := ⟨w.heap.size + 1, 0, none⟩) (by show w.heap.size ≤ w.heap.size + 1; omega) _).setCell (p := ⟨w.heap.size + 1, 1, none⟩) (by show w.heap.size ≤ w.heap.size + 1; omega) _⟩
  | true =>
    have e : errO g = errGo g.k (votesO g) g.tgt := by unfold errO; rw [hmay]; rfl
    rw [e]
    have e2 : votesR g = votesO g := by unfold votesR; rw [hmay]; rfl
    rw [hmay, e2] at KV
    have HF : Hid ((if true = true then (0 : Int) else 8) = 0) := Lib.hid rfl
    rw [HF.out] at KV ⊢
    obtain ⟨m1, m2, _⟩ := may_is hmay
    obtain ⟨_, hmat, _, _, _, hlen⟩ := head_is m1
    have hvl := votes_len g
    obtain ⟨n, hn⟩ := Int.eq_ofNat_of_zero_le hmat.1.1
    have hnb : n ≤ 1048576 := by have := hrows hmay; omega
    have hnt : g.rows.toNat = n := by omega
    have hgl : g.tgt.length = n := by omega
    rw [hnt] at hvl
    have HVT := Lib.hid (fun i (hi : i < n) v h => vote_tgt hmay hok (i := i) (by rw [hnt]; exact hi) (v := v) h)
    have HTI : Hid (∀ i, i < n → in64 (g.tgt.getD i 0)) := Lib.hid (fun i hi => by obtain ⟨_, _, h, _⟩ := hr.rg.at (i := i) (by rw [hgl]; exact hi); exact h)
    have hgA : grvA g Ac At Aw Ag cc ct cw cg = #[.int .i64 g.k, .int .i64 g.cl, .int .i64 g.b, .int .i64 g.t, .int .i64 g.d, .int .i64 g.l, .int .i64 g.p, .int .i64 n, .int .i64 g.cols, .slice Ac g.cells.length cc, .slice At g.trees.length ct, .slice Aw g.weights.length cw, .slice Ag n cg] := by unfold grvA; rw [hn, hgl]
    obtain ⟨GV, hGV⟩ : ∃ V, grvA g Ac At Aw Ag cc ct cw cg = V := ⟨_, rfl⟩
    have HGA := Lib.hid (hGV ▸ hgA)
    rw [hGV] at KV hsz ⊢
    obtain ⟨VS, hVS⟩ : ∃ VS, votesO g = VS := ⟨_, rfl⟩
    obtain ⟨TG, hTG⟩ : ∃ TG, g.tgt = TG := ⟨_, rfl⟩
    obtain ⟨k, hk⟩ : ∃ x, g.k = x := ⟨_, rfl⟩
    have hrg := hr.rg
    rw [hVS] at hvl HVT KV ⊢
    rw [hTG] at hgl HVT HTI hrg ⊢
    rw [hk] at HVT HGA ⊢
    rw [hvl] at KV
    have HRR := Lib.hid hrg
    have HVL := Lib.hid hvl
    have HGL := Lib.hid hgl
    obtain ⟨⟨NN, DD⟩, hE⟩ : ∃ E, errGo k VS TG = E := ⟨_, rfl⟩
    rw [hE]
    have HE := Lib.hid hE
    simp only
    clear e e2 hGV hmay hrows hok hr m1 m2 hmat hlen hvl hn hnt hgl hgA hVS hTG hk hrg hE
    go_enter Try.func21, Try.ntmps21
    go_upto_region 1 with (fail)
    have kB := (Blk.new w GV 38).below ((Below.refl _ _).alloc (Nat.le_refl _) (.cells #[.int .i64 0, .int .i64 0] 48))
    have kR := Blk.new (w.alloc (.cells GV 38)) #[.int .i64 0, .int .i64 0] 48
    rw [World.size_alloc] at kR
    have HBE := Lib.hid (((Below.refl w.heap.size w).alloc (Nat.le_refl _) (.cells GV 38)).alloc (by simp) (.cells #[.int .i64 0, .int .i64 0] 48))
    obtain ⟨W0, hW0⟩ : ∃ W, (w.alloc (.cells GV 38)).alloc (.cells #[.int .i64 0, .int .i64 0] 48) = W := ⟨_, rfl⟩
    rw [hW0] at kB kR HBE ⊢
    go_wp2_with (refine wpList_load_row rfl 38 (.tmp 1) rfl w.heap.size rfl 38 GV (0, 0) _ kB Try.underlying38 rfl hsz ?_)
    refine (KV.out _ (HRG.out.below HBE.out)).mono ?_
    rintro e w1 ⟨v, rfl, ho, hb⟩
    obtain ⟨va, vc, rfl⟩ := own_slice ho
    have HBE1 := Lib.hid (HBE.out.trans (hb.mono HBE.out.size))
    have HO := Lib.hid ho
    have hR1 := (kR.below hb).lt
    have HI0 : Hid (ErI GV w.heap.size w1.heap.size (w.heap.size + 1) 0 0 w w1 (w1.alloc (.cells #[.int .i64 0, .int .i64 0] 48))) := Lib.hid
      ⟨(kB.below hb).below ((Below.refl _ _).alloc (Nat.le_refl _) _), Blk.new _ _ _, (kR.below hb).below ((Below.refl _ _).alloc (Nat.le_refl _) _), (Below.refl _ _).alloc (Nat.le_refl _) _, HBE1.out.alloc HBE1.out.size _⟩
    clear hb kR kB ho hW0 hsz KV
    go_wp2_with fail
    go_loopw [21] (fun iv wr => ∃ (j : Nat) (num den : Int), j ≤ n ∧ iv = .int .i64 j ∧ 0 ≤ num ∧ num ≤ 4398046511104 * (j : Int) ∧ 0 ≤ den ∧ den ≤ (j : Int) ∧ Hid (ErI GV w.heap.size w1.heap.size (w.heap.size + 1) num den w w1 wr) ∧ Hid (num + (errGo k (VS.drop j) (TG.drop j)).1 = NN ∧ den + (errGo k (VS.drop j) (TG.drop j)).2 = DD)) (fun iv _ => n - (intOf iv).toNat)
    case atStart => exact ⟨0, 0, 0, Nat.zero_le _, rfl, by omega, by omega, by omega, by omega, HI0, Lib.hid (by rw [List.drop_zero, List.drop_zero, HE.out]; simp)⟩
    case round =>
      obtain ⟨j, num, den, hj, rfl, n1, n2, d1, d2, HI, HT⟩ := hrel
      obtain ⟨o0, o1⟩ : wr.cell? ⟨w1.heap.size, 0, none⟩ = some (.int .i64 num) ∧ wr.cell? ⟨w1.heap.size, 1, none⟩ = some (.int .i64 den) := ⟨HI.out.kO.cell 0, HI.out.kO.cell 1⟩
      have o2 := fun i => HI.out.kO.frozen i
      have hlO := HI.out.kO.lt
      by_cases hlt : j < n
      · have hlt' : (j : Int) < n := by omega
        have hjv : j < VS.length := by rw [HVL.out]; exact hlt
        have hjt : j < TG.length := by rw [HGL.out]; exact hlt
        obtain ⟨x, hx⟩ : ∃ x, VS[j]? = some x := ⟨_, List.getElem?_eq_getElem hjv⟩
        have hdv : VS.drop j = x :: VS.drop (j + 1) := by
          obtain ⟨_, rfl⟩ := List.getElem?_eq_some_iff.1 hx
          exact List.drop_eq_getElem_cons hjv
        have hdt : TG.drop j = TG.getD j 0 :: TG.drop (j + 1) := drop_at hjt
        have ho2 := own_below HO.out HI.out.b1
        obtain ⟨gv, cap, hv, _, _, hgv, hc⟩ := own_open ho2 (by omega)
        simp only [Value.slice.injEq] at hv
        obtain ⟨rfl, _, rfl⟩ := hv
        have y0 := hc (j * 2) _ ((flatV_get VS j 0 x hx (by omega)).trans (by cases x <;> rfl : (voteC x)[0]? = some (.bool x.isSome)))
        have y1 := hc (j * 2 + 1) _ ((flatV_get VS j 1 x hx (by omega)).trans (by cases x <;> rfl : (voteC x)[1]? = some (.int .i64 (x.getD 0))))
        have HD := Lib.hid (And.intro hdv hdt)
        have HX := Lib.hid hx
        have HgvO : Hid (gv ≠ w1.heap.size) := Lib.hid (by
          have := (World.ownsRow.lt HO.out gv rfl).2
          omega)
        have hgvO := HgvO.out
        clear ho2 hc hdv hdt hx
        cases x with
        | none =>
          simp only [Option.isSome_none] at y0 y1
          have HT2 : Hid (num + (errGo k (VS.drop (j + 1)) (TG.drop (j + 1))).1 = NN ∧ den + (errGo k (VS.drop (j + 1)) (TG.drop (j + 1))).2 = DD) := Lib.hid (by
            have := HT.out
            rwa [HD.out.1, HD.out.2, err_none] at this)
          go_wp2_with fail
          go_roundw
          case rel => exact ⟨j + 1, num, den, hlt, by go_num, n1, by omega, d1, by omega, Lib.hid ⟨HI.out.kB.below ((Below.refl _ _).alloc (Nat.le_refl _) _), HI.out.kO.below ((Below.refl _ _).alloc (Nat.le_refl _) _), HI.out.kR.below ((Below.refl _ _).alloc (Nat.le_refl _) _), HI.out.b1.alloc HI.out.b1.size _, HI.out.be.alloc HI.out.be.size _⟩, HT2⟩
          case measure => simp [intOf]; omega
        | some v =>
          simp only [Option.isSome_some, Option.getD_some] at y0 y1
          obtain ⟨hk01, v1, v2, t1, t2⟩ := HVT.out j hlt v HX.out
          obtain ⟨ad, rfl, hin, yt⟩ := (HRR.out.below HI.out.be).at (i := j) hjt
          have HT3 := HT.out
          rw [HD.out.1, HD.out.2, err_some] at HT3
          obtain ⟨T, hT⟩ : ∃ T, TG.getD j 0 = T := ⟨_, rfl⟩
          rw [hT] at t1 t2 yt HT3
          obtain ⟨F, hF⟩ : ∃ F, v - T = F := ⟨_, rfl⟩
          have hFl : -2097152 ≤ F := by omega
          have hFh : F ≤ 2097152 := by omega
          have hvT : ¬ (v ≠ T) ↔ F = 0 := by omega
          obtain ⟨f1, f2⟩ := sq_bound hFl hFh
          have hw1 : IntKind.i64.wrap (v - T) = F := by rw [hF, IntKind.wrap_i64]; omega
          rw [hF] at HT3
          have HT4 := Lib.hid HT3
          have HVT0 := Lib.hid hvT
          have gg := HI.out.kB
          rw [HGA.out] at gg
          obtain ⟨q0, q1, q2, q3, q4, q5, q6, q7, q8, q9, q10, q11, q12⟩ := gg.cells13
          have hlB := gg.lt
          have hOB : w.heap.size ≠ w1.heap.size := by have := hR1; omega
          have hOB' : w1.heap.size ≠ w.heap.size := by have := hR1; omega
          have hyt := World.block_lt_of_cell? wr _ yt
          have hblk : (ad.add j).block < w.heap.size := by
            obtain ⟨ad', e, _, hc⟩ := HRR.out.at (i := j) hjt
            cases e
            exact World.block_lt_of_cell? w _ hc
          have hne1 : (⟨w1.heap.size, 1, none⟩ : Addr) ≠ ad.add j := fun e => by rw [← e] at hblk; simp at hblk; omega
          have hne2 : (⟨w1.heap.size, 0, none⟩ : Addr) ≠ ad.add j := fun e => by rw [← e] at hblk; simp at hblk; omega
          clear hin hT hF HT3 gg hvT t1 t2 v1 v2
          have hj1 : (j : Int) < n := hlt'
          have hRO : w.heap.size + 1 ≠ w1.heap.size := by omega
          have hwO : w.heap.size ≤ w1.heap.size := by omega
          have HRO := Lib.hid (And.intro hRO hwO)
          have HOB := Lib.hid hOB
          clear hRO hwO
          rcases hk01 with hk0 | hk1
          · have kb : (k == 1) = false := beq_eq_false_iff_ne.2 (by omega)
            have HK1 : Hid (¬ k = 1) := Lib.hid (by omega)
            clear hk0
            by_cases hF0 : F = 0
            · have fb : (F != 0) = false := by simpa using hF0
              have HF0 := Lib.hid hF0
              clear hF0
              go_wp2_with fail
              go_quiet (fail)
              go_wp2_with fail
              go_roundw
              case rel =>
                refine ⟨j + 1, num, den + 1, hlt, by go_num, n1, by omega, by omega, by omega, Lib.hid (HI.out.den HOB.out HRO.out.1 HRO.out.2 (Nat.le_refl _) _ nq), Lib.hid ?_⟩
                have := HT4.out
                rw [if_neg HK1.out, if_neg (HVT0.out.2 HF0.out)] at this
                exact ⟨by have := this.1; omega, by have := this.2; omega⟩
              case measure => simp [intOf]; omega
            · have fb : (F != 0) = true := bne_iff_ne.2 hF0
              have HF0 := Lib.hid hF0
              clear hF0
              go_wp2_with fail
              go_quiet (fail)
              go_wp2_with fail
              go_roundw
              case rel =>
                refine ⟨j + 1, num + 1, den + 1, hlt, by go_num, by omega, by omega, by omega, by omega, Lib.hid ((HI.out.den HOB.out HRO.out.1 HRO.out.2 (Nat.le_refl _) _ nq).num HOB.out HRO.out.1 HRO.out.2 (Nat.le_refl _)), Lib.hid ?_⟩
                have := HT4.out
                rw [if_neg HK1.out, if_pos (Decidable.not_not.1 (fun e => HF0.out (HVT0.out.1 e)))] at this
                exact ⟨by have := this.1; omega, by have := this.2; omega⟩
              case measure => simp [intOf]; omega
          · have kb : (k == 1) = true := beq_iff_eq.2 hk1
            have HK1 := Lib.hid hk1
            clear hk1
            go_wp2_with fail
            go_quiet (fail)
            go_wp2_with fail
            go_roundw
            case rel =>
              refine ⟨j + 1, num + F * F, den + 1, hlt, by go_num, by omega, by omega, by omega, by omega, Lib.hid ((HI.out.den HOB.out HRO.out.1 HRO.out.2 (Nat.le_refl _) _ nq).num HOB.out HRO.out.1 HRO.out.2 (Nat.le_refl _)), Lib.hid ?_⟩
              have := HT4.out
              rw [if_pos HK1.out] at this
              exact ⟨by have := this.1; omega, by have := this.2; omega⟩
            case measure => simp [intOf]; omega
      · obtain rfl : n = j := by omega
        have hfin : Hid (num = NN ∧ den = DD) := Lib.hid (by
          have := HT.out
          rw [List.drop_of_length_le (by rw [HVL.out]; exact Nat.le_refl _)] at this
          have e0 : errGo k [] (TG.drop n) = (0, 0) := rfl
          rw [e0] at this
          simpa using this)
        have r0 := HI.out.kR.cell 0
        have r1 := HI.out.kR.cell 1
        have r2 := fun i => HI.out.kR.frozen i
        have hlR := HI.out.kR.lt
        simp only [List.getElem?_toArray, List.getElem?_cons_zero, List.getElem?_cons_succ] at r0 r1
        go_wp2_with fail
        obtain ⟨e1, e2⟩ := hfin.out
        subst e1 e2
        exact bodyPost_ret (results_ct rfl _ _ (w.heap.size + 1) 48 _ _ rfl ((HI.out.kR.set 0 _).set 1 _) Try.underlying48 rfl signed_size) rfl ⟨rfl, (HI.out.be.setCell (p := ⟨w.heap.size + 1, 0, none⟩) (by show w.heap.size ≤ w.heap.size + 1; omega) _).setCell (p := ⟨w.heap.size + 1, 1, none⟩) (by show w.heap.size ≤ w.heap.size + 1; omega) _⟩
end Go.Proofs.Ytbhikceekldenaa.Hb

/- Texts joined: the walks and the plain laws that the claim ShakeUnused rests on. -/
import Derived.Test.YtpekofpiodaadaaMShakeUnused2
import Derived.Deep.QuietTactic
import Derived.BigQuiet
import Derived.Test.YtpekofpiodaadaaMShakeUnused1
import Derived.Deep.AppendLies
import Derived.Laws.AppendOwnNone
import Derived.Test.YtpekofpiodaadaaRows
import Derived.Conc.Holds
import Derived.Leaving
section
/- The walk of oob.Error. -/
namespace Go.Proofs.Ytpekofpiodaadaa.Hb
set_option linter.unusedVariables false
set_option linter.unusedSimpArgs false
open Go.RowKit

def errO (g : Grv) : Int × Int := if mayG g then errGo g.k (votesO g) g.tgt else (0, 0)
theorem err_none {kind t : Int} {vs : List (Option Int)} {ts : List Int} : errGo kind (none :: vs) (t :: ts) = errGo kind vs ts := rfl
theorem err_some {kind v t : Int} {vs : List (Option Int)} {ts : List Int} : errGo kind (some v :: vs) (t :: ts) = ((errGo kind vs ts).1 + (if kind = 1 then (v - t) * (v - t) else if v ≠ t then 1 else 0), (errGo kind vs ts).2 + 1) := rfl
theorem sq_bound {F : Int} (h1 : -2097152 ≤ F) (h2 : F ≤ 2097152) : 0 ≤ F * F ∧ F * F ≤ 4398046511104 := by
  have e : F * F = (F.natAbs : Int) * F.natAbs := (Int.natAbs_mul_self' F).symm
  have h : F.natAbs ≤ 2097152 := by omega
  have := Nat.mul_le_mul h h
  rw [e, ← Int.natCast_mul]
  omega
/-- What a vote and a target may be. -/
theorem vote_tgt {g : Grv} (hmay : mayG g = true) (hok : OkG g) {i : Nat} (hi : i < g.rows.toNat) {v : Int} (h : (votesO g)[i]? = some (some v)) :
    (g.k = 0 ∨ g.k = 1) ∧ -1048576 ≤ v ∧ v ≤ 1048576 ∧ -1048576 ≤ g.tgt.getD i 0 ∧ g.tgt.getD i 0 ≤ 1048576 := by
  obtain ⟨a1, a2, a3⟩ := may_is hmay
  obtain ⟨hc, hmat, _, _, _, hlen⟩ := head_is a1
  have hsh := (chk_shape hc).2.2
  rw [votes_at hi] at h
  have hv := Option.some.inj h
  unfold voteAt at hv
  split at hv
  · cases hv
  · rename_i h0
    obtain ⟨u, e1, e2, e3⟩ := vote_at hmay (fun t ht => by have := hok.tt t ht; omega) hok.lt h0
    rw [e1] at hv
    simp only [Option.some.injEq] at hv
    subst hv
    have ht := a3 (g.tgt.getD i 0) (by
      rw [List.getD_eq_getElem?_getD, List.getElem?_eq_getElem (by omega)]
      exact List.getElem_mem _)
    unfold tgtB at ht
    rcases hsh with ⟨k0, c1, c2⟩ | ⟨k1, c1⟩
    · have := e2 k0
      rw [if_pos k0] at ht
      have := of_decide_eq_true ht
      omega
    · have := e3 k1
      rw [if_neg (by omega)] at ht
      have := of_decide_eq_true ht
      omega
theorem drop_at {is : List Int} {j : Nat} (h : j < is.length) : is.drop j = is.getD j 0 :: is.drop (j + 1) := by
  rw [List.drop_eq_getElem_cons h, List.getD_eq_getElem?_getD, List.getElem?_eq_getElem h]; rfl
structure ErI (GV : Array Value) (B O R : Nat) (num den : Int) (w w1 wr : World) : Prop where
  kB : Blk wr B GV 83
  kO : Blk wr O #[.int .i64 num, .int .i64 den] 49
  kR : Blk wr R #[.int .i64 0, .int .i64 0] 49
  b1 : Below w1.heap.size w1 wr
  be : Below w.heap.size w wr
theorem ErI.den {GV : Array Value} {B O R : Nat} {num den den' : Int} {w w1 wr : World} (h : ErI GV B O R num den w w1 wr) (h1 : B ≠ O) (h2 : R ≠ O) (h3 : w.heap.size ≤ O) (h4 : w1.heap.size ≤ O) (o : Obj) (q : Nat) :
    ErI GV B O R num den' w w1 (((wr.setCell ⟨O, 1, none⟩ (.int .i64 den')).alloc o).drewN q) := by
  have a : Below wr.heap.size (wr.setCell ⟨O, 1, none⟩ (.int .i64 den')) ((wr.setCell ⟨O, 1, none⟩ (.int .i64 den')).alloc o) := (Below.refl _ _).alloc (by simp) _
  have a' : Below (wr.setCell ⟨O, 1, none⟩ (.int .i64 den')).heap.size (wr.setCell ⟨O, 1, none⟩ (.int .i64 den')) ((wr.setCell ⟨O, 1, none⟩ (.int .i64 den')).alloc o) := (Below.refl _ _).alloc (Nat.le_refl _) _
  exact ⟨((h.kB.other (p := ⟨O, 1, none⟩) h1 _).below a').drewN q, (((h.kO.set 1 (.int .i64 den')).below a').drewN q : _), ((h.kR.other (p := ⟨O, 1, none⟩) h2 _).below a').drewN q,
    ((h.b1.setCell (p := ⟨O, 1, none⟩) h4 _).alloc (by simp; exact h.b1.size) _).trans ⟨rfl, rfl, rfl, Nat.le_refl _, fun _ _ => rfl⟩, ((h.be.setCell (p := ⟨O, 1, none⟩) h3 _).alloc (by simp; exact h.be.size) _).trans ⟨rfl, rfl, rfl, Nat.le_refl _, fun _ _ => rfl⟩⟩
theorem ErI.num {GV : Array Value} {B O R : Nat} {num den num' : Int} {w w1 wr : World} (h : ErI GV B O R num den w w1 wr) (h1 : B ≠ O) (h2 : R ≠ O) (h3 : w.heap.size ≤ O) (h4 : w1.heap.size ≤ O) :
    ErI GV B O R num' den w w1 (wr.setCell ⟨O, 0, none⟩ (.int .i64 num')) :=
  ⟨h.kB.other (p := ⟨O, 0, none⟩) h1 _, h.kO.set 0 (.int .i64 num'), h.kR.other (p := ⟨O, 0, none⟩) h2 _, h.b1.setCell (p := ⟨O, 0, none⟩) h4 _, h.be.setCell (p := ⟨O, 0, none⟩) h3 _⟩
theorem signed_size : (Try.prog.info? 49).map (·.size) = some 2 := by kernel_rfl
set_option maxRecDepth 100000 in
set_option maxHeartbeats 8000000 in
theorem error_any (g : Grv) (Ac At Aw Ag : Option Addr) (cc ct cw cg : Nat) (w : World) (hok : OkG g) (hrows : mayG g = true → g.rows ≤ 1048576) (hr : RG w g Ac At Aw Ag) :
    Calls Try.prog 144 #[.agg (grvA g Ac At Aw Ag cc ct cw cg)] w fun e w' => e = .returned (.tuple #[.agg #[.int .i64 (errO g).1, .int .i64 (errO g).2], .int .i64 (if mayG g then 0 else 8)]) ∧ Below w.heap.size w w' := by
  have KV := Lib.hid (fun w hr => votes_any g Ac At Aw Ag cc ct cw cg w hok hr)
  have hsz : (Try.prog.info? 83).map (·.size) = some (grvA g Ac At Aw Ag cc ct cw cg).size := by kernel_rfl
  have HRG := Lib.hid hr
  cases hmay : mayG g with
  | false =>
    have e : errO g = (0, 0) := by unfold errO; rw [hmay]; rfl
    rw [e]
    have e2 : votesR g = [] := by unfold votesR; rw [hmay]; rfl
    rw [hmay, e2] at KV
    have HF : Hid ((if false = true then (0 : Int) else 8) = 8) := Lib.hid rfl
    rw [HF.out] at KV ⊢
    obtain ⟨GV, hGV⟩ : ∃ V, grvA g Ac At Aw Ag cc ct cw cg = V := ⟨_, rfl⟩
    rw [hGV] at KV hsz ⊢
    clear e e2 hGV hmay hrows hok hr
    go_enter Try.func144, Try.ntmps144
    go_upto_region 1 with (fail)
    have kB := (Blk.new w GV 83).below ((Below.refl _ _).alloc (Nat.le_refl _) (.cells #[.int .i64 0, .int .i64 0] 49))
    have kR := Blk.new (w.alloc (.cells GV 83)) #[.int .i64 0, .int .i64 0] 49
    rw [World.size_alloc] at kR
    have HBE := Lib.hid (((Below.refl w.heap.size w).alloc (Nat.le_refl _) (.cells GV 83)).alloc (by simp) (.cells #[.int .i64 0, .int .i64 0] 49))
    obtain ⟨W0, hW0⟩ : ∃ W, (w.alloc (.cells GV 83)).alloc (.cells #[.int .i64 0, .int .i64 0] 49) = W := ⟨_, rfl⟩
    rw [hW0] at kB kR HBE ⊢
    go_wp2_with (refine wpList_load_row rfl 83 (.tmp 1) rfl w.heap.size rfl 83 GV (0, 0) _ kB Try.underlying83 rfl hsz ?_)
    refine (KV.out _ (HRG.out.below HBE.out)).mono ?_
    rintro e w1 ⟨v, rfl, ho, hb⟩
    have HBE1 := Lib.hid (HBE.out.trans (hb.mono HBE.out.size))
    have kR1 := kR.below hb
    have r0 := kR1.cell 0
    have r1 := kR1.cell 1
    have r2 := fun i => kR1.frozen i
    have hlR := kR1.lt
    simp only [List.getElem?_toArray, List.getElem?_cons_zero, List.getElem?_cons_succ] at r0 r1
    clear hb kR kB ho hW0
    go_wp2_with fail
    exact bodyPost_ret (results_ct rfl _ _ (w.heap.size + 1) 49 _ _ rfl ((kR1.set 0 _).set 1 _) Try.underlying49 rfl signed_size) rfl ⟨rfl, (HBE1.out.setCell (p := ⟨w.heap.size + 1, 0, none⟩) (by show w.heap.size ≤ w.heap.size + 1; omega) _).setCell (p := ⟨w.heap.size + 1, 1, none⟩) (by show w.heap.size ≤ w.heap.size + 1; omega) _⟩
  | true =>
    have e : errO g = errGo g.k (votesO g) g.tgt := by unfold errO; rw [hmay]; rfl
    rw [e]
    have e2 : votesR g = votesO g := by unfold votesR; rw [hmay]; rfl
    rw [hmay, e2] at KV
    have HF : Hid ((if true = true then (0 : Int) else 8) = 0) := Lib.hid rfl
    rw [HF.out] at KV ⊢
    obtain ⟨m1, m2, _⟩ := may_is hmay
    obtain ⟨_, hmat, _, _, _, hlen⟩ := head_is m1
    have hvl := votes_len g
    obtain ⟨n, hn⟩ := Int.eq_ofNat_of_zero_le hmat.1.1
    have hnb : n ≤ 1048576 := by have := hrows hmay; omega
    have hnt : g.rows.toNat = n := by omega
    have hgl : g.tgt.length = n := by omega
    rw [hnt] at hvl
    have HVT := Lib.hid (fun i (hi : i < n) v h => vote_tgt hmay hok (i := i) (by rw [hnt]; exact hi) (v := v) h)
    have HTI : Hid (∀ i, i < n → in64 (g.tgt.getD i 0)) := Lib.hid (fun i hi => by obtain ⟨_, _, h, _⟩ := hr.rg.at (i := i) (by rw [hgl]; exact hi); exact h)
    have hgA : grvA g Ac At Aw Ag cc ct cw cg = #[.int .i64 g.k, .int .i64 g.cl, .int .i64 g.b, .int .i64 g.t, .int .i64 g.d, .int .i64 g.l, .int .i64 g.p, .int .i64 n, .int .i64 g.cols, .slice Ac g.cells.length cc, .slice At g.trees.length ct, .slice Aw g.weights.length cw, .slice Ag n cg] := by unfold grvA; rw [hn, hgl]
    obtain ⟨GV, hGV⟩ : ∃ V, grvA g Ac At Aw Ag cc ct cw cg = V := ⟨_, rfl⟩
    have HGA := Lib.hid (hGV ▸ hgA)
    rw [hGV] at KV hsz ⊢
    obtain ⟨VS, hVS⟩ : ∃ VS, votesO g = VS := ⟨_, rfl⟩
    obtain ⟨TG, hTG⟩ : ∃ TG, g.tgt = TG := ⟨_, rfl⟩
    obtain ⟨k, hk⟩ : ∃ x, g.k = x := ⟨_, rfl⟩
    have hrg := hr.rg
    rw [hVS] at hvl HVT KV ⊢
    rw [hTG] at hgl HVT HTI hrg ⊢
    rw [hk] at HVT HGA ⊢
    rw [hvl] at KV
    have HRR := Lib.hid hrg
    have HVL := Lib.hid hvl
    have HGL := Lib.hid hgl
    obtain ⟨⟨NN, DD⟩, hE⟩ : ∃ E, errGo k VS TG = E := ⟨_, rfl⟩
    rw [hE]
    have HE := Lib.hid hE
    simp only
    clear e e2 hGV hmay hrows hok hr m1 m2 hmat hlen hvl hn hnt hgl hgA hVS hTG hk hrg hE
    go_enter Try.func144, Try.ntmps144
    go_upto_region 1 with (fail)
    have kB := (Blk.new w GV 83).below ((Below.refl _ _).alloc (Nat.le_refl _) (.cells #[.int .i64 0, .int .i64 0] 49))
    have kR := Blk.new (w.alloc (.cells GV 83)) #[.int .i64 0, .int .i64 0] 49
    rw [World.size_alloc] at kR
    have HBE := Lib.hid (((Below.refl w.heap.size w).alloc (Nat.le_refl _) (.cells GV 83)).alloc (by simp) (.cells #[.int .i64 0, .int .i64 0] 49))
    obtain ⟨W0, hW0⟩ : ∃ W, (w.alloc (.cells GV 83)).alloc (.cells #[.int .i64 0, .int .i64 0] 49) = W := ⟨_, rfl⟩
    rw [hW0] at kB kR HBE ⊢
    go_wp2_with (refine wpList_load_row rfl 83 (.tmp 1) rfl w.heap.size rfl 83 GV (0, 0) _ kB Try.underlying83 rfl hsz ?_)
    refine (KV.out _ (HRG.out.below HBE.out)).mono ?_
    rintro e w1 ⟨v, rfl, ho, hb⟩
    obtain ⟨va, vc, rfl⟩ := own_slice ho
    have HBE1 := Lib.hid (HBE.out.trans (hb.mono HBE.out.size))
    have HO := Lib.hid ho
    have hR1 := (kR.below hb).lt
    have HI0 : Hid (ErI GV w.heap.size w1.heap.size (w.heap.size + 1) 0 0 w w1 (w1.alloc (.cells #[.int .i64 0, .int .i64 0] 49))) := Lib.hid
      ⟨(kB.below hb).below ((Below.refl _ _).alloc (Nat.le_refl _) _), Blk.new _ _ _, (kR.below hb).below ((Below.refl _ _).alloc (Nat.le_refl _) _), (Below.refl _ _).alloc (Nat.le_refl _) _, HBE1.out.alloc HBE1.out.size _⟩
    clear hb kR kB ho hW0 hsz KV
    go_wp2_with fail
    go_loopw [21] (fun iv wr => ∃ (j : Nat) (num den : Int), j ≤ n ∧ iv = .int .i64 j ∧ 0 ≤ num ∧ num ≤ 4398046511104 * (j : Int) ∧ 0 ≤ den ∧ den ≤ (j : Int) ∧ Hid (ErI GV w.heap.size w1.heap.size (w.heap.size + 1) num den w w1 wr) ∧ Hid (num + (errGo k (VS.drop j) (TG.drop j)).1 = NN ∧ den + (errGo k (VS.drop j) (TG.drop j)).2 = DD)) (fun iv _ => n - (intOf iv).toNat)
    case atStart => exact ⟨0, 0, 0, Nat.zero_le _, rfl, by omega, by omega, by omega, by omega, HI0, Lib.hid (by rw [List.drop_zero, List.drop_zero, HE.out]; simp)⟩
    case round =>
      obtain ⟨j, num, den, hj, rfl, n1, n2, d1, d2, HI, HT⟩ := hrel
      obtain ⟨o0, o1⟩ : wr.cell? ⟨w1.heap.size, 0, none⟩ = some (.int .i64 num) ∧ wr.cell? ⟨w1.heap.size, 1, none⟩ = some (.int .i64 den) := ⟨HI.out.kO.cell 0, HI.out.kO.cell 1⟩
      have o2 := fun i => HI.out.kO.frozen i
      have hlO := HI.out.kO.lt
      by_cases hlt : j < n
      · have hlt' : (j : Int) < n := by omega
        have hjv : j < VS.length := by rw [HVL.out]; exact hlt
        have hjt : j < TG.length := by rw [HGL.out]; exact hlt
        obtain ⟨x, hx⟩ : ∃ x, VS[j]? = some x := ⟨_, List.getElem?_eq_getElem hjv⟩
        have hdv : VS.drop j = x :: VS.drop (j + 1) := by
          obtain ⟨_, rfl⟩ := List.getElem?_eq_some_iff.1 hx
          exact List.drop_eq_getElem_cons hjv
        have hdt : TG.drop j = TG.getD j 0 :: TG.drop (j + 1) := drop_at hjt
        have ho2 := own_below HO.out HI.out.b1
        obtain ⟨gv, cap, hv, _, _, hgv, hc⟩ := own_open ho2 (by omega)
        simp only [Value.slice.injEq] at hv
        obtain ⟨rfl, _, rfl⟩ := hv
        have y0 := hc (j * 2) _ ((flatV_get VS j 0 x hx (by omega)).trans (by cases x <;> rfl : (voteC x)[0]? = some (.bool x.isSome)))
        have y1 := hc (j * 2 + 1) _ ((flatV_get VS j 1 x hx (by omega)).trans (by cases x <;> rfl : (voteC x)[1]? = some (.int .i64 (x.getD 0))))
        have HD := Lib.hid (And.intro hdv hdt)
        have HX := Lib.hid hx
        have HgvO : Hid (gv ≠ w1.heap.size) := Lib.hid (by
          have := (World.ownsRow.lt HO.out gv rfl).2
          omega)
        have hgvO := HgvO.out
        clear ho2 hc hdv hdt hx
        cases x with
        | none =>
          simp only [Option.isSome_none] at y0 y1
          have HT2 : Hid (num + (errGo k (VS.drop (j + 1)) (TG.drop (j + 1))).1 = NN ∧ den + (errGo k (VS.drop (j + 1)) (TG.drop (j + 1))).2 = DD) := Lib.hid (by
            have := HT.out
            rwa [HD.out.1, HD.out.2, err_none] at this)
          go_wp2_with fail
          go_roundw
          case rel => exact ⟨j + 1, num, den, hlt, by go_num, n1, by omega, d1, by omega, Lib.hid ⟨HI.out.kB.below ((Below.refl _ _).alloc (Nat.le_refl _) _), HI.out.kO.below ((Below.refl _ _).alloc (Nat.le_refl _) _), HI.out.kR.below ((Below.refl _ _).alloc (Nat.le_refl _) _), HI.out.b1.alloc HI.out.b1.size _, HI.out.be.alloc HI.out.be.size _⟩, HT2⟩
          case measure => simp [intOf]; omega
        | some v =>
          simp only [Option.isSome_some, Option.getD_some] at y0 y1
          obtain ⟨hk01, v1, v2, t1, t2⟩ := HVT.out j hlt v HX.out
          obtain ⟨ad, rfl, hin, yt⟩ := (HRR.out.below HI.out.be).at (i := j) hjt
          have HT3 := HT.out
          rw [HD.out.1, HD.out.2, err_some] at HT3
          obtain ⟨T, hT⟩ : ∃ T, TG.getD j 0 = T := ⟨_, rfl⟩
          rw [hT] at t1 t2 yt HT3
          obtain ⟨F, hF⟩ : ∃ F, v - T = F := ⟨_, rfl⟩
          have hFl : -2097152 ≤ F := by omega
          have hFh : F ≤ 2097152 := by omega
          have hvT : ¬ (v ≠ T) ↔ F = 0 := by omega
          obtain ⟨f1, f2⟩ := sq_bound hFl hFh
          have hw1 : IntKind.i64.wrap (v - T) = F := by rw [hF, IntKind.wrap_i64]; omega
          rw [hF] at HT3
          have HT4 := Lib.hid HT3
          have HVT0 := Lib.hid hvT
          have gg := HI.out.kB
          rw [HGA.out] at gg
          obtain ⟨q0, q1, q2, q3, q4, q5, q6, q7, q8, q9, q10, q11, q12⟩ := gg.cells13
          have hlB := gg.lt
          have hOB : w.heap.size ≠ w1.heap.size := by have := hR1; omega
          have hOB' : w1.heap.size ≠ w.heap.size := by have := hR1; omega
          have hyt := World.block_lt_of_cell? wr _ yt
          have hblk : (ad.add j).block < w.heap.size := by
            obtain ⟨ad', e, _, hc⟩ := HRR.out.at (i := j) hjt
            cases e
            exact World.block_lt_of_cell? w _ hc
          have hne1 : (⟨w1.heap.size, 1, none⟩ : Addr) ≠ ad.add j := fun e => by rw [← e] at hblk; simp at hblk; omega
          have hne2 : (⟨w1.heap.size, 0, none⟩ : Addr) ≠ ad.add j := fun e => by rw [← e] at hblk; simp at hblk; omega
          clear hin hT hF HT3 gg hvT t1 t2 v1 v2
          have hj1 : (j : Int) < n := hlt'
          have hRO : w.heap.size + 1 ≠ w1.heap.size := by omega
          have hwO : w.heap.size ≤ w1.heap.size := by omega
          have HRO := Lib.hid (And.intro hRO hwO)
          have HOB := Lib.hid hOB
          clear hRO hwO
          rcases hk01 with hk0 | hk1
          · have kb : (k == 1) = false := beq_eq_false_iff_ne.2 (by omega)
            have HK1 : Hid (¬ k = 1) := Lib.hid (by omega)
            clear hk0
            by_cases hF0 : F = 0
            · have fb : (F != 0) = false := by simpa using hF0
              have HF0 := Lib.hid hF0
              clear hF0
              go_wp2_with fail
              go_quiet (fail)
              go_wp2_with fail
              go_roundw
              case rel =>
                refine ⟨j + 1, num, den + 1, hlt, by go_num, n1, by omega, by omega, by omega, Lib.hid (HI.out.den HOB.out HRO.out.1 HRO.out.2 (Nat.le_refl _) _ nq), Lib.hid ?_⟩
                have := HT4.out
                rw [if_neg HK1.out, if_neg (HVT0.out.2 HF0.out)] at this
                exact ⟨by have := this.1; omega, by have := this.2; omega⟩
              case measure => simp [intOf]; omega
            · have fb : (F != 0) = true := bne_iff_ne.2 hF0
              have HF0 := Lib.hid hF0
              clear hF0
              go_wp2_with fail
              go_quiet (fail)
              go_wp2_with fail
              go_roundw
              case rel =>
                refine ⟨j + 1, num + 1, den + 1, hlt, by go_num, by omega, by omega, by omega, by omega, Lib.hid ((HI.out.den HOB.out HRO.out.1 HRO.out.2 (Nat.le_refl _) _ nq).num HOB.out HRO.out.1 HRO.out.2 (Nat.le_refl _)), Lib.hid ?_⟩
                have := HT4.out
                rw [if_neg HK1.out, if_pos (Decidable.not_not.1 (fun e => HF0.out (HVT0.out.1 e)))] at this
                exact ⟨by have := this.1; omega, by have := this.2; omega⟩
              case measure => simp [intOf]; omega
          · have kb : (k == 1) = true := beq_iff_eq.2 hk1
            have HK1 := Lib.hid hk1
            clear hk1
            go_wp2_with fail
            go_quiet (fail)
            go_wp2_with fail
            go_roundw
            case rel =>
              refine ⟨j + 1, num + F * F, den + 1, hlt, by go_num, by omega, by omega, by omega, by omega, Lib.hid ((HI.out.den HOB.out HRO.out.1 HRO.out.2 (Nat.le_refl _) _ nq).num HOB.out HRO.out.1 HRO.out.2 (Nat.le_refl _)), Lib.hid ?_⟩
              have := HT4.out
              rw [if_pos HK1.out] at this
              exact ⟨by have := this.1; omega, by have := this.2; omega⟩
            case measure => simp [intOf]; omega
      · obtain rfl : n = j := by omega
        have hfin : Hid (num = NN ∧ den = DD) := Lib.hid (by
          have := HT.out
          rw [List.drop_of_length_le (by rw [HVL.out]; exact Nat.le_refl _)] at this
          have e0 : errGo k [] (TG.drop n) = (0, 0) := rfl
          rw [e0] at this
          simpa using this)
        have r0 := HI.out.kR.cell 0
        have r1 := HI.out.kR.cell 1
        have r2 := fun i => HI.out.kR.frozen i
        have hlR := HI.out.kR.lt
        simp only [List.getElem?_toArray, List.getElem?_cons_zero, List.getElem?_cons_succ] at r0 r1
        go_wp2_with fail
        obtain ⟨e1, e2⟩ := hfin.out
        subst e1 e2
        exact bodyPost_ret (results_ct rfl _ _ (w.heap.size + 1) 49 _ _ rfl ((HI.out.kR.set 0 _).set 1 _) Try.underlying49 rfl signed_size) rfl ⟨rfl, (HI.out.be.setCell (p := ⟨w.heap.size + 1, 0, none⟩) (by show w.heap.size ≤ w.heap.size + 1; omega) _).setCell (p := ⟨w.heap.size + 1, 1, none⟩) (by show w.heap.size ≤ w.heap.size + 1; omega) _⟩
end Go.Proofs.Ytpekofpiodaadaa.Hb
end

section
/- The walk of ref25.Error. -/
namespace Go.Proofs.Ytpekofpiodaadaa.Hb
set_option linter.unusedVariables false
set_option linter.unusedSimpArgs false
open Go.RowKit

structure RErI (GV : Array Value) (B R : Nat) (w w1 wr : World) : Prop where
  kB : Blk wr B GV 79
  kR : Blk wr R #[.int .i64 0, .int .i64 0] 49
  b1 : Below w1.heap.size w1 wr
  be : Below w.heap.size w wr
set_option maxRecDepth 100000 in
set_option maxHeartbeats 8000000 in
theorem rerror_any (g : Grv) (Ac At Aw Ag : Option Addr) (cc ct cw cg : Nat) (w : World) (hok : OkG g) (hrows : mayG g = true → g.rows ≤ 1048576) (hr : RG w g Ac At Aw Ag) :
    Calls Try.prog 89 #[.agg (grvA g Ac At Aw Ag cc ct cw cg)] w fun e w' => e = .returned (.tuple #[.agg #[.int .i64 (errO g).1, .int .i64 (errO g).2], .int .i64 (if mayG g then 0 else 8)]) ∧ Below w.heap.size w w' := by
  have KV := Lib.hid (fun w hr => rvotes_any g Ac At Aw Ag cc ct cw cg w hok hr)
  have hsz : (Try.prog.info? 79).map (·.size) = some (grvA g Ac At Aw Ag cc ct cw cg).size := by kernel_rfl
  have HRG := Lib.hid hr
  cases hmay : mayG g with
  | false =>
    have e : errO g = (0, 0) := by unfold errO; rw [hmay]; rfl
    rw [e]
    have e2 : votesR g = [] := by unfold votesR; rw [hmay]; rfl
    rw [hmay, e2] at KV
    have HF : Hid ((if false = true then (0 : Int) else 8) = 8) := Lib.hid rfl
    rw [HF.out] at KV ⊢
    obtain ⟨GV, hGV⟩ : ∃ V, grvA g Ac At Aw Ag cc ct cw cg = V := ⟨_, rfl⟩
    rw [hGV] at KV hsz ⊢
    clear e e2 hGV hmay hrows hok hr
    go_enter Try.func89, Try.ntmps89
    go_upto_region 1 with (fail)
    have kB := (Blk.new w GV 79).below ((Below.refl _ _).alloc (Nat.le_refl _) (.cells #[.int .i64 0, .int .i64 0] 49))
    have kR := Blk.new (w.alloc (.cells GV 79)) #[.int .i64 0, .int .i64 0] 49
    rw [World.size_alloc] at kR
    have HBE := Lib.hid (((Below.refl w.heap.size w).alloc (Nat.le_refl _) (.cells GV 79)).alloc (by simp) (.cells #[.int .i64 0, .int .i64 0] 49))
    obtain ⟨W0, hW0⟩ : ∃ W, (w.alloc (.cells GV 79)).alloc (.cells #[.int .i64 0, .int .i64 0] 49) = W := ⟨_, rfl⟩
    rw [hW0] at kB kR HBE ⊢
    go_wp2_with (refine wpList_load_row rfl 79 (.tmp 1) rfl w.heap.size rfl 79 GV (0, 0) _ kB Try.underlying79 rfl hsz ?_)
    refine (KV.out _ (HRG.out.below HBE.out)).mono ?_
    rintro e w1 ⟨v, rfl, ho, hb⟩
    have HBE1 := Lib.hid (HBE.out.trans (hb.mono HBE.out.size))
    have kR1 := kR.below hb
    have r0 := kR1.cell 0
    have r1 := kR1.cell 1
    have r2 := fun i => kR1.frozen i
    have hlR := kR1.lt
    simp only [List.getElem?_toArray, List.getElem?_cons_zero, List.getElem?_cons_succ] at r0 r1
    clear hb kR kB ho hW0
    go_wp2_with fail
    exact bodyPost_ret (results_ct rfl _ _ (w.heap.size + 1) 49 _ _ rfl ((kR1.set 0 _).set 1 _) Try.underlying49 rfl signed_size) rfl ⟨rfl, (HBE1.out.setCell (p := ⟨w.heap.size + 1, 0, none⟩) (by show w.heap.size ≤ w.heap.size + 1; omega) _).setCell (p := ⟨w.heap.size + 1, 1, none⟩) (by show w.heap.size ≤ w.heap.size + 1; omega) _⟩
  | true =>
    have e : errO g = errGo g.k (votesO g) g.tgt := by unfold errO; rw [hmay]; rfl
    rw [e]
    have e2 : votesR g = votesO g := by unfold votesR; rw [hmay]; rfl
    rw [hmay, e2] at KV
    have HF : Hid ((if true = true then (0 : Int) else 8) = 0) := Lib.hid rfl
    rw [HF.out] at KV ⊢
    obtain ⟨m1, m2, _⟩ := may_is hmay
    obtain ⟨_, hmat, _, _, _, hlen⟩ := head_is m1
    have hvl := votes_len g
    obtain ⟨n, hn⟩ := Int.eq_ofNat_of_zero_le hmat.1.1
    have hnb : n ≤ 1048576 := by have := hrows hmay; omega
    have hnt : g.rows.toNat = n := by omega
    have hgl : g.tgt.length = n := by omega
    rw [hnt] at hvl
    have HVT := Lib.hid (fun i (hi : i < n) v h => vote_tgt hmay hok (i := i) (by rw [hnt]; exact hi) (v := v) h)
    have HTI : Hid (∀ i, i < n → in64 (g.tgt.getD i 0)) := Lib.hid (fun i hi => by obtain ⟨_, _, h, _⟩ := hr.rg.at (i := i) (by rw [hgl]; exact hi); exact h)
    have hgA : grvA g Ac At Aw Ag cc ct cw cg = #[.int .i64 g.k, .int .i64 g.cl, .int .i64 g.b, .int .i64 g.t, .int .i64 g.d, .int .i64 g.l, .int .i64 g.p, .int .i64 n, .int .i64 g.cols, .slice Ac g.cells.length cc, .slice At g.trees.length ct, .slice Aw g.weights.length cw, .slice Ag n cg] := by unfold grvA; rw [hn, hgl]
    obtain ⟨GV, hGV⟩ : ∃ V, grvA g Ac At Aw Ag cc ct cw cg = V := ⟨_, rfl⟩
    have HGA := Lib.hid (hGV ▸ hgA)
    rw [hGV] at KV hsz ⊢
    obtain ⟨VS, hVS⟩ : ∃ VS, votesO g = VS := ⟨_, rfl⟩
    obtain ⟨TG, hTG⟩ : ∃ TG, g.tgt = TG := ⟨_, rfl⟩
    obtain ⟨k, hk⟩ : ∃ x, g.k = x := ⟨_, rfl⟩
    have hrg := hr.rg
    rw [hVS] at hvl HVT KV ⊢
    rw [hTG] at hgl HVT HTI hrg ⊢
    rw [hk] at HVT HGA ⊢
    rw [hvl] at KV
    have HRR := Lib.hid hrg
    have HVL := Lib.hid hvl
    have HGL := Lib.hid hgl
    obtain ⟨⟨NN, DD⟩, hE⟩ : ∃ E, errGo k VS TG = E := ⟨_, rfl⟩
    rw [hE]
    have HE := Lib.hid hE
    simp only
    clear e e2 hGV hmay hrows hok hr m1 m2 hmat hlen hvl hn hnt hgl hgA hVS hTG hk hrg hE
    go_enter Try.func89, Try.ntmps89
    go_upto_region 1 with (fail)
    have kB := (Blk.new w GV 79).below ((Below.refl _ _).alloc (Nat.le_refl _) (.cells #[.int .i64 0, .int .i64 0] 49))
    have kR := Blk.new (w.alloc (.cells GV 79)) #[.int .i64 0, .int .i64 0] 49
    rw [World.size_alloc] at kR
    have HBE := Lib.hid (((Below.refl w.heap.size w).alloc (Nat.le_refl _) (.cells GV 79)).alloc (by simp) (.cells #[.int .i64 0, .int .i64 0] 49))
    obtain ⟨W0, hW0⟩ : ∃ W, (w.alloc (.cells GV 79)).alloc (.cells #[.int .i64 0, .int .i64 0] 49) = W := ⟨_, rfl⟩
    rw [hW0] at kB kR HBE ⊢
    go_wp2_with (refine wpList_load_row rfl 79 (.tmp 1) rfl w.heap.size rfl 79 GV (0, 0) _ kB Try.underlying79 rfl hsz ?_)
    refine (KV.out _ (HRG.out.below HBE.out)).mono ?_
    rintro e w1 ⟨v, rfl, ho, hb⟩
    obtain ⟨va, vc, rfl⟩ := own_slice ho
    have HBE1 := Lib.hid (HBE.out.trans (hb.mono HBE.out.size))
    have HO := Lib.hid ho
    have hR1 := (kR.below hb).lt
    have HI0 : Hid (RErI GV w.heap.size (w.heap.size + 1) w w1 w1) := Lib.hid ⟨kB.below hb, kR.below hb, Below.refl _ _, HBE1.out⟩
    clear hb kR kB ho hW0 hsz KV
    go_wp2_with fail
    go_loopw [6, 7, 8] (fun nv dv iv wr => ∃ (j : Nat) (num den : Int), j ≤ n ∧ iv = .int .i64 j ∧ nv = .int .i64 num ∧ dv = .int .i64 den ∧ 0 ≤ num ∧ num ≤ 4398046511104 * (j : Int) ∧ 0 ≤ den ∧ den ≤ (j : Int) ∧ Hid (RErI GV w.heap.size (w.heap.size + 1) w w1 wr) ∧ Hid (num + (errGo k (VS.drop j) (TG.drop j)).1 = NN ∧ den + (errGo k (VS.drop j) (TG.drop j)).2 = DD)) (fun _ _ iv _ => n - (intOf iv).toNat)
    case atStart => exact ⟨0, 0, 0, Nat.zero_le _, rfl, rfl, rfl, by omega, by omega, by omega, by omega, HI0, Lib.hid (by rw [List.drop_zero, List.drop_zero, HE.out]; simp)⟩
    case round =>
      obtain ⟨j, num, den, hj, rfl, rfl, rfl, n1, n2, d1, d2, HI, HT⟩ := hrel
      by_cases hlt : j < n
      · have hlt' : (j : Int) < n := by omega
        have hjv : j < VS.length := by rw [HVL.out]; exact hlt
        have hjt : j < TG.length := by rw [HGL.out]; exact hlt
        obtain ⟨x, hx⟩ : ∃ x, VS[j]? = some x := ⟨_, List.getElem?_eq_getElem hjv⟩
        have hdv : VS.drop j = x :: VS.drop (j + 1) := by
          obtain ⟨_, rfl⟩ := List.getElem?_eq_some_iff.1 hx
          exact List.drop_eq_getElem_cons hjv
        have hdt : TG.drop j = TG.getD j 0 :: TG.drop (j + 1) := drop_at hjt
        have ho2 := own_below HO.out HI.out.b1
        obtain ⟨gv, cap, hv, _, _, hgv, hc⟩ := own_open ho2 (by omega)
        simp only [Value.slice.injEq] at hv
        obtain ⟨rfl, _, rfl⟩ := hv
        have y0 := hc (j * 2) _ ((flatV_get VS j 0 x hx (by omega)).trans (by cases x <;> rfl : (voteC x)[0]? = some (.bool x.isSome)))
        have y1 := hc (j * 2 + 1) _ ((flatV_get VS j 1 x hx (by omega)).trans (by cases x <;> rfl : (voteC x)[1]? = some (.int .i64 (x.getD 0))))
        have HD := Lib.hid (And.intro hdv hdt)
        have HX := Lib.hid hx
        clear ho2 hc hdv hdt hx
        cases x with
        | none =>
          simp only [Option.isSome_none] at y0 y1
          have HT2 : Hid (num + (errGo k (VS.drop (j + 1)) (TG.drop (j + 1))).1 = NN ∧ den + (errGo k (VS.drop (j + 1)) (TG.drop (j + 1))).2 = DD) := Lib.hid (by
            have := HT.out
            rwa [HD.out.1, HD.out.2, err_none] at this)
          go_wp2_with fail
          go_roundw
          case rel => exact ⟨j + 1, num, den, hlt, by go_num, rfl, rfl, n1, by omega, d1, by omega, HI, HT2⟩
          case measure => simp [intOf]; omega
        | some v =>
          simp only [Option.isSome_some, Option.getD_some] at y0 y1
          obtain ⟨hk01, v1, v2, t1, t2⟩ := HVT.out j hlt v HX.out
          obtain ⟨ad, rfl, hin, yt⟩ := (HRR.out.below HI.out.be).at (i := j) hjt
          have HT3 := HT.out
          rw [HD.out.1, HD.out.2, err_some] at HT3
          obtain ⟨T, hT⟩ : ∃ T, TG.getD j 0 = T := ⟨_, rfl⟩
          rw [hT] at t1 t2 yt HT3
          obtain ⟨F, hF⟩ : ∃ F, v - T = F := ⟨_, rfl⟩
          have hFl : -2097152 ≤ F := by omega
          have hFh : F ≤ 2097152 := by omega
          obtain ⟨f1, f2⟩ := sq_bound hFl hFh
          have hw1 : IntKind.i64.wrap (v - T) = F := by rw [hF, IntKind.wrap_i64]; omega
          rw [hF] at HT3
          have HT4 := Lib.hid HT3
          have gg := HI.out.kB
          rw [HGA.out] at gg
          obtain ⟨q0, q1, q2, q3, q4, q5, q6, q7, q8, q9, q10, q11, q12⟩ := gg.cells13
          have hlB := gg.lt
          have hw2 : IntKind.i64.wrap (F * F) = F * F := by rw [IntKind.wrap_i64]; omega
          have hw3 : IntKind.i64.wrap (num + F * F) = num + F * F := by rw [IntKind.wrap_i64]; omega
          have hnb2 : num ≤ 4611686018427387904 := by omega
          have dr : ∀ q, RErI GV w.heap.size (w.heap.size + 1) w w1 (wr.drewN q) := fun q => ⟨HI.out.kB.drewN q, HI.out.kR.drewN q, HI.out.b1.trans ⟨rfl, rfl, rfl, Nat.le_refl _, fun _ _ => rfl⟩, HI.out.be.trans ⟨rfl, rfl, rfl, Nat.le_refl _, fun _ _ => rfl⟩⟩
          have HDR := Lib.hid dr
          have HEQ : Hid (v ≠ T ↔ F ≠ 0) := Lib.hid (by omega)
          have HJ1 : Hid (num + F * F ≤ 4398046511104 * ((j + 1 : Nat) : Int) ∧ num + 1 ≤ 4398046511104 * ((j + 1 : Nat) : Int) ∧ num ≤ 4398046511104 * ((j + 1 : Nat) : Int) ∧ 0 ≤ num + F * F) := Lib.hid (by omega)
          clear hin hT hF HT3 gg t1 t2 v1 v2 dr
          rcases hk01 with hk0 | hk1
          · have kb : (k == 1) = false := beq_eq_false_iff_ne.2 (by omega)
            have HK1 : Hid (¬ k = 1) := Lib.hid (by omega)
            clear hk0
            by_cases hvT : v = T
            · have fb : (v != T) = false := by simpa using hvT
              have HVT0 := Lib.hid hvT
              clear hvT hw1 hw2 hw3
              go_wp2_with fail
              go_quiet (fail)
              go_wp2_with fail
              go_roundw
              case rel =>
                refine ⟨j + 1, num, den + 1, hlt, by go_num, by go_num, by go_num, n1, HJ1.out.2.2.1, by omega, by omega, Lib.hid (HDR.out _), Lib.hid ?_⟩
                have := HT4.out
                rw [if_neg HK1.out, if_neg (fun h => h HVT0.out)] at this
                exact ⟨by have := this.1; omega, by have := this.2; omega⟩
              case measure => simp [intOf]; omega
            · have fb : (v != T) = true := bne_iff_ne.2 hvT
              have HVT0 := Lib.hid hvT
              clear hvT hw1 hw2 hw3
              go_wp2_with fail
              go_quiet (fail)
              go_wp2_with fail
              go_roundw
              case rel =>
                refine ⟨j + 1, num + 1, den + 1, hlt, by go_num, by go_num, by go_num, by omega, HJ1.out.2.1, by omega, by omega, Lib.hid (HDR.out _), Lib.hid ?_⟩
                have := HT4.out
                rw [if_neg HK1.out, if_pos HVT0.out] at this
                exact ⟨by have := this.1; omega, by have := this.2; omega⟩
              case measure => simp [intOf]; omega
          · have kb : (k == 1) = true := beq_iff_eq.2 hk1
            have HK1 := Lib.hid hk1
            clear hk1
            go_wp2_with fail
            go_quiet (fail)
            go_wp2_with fail
            go_roundw
            case rel =>
              refine ⟨j + 1, num + F * F, den + 1, hlt, by go_num, by go_num, by go_num, HJ1.out.2.2.2, HJ1.out.1, by omega, by omega, Lib.hid (HDR.out _), Lib.hid ?_⟩
              have := HT4.out
              rw [if_pos HK1.out] at this
              exact ⟨by have := this.1; omega, by have := this.2; omega⟩
            case measure => simp [intOf]; omega
      · obtain rfl : n = j := by omega
        have hfin : Hid (num = NN ∧ den = DD) := Lib.hid (by
          have := HT.out
          rw [List.drop_of_length_le (by rw [HVL.out]; exact Nat.le_refl _)] at this
          have e0 : errGo k [] (TG.drop n) = (0, 0) := rfl
          rw [e0] at this
          simpa using this)
        have r0 := HI.out.kR.cell 0
        have r1 := HI.out.kR.cell 1
        have r2 := fun i => HI.out.kR.frozen i
        have hlR := HI.out.kR.lt
        simp only [List.getElem?_toArray, List.getElem?_cons_zero, List.getElem?_cons_succ] at r0 r1
        go_wp2_with fail
        obtain ⟨e1, e2⟩ := hfin.out
        subst e1 e2
        exact bodyPost_ret (results_ct rfl _ _ (w.heap.size + 1) 49 _ _ rfl ((HI.out.kR.set 0 _).set 1 _) Try.underlying49 rfl signed_size) rfl ⟨rfl, (HI.out.be.setCell (p := ⟨w.heap.size + 1, 0, none⟩) (by show w.heap.size ≤ w.heap.size + 1; omega) _).setCell (p := ⟨w.heap.size + 1, 1, none⟩) (by show w.heap.size ≤ w.heap.size + 1; omega) _⟩
end Go.Proofs.Ytpekofpiodaadaa.Hb
end

section
/- How much a column tells: plain. -/
namespace Go.Proofs.Ytpekofpiodaadaa.Hb
set_option linter.unusedVariables false
open Go.RowKit

/-- The grove whose column is turned. -/
def turnG (g : Grv) (col : Nat) (p : List Int) : Grv := { g with cells := turnO (col * g.rows.toNat) p g.cells g.rows.toNat }
theorem turnG_may (g : Grv) (col : Nat) (p : List Int) : mayG (turnG g col p) = mayG g := by
  have ht : ∀ (ts : List (List Nd)) (ws : List (List Int)), treesB (turnG g col p) ts ws = treesB g ts ws := by
    intro ts
    induction ts with
    | nil => intro ws; cases ws <;> rfl
    | cons t r ih =>
      intro ws
      cases ws with
      | nil => rfl
      | cons x s => rw [treesB, treesB, ih s]; rfl
  unfold mayG headB
  rw [ht]
  unfold turnG
  simp only [turn_len]
theorem turnG_ok {g : Grv} (h : OkG g) (col : Nat) (p : List Int) : OkG (turnG g col p) := ⟨by unfold turnG; simp only [turn_len]; exact h.lc, h.lt, h.lw, h.lg, h.tt, h.ww⟩
/-- On how many rows there is a vote hangs not on the cells. -/
theorem some_turn {g : Grv} (hm : mayG g = true) (col : Nat) (p : List Int) (i : Nat) : (voteAt (turnG g col p) i).isSome = (voteAt g i).isSome := by
  obtain ⟨_, _, _, _, hlen, _⟩ := head_is (may_is hm).1
  have e1 := leaves_nil (rowO g.rows g.cols g.cells i) i g.trees g.weights hlen.symm
  have e2 := leaves_nil (rowO g.rows g.cols (turnG g col p).cells i) i g.trees g.weights hlen.symm
  have e : leavesO (turnG g col p) i = [] ↔ leavesO g i = [] := e2.trans e1.symm
  unfold voteAt
  by_cases h : leavesO g i = []
  · rw [if_pos h, if_pos (e.2 h)]
  · rw [if_neg h, if_neg (fun h2 => h (e.1 h2))]; rfl
theorem den_same (k : Int) : ∀ (vs us : List (Option Int)) (ts : List Int), vs.length = us.length → (∀ i, (vs.getD i none).isSome = (us.getD i none).isSome) → (errGo k vs ts).2 = (errGo k us ts).2
  | [], [], ts, _, _ => rfl
  | [], _ :: _, _, h, _ => by simp at h
  | _ :: _, [], _, h, _ => by simp at h
  | v :: vs, u :: us, [], _, _ => by cases v <;> cases u <;> rfl
  | v :: vs, u :: us, t :: ts, h, hs => by
    have ih := den_same k vs us ts (by simpa using h) (fun i => by have := hs (i + 1); simpa using this)
    have h0 := hs 0
    simp only [List.getD_cons_zero] at h0
    cases v <;> cases u
    · exact ih
    · cases h0
    · cases h0
    · rw [err_some, err_some]
      show _ + 1 = _ + 1
      rw [ih]
theorem den_turn (g : Grv) (col : Nat) (p : List Int) : (errO (turnG g col p)).2 = (errO g).2 := by
  unfold errO
  rw [turnG_may]
  cases hm : mayG g with
  | false => rfl
  | true =>
    rw [if_pos rfl, if_pos rfl]
    refine den_same g.k _ _ g.tgt (by rw [votes_len, votes_len]; rfl) (fun i => ?_)
    by_cases hi : i < g.rows.toNat
    · rw [List.getD_eq_getElem?_getD, List.getD_eq_getElem?_getD, votes_at hi, votes_at (g := turnG g col p) hi]
      exact some_turn hm col p i
    · rw [List.getD_eq_getElem?_getD, List.getD_eq_getElem?_getD, List.getElem?_eq_none (by rw [votes_len]; show g.rows.toNat ≤ i; omega), List.getElem?_eq_none (by rw [votes_len]; show g.rows.toNat ≤ i; omega)]
def shakeKey (seed col : Int) : Int := foldF [seed, 3, IntKind.u64.wrap col, 0]
theorem shakeKey_in (seed col : Int) : 0 ≤ shakeKey seed col ∧ shakeKey seed col ≤ 18446744073709551615 := foldF_in _
/-- The permutation of a column. -/
def shakeR (g : Grv) (seed : Int) (col : Nat) : Option (List Int) := (runO (numS (shakeKey seed col)) (stepPerm g.rows.toNat) (bndPerm g.rows.toNat) 0 (rowI g.rows.toNat) 0).1
/-- How much a column tells: the answer of a grove that may be, at a column that is one. -/
def tellO (g : Grv) (seed : Int) (col : Nat) : (Int × Int) × Int := match shakeR g seed col with
  | none => ((0, 0), 7)
  | some p => ((IntKind.i64.wrap ((errO (turnG g col p)).1 - (errO g).1), (errO g).2), 0)
def shakeO (g : Grv) (seed col : Int) : (Int × Int) × Int := if mayG g = true ∧ 0 ≤ col ∧ col < g.cols then tellO g seed col.toNat else ((0, 0), 8)
end Go.Proofs.Ytpekofpiodaadaa.Hb
end

section
/- How much a column tells: the walk of (shake.shaken).one. -/
namespace Go.Proofs.Ytpekofpiodaadaa.Hb
set_option linter.unusedVariables false
set_option linter.unusedSimpArgs false
open Go.RowKit

/-- A stream is a source. -/
theorem srcS (b N0 : Nat) (key : Int) (hb : b < N0) : Src (.iface 225 (.pointer (some ⟨b, 0, none⟩))) b N0 (numS key) (StrAt b key) where
  hb := hb
  keep := fun k W W' h hB => (hB.block b hb).trans h
  below := fun n k W hN h1 h2 hk hJ => belowS_any b (numS key) (StrAt b key) (fun k => (numS_in key k).1) (fun k W hk hJ => nextS_any b key k W hk hJ) n k W h1 h2 hk hJ
theorem Blk.cells16 {w : World} {g : Nat} {a b c d e f h i j k l m n o p q : Value} {t : TypeId} (x : Blk w g #[a, b, c, d, e, f, h, i, j, k, l, m, n, o, p, q] t) :
    w.cell? ⟨g, 0, none⟩ = some a ∧ w.cell? ⟨g, 1, none⟩ = some b ∧ w.cell? ⟨g, 2, none⟩ = some c ∧ w.cell? ⟨g, 3, none⟩ = some d ∧ w.cell? ⟨g, 4, none⟩ = some e ∧ w.cell? ⟨g, 5, none⟩ = some f ∧ w.cell? ⟨g, 6, none⟩ = some h ∧ w.cell? ⟨g, 7, none⟩ = some i ∧ w.cell? ⟨g, 8, none⟩ = some j ∧ w.cell? ⟨g, 9, none⟩ = some k ∧ w.cell? ⟨g, 10, none⟩ = some l ∧ w.cell? ⟨g, 11, none⟩ = some m ∧ w.cell? ⟨g, 12, none⟩ = some n ∧ w.cell? ⟨g, 13, none⟩ = some o ∧ w.cell? ⟨g, 14, none⟩ = some p ∧ w.cell? ⟨g, 15, none⟩ = some q :=
  ⟨x.cell 0, x.cell 1, x.cell 2, x.cell 3, x.cell 4, x.cell 5, x.cell 6, x.cell 7, x.cell 8, x.cell 9, x.cell 10, x.cell 11, x.cell 12, x.cell 13, x.cell 14, x.cell 15⟩
/-- What a drawn permutation comes to. -/
def PermE (n : Nat) (e : Ending) (w' : World) : Option (List Int) → Prop
  | none => e = .returned (.tuple #[.slice none 0 0, .int .i64 7])
  | some q => ∃ g c, e = .returned (.tuple #[.slice (some ⟨g, 0, none⟩) n c, .int .i64 0]) ∧ RdI w' (some ⟨g, 0, none⟩) q ∧ q.Perm (rowI n)
/-- A drawn permutation in the program's hands. -/
theorem permS_any (key : Int) (n : Nat) (hn : n ≤ 1048576) (W : World) (R : Option (List Int)) (hR : (runO (numS key) (stepPerm n) (bndPerm n) 0 (rowI n) 0).1 = R) :
    Calls Try.prog 145 #[.iface 225 (.pointer (some ⟨W.heap.size, 0, none⟩)), .int .i64 n] (W.alloc (.cells #[.int .u64 key, .int .u64 0] 272)) fun e w' => Below W.heap.size W w' ∧ PermE n e w' R := by
  refine (perm_any (srcS W.heap.size (W.heap.size + 1) key (Nat.lt_succ_self _)) n hn 0 (by omega) (W.alloc (.cells #[.int .u64 key, .int .u64 0] 272)) (by simp) (Blk.new _ _ _)).mono ?_
  rintro e w' ⟨hg, _, hm⟩
  have ha : Below W.heap.size W (W.alloc (.cells #[.int .u64 key, .int .u64 0] 272)) := (Below.refl _ _).alloc (Nat.le_refl _) _
  refine ⟨ha.grown hg (by simp) (fun q e => by cases e; exact Nat.le_refl _), ?_⟩
  rw [hR] at hm
  cases R with
  | none => exact hm
  | some q =>
    obtain ⟨g, c, rfl, ho⟩ := hm
    have hp := permR_perm (k := 0) (Rk := (runO (numS key) (stepPerm n) (bndPerm n) 0 (rowI n) 0).2) (q := q) hn (by rw [← hR])
    rw [perm_len hp] at ho ⊢
    refine ⟨g, c, rfl, RdI.own (by rw [perm_len hp]; exact ho) (fun x hx => ?_), hp⟩
    have := perm_in hp x hx
    unfold inR
    omega
end Go.Proofs.Ytpekofpiodaadaa.Hb
end

section
/- How much a column tells: the walk of (shake.shaken).one. -/
namespace Go.Proofs.Ytpekofpiodaadaa.Hb
set_option linter.unusedVariables false
set_option linter.unusedSimpArgs false
open Go.RowKit

def shA (g : Grv) (Ac At Aw Ag : Option Addr) (cc ct cw cg : Nat) (seed N D : Int) : Array Value :=
  #[.int .i64 g.k, .int .i64 g.cl, .int .i64 g.b, .int .i64 g.t, .int .i64 g.d, .int .i64 g.l, .int .i64 g.p, .int .i64 g.rows, .int .i64 g.cols, .slice Ac g.cells.length cc, .slice At g.trees.length ct, .slice Aw g.weights.length cw, .slice Ag g.tgt.length cg, .int .u64 seed, .int .i64 N, .int .i64 D]
structure ShI (sh : Array Value) (B R : Nat) (w wr : World) : Prop where
  kB : Blk wr B sh 162
  kR : Blk wr R #[.int .i64 0, .int .i64 0] 49
  be : Below w.heap.size w wr
theorem ShI.below {sh : Array Value} {B R : Nat} {w wr w' : World} (h : ShI sh B R w wr) (hb : Below wr.heap.size wr w') : ShI sh B R w w' := ⟨h.kB.below hb, h.kR.below hb, h.be.trans (hb.mono h.be.size)⟩
def tellV (x : (Int × Int) × Int) : Value := .tuple #[.agg #[.int .i64 x.1.1, .int .i64 x.1.2], .int .i64 x.2]
def tellM (g : Grv) (col : Nat) : Option (List Int) → (Int × Int) × Int
  | none => ((0, 0), 7)
  | some p => ((IntKind.i64.wrap ((errO (turnG g col p)).1 - (errO g).1), (errO g).2), 0)
theorem tell_is (g : Grv) (seed : Int) (col : Nat) : tellO g seed col = tellM g col (shakeR g seed col) := by
  unfold tellO
  cases shakeR g seed col <;> rfl
set_option maxRecDepth 100000 in
set_option maxHeartbeats 8000000 in
theorem sone_any (g : Grv) (Ac At Aw Ag : Option Addr) (cc ct cw cg : Nat) (seed : Int) (col : Nat) (w : World) (hmay : mayG g = true) (hok : OkG g) (hrows : g.rows ≤ 1048576) (hcn : g.cells.length ≤ 1099511627776) (hsd : 0 ≤ seed ∧ seed ≤ 18446744073709551615) (hcol : (col : Int) < g.cols) (hr : RG w g Ac At Aw Ag) :
    Calls Try.prog 88 #[.agg (shA g Ac At Aw Ag cc ct cw cg seed (errO g).1 (errO g).2), .int .i64 col] w fun e w' => e = .returned (tellV (tellO g seed col)) ∧ Below w.heap.size w w' := by
  obtain ⟨_, hmat, _, hc2, _, _⟩ := head_is (may_is hmay).1
  have hm0 : matB g.rows g.cols g.cells.length = true := decide_eq_true hmat
  obtain ⟨n, hn⟩ := Int.eq_ofNat_of_zero_le hmat.1.1
  have hnt0 : g.rows.toNat = n := by omega
  have hnn : n ≤ 1048576 := by omega
  obtain ⟨RR, hRR⟩ : ∃ R, shakeR g seed col = R := ⟨_, rfl⟩
  have hwc : IntKind.u64.wrap (col : Int) = (col : Int) := by rw [IntKind.wrap_u64]; omega
  have KK := Lib.hid (fun w => key_any seed 3 col 0 hsd (by omega) (by omega) (by omega) w)
  have hkk : foldF [seed, 3, (col : Int), 0] = shakeKey seed col := by unfold shakeKey; rw [hwc]
  rw [hkk] at KK
  obtain ⟨key, hkey⟩ : ∃ x, shakeKey seed col = x := ⟨_, rfl⟩
  have hRk : (runO (numS key) (stepPerm n) (bndPerm n) 0 (rowI n) 0).1 = RR := by rw [← hRR, ← hkey]; unfold shakeR; rw [hnt0]
  have KP := Lib.hid (fun W => permS_any key n hnn W RR hRk)
  rw [hkey] at KK
  have KN := Lib.hid (fun w => newS_any key w)
  have HTELL : Hid (tellO g seed col = tellM g col RR) := Lib.hid (by rw [tell_is, hRR])
  have KT := Lib.hid (fun (p : List Int) (Ap : Option Addr) (cp : Nat) w hm hr hp hrp => turn_any n g.cols g.cells p Ac Ap cc cp col w hm hr hcol hp hrp hnn hcn)
  have HM0 : Hid (matB n g.cols g.cells.length = true) := Lib.hid (by rw [← hn]; exact hm0)
  have KE := Lib.hid (fun (p : List Int) (A' : Option Addr) (c' : Nat) w hr => error_any (turnG g col p) A' At Aw Ag c' ct cw cg w (turnG_ok hok col p) (fun _ => hrows) hr)
  have HTG : Hid (∀ p A' c', grvA (turnG g col p) A' At Aw Ag c' ct cw cg = #[.int .i64 g.k, .int .i64 g.cl, .int .i64 g.b, .int .i64 g.t, .int .i64 g.d, .int .i64 g.l, .int .i64 g.p, .int .i64 n, .int .i64 g.cols, .slice A' g.cells.length c', .slice At g.trees.length ct, .slice Aw g.weights.length cw, .slice Ag g.tgt.length cg]) := Lib.hid (fun p A' c' => by
    unfold grvA turnG
    simp only [turn_len]
    rw [hn])
  have HTU : Hid (∀ p, (turnG g col p).cells = turnO (col * n) p g.cells n) := Lib.hid (fun p => by unfold turnG; rw [hnt0])
  have HMT : Hid (∀ p, mayG (turnG g col p) = true) := Lib.hid (fun p => by rw [turnG_may, hmay])
  have HDT : Hid (∀ p, (errO (turnG g col p)).2 = (errO g).2) := Lib.hid (fun p => den_turn g col p)
  obtain ⟨⟨N, D⟩, hND⟩ : ∃ x, errO g = x := ⟨_, rfl⟩
  rw [hND] at HDT ⊢
  simp only at HDT ⊢
  have HND := Lib.hid hND
  have HRG := Lib.hid hr
  unfold shA
  rw [hn]
  obtain ⟨nc, hnc⟩ : ∃ n, g.cells.length = n := ⟨_, rfl⟩
  obtain ⟨nt, hnt⟩ : ∃ n, g.trees.length = n := ⟨_, rfl⟩
  obtain ⟨nw, hnw⟩ : ∃ n, g.weights.length = n := ⟨_, rfl⟩
  obtain ⟨ng, hng⟩ : ∃ n, g.tgt.length = n := ⟨_, rfl⟩
  obtain ⟨k, hk⟩ : ∃ x, g.k = x := ⟨_, rfl⟩
  obtain ⟨cl, hcl⟩ : ∃ x, g.cl = x := ⟨_, rfl⟩
  obtain ⟨b, hb⟩ : ∃ x, g.b = x := ⟨_, rfl⟩
  obtain ⟨t, ht⟩ : ∃ x, g.t = x := ⟨_, rfl⟩
  obtain ⟨d, hd⟩ : ∃ x, g.d = x := ⟨_, rfl⟩
  obtain ⟨l, hl⟩ : ∃ x, g.l = x := ⟨_, rfl⟩
  obtain ⟨pk, hp⟩ : ∃ x, g.p = x := ⟨_, rfl⟩
  obtain ⟨cols, hcols⟩ : ∃ x, g.cols = x := ⟨_, rfl⟩
  rw [hnc, hnt, hnw, hng, hk, hcl, hb, ht, hd, hl, hp, hcols] at HTG
  rw [hnc, hcols] at KT HM0
  rw [hnc, hnt, hnw, hng, hk, hcl, hb, ht, hd, hl, hp, hcols]
  have HNC := Lib.hid hnc
  have HIN : Hid (∀ x ∈ g.cells, 0 ≤ x ∧ x ≤ 65535) := Lib.hid hr.rc.1
  clear hmay hok hrows hr hnc hnt hnw hng hk hcl hb ht hd hl hp hcols hND hn hnt0 hmat hm0 hRR hRk hkk hkey hcol hc2 hcn
  go_enter Try.func88, Try.ntmps88
  go_upto_region 1 with (fail)
  have kB := (Blk.new w #[.int .i64 k, .int .i64 cl, .int .i64 b, .int .i64 t, .int .i64 d, .int .i64 l, .int .i64 pk, .int .i64 n, .int .i64 cols, .slice Ac nc cc, .slice At nt ct, .slice Aw nw cw, .slice Ag ng cg, .int .u64 seed, .int .i64 N, .int .i64 D] 162).below ((Below.refl _ _).alloc (Nat.le_refl _) (.cells #[.int .i64 0, .int .i64 0] 49))
  have kR := Blk.new (w.alloc (.cells #[.int .i64 k, .int .i64 cl, .int .i64 b, .int .i64 t, .int .i64 d, .int .i64 l, .int .i64 pk, .int .i64 n, .int .i64 cols, .slice Ac nc cc, .slice At nt ct, .slice Aw nw cw, .slice Ag ng cg, .int .u64 seed, .int .i64 N, .int .i64 D] 162)) #[.int .i64 0, .int .i64 0] 49
  rw [World.size_alloc] at kR
  have be := ((Below.refl w.heap.size w).alloc (Nat.le_refl _) (.cells #[.int .i64 k, .int .i64 cl, .int .i64 b, .int .i64 t, .int .i64 d, .int .i64 l, .int .i64 pk, .int .i64 n, .int .i64 cols, .slice Ac nc cc, .slice At nt ct, .slice Aw nw cw, .slice Ag ng cg, .int .u64 seed, .int .i64 N, .int .i64 D] 162)).alloc (by simp) (.cells #[.int .i64 0, .int .i64 0] 49)
  obtain ⟨W0, hW0⟩ : ∃ W, (w.alloc (.cells #[.int .i64 k, .int .i64 cl, .int .i64 b, .int .i64 t, .int .i64 d, .int .i64 l, .int .i64 pk, .int .i64 n, .int .i64 cols, .slice Ac nc cc, .slice At nt ct, .slice Aw nw cw, .slice Ag ng cg, .int .u64 seed, .int .i64 N, .int .i64 D] 162)).alloc (.cells #[.int .i64 0, .int .i64 0] 49) = W := ⟨_, rfl⟩
  rw [hW0] at kB kR be ⊢
  have HI0 : Hid (ShI #[.int .i64 k, .int .i64 cl, .int .i64 b, .int .i64 t, .int .i64 d, .int .i64 l, .int .i64 pk, .int .i64 n, .int .i64 cols, .slice Ac nc cc, .slice At nt ct, .slice Aw nw cw, .slice Ag ng cg, .int .u64 seed, .int .i64 N, .int .i64 D] w.heap.size (w.heap.size + 1) w W0) := Lib.hid ⟨kB, kR, be⟩
  clear hW0 kB kR be
  obtain ⟨q0, q1, q2, q3, q4, q5, q6, q7, q8, q9, q10, q11, q12, q13, q14, q15⟩ := HI0.out.kB.cells16
  have hlB := HI0.out.kB.lt
  have FS := Lib.hid (fun w' (hb : Below W0.heap.size W0 w') => And.intro ((hb.cell (p := ⟨w.heap.size, 13, none⟩) hlB).trans q13) ((hb.cell (p := ⟨w.heap.size, 7, none⟩) hlB).trans q7))
  clear q0 q1 q2 q3 q4 q5 q6 q8 q9 q10 q11 q12 q14 q15
  have HX0 := Lib.hid ((Below.refl W0.heap.size W0).drew)
  have hwc2 : IntKind.u64.wrap (col : Int) = (col : Int) := hwc
  cases RR with
  | none =>
    have KP2 := Lib.hid (fun W => KP.out W)
    simp only [PermE] at KP2
    go_region_held3 (fun W => W.cell? ⟨w.heap.size, 13, none⟩ = some (.int .u64 seed) ∧ W.cell? ⟨w.heap.size, 7, none⟩ = some (.int .i64 (n : Int))) (go_keep)
      (first | (go_at_call 147; refine (KK.out _).mono ?_; rintro e w8 ⟨rfl, hx8⟩; have HX1 := Lib.hid (HX0.out.trans (hx8.mono HX0.out.size)); clear hx8; obtain ⟨f1, f2⟩ := FS.out w8 HX1.out) | (go_at_call 146; refine (KN.out _).mono ?_; rintro e w9 ⟨rfl, rfl⟩) | (go_at_call 145; refine (KP2.out _).mono ?_; rintro e w9 ⟨hx9, rfl⟩; have HX2 := Lib.hid (HX1.out.trans (hx9.mono HX1.out.size)); clear hx9; obtain ⟨f1, f2⟩ := FS.out w9 HX2.out))
    all_goals
      have HI1 := Lib.hid (HI0.out.below HX2.out)
      obtain ⟨r0, r1⟩ : w9.cell? ⟨w.heap.size + 1, 0, none⟩ = some (.int .i64 0) ∧ w9.cell? ⟨w.heap.size + 1, 1, none⟩ = some (.int .i64 0) := ⟨HI1.out.kR.cell 0, HI1.out.kR.cell 1⟩
      have r2 := fun i => HI1.out.kR.frozen i
      have hlR := HI1.out.kR.lt
      go_wp2_with fail
      refine bodyPost_ret (results_ct rfl _ _ (w.heap.size + 1) 49 _ _ rfl ((HI1.out.kR.set 0 _).set 1 _) Try.underlying49 rfl signed_size) rfl ⟨?_, ?_⟩
      · rw [HTELL.out]; rfl
      · exact (HI1.out.be.setCell (p := ⟨w.heap.size + 1, 0, none⟩) (by show w.heap.size ≤ w.heap.size + 1; omega) _).setCell (p := ⟨w.heap.size + 1, 1, none⟩) (by show w.heap.size ≤ w.heap.size + 1; omega) _
  | some p =>
    go_cut [6, 7] (fun pv ev wc => ∃ gp cp, pv = .slice (some ⟨gp, 0, none⟩) n cp ∧ ev = .int .i64 0 ∧ Hid (Below W0.heap.size W0 wc) ∧ Hid (RdI wc (some ⟨gp, 0, none⟩) p ∧ p.Perm (rowI n)))
    case first =>
      have KP2 := Lib.hid (fun W => KP.out W)
      simp only [PermE] at KP2
      go_region_held3 (fun W => W.cell? ⟨w.heap.size, 13, none⟩ = some (.int .u64 seed) ∧ W.cell? ⟨w.heap.size, 7, none⟩ = some (.int .i64 (n : Int))) (go_keep)
        (first | (go_at_call 147; refine (KK.out _).mono ?_; rintro e w8 ⟨rfl, hx8⟩; have HX1 := Lib.hid (HX0.out.trans (hx8.mono HX0.out.size)); clear hx8; obtain ⟨f1, f2⟩ := FS.out w8 HX1.out) | (go_at_call 146; refine (KN.out _).mono ?_; rintro e w9 ⟨rfl, rfl⟩) | (go_at_call 145; refine (KP2.out _).mono ?_; rintro e w9 ⟨hx9, gp, cp, rfl, hrp, hpp⟩; have HX2 := Lib.hid (HX1.out.trans (hx9.mono HX1.out.size)); have HRP := Lib.hid (And.intro hrp hpp); clear hx9 hrp hpp; obtain ⟨f1, f2⟩ := FS.out w9 HX2.out))
      all_goals
        go_wp2
        go_meet
        case rel => exact ⟨gp, cp, rfl, rfl, HX2, HRP⟩
    case rest =>
    obtain ⟨gp, cp, rfl, rfl, HX2, HRP⟩ := hcut
    have HI1 := Lib.hid (HI0.out.below HX2.out)
    clear q7 q13 FS HX0 hlB
    obtain ⟨q0, q1, q2, q3, q4, q5, q6, q7, q8, q9, q10, q11, q12, q13, q14, q15⟩ := HI1.out.kB.cells16
    have hlB := HI1.out.kB.lt
    have hlR := HI1.out.kR.lt
    go_upto_region 5 with (fail)
    have bg : Below wc.heap.size wc (wc.alloc (.cells #[.int .i64 k, .int .i64 cl, .int .i64 b, .int .i64 t, .int .i64 d, .int .i64 l, .int .i64 pk, .int .i64 n, .int .i64 cols, .slice Ac nc cc, .slice At nt ct, .slice Aw nw cw, .slice Ag ng cg] 83)) := (Below.refl _ _).alloc (Nat.le_refl _) _
    have kG := Blk.new wc #[.int .i64 k, .int .i64 cl, .int .i64 b, .int .i64 t, .int .i64 d, .int .i64 l, .int .i64 pk, .int .i64 n, .int .i64 cols, .slice Ac nc cc, .slice At nt ct, .slice Aw nw cw, .slice Ag ng cg] 83
    obtain ⟨W3, hW3⟩ : ∃ W, wc.alloc (.cells #[.int .i64 k, .int .i64 cl, .int .i64 b, .int .i64 t, .int .i64 d, .int .i64 l, .int .i64 pk, .int .i64 n, .int .i64 cols, .slice Ac nc cc, .slice At nt ct, .slice Aw nw cw, .slice Ag ng cg] 83) = W := ⟨_, rfl⟩
    have hs3 : W3.heap.size = wc.heap.size + 1 := by rw [← hW3]; simp
    rw [hW3] at bg kG ⊢
    have HI3 := Lib.hid (HI1.out.below bg)
    have HKG := Lib.hid kG
    have HS3 := Lib.hid hs3
    have KT2 := Lib.hid (KT.out p (some ⟨gp, 0, none⟩) cp W3 HM0.out (HRG.out.rc.below HI3.out.be) HRP.out.2 (HRP.out.1.below bg))
    clear q0 q1 q2 q3 q4 q5 q6 q7 q8 q9 q10 q11 q12 q13 q14 q15 bg kG hW3 hs3
    obtain ⟨q0, q1, q2, q3, q4, q5, q6, q7, q8, q9, q10, q11, q12, q13, q14, q15⟩ := HI3.out.kB.cells16
    clear q0 q1 q2 q3 q4 q5 q6 q10 q11 q12 q13 q14 q15
    go_wp2_with fail
    refine KT2.out.mono ?_
    rintro e w4 ⟨v, rfl, ho, hb⟩
    obtain ⟨Ar, cr, rfl⟩ := own_slice ho
    have HI4 := Lib.hid (HI3.out.below hb)
    have HKG4 := Lib.hid (HKG.out.below hb)
    obtain ⟨g0, g1, g2, g3, g4, g5, g6, g7, g8, g9, g10, g11, g12⟩ := HKG4.out.cells13
    have gf := fun i => HKG4.out.frozen i
    have hlG := HKG4.out.lt
    have HO4 := Lib.hid ho
    clear hb ho q7 q8 q9 g0 g1 g2 g3 g4 g5 g6 g10 g11 g12
    have hgB : w.heap.size + 1 < wc.heap.size := hlR
    go_upto_region 8 with (fail)
    have kG7 : Blk (((w4.setCell ⟨wc.heap.size, 7, none⟩ (.int .i64 n)).setCell ⟨wc.heap.size, 8, none⟩ (.int .i64 cols)).setCell ⟨wc.heap.size, 9, none⟩ (.slice Ar nc cr)) wc.heap.size #[.int .i64 k, .int .i64 cl, .int .i64 b, .int .i64 t, .int .i64 d, .int .i64 l, .int .i64 pk, .int .i64 n, .int .i64 cols, .slice Ar nc cr, .slice At nt ct, .slice Aw nw cw, .slice Ag ng cg] 83 := ((HKG4.out.set 7 (.int .i64 n)).set 8 (.int .i64 cols)).set 9 (.slice Ar nc cr)
    have HO7 : Hid ((((w4.setCell ⟨wc.heap.size, 7, none⟩ (.int .i64 n)).setCell ⟨wc.heap.size, 8, none⟩ (.int .i64 cols)).setCell ⟨wc.heap.size, 9, none⟩ (.slice Ar nc cr)).ownsRow (wc.heap.size + 1) 71 1 (.slice Ar nc cr) nc (u16s (turnO (col * n) p g.cells n))) := Lib.hid (by
      have h := HO4.out
      rw [HS3.out] at h
      exact own_low (own_low (own_low h (p := ⟨wc.heap.size, 7, none⟩) _ (Nat.lt_succ_self _)) (p := ⟨wc.heap.size, 8, none⟩) _ (Nat.lt_succ_self _)) (p := ⟨wc.heap.size, 9, none⟩) _ (Nat.lt_succ_self _))
    have HI7 : Hid (ShI #[.int .i64 k, .int .i64 cl, .int .i64 b, .int .i64 t, .int .i64 d, .int .i64 l, .int .i64 pk, .int .i64 n, .int .i64 cols, .slice Ac nc cc, .slice At nt ct, .slice Aw nw cw, .slice Ag ng cg, .int .u64 seed, .int .i64 N, .int .i64 D] w.heap.size (w.heap.size + 1) w (((w4.setCell ⟨wc.heap.size, 7, none⟩ (.int .i64 n)).setCell ⟨wc.heap.size, 8, none⟩ (.int .i64 cols)).setCell ⟨wc.heap.size, 9, none⟩ (.slice Ar nc cr))) := Lib.hid
      ⟨((HI4.out.kB.other (p := ⟨wc.heap.size, 7, none⟩) (by show w.heap.size ≠ wc.heap.size; omega) _).other (p := ⟨wc.heap.size, 8, none⟩) (by show w.heap.size ≠ wc.heap.size; omega) _).other (p := ⟨wc.heap.size, 9, none⟩) (by show w.heap.size ≠ wc.heap.size; omega) _, ((HI4.out.kR.other (p := ⟨wc.heap.size, 7, none⟩) (by show w.heap.size + 1 ≠ wc.heap.size; omega) _).other (p := ⟨wc.heap.size, 8, none⟩) (by show w.heap.size + 1 ≠ wc.heap.size; omega) _).other (p := ⟨wc.heap.size, 9, none⟩) (by show w.heap.size + 1 ≠ wc.heap.size; omega) _, ((HI4.out.be.setCell (p := ⟨wc.heap.size, 7, none⟩) (by show w.heap.size ≤ wc.heap.size; omega) _).setCell (p := ⟨wc.heap.size, 8, none⟩) (by show w.heap.size ≤ wc.heap.size; omega) _).setCell (p := ⟨wc.heap.size, 9, none⟩) (by show w.heap.size ≤ wc.heap.size; omega) _⟩
    obtain ⟨W7, hW7⟩ : ∃ W, ((w4.setCell ⟨wc.heap.size, 7, none⟩ (.int .i64 n)).setCell ⟨wc.heap.size, 8, none⟩ (.int .i64 cols)).setCell ⟨wc.heap.size, 9, none⟩ (.slice Ar nc cr) = W := ⟨_, rfl⟩
    rw [hW7] at kG7 HO7 HI7 ⊢
    have HRG7 : Hid (RG W7 (turnG g col p) Ar At Aw Ag) := Lib.hid (by
      have h := HRG.out.below HI7.out.be
      refine ⟨?_, h.rt, h.rw, h.rg⟩
      rw [HTU.out]
      exact RC.own (by rw [turn_len, HNC.out]; exact HO7.out) (turn_in HIN.out))
    have KE2 := Lib.hid (KE.out p Ar cr W7 HRG7.out)
    rw [HTG.out, HMT.out] at KE2
    obtain ⟨⟨N2, D2⟩, hND2⟩ : ∃ x, errO (turnG g col p) = x := ⟨_, rfl⟩
    have hD2 := HDT.out p
    rw [hND2] at KE2 hD2
    simp only at hD2
    subst hD2
    simp only [if_true] at KE2
    have HND2 := Lib.hid hND2
    clear hW7 g7 g8 g9 gf hlG hND2
    obtain ⟨g0, g1, g2, g3, g4, g5, g6, g7, g8, g9, g10, g11, g12⟩ := kG7.cells13
    have hlG := kG7.lt
    clear kG7
    go_wp2_with fail
    refine KE2.out.mono ?_
    rintro e w8 ⟨rfl, hb⟩
    have HI8 := Lib.hid (HI7.out.below hb)
    clear hb g0 g1 g2 g3 g4 g5 g6 g7 g8 g9 g10 g11 g12 hlG
    go_upto_region 9 with (fail)
    have be9 : Below w8.heap.size w8 (w8.alloc (.cells #[.int .i64 N2, .int .i64 D2] 49)) := (Below.refl _ _).alloc (Nat.le_refl _) _
    have kE := Blk.new w8 #[.int .i64 N2, .int .i64 D2] 49
    obtain ⟨W9, hW9⟩ : ∃ W, w8.alloc (.cells #[.int .i64 N2, .int .i64 D2] 49) = W := ⟨_, rfl⟩
    rw [hW9] at be9 kE ⊢
    have HI9 := Lib.hid (HI8.out.below be9)
    obtain ⟨e0, e1⟩ : W9.cell? ⟨w8.heap.size, 0, none⟩ = some (.int .i64 N2) ∧ W9.cell? ⟨w8.heap.size, 1, none⟩ = some (.int .i64 D2) := ⟨kE.cell 0, kE.cell 1⟩
    have b14 : W9.cell? ⟨w.heap.size, 14, none⟩ = some (.int .i64 N) := HI9.out.kB.cell 14
    obtain ⟨r0, r1⟩ : W9.cell? ⟨w.heap.size + 1, 0, none⟩ = some (.int .i64 0) ∧ W9.cell? ⟨w.heap.size + 1, 1, none⟩ = some (.int .i64 0) := ⟨HI9.out.kR.cell 0, HI9.out.kR.cell 1⟩
    have r2 := fun i => HI9.out.kR.frozen i
    have hlR9 := HI9.out.kR.lt
    clear hW9 be9 kE
    go_wp2_with fail
    refine bodyPost_ret (results_ct rfl _ _ (w.heap.size + 1) 49 _ _ rfl ((HI9.out.kR.set 0 _).set 1 _) Try.underlying49 rfl signed_size) rfl ⟨?_, ?_⟩
    · have e : tellM g col (some p) = ((IntKind.i64.wrap (N2 - N), D2), 0) := by
        show ((IntKind.i64.wrap ((errO (turnG g col p)).1 - (errO g).1), (errO g).2), (0 : Int)) = _
        rw [HND2.out, HND.out]
      rw [HTELL.out, e, wrapI_64]
      rfl
    · exact (HI9.out.be.setCell (p := ⟨w.heap.size + 1, 0, none⟩) (by show w.heap.size ≤ w.heap.size + 1; omega) _).setCell (p := ⟨w.heap.size + 1, 1, none⟩) (by show w.heap.size ≤ w.heap.size + 1; omega) _
end Go.Proofs.Ytpekofpiodaadaa.Hb
end

section
/- How much a column tells: the walk of shake.begin. -/
namespace Go.Proofs.Ytpekofpiodaadaa.Hb
set_option linter.unusedVariables false
set_option linter.unusedSimpArgs false
open Go.RowKit

theorem grove_size2 : (Try.prog.info? 83).map (·.size) = some 13 := by kernel_rfl
theorem shaken_size : (Try.prog.info? 162).map (·.size) = some 16 := by kernel_rfl
set_option maxRecDepth 100000 in
set_option maxHeartbeats 8000000 in
theorem begin_any (g : Grv) (Ac At Aw Ag : Option Addr) (cc ct cw cg : Nat) (seed : Int) (w : World) (hok : OkG g) (hrows : mayG g = true → g.rows ≤ 1048576) (hr : RG w g Ac At Aw Ag) :
    Calls Try.prog 87 #[.agg (grvA g Ac At Aw Ag cc ct cw cg), .int .u64 seed] w fun e w' => e = .returned (.tuple #[.agg (shA g Ac At Aw Ag cc ct cw cg seed (errO g).1 (errO g).2), .int .i64 (if mayG g then 0 else 8)]) ∧ Below w.heap.size w w' := by
  have KE := Lib.hid (fun w hr => error_any g Ac At Aw Ag cc ct cw cg w hok hrows hr)
  have HRG := Lib.hid hr
  obtain ⟨⟨N, D⟩, hND⟩ : ∃ x, errO g = x := ⟨_, rfl⟩
  obtain ⟨EN, hEN⟩ : ∃ x, (if mayG g then (0 : Int) else 8) = x := ⟨_, rfl⟩
  rw [hND, hEN] at KE ⊢
  simp only at KE ⊢
  unfold grvA at KE ⊢
  unfold shA
  obtain ⟨nc, hnc⟩ : ∃ n, g.cells.length = n := ⟨_, rfl⟩
  obtain ⟨nt, hnt⟩ : ∃ n, g.trees.length = n := ⟨_, rfl⟩
  obtain ⟨nw, hnw⟩ : ∃ n, g.weights.length = n := ⟨_, rfl⟩
  obtain ⟨ng, hng⟩ : ∃ n, g.tgt.length = n := ⟨_, rfl⟩
  obtain ⟨k, hk⟩ : ∃ x, g.k = x := ⟨_, rfl⟩
  obtain ⟨cl, hcl⟩ : ∃ x, g.cl = x := ⟨_, rfl⟩
  obtain ⟨b, hb⟩ : ∃ x, g.b = x := ⟨_, rfl⟩
  obtain ⟨t, ht⟩ : ∃ x, g.t = x := ⟨_, rfl⟩
  obtain ⟨d, hd⟩ : ∃ x, g.d = x := ⟨_, rfl⟩
  obtain ⟨l, hl⟩ : ∃ x, g.l = x := ⟨_, rfl⟩
  obtain ⟨pk, hp⟩ : ∃ x, g.p = x := ⟨_, rfl⟩
  obtain ⟨rows, hro⟩ : ∃ x, g.rows = x := ⟨_, rfl⟩
  obtain ⟨cols, hcols⟩ : ∃ x, g.cols = x := ⟨_, rfl⟩
  rw [hnc, hnt, hnw, hng, hk, hcl, hb, ht, hd, hl, hp, hro, hcols] at KE ⊢
  clear hok hrows hr hnc hnt hnw hng hk hcl hb ht hd hl hp hro hcols hND hEN
  go_enter Try.func87, Try.ntmps87
  go_upto_region 1 with (fail)
  have kB := (Blk.new w #[.int .i64 k, .int .i64 cl, .int .i64 b, .int .i64 t, .int .i64 d, .int .i64 l, .int .i64 pk, .int .i64 rows, .int .i64 cols, .slice Ac nc cc, .slice At nt ct, .slice Aw nw cw, .slice Ag ng cg] 83).below ((Below.refl _ _).alloc (Nat.le_refl _) (.cells #[.int .i64 0, .int .i64 0, .int .i64 0, .int .i64 0, .int .i64 0, .int .i64 0, .int .i64 0, .int .i64 0, .int .i64 0, .slice none 0 0, .slice none 0 0, .slice none 0 0, .slice none 0 0, .int .u64 0, .int .i64 0, .int .i64 0] 162))
  have kR := Blk.new (w.alloc (.cells #[.int .i64 k, .int .i64 cl, .int .i64 b, .int .i64 t, .int .i64 d, .int .i64 l, .int .i64 pk, .int .i64 rows, .int .i64 cols, .slice Ac nc cc, .slice At nt ct, .slice Aw nw cw, .slice Ag ng cg] 83)) #[.int .i64 0, .int .i64 0, .int .i64 0, .int .i64 0, .int .i64 0, .int .i64 0, .int .i64 0, .int .i64 0, .int .i64 0, .slice none 0 0, .slice none 0 0, .slice none 0 0, .slice none 0 0, .int .u64 0, .int .i64 0, .int .i64 0] 162
  rw [World.size_alloc] at kR
  have be := ((Below.refl w.heap.size w).alloc (Nat.le_refl _) (.cells #[.int .i64 k, .int .i64 cl, .int .i64 b, .int .i64 t, .int .i64 d, .int .i64 l, .int .i64 pk, .int .i64 rows, .int .i64 cols, .slice Ac nc cc, .slice At nt ct, .slice Aw nw cw, .slice Ag ng cg] 83)).alloc (by simp) (.cells #[.int .i64 0, .int .i64 0, .int .i64 0, .int .i64 0, .int .i64 0, .int .i64 0, .int .i64 0, .int .i64 0, .int .i64 0, .slice none 0 0, .slice none 0 0, .slice none 0 0, .slice none 0 0, .int .u64 0, .int .i64 0, .int .i64 0] 162)
  obtain ⟨W0, hW0⟩ : ∃ W, (w.alloc (.cells #[.int .i64 k, .int .i64 cl, .int .i64 b, .int .i64 t, .int .i64 d, .int .i64 l, .int .i64 pk, .int .i64 rows, .int .i64 cols, .slice Ac nc cc, .slice At nt ct, .slice Aw nw cw, .slice Ag ng cg] 83)).alloc (.cells #[.int .i64 0, .int .i64 0, .int .i64 0, .int .i64 0, .int .i64 0, .int .i64 0, .int .i64 0, .int .i64 0, .int .i64 0, .slice none 0 0, .slice none 0 0, .slice none 0 0, .slice none 0 0, .int .u64 0, .int .i64 0, .int .i64 0] 162) = W := ⟨_, rfl⟩
  rw [hW0] at kB kR be ⊢
  have HKB := Lib.hid kB
  have HKR := Lib.hid kR
  have HBE := Lib.hid be
  clear hW0 kR be
  go_wp2_with (refine wpList_load_row rfl 83 (.tmp 2) rfl w.heap.size rfl 83 _ (0, 0) _ kB Try.underlying83 rfl grove_size2 ?_)
  refine (KE.out _ (HRG.out.below HBE.out)).mono ?_
  rintro e w1 ⟨rfl, hb⟩
  have bs : Below w1.heap.size w1 (w1.alloc (.cells #[.int .i64 N, .int .i64 D] 49)) := (Below.refl _ _).alloc (Nat.le_refl _) _
  have kS := Blk.new w1 #[.int .i64 N, .int .i64 D] 49
  have HB1 := Lib.hid (HBE.out.trans (hb.mono HBE.out.size))
  have kB1 := (HKB.out.below hb).below bs
  have HKR1 := Lib.hid ((HKR.out.below hb).below bs)
  have HB2 := Lib.hid (HB1.out.trans (bs.mono HB1.out.size))
  clear hb kB
  go_upto_region 2 with (fail)
  obtain ⟨W2, hW2⟩ : ∃ W, w1.alloc (.cells #[.int .i64 N, .int .i64 D] 49) = W := ⟨_, rfl⟩
  rw [hW2] at kS kB1 HKR1 HB2 ⊢
  have s0 : W2.cell? ⟨w1.heap.size, 0, none⟩ = some (.int .i64 N) := kS.cell 0
  have s1 : W2.cell? ⟨w1.heap.size, 1, none⟩ = some (.int .i64 D) := kS.cell 1
  have hone : ∀ v ∈ (#[.int .i64 k, .int .i64 cl, .int .i64 b, .int .i64 t, .int .i64 d, .int .i64 l, .int .i64 pk, .int .i64 rows, .int .i64 cols, .slice Ac nc cc, .slice At nt ct, .slice Aw nw cw, .slice Ag ng cg, .int .u64 seed, .int .i64 N, .int .i64 D] : Array Value).toList, v.oneCell' = true := by simp [Value.oneCell']
  have kR2 := HKR1.out
  clear hW2 kS bs
  go_wp2_with (first | (refine wpList_load_row rfl 83 (.tmp 2) rfl w.heap.size rfl 83 _ (0, 0) _ kB1 Try.underlying83 rfl grove_size2 ?_) | (refine wpList_store_row rfl 162 (.tmp 4) (.tmp 16) rfl (w.heap.size + 1) rfl 162 _ #[.int .i64 k, .int .i64 cl, .int .i64 b, .int .i64 t, .int .i64 d, .int .i64 l, .int .i64 pk, .int .i64 rows, .int .i64 cols, .slice Ac nc cc, .slice At nt ct, .slice Aw nw cw, .slice Ag ng cg, .int .u64 seed, .int .i64 N, .int .i64 D] rfl kR2 shaken_size rfl hone ?_))
  refine bodyPost_ret (results_ct rfl _ _ (w.heap.size + 1) 162 _ _ rfl HKR1.out.row Try.underlying162 rfl shaken_size) rfl ⟨rfl, below_row0 HB2.out (by omega)⟩
end Go.Proofs.Ytpekofpiodaadaa.Hb
end

section
/- How much a column tells: the walk of shake.One. -/
namespace Go.Proofs.Ytpekofpiodaadaa.Hb
set_option linter.unusedVariables false
set_option linter.unusedSimpArgs false
open Go.RowKit

set_option maxRecDepth 100000 in
set_option maxHeartbeats 8000000 in
theorem sOne_any (g : Grv) (Ac At Aw Ag : Option Addr) (cc ct cw cg : Nat) (seed col : Int) (w : World) (hok : OkG g) (hrows : mayG g = true → g.rows ≤ 1048576) (hcn : g.cells.length ≤ 1099511627776) (hsd : 0 ≤ seed ∧ seed ≤ 18446744073709551615) (hr : RG w g Ac At Aw Ag) :
    Calls Try.prog 40 #[.agg (grvA g Ac At Aw Ag cc ct cw cg), .int .u64 seed, .int .i64 col] w fun e w' => e = .returned (tellV (shakeO g seed col)) ∧ Below w.heap.size w w' := by
  have KB := Lib.hid (fun w hr => begin_any g Ac At Aw Ag cc ct cw cg seed w hok hrows hr)
  have KO := Lib.hid (fun (c : Nat) hm w (hc : (c : Int) < g.cols) hr => sone_any g Ac At Aw Ag cc ct cw cg seed c w hm hok (hrows hm) hcn hsd hc hr)
  have HS : Hid (∀ b : Bool, mayG g = b → shakeO g seed col = if b = true ∧ 0 ≤ col ∧ col < g.cols then tellO g seed col.toNat else ((0, 0), 8)) := Lib.hid (fun b h => by unfold shakeO; rw [h])
  have HRG := Lib.hid hr
  obtain ⟨V, hV⟩ : ∃ V, shakeO g seed col = V := ⟨_, rfl⟩
  rw [hV] at HS ⊢
  obtain ⟨⟨N, D⟩, hND⟩ : ∃ x, errO g = x := ⟨_, rfl⟩
  rw [hND] at KB KO
  simp only at KB KO
  unfold grvA at KB ⊢
  unfold shA at KB KO
  obtain ⟨nc, hnc⟩ : ∃ n, g.cells.length = n := ⟨_, rfl⟩
  obtain ⟨nt, hnt⟩ : ∃ n, g.trees.length = n := ⟨_, rfl⟩
  obtain ⟨nw, hnw⟩ : ∃ n, g.weights.length = n := ⟨_, rfl⟩
  obtain ⟨ng, hng⟩ : ∃ n, g.tgt.length = n := ⟨_, rfl⟩
  obtain ⟨k, hk⟩ : ∃ x, g.k = x := ⟨_, rfl⟩
  obtain ⟨cl, hcl⟩ : ∃ x, g.cl = x := ⟨_, rfl⟩
  obtain ⟨b, hb⟩ : ∃ x, g.b = x := ⟨_, rfl⟩
  obtain ⟨t, ht⟩ : ∃ x, g.t = x := ⟨_, rfl⟩
  obtain ⟨d, hd⟩ : ∃ x, g.d = x := ⟨_, rfl⟩
  obtain ⟨l, hl⟩ : ∃ x, g.l = x := ⟨_, rfl⟩
  obtain ⟨pk, hp⟩ : ∃ x, g.p = x := ⟨_, rfl⟩
  obtain ⟨rows, hro⟩ : ∃ x, g.rows = x := ⟨_, rfl⟩
  obtain ⟨cols, hcols⟩ : ∃ x, g.cols = x := ⟨_, rfl⟩
  rw [hnc, hnt, hnw, hng, hk, hcl, hb, ht, hd, hl, hp, hro, hcols] at KB KO ⊢
  rw [hcols] at HS
  obtain ⟨mb, hmb⟩ : ∃ x, mayG g = x := ⟨_, rfl⟩
  have HMB := Lib.hid hmb
  have hS := HS.out mb hmb
  rw [hmb] at KB KO
  have HSV := Lib.hid hS
  clear hok hrows hr hnc hnt hnw hng hk hcl hb ht hd hl hp hro hcols hND hV hmb hS HS hcn hsd
  go_enter Try.func40, Try.ntmps40
  go_upto_region 1 with (fail)
  have kB := (Blk.new w #[.int .i64 k, .int .i64 cl, .int .i64 b, .int .i64 t, .int .i64 d, .int .i64 l, .int .i64 pk, .int .i64 rows, .int .i64 cols, .slice Ac nc cc, .slice At nt ct, .slice Aw nw cw, .slice Ag ng cg] 83).below ((Below.refl _ _).alloc (Nat.le_refl _) (.cells #[.int .i64 0, .int .i64 0] 49))
  have kR := Blk.new (w.alloc (.cells #[.int .i64 k, .int .i64 cl, .int .i64 b, .int .i64 t, .int .i64 d, .int .i64 l, .int .i64 pk, .int .i64 rows, .int .i64 cols, .slice Ac nc cc, .slice At nt ct, .slice Aw nw cw, .slice Ag ng cg] 83)) #[.int .i64 0, .int .i64 0] 49
  rw [World.size_alloc] at kR
  have be := ((Below.refl w.heap.size w).alloc (Nat.le_refl _) (.cells #[.int .i64 k, .int .i64 cl, .int .i64 b, .int .i64 t, .int .i64 d, .int .i64 l, .int .i64 pk, .int .i64 rows, .int .i64 cols, .slice Ac nc cc, .slice At nt ct, .slice Aw nw cw, .slice Ag ng cg] 83)).alloc (by simp) (.cells #[.int .i64 0, .int .i64 0] 49)
  obtain ⟨W0, hW0⟩ : ∃ W, (w.alloc (.cells #[.int .i64 k, .int .i64 cl, .int .i64 b, .int .i64 t, .int .i64 d, .int .i64 l, .int .i64 pk, .int .i64 rows, .int .i64 cols, .slice Ac nc cc, .slice At nt ct, .slice Aw nw cw, .slice Ag ng cg] 83)).alloc (.cells #[.int .i64 0, .int .i64 0] 49) = W := ⟨_, rfl⟩
  rw [hW0] at kB kR be ⊢
  have HKB := Lib.hid kB
  have HKR := Lib.hid kR
  have HBE := Lib.hid be
  clear hW0 kR be
  go_wp2_with (refine wpList_load_row rfl 83 (.tmp 3) rfl w.heap.size rfl 83 _ (0, 0) _ kB Try.underlying83 rfl grove_size2 ?_)
  refine (KB.out _ (HRG.out.below HBE.out)).mono ?_
  rintro e w1 ⟨rfl, hb⟩
  have bs : Below w1.heap.size w1 (w1.alloc (.cells #[.int .i64 k, .int .i64 cl, .int .i64 b, .int .i64 t, .int .i64 d, .int .i64 l, .int .i64 pk, .int .i64 rows, .int .i64 cols, .slice Ac nc cc, .slice At nt ct, .slice Aw nw cw, .slice Ag ng cg, .int .u64 seed, .int .i64 N, .int .i64 D] 162)) := (Below.refl _ _).alloc (Nat.le_refl _) _
  have kS := Blk.new w1 #[.int .i64 k, .int .i64 cl, .int .i64 b, .int .i64 t, .int .i64 d, .int .i64 l, .int .i64 pk, .int .i64 rows, .int .i64 cols, .slice Ac nc cc, .slice At nt ct, .slice Aw nw cw, .slice Ag ng cg, .int .u64 seed, .int .i64 N, .int .i64 D] 162
  have HB1 := Lib.hid (HBE.out.trans (hb.mono HBE.out.size))
  have HKB1 := Lib.hid ((HKB.out.below hb).below bs)
  have HKR1 := Lib.hid ((HKR.out.below hb).below bs)
  have HB2 := Lib.hid (HB1.out.trans (bs.mono HB1.out.size))
  clear hb kB
  go_upto_region 2 with (fail)
  obtain ⟨W2, hW2⟩ : ∃ W, w1.alloc (.cells #[.int .i64 k, .int .i64 cl, .int .i64 b, .int .i64 t, .int .i64 d, .int .i64 l, .int .i64 pk, .int .i64 rows, .int .i64 cols, .slice Ac nc cc, .slice At nt ct, .slice Aw nw cw, .slice Ag ng cg, .int .u64 seed, .int .i64 N, .int .i64 D] 162) = W := ⟨_, rfl⟩
  rw [hW2] at kS HKB1 HKR1 HB2 ⊢
  have HKS := Lib.hid kS
  clear hW2 kS bs
  obtain ⟨r0, r1⟩ : W2.cell? ⟨w.heap.size + 1, 0, none⟩ = some (.int .i64 0) ∧ W2.cell? ⟨w.heap.size + 1, 1, none⟩ = some (.int .i64 0) := ⟨HKR1.out.cell 0, HKR1.out.cell 1⟩
  have r2 := fun i => HKR1.out.frozen i
  have hlR := HKR1.out.lt
  have b8 : W2.cell? ⟨w.heap.size, 8, none⟩ = some (.int .i64 cols) := HKB1.out.cell 8
  have hlB := HKB1.out.lt
  cases mb with
  | false =>
    have hv : V = ((0, 0), 8) := by rw [HSV.out, if_neg (by simp)]
    have HV := Lib.hid hv
    clear hv
    simp only [Bool.false_eq_true, if_false]
    go_wp2_with fail
    refine bodyPost_ret (results_ct rfl _ _ (w.heap.size + 1) 49 _ _ rfl ((HKR1.out.set 0 _).set 1 _) Try.underlying49 rfl signed_size) rfl ⟨?_, ?_⟩
    · rw [HV.out]; rfl
    · exact (HB2.out.setCell (p := ⟨w.heap.size + 1, 0, none⟩) (by show w.heap.size ≤ w.heap.size + 1; omega) _).setCell (p := ⟨w.heap.size + 1, 1, none⟩) (by show w.heap.size ≤ w.heap.size + 1; omega) _
  | true =>
    simp only [if_true]
    by_cases hc : 0 ≤ col ∧ col < cols
    · have hv : V = tellO g seed col.toNat := by rw [HSV.out, if_pos ⟨rfl, hc⟩]
      obtain ⟨c, hcc⟩ := Int.eq_ofNat_of_zero_le hc.1
      subst hcc
      rw [Int.toNat_natCast] at hv
      have HV := Lib.hid hv
      have d1 : decide ((c : Int) < 0) = false := decide_eq_false (by omega)
      have d2 : decide (cols ≤ (c : Int)) = false := decide_eq_false (by omega)
      have KO2 := Lib.hid (KO.out c rfl W2 hc.2 (HRG.out.below HB2.out))
      have kS := HKS.out
      clear hc hv
      go_wp2_with (refine wpList_load_row rfl 162 (.tmp 8) rfl w1.heap.size rfl 162 _ (0, 0) _ kS Try.underlying162 rfl shaken_size ?_)
      refine KO2.out.mono ?_
      rintro e w3 ⟨rfl, hb⟩
      have HKR3 := Lib.hid (HKR1.out.below hb)
      have HB3 := Lib.hid (HB2.out.trans (hb.mono HB2.out.size))
      obtain ⟨⟨⟨x1, x2⟩, x3⟩, hx⟩ : ∃ x, tellO g seed c = x := ⟨_, rfl⟩
      have hv := HV.out
      rw [hx] at hv ⊢
      subst hv
      unfold tellV
      simp only
      clear r0 r1 r2 hlR b8 hlB kS hb hx HV
      obtain ⟨r0, r1⟩ : w3.cell? ⟨w.heap.size + 1, 0, none⟩ = some (.int .i64 0) ∧ w3.cell? ⟨w.heap.size + 1, 1, none⟩ = some (.int .i64 0) := ⟨HKR3.out.cell 0, HKR3.out.cell 1⟩
      have r2 := fun i => HKR3.out.frozen i
      have hlR := HKR3.out.lt
      go_wp2_with fail
      refine bodyPost_ret (results_ct rfl _ _ (w.heap.size + 1) 49 _ _ rfl ((HKR3.out.set 0 _).set 1 _) Try.underlying49 rfl signed_size) rfl ⟨rfl, ?_⟩
      exact (HB3.out.setCell (p := ⟨w.heap.size + 1, 0, none⟩) (by show w.heap.size ≤ w.heap.size + 1; omega) _).setCell (p := ⟨w.heap.size + 1, 1, none⟩) (by show w.heap.size ≤ w.heap.size + 1; omega) _
    · have hv : V = ((0, 0), 8) := by rw [HSV.out, if_neg (fun h => hc h.2)]
      have HV := Lib.hid hv
      clear hv
      by_cases hc0 : col < 0
      · have d1 : decide (col < 0) = true := decide_eq_true hc0
        go_wp2_with fail
        refine bodyPost_ret (results_ct rfl _ _ (w.heap.size + 1) 49 _ _ rfl ((HKR1.out.set 0 _).set 1 _) Try.underlying49 rfl signed_size) rfl ⟨?_, ?_⟩
        · rw [HV.out]; rfl
        · exact (HB2.out.setCell (p := ⟨w.heap.size + 1, 0, none⟩) (by show w.heap.size ≤ w.heap.size + 1; omega) _).setCell (p := ⟨w.heap.size + 1, 1, none⟩) (by show w.heap.size ≤ w.heap.size + 1; omega) _
      · have d1 : decide (col < 0) = false := decide_eq_false hc0
        have d2 : decide (cols ≤ col) = true := decide_eq_true (by omega)
        go_wp2_with fail
        refine bodyPost_ret (results_ct rfl _ _ (w.heap.size + 1) 49 _ _ rfl ((HKR1.out.set 0 _).set 1 _) Try.underlying49 rfl signed_size) rfl ⟨?_, ?_⟩
        · rw [HV.out]; rfl
        · exact (HB2.out.setCell (p := ⟨w.heap.size + 1, 0, none⟩) (by show w.heap.size ≤ w.heap.size + 1; omega) _).setCell (p := ⟨w.heap.size + 1, 1, none⟩) (by show w.heap.size ≤ w.heap.size + 1; omega) _
end Go.Proofs.Ytpekofpiodaadaa.Hb
end

section
/- What the laws of layer 26 share: the grove as the program has it, the chapter's example. -/
namespace Go.Proofs.Ytpekofpiodaadaa.Hb
set_option linter.unusedVariables false
set_option linter.unusedSimpArgs false
open Go.RowKit

def True0 (w : World) (e : Ending) (w' : World) : Prop := e = .returned (.bool true) ∧ Below w.heap.size w w'
theorem ogrove_size : (Try.prog.info? 83).map (·.size) = some 13 := by kernel_rfl
theorem grove26_any (g : Grv) (Ac At Aw Ag : Option Addr) (cc ct cw cg : Nat) (w : World) : Calls Try.prog 41 #[.agg (grvA g Ac At Aw Ag cc ct cw cg)] w fun e w' =>
    e = .returned (.agg (grvA g Ac At Aw Ag cc ct cw cg)) ∧ Below w.heap.size w w' := by
  unfold grvA
  go_enter Try.func41, Try.ntmps41
  go_wp2_with fail
  refine bodyPost_ret (results_cell rfl _ _ (w.heap.size + 1) 83 (grvA g Ac At Aw Ag cc ct cw cg) _ rfl ?_ Try.underlying83 rfl ogrove_size) rfl ⟨rfl, ?_⟩
  · have := Blk.new (w.alloc (.cells (grvA g Ac At Aw Ag cc ct cw cg) 79)) (grvA g Ac At Aw Ag cc ct cw cg) 83
    rw [World.size_alloc] at this
    exact this
  · exact ((Below.refl _ _).alloc (Nat.le_refl _) _).alloc (by simp) _
theorem rowAt_one {w : World} {sz : Nat} {α : Type} {R : α → List Value → Prop} {g : Nat} {x : α} {c : List Value} (hl : c.length = sz) (hR : R x c) (hc : ∀ j u, c[j]? = some u → w.cell? ⟨g, j, none⟩ = some u) : RowAt w sz R (some ⟨g, 0, none⟩) [x] := by
  intro _
  refine ⟨_, rfl, fun i y hy => ?_⟩
  rcases i with _ | i
  · simp at hy; subst hy
    refine ⟨c, hl, hR, fun j u hj => ?_⟩
    rw [Nat.zero_mul, Nat.zero_add, show (⟨g, 0, none⟩ : Addr).add j = ⟨g, j, none⟩ from by unfold Addr.add; split <;> simp_all]
    exact hc j u hj
  · simp at hy
theorem blk_list {w : World} {g : Nat} {cs : Array Value} {t : TypeId} (h : Blk w g cs t) : ∀ j u, cs.toList[j]? = some u → w.cell? ⟨g, j, none⟩ = some u := fun j u hj => by rw [h.cell j]; simpa using hj
theorem boxes7 (w : World) (X0 X1 X2 X3 X4 X5 X6 : Array Value) (t0 t1 t2 t3 t4 t5 t6 : TypeId) (W : World) (h : W = ((((((w.alloc (.cells X0 t0)).alloc (.cells X1 t1)).alloc (.cells X2 t2)).alloc (.cells X3 t3)).alloc (.cells X4 t4)).alloc (.cells X5 t5)).alloc (.cells X6 t6)) :
    Blk W w.heap.size X0 t0 ∧ Blk W (w.heap.size + 1) X1 t1 ∧ Blk W (w.heap.size + 1 + 1) X2 t2 ∧ Blk W (w.heap.size + 1 + 1 + 1) X3 t3 ∧ Blk W (w.heap.size + 1 + 1 + 1 + 1) X4 t4 ∧ Blk W (w.heap.size + 1 + 1 + 1 + 1 + 1) X5 t5 ∧ Blk W (w.heap.size + 1 + 1 + 1 + 1 + 1 + 1) X6 t6 ∧ Below w.heap.size w W := by
  subst h
  refine ⟨?_, ?_, ?_, ?_, ?_, ?_, ?_, ?_⟩
  case refine_8 => exact (((((((Below.refl _ w).alloc (Nat.le_refl _) _).alloc (by simp) _).alloc (by simp; omega) _).alloc (by simp; omega) _).alloc (by simp; omega) _).alloc (by simp; omega) _).alloc (by simp; omega) _
  all_goals
    unfold Blk World.alloc
    rw [Array.getElem?_eq_getElem (by simp <;> omega)]
    simp only [Array.getElem_push, Array.size_push]
    congr 1
    simp (disch := omega) only [dif_pos, dif_neg]
def leaf1 : Nd := ⟨-1, 0, 0, 1, 0, 0⟩
theorem eq_signed (d : Nat) (w : World) (x0 x1 y0 y1 : Int) :
    (Op.equalIn (d + 2) 49 (.agg #[.int .i64 x0, .int .i64 x1]) (.agg #[.int .i64 y0, .int .i64 y1])).run Try.prog w = .ok (x0 == y0 && (x1 == y1 && true)) w := by
  refine eqs_of Try.underlying49 (by kernel_rfl) ?_
  refine eqf_cons (by rfl) (by go_simp; rfl) (by go_simp; rfl) (by go_simp) ?_
  exact eqf_cons (by rfl) (by go_simp; rfl) (by go_simp; rfl) (by go_simp) eqf_nil
theorem rowAt_ints {w : World} {g : Nat} {t : TypeId} {l : List Int} {cs : Array Value} (hcs : cs.toList = l.map fun x => Value.int .i64 x) (hk : Blk w g cs t) (h : ∀ x ∈ l, in64 x) : RowAt w 1 intR1 (some ⟨g, 0, none⟩) l := by
  intro _
  refine ⟨_, rfl, fun i y hy => ⟨[.int .i64 y], rfl, ⟨rfl, h y (List.mem_of_getElem? hy)⟩, fun j u hj => ?_⟩⟩
  obtain rfl : j = 0 := by have := (List.getElem?_eq_some_iff.1 hj).1; simp at this; omega
  simp only [List.getElem?_cons_zero, Option.some.injEq] at hj
  subst hj
  rw [Nat.mul_one, Nat.add_zero, show (⟨g, 0, none⟩ : Addr).add i = ⟨g, i, none⟩ from by unfold Addr.add; split <;> simp_all]
  refine blk_list hk i _ ?_
  rw [hcs, List.getElem?_map, hy]
  rfl
def twoG : Grv := ⟨0, 2, 2, 1, 0, 1, 1, 2, 1, [1, 2], [[leaf1]], [[0, 0]], [0, 1]⟩
theorem two_ok : OkG twoG := ⟨by simp [twoG], by simp [twoG], by simp [twoG], by simp [twoG], by simp [twoG], by simp [twoG]⟩
set_option maxRecDepth 100000 in
theorem two_tells : shakeO twoG 5 0 = ((0, 2), 0) := by decide +kernel
set_option maxRecDepth 100000 in
set_option maxHeartbeats 2000000 in
theorem fixed26_any (w : World) : Calls Try.prog 39 #[] w (True0 w) := by
  have KO := Lib.hid (fun Ac At Aw Ag w hr => sOne_any twoG Ac At Aw Ag 2 1 1 2 5 0 w two_ok (fun _ => by simp [twoG]) (by simp [twoG]) (by omega) hr)
  rw [two_tells] at KO
  go_enter Try.func39, Try.ntmps39
  go_upto_region 2 with (fail)
  obtain ⟨W, hW⟩ : ∃ W, W = ((((((w.alloc (.cells #[.int .u16 1, .int .u16 2] 71)).alloc (.cells #[.int .i64 (-1), .int .i64 0, .int .i64 0, .int .i64 1, .int .i64 0, .int .i64 0] 90)).alloc (.cells #[.slice (some ⟨w.heap.size + 1, 0, none⟩) 1 1] 88)).alloc (.cells #[.int .i64 0, .int .i64 0] 3)).alloc (.cells #[.slice (some ⟨w.heap.size + 1 + 1 + 1, 0, none⟩) 2 2] 24)).alloc (.cells #[.int .i64 0, .int .i64 1] 2)).alloc (.cells #[.int .i64 0, .int .i64 2, .int .i64 2, .int .i64 1, .int .i64 0, .int .i64 1, .int .i64 1, .int .i64 2, .int .i64 1, .slice (some ⟨w.heap.size, 0, none⟩) 2 2, .slice (some ⟨w.heap.size + 1 + 1, 0, none⟩) 1 1, .slice (some ⟨w.heap.size + 1 + 1 + 1 + 1, 0, none⟩) 1 1, .slice (some ⟨w.heap.size + 1 + 1 + 1 + 1 + 1, 0, none⟩) 2 2] 83) := ⟨_, rfl⟩
  rw [← hW]
  obtain ⟨k0, k1, k2, k3, k4, k5, k6, be⟩ := boxes7 w _ _ _ _ _ _ _ _ _ _ _ _ _ _ _ hW
  clear hW
  have HR : Hid (RG W twoG (some ⟨w.heap.size, 0, none⟩) (some ⟨w.heap.size + 1 + 1, 0, none⟩) (some ⟨w.heap.size + 1 + 1 + 1 + 1, 0, none⟩) (some ⟨w.heap.size + 1 + 1 + 1 + 1 + 1, 0, none⟩)) := Lib.hid (by
    refine ⟨⟨?_, .inr ⟨_, rfl, fun i hi => ?_⟩⟩, ?_, ?_, ?_⟩
    · simp [twoG]
    · obtain rfl | rfl : i = 0 ∨ i = 1 := by simp [twoG] at hi; omega
      · exact k0.cell 0
      · exact k0.cell 1
    · refine rowAt_one (c := [.slice (some ⟨w.heap.size + 1, 0, none⟩) 1 1]) rfl ⟨_, _, rfl, Nat.le_refl _, by simp, ?_⟩ (blk_list k2)
      exact rowAt_one (c := ndC leaf1) rfl ⟨rfl, by simp [Nd.ok, leaf1, in64]⟩ (blk_list k1)
    · refine rowAt_one (c := [.slice (some ⟨w.heap.size + 1 + 1 + 1, 0, none⟩) 2 2]) rfl ⟨_, _, rfl, Nat.le_refl _, by simp, ?_⟩ (blk_list k4)
      exact rowAt_ints rfl k3 (by simp [in64])
    · exact rowAt_ints rfl k5 (by simp [twoG, in64]))
  have HBE := Lib.hid be
  have KO2 := Lib.hid (KO.out _ _ _ _ W HR.out)
  clear k0 k1 k2 k3 k4 k5 be HR KO
  go_wp2_with (refine wpList_load_row rfl 83 (.tmp 1) rfl (w.heap.size + 1 + 1 + 1 + 1 + 1 + 1) rfl 83 _ (0, 0) _ k6 Try.underlying83 rfl ogrove_size ?_)
  refine KO2.out.mono ?_
  rintro e w1 ⟨rfl, hb⟩
  have HB1 := Lib.hid (HBE.out.trans (hb.mono HBE.out.size))
  clear hb k6
  unfold tellV
  go_upto_region 3 with (fail)
  have kA := Blk.new w1 #[.int .i64 0, .int .i64 2] 49
  obtain ⟨a0, a1⟩ : (w1.alloc (.cells #[.int .i64 0, .int .i64 2] 49)).cell? ⟨w1.heap.size, 0, none⟩ = some (.int .i64 0) ∧ (w1.alloc (.cells #[.int .i64 0, .int .i64 2] 49)).cell? ⟨w1.heap.size, 1, none⟩ = some (.int .i64 2) := ⟨kA.cell 0, kA.cell 1⟩
  have hlA := kA.lt
  have HB2 := Lib.hid (HB1.out.alloc HB1.out.size (.cells #[.int .i64 0, .int .i64 2] 49))
  obtain ⟨W2, hW2⟩ : ∃ W, w1.alloc (.cells #[.int .i64 0, .int .i64 2] 49) = W := ⟨_, rfl⟩
  rw [hW2] at a0 a1 hlA HB2 ⊢
  clear hW2 kA
  have hq := fun (w : World) x0 x1 y0 y1 => eq_signed 9998 w x0 x1 y0 y1
  go_wp2_with fail
  go_ret
  exact ⟨rfl, HB2.out⟩
end Go.Proofs.Ytpekofpiodaadaa.Hb
end

section
/- How much a column tells: the document's permutation. -/
namespace Go.Proofs.Ytpekofpiodaadaa.Hb
set_option linter.unusedVariables false
set_option linter.unusedSimpArgs false
open Go.RowKit

/-- The document's permutation of a key's first numbers. -/
def RPermE (n : Nat) (e : Ending) (w' : World) (kt : Nat) : Option (List Int) → Prop
  | none => e = .returned (.tuple #[.slice none 0 0, .int .i64 kt, .int .i64 7])
  | some q => ∃ g c, e = .returned (.tuple #[.slice (some ⟨g, 0, none⟩) n c, .int .i64 kt, .int .i64 0]) ∧ RdI w' (some ⟨g, 0, none⟩) q ∧ q.Perm (rowI n)
theorem rpermS_any (key : Int) (hkey : 0 ≤ key ∧ key ≤ 18446744073709551615) (n : Nat) (hn : n ≤ 1048576) (A : Option Addr) (cap : Nat) (W : World) (hr : RdU W A (rowS key (3 * n + 64))) (R : Option (List Int)) (hR : (runO (numS key) (stepPerm n) (bndPerm n) 0 (rowI n) 0).1 = R) :
    Calls Try.prog 90 #[.slice A (3 * n + 64) cap, .int .i64 n] W fun e w' => Below W.heap.size W w' ∧ ∃ kt, RPermE n e w' kt R := by
  have h := rperm_any A cap (rowS key (3 * n + 64)) n hn W (by rw [rowS_len]; omega) hr
  rw [rowS_len] at h
  refine h.mono ?_
  intro e w' hm
  rw [← perm_list hkey hn] at hm
  unfold RetRun at hm
  rw [hR] at hm
  cases R with
  | none => exact ⟨hm.2, _, hm.1⟩
  | some q =>
    obtain ⟨g, c, rfl, ho, hb⟩ := hm
    have hp := permR_perm (k := 0) (Rk := (runO (numS key) (stepPerm n) (bndPerm n) 0 (rowI n) 0).2) (q := q) hn (by rw [← hR])
    rw [perm_len hp] at ho ⊢
    refine ⟨hb, _, g, c, rfl, RdI.own (by rw [perm_len hp]; exact ho) (fun x hx => ?_), hp⟩
    have := perm_in hp x hx
    unfold inR
    omega
end Go.Proofs.Ytpekofpiodaadaa.Hb
end

section
/- How much a column tells: the walk of ref26.One. -/
namespace Go.Proofs.Ytpekofpiodaadaa.Hb
set_option linter.unusedVariables false
set_option linter.unusedSimpArgs false
open Go.RowKit

theorem rgrove_size : (Try.prog.info? 79).map (·.size) = some 13 := by kernel_rfl
structure RSI (gv : Array Value) (B R S : Nat) (N D : Int) (w wr : World) : Prop where
  kB : Blk wr B gv 79
  kR : Blk wr R #[.int .i64 0, .int .i64 0] 49
  kS : Blk wr S #[.int .i64 N, .int .i64 D] 49
  be : Below w.heap.size w wr
theorem RSI.below {gv : Array Value} {B R S : Nat} {N D : Int} {w wr w' : World} (h : RSI gv B R S N D w wr) (hb : Below wr.heap.size wr w') : RSI gv B R S N D w w' := ⟨h.kB.below hb, h.kR.below hb, h.kS.below hb, h.be.trans (hb.mono h.be.size)⟩
set_option maxRecDepth 100000 in
set_option maxHeartbeats 8000000 in
theorem rone26_any (g : Grv) (Ac At Aw Ag : Option Addr) (cc ct cw cg : Nat) (seed col : Int) (w : World) (hok : OkG g) (hrows : mayG g = true → g.rows ≤ 1048576) (hcn : g.cells.length ≤ 1099511627776) (hsd : 0 ≤ seed ∧ seed ≤ 18446744073709551615) (hr : RG w g Ac At Aw Ag) :
    Calls Try.prog 42 #[.agg (grvA g Ac At Aw Ag cc ct cw cg), .int .u64 seed, .int .i64 col] w fun e w' => e = .returned (tellV (shakeO g seed col)) ∧ Below w.heap.size w w' := by
  have KE := Lib.hid (fun w hr => rerror_any g Ac At Aw Ag cc ct cw cg w hok hrows hr)
  have HS : Hid (∀ b : Bool, mayG g = b → shakeO g seed col = if b = true ∧ 0 ≤ col ∧ col < g.cols then tellO g seed col.toNat else ((0, 0), 8)) := Lib.hid (fun b h => by unfold shakeO; rw [h])
  have HRG := Lib.hid hr
  have HOK := Lib.hid hok
  have HROWS := Lib.hid hrows
  have HCN := Lib.hid hcn
  have HSD := Lib.hid hsd
  obtain ⟨V, hV⟩ : ∃ V, shakeO g seed col = V := ⟨_, rfl⟩
  rw [hV] at HS ⊢
  obtain ⟨⟨N, D⟩, hND⟩ : ∃ x, errO g = x := ⟨_, rfl⟩
  have HND := Lib.hid hND
  rw [hND] at KE
  simp only at KE
  unfold grvA at KE ⊢
  obtain ⟨nc, hnc⟩ : ∃ n, g.cells.length = n := ⟨_, rfl⟩
  obtain ⟨nt, hnt⟩ : ∃ n, g.trees.length = n := ⟨_, rfl⟩
  obtain ⟨nw, hnw⟩ : ∃ n, g.weights.length = n := ⟨_, rfl⟩
  obtain ⟨ng, hng⟩ : ∃ n, g.tgt.length = n := ⟨_, rfl⟩
  obtain ⟨k, hk⟩ : ∃ x, g.k = x := ⟨_, rfl⟩
  obtain ⟨cl, hcl⟩ : ∃ x, g.cl = x := ⟨_, rfl⟩
  obtain ⟨b, hb⟩ : ∃ x, g.b = x := ⟨_, rfl⟩
  obtain ⟨t, ht⟩ : ∃ x, g.t = x := ⟨_, rfl⟩
  obtain ⟨d, hd⟩ : ∃ x, g.d = x := ⟨_, rfl⟩
  obtain ⟨l, hl⟩ : ∃ x, g.l = x := ⟨_, rfl⟩
  obtain ⟨pk, hp⟩ : ∃ x, g.p = x := ⟨_, rfl⟩
  obtain ⟨rows, hro⟩ : ∃ x, g.rows = x := ⟨_, rfl⟩
  obtain ⟨cols, hcols⟩ : ∃ x, g.cols = x := ⟨_, rfl⟩
  have HEQ := Lib.hid (show g.cells.length = nc ∧ g.trees.length = nt ∧ g.weights.length = nw ∧ g.tgt.length = ng ∧ g.k = k ∧ g.cl = cl ∧ g.b = b ∧ g.t = t ∧ g.d = d ∧ g.l = l ∧ g.p = pk ∧ g.rows = rows ∧ g.cols = cols from ⟨hnc, hnt, hnw, hng, hk, hcl, hb, ht, hd, hl, hp, hro, hcols⟩)
  rw [hnc, hnt, hnw, hng, hk, hcl, hb, ht, hd, hl, hp, hro, hcols] at KE ⊢
  rw [hcols] at HS
  obtain ⟨mb, hmb⟩ : ∃ x, mayG g = x := ⟨_, rfl⟩
  have HMB := Lib.hid hmb
  have hS := HS.out mb hmb
  rw [hmb] at KE
  have HSV := Lib.hid hS
  clear hok hrows hr hnc hnt hnw hng hk hcl hb ht hd hl hp hro hcols hND hV hmb hS HS hcn hsd
  go_enter Try.func42, Try.ntmps42
  go_upto_region 1 with (fail)
  have kB := (Blk.new w #[.int .i64 k, .int .i64 cl, .int .i64 b, .int .i64 t, .int .i64 d, .int .i64 l, .int .i64 pk, .int .i64 rows, .int .i64 cols, .slice Ac nc cc, .slice At nt ct, .slice Aw nw cw, .slice Ag ng cg] 79).below ((Below.refl _ _).alloc (Nat.le_refl _) (.cells #[.int .i64 0, .int .i64 0] 49))
  have kR := Blk.new (w.alloc (.cells #[.int .i64 k, .int .i64 cl, .int .i64 b, .int .i64 t, .int .i64 d, .int .i64 l, .int .i64 pk, .int .i64 rows, .int .i64 cols, .slice Ac nc cc, .slice At nt ct, .slice Aw nw cw, .slice Ag ng cg] 79)) #[.int .i64 0, .int .i64 0] 49
  rw [World.size_alloc] at kR
  have be := ((Below.refl w.heap.size w).alloc (Nat.le_refl _) (.cells #[.int .i64 k, .int .i64 cl, .int .i64 b, .int .i64 t, .int .i64 d, .int .i64 l, .int .i64 pk, .int .i64 rows, .int .i64 cols, .slice Ac nc cc, .slice At nt ct, .slice Aw nw cw, .slice Ag ng cg] 79)).alloc (by simp) (.cells #[.int .i64 0, .int .i64 0] 49)
  obtain ⟨W0, hW0⟩ : ∃ W, (w.alloc (.cells #[.int .i64 k, .int .i64 cl, .int .i64 b, .int .i64 t, .int .i64 d, .int .i64 l, .int .i64 pk, .int .i64 rows, .int .i64 cols, .slice Ac nc cc, .slice At nt ct, .slice Aw nw cw, .slice Ag ng cg] 79)).alloc (.cells #[.int .i64 0, .int .i64 0] 49) = W := ⟨_, rfl⟩
  rw [hW0] at kB kR be ⊢
  have HKB := Lib.hid kB
  have HKR := Lib.hid kR
  have HBE := Lib.hid be
  clear hW0 kR be
  go_wp2_with (refine wpList_load_row rfl 79 (.tmp 3) rfl w.heap.size rfl 79 _ (0, 0) _ kB Try.underlying79 rfl rgrove_size ?_)
  refine (KE.out _ (HRG.out.below HBE.out)).mono ?_
  rintro e w1 ⟨rfl, hb⟩
  have bs : Below w1.heap.size w1 (w1.alloc (.cells #[.int .i64 N, .int .i64 D] 49)) := (Below.refl _ _).alloc (Nat.le_refl _) _
  have kS := Blk.new w1 #[.int .i64 N, .int .i64 D] 49
  have HB1 := Lib.hid (HBE.out.trans (hb.mono HBE.out.size))
  have hl1 : w.heap.size + 1 < w1.heap.size := (HKR.out.below hb).lt
  go_upto_region 2 with (fail)
  obtain ⟨W2, hW2⟩ : ∃ W, w1.alloc (.cells #[.int .i64 N, .int .i64 D] 49) = W := ⟨_, rfl⟩
  rw [hW2] at kS bs ⊢
  have HI2 : Hid (RSI #[.int .i64 k, .int .i64 cl, .int .i64 b, .int .i64 t, .int .i64 d, .int .i64 l, .int .i64 pk, .int .i64 rows, .int .i64 cols, .slice Ac nc cc, .slice At nt ct, .slice Aw nw cw, .slice Ag ng cg] w.heap.size (w.heap.size + 1) w1.heap.size N D w W2) := Lib.hid ⟨(HKB.out.below hb).below bs, (HKR.out.below hb).below bs, kS, HB1.out.trans (bs.mono HB1.out.size)⟩
  clear hW2 kS bs hb kB
  obtain ⟨r0, r1⟩ : W2.cell? ⟨w.heap.size + 1, 0, none⟩ = some (.int .i64 0) ∧ W2.cell? ⟨w.heap.size + 1, 1, none⟩ = some (.int .i64 0) := ⟨HI2.out.kR.cell 0, HI2.out.kR.cell 1⟩
  have r2 := fun i => HI2.out.kR.frozen i
  have hlR := HI2.out.kR.lt
  have b7 : W2.cell? ⟨w.heap.size, 7, none⟩ = some (.int .i64 rows) := HI2.out.kB.cell 7
  have b8 : W2.cell? ⟨w.heap.size, 8, none⟩ = some (.int .i64 cols) := HI2.out.kB.cell 8
  have hlB := HI2.out.kB.lt
  cases mb with
  | false =>
    have hv : V = ((0, 0), 8) := by rw [HSV.out, if_neg (by simp)]
    have HV := Lib.hid hv
    clear hv
    simp only [Bool.false_eq_true, if_false]
    go_wp2_with fail
    refine bodyPost_ret (results_ct rfl _ _ (w.heap.size + 1) 49 _ _ rfl ((HI2.out.kR.set 0 _).set 1 _) Try.underlying49 rfl signed_size) rfl ⟨?_, ?_⟩
    · rw [HV.out]; rfl
    · exact (HI2.out.be.setCell (p := ⟨w.heap.size + 1, 0, none⟩) (by show w.heap.size ≤ w.heap.size + 1; omega) _).setCell (p := ⟨w.heap.size + 1, 1, none⟩) (by show w.heap.size ≤ w.heap.size + 1; omega) _
  | true =>
    simp only [if_true]
    by_cases hc : 0 ≤ col ∧ col < cols
    · have hv : V = tellO g seed col.toNat := by rw [HSV.out, if_pos ⟨rfl, hc⟩]
      obtain ⟨c, hcc⟩ := Int.eq_ofNat_of_zero_le hc.1
      subst hcc
      rw [Int.toNat_natCast] at hv
      have hmay := HMB.out
      obtain ⟨_, hmat, _, hc2, _, _⟩ := head_is (may_is hmay).1
      have hm0 : matB g.rows g.cols g.cells.length = true := decide_eq_true hmat
      have hrb := HROWS.out hmay
      obtain ⟨h1, h2, h3, h4, h5, h6, h7, h8, h9, h10, h11, h12, h13⟩ := HEQ.out
      obtain ⟨n, hn⟩ := Int.eq_ofNat_of_zero_le hmat.1.1
      have hnt0 : g.rows.toNat = n := by omega
      have hnn : n ≤ 1048576 := by omega
      rw [hn] at h12
      subst h12
      obtain ⟨RR, hRR⟩ : ∃ R, shakeR g seed c = R := ⟨_, rfl⟩
      have hwc : IntKind.u64.wrap (c : Int) = (c : Int) := by rw [IntKind.wrap_u64]; omega
      have hkk : foldF [seed, 3, (c : Int), 0] = shakeKey seed c := by unfold shakeKey; rw [hwc]
      have KK := Lib.hid (fun w => rkey_any seed 3 c 0 HSD.out (by omega) (by omega) (by omega) w)
      rw [hkk] at KK
      have hkin := shakeKey_in seed c
      obtain ⟨key, hkey⟩ : ∃ x, shakeKey seed c = x := ⟨_, rfl⟩
      have hRk : (runO (numS key) (stepPerm n) (bndPerm n) 0 (rowI n) 0).1 = RR := by rw [← hRR, ← hkey]; unfold shakeR; rw [hnt0]
      rw [hkey] at KK hkin
      have KR := Lib.hid (fun w => rnums_any key (3 * n + 64) (by omega) w)
      have KP := Lib.hid (fun A cap W hr => rpermS_any key hkin n hnn A cap W hr RR hRk)
      have HTELL : Hid (V = tellM g c RR) := Lib.hid (by rw [hv, tell_is, hRR])
      have KT := Lib.hid (fun (p : List Int) (Ap : Option Addr) (cp : Nat) w hm hr hp hrp => rturn_any n g.cols g.cells p Ac Ap cc cp c w hm hr (by omega) hp hrp hnn HCN.out)
      have HM0 : Hid (matB n g.cols g.cells.length = true) := Lib.hid (by rw [hn] at hm0; exact hm0)
      have KE3 := Lib.hid (fun (p : List Int) (A' : Option Addr) (c' : Nat) w hr => rerror_any (turnG g c p) A' At Aw Ag c' ct cw cg w (turnG_ok HOK.out c p) (fun _ => HROWS.out hmay) hr)
      have HTG : Hid (∀ p A' c', grvA (turnG g c p) A' At Aw Ag c' ct cw cg = #[.int .i64 g.k, .int .i64 g.cl, .int .i64 g.b, .int .i64 g.t, .int .i64 g.d, .int .i64 g.l, .int .i64 g.p, .int .i64 n, .int .i64 g.cols, .slice A' g.cells.length c', .slice At g.trees.length ct, .slice Aw g.weights.length cw, .slice Ag g.tgt.length cg]) := Lib.hid (fun p A' c' => by
        unfold grvA turnG
        simp only [turn_len]
        rw [hn])
      have HTU : Hid (∀ p, (turnG g c p).cells = turnO (c * n) p g.cells n) := Lib.hid (fun p => by unfold turnG; rw [hnt0])
      have HMT : Hid (∀ p, mayG (turnG g c p) = true) := Lib.hid (fun p => by rw [turnG_may, hmay])
      have HIN : Hid (∀ x ∈ g.cells, 0 ≤ x ∧ x ≤ 65535) := Lib.hid HRG.out.rc.1
      have HNC := Lib.hid h1
      have KR2 : Hid (∀ w, Calls Try.prog 91 #[.int .u64 key, .int .i64 (3 * (n : Int) + 64)] w fun e w' => ∃ v, e = .returned v ∧ w'.ownsRow w.heap.size 34 1 v (3 * n + 64) (u64s (rowS key (3 * n + 64))) ∧ Below w.heap.size w w') := Lib.hid (fun w => by
        have h := KR.out w
        rw [show (((3 * n + 64 : Nat)) : Int) = 3 * (n : Int) + 64 from by omega] at h
        exact h)
      rw [h1, h2, h3, h4, h5, h6, h7, h8, h9, h10, h11, h13] at HTG
      rw [h1, h13] at KT HM0
      have d1 : decide ((c : Int) < 0) = false := decide_eq_false (by omega)
      have d2 : decide (cols ≤ (c : Int)) = false := decide_eq_false (by omega)
      clear h1 h2 h3 h4 h5 h6 h7 h8 h9 h10 h11 h13 hv hm0 hmat hc2 hrb hn hnt0 hRR hRk hkk hkey hmay KR KE
      go_upto_region 7 with (fail)
      go_wp2_with fail
      refine (KK.out _).mono ?_
      rintro e w3 ⟨rfl, hb3⟩
      have HI3 := Lib.hid (HI2.out.below hb3)
      clear hb3 b7 b8 r0 r1 r2 hlR hlB
      go_wp2_with fail
      refine (KR2.out _).mono ?_
      rintro e w4 ⟨v, rfl, ho, hb4⟩
      obtain ⟨Ar, cr, rfl⟩ := own_slice ho
      have HI4 := Lib.hid (HI3.out.below hb4)
      have HRD : Hid (RdU w4 Ar (rowS key (3 * n + 64))) := Lib.hid (RdU.own (by rw [rowS_len]; exact ho) (fun x hx => by
        unfold rowS at hx
        obtain ⟨k, _, rfl⟩ := List.mem_map.1 hx
        exact numS_in key k))
      clear hb4 ho
      cases RR with
      | none =>
        have KP2 := Lib.hid (fun A cap W hr => KP.out A cap W hr)
        simp only [RPermE] at KP2
        have HV : Hid (V = ((0, 0), 7)) := Lib.hid HTELL.out
        go_wp2_with fail
        refine (KP2.out _ _ _ HRD.out).mono ?_
        rintro e w5 ⟨hb5, kt, rfl⟩
        have HI5 := Lib.hid (HI4.out.below hb5)
        clear hb5
        obtain ⟨r0, r1⟩ : w5.cell? ⟨w.heap.size + 1, 0, none⟩ = some (.int .i64 0) ∧ w5.cell? ⟨w.heap.size + 1, 1, none⟩ = some (.int .i64 0) := ⟨HI5.out.kR.cell 0, HI5.out.kR.cell 1⟩
        have r2 := fun i => HI5.out.kR.frozen i
        have hlR := HI5.out.kR.lt
        go_wp2_with fail
        refine bodyPost_ret (results_ct rfl _ _ (w.heap.size + 1) 49 _ _ rfl ((HI5.out.kR.set 0 _).set 1 _) Try.underlying49 rfl signed_size) rfl ⟨?_, ?_⟩
        · rw [HV.out]; rfl
        · exact (HI5.out.be.setCell (p := ⟨w.heap.size + 1, 0, none⟩) (by show w.heap.size ≤ w.heap.size + 1; omega) _).setCell (p := ⟨w.heap.size + 1, 1, none⟩) (by show w.heap.size ≤ w.heap.size + 1; omega) _
      | some p =>
        have KP2 := Lib.hid (fun A cap W hr => KP.out A cap W hr)
        simp only [RPermE] at KP2
        go_wp2_with fail
        refine (KP2.out _ _ _ HRD.out).mono ?_
        rintro e w5 ⟨hb5, kt, gp, cp, rfl, hrp, hpp⟩
        have HI5 := Lib.hid (HI4.out.below hb5)
        have KT2 := Lib.hid (KT.out p (some ⟨gp, 0, none⟩) cp w5 HM0.out (HRG.out.rc.below HI5.out.be) hpp hrp)
        clear hb5 hrp
        obtain ⟨q0, q1, q2, q3, q4, q5, q6, q7, q8, q9, q10, q11, q12⟩ := HI5.out.kB.cells13
        have hlB := HI5.out.kB.lt
        clear q0 q1 q2 q3 q4 q5 q6 q10 q11 q12
        go_upto_region 10 with (fail)
        go_wp2_with fail
        refine KT2.out.mono ?_
        rintro e w6 ⟨v, rfl, ho, hb6⟩
        obtain ⟨Ar2, cr2, rfl⟩ := own_slice ho
        have HI6 := Lib.hid (HI5.out.below hb6)
        have HS6 := Lib.hid hb6.size
        have HO6 := Lib.hid ho
        clear hb6 ho q7 q8 q9
        go_upto_region 11 with (fail)
        have bM : Below w6.heap.size w6 (w6.alloc (.cells #[.int .i64 n, .int .i64 cols, .slice Ar2 nc cr2] 75)) := (Below.refl _ _).alloc (Nat.le_refl _) _
        have kM := Blk.new w6 #[.int .i64 n, .int .i64 cols, .slice Ar2 nc cr2] 75
        obtain ⟨WM, hWM⟩ : ∃ W, w6.alloc (.cells #[.int .i64 n, .int .i64 cols, .slice Ar2 nc cr2] 75) = W := ⟨_, rfl⟩
        rw [hWM] at bM kM ⊢
        have HIM := Lib.hid (HI6.out.below bM)
        have HOM := Lib.hid (own_below HO6.out bM)
        obtain ⟨m0, m1, m2⟩ : WM.cell? ⟨w6.heap.size, 0, none⟩ = some (.int .i64 n) ∧ WM.cell? ⟨w6.heap.size, 1, none⟩ = some (.int .i64 cols) ∧ WM.cell? ⟨w6.heap.size, 2, none⟩ = some (.slice Ar2 nc cr2) := ⟨kM.cell 0, kM.cell 1, kM.cell 2⟩
        have hlM := kM.lt
        obtain ⟨q0, q1, q2, q3, q4, q5, q6, q7, q8, q9, q10, q11, q12⟩ := HIM.out.kB.cells13
        have hlB2 := HIM.out.kB.lt
        have gf := fun i => HIM.out.kB.frozen i
        have hlw : w.heap.size < w5.heap.size := hlB
        clear hWM bM kM q0 q1 q2 q3 q4 q5 q6 q10 q11 q12
        go_upto_region 14 with (fail)
        have kB7 : Blk (((WM.setCell ⟨w.heap.size, 7, none⟩ (.int .i64 n)).setCell ⟨w.heap.size, 8, none⟩ (.int .i64 cols)).setCell ⟨w.heap.size, 9, none⟩ (.slice Ar2 nc cr2)) w.heap.size #[.int .i64 k, .int .i64 cl, .int .i64 b, .int .i64 t, .int .i64 d, .int .i64 l, .int .i64 pk, .int .i64 n, .int .i64 cols, .slice Ar2 nc cr2, .slice At nt ct, .slice Aw nw cw, .slice Ag ng cg] 79 := ((HIM.out.kB.set 7 (.int .i64 n)).set 8 (.int .i64 cols)).set 9 (.slice Ar2 nc cr2)
        have HO7 : Hid ((((WM.setCell ⟨w.heap.size, 7, none⟩ (.int .i64 n)).setCell ⟨w.heap.size, 8, none⟩ (.int .i64 cols)).setCell ⟨w.heap.size, 9, none⟩ (.slice Ar2 nc cr2)).ownsRow w5.heap.size 71 1 (.slice Ar2 nc cr2) nc (u16s (turnO (c * n) p g.cells n))) := Lib.hid
          (own_low (own_low (own_low HOM.out (p := ⟨w.heap.size, 7, none⟩) _ hlw) (p := ⟨w.heap.size, 8, none⟩) _ hlw) (p := ⟨w.heap.size, 9, none⟩) _ hlw)
        have hne : w.heap.size + 1 ≠ w.heap.size := by omega
        have hnS : w1.heap.size ≠ w.heap.size := by omega
        have HI7 : Hid (RSI #[.int .i64 k, .int .i64 cl, .int .i64 b, .int .i64 t, .int .i64 d, .int .i64 l, .int .i64 pk, .int .i64 n, .int .i64 cols, .slice Ar2 nc cr2, .slice At nt ct, .slice Aw nw cw, .slice Ag ng cg] w.heap.size (w.heap.size + 1) w1.heap.size N D w (((WM.setCell ⟨w.heap.size, 7, none⟩ (.int .i64 n)).setCell ⟨w.heap.size, 8, none⟩ (.int .i64 cols)).setCell ⟨w.heap.size, 9, none⟩ (.slice Ar2 nc cr2))) := Lib.hid
          ⟨kB7, ((HIM.out.kR.other (p := ⟨w.heap.size, 7, none⟩) hne _).other (p := ⟨w.heap.size, 8, none⟩) hne _).other (p := ⟨w.heap.size, 9, none⟩) hne _, ((HIM.out.kS.other (p := ⟨w.heap.size, 7, none⟩) hnS _).other (p := ⟨w.heap.size, 8, none⟩) hnS _).other (p := ⟨w.heap.size, 9, none⟩) hnS _, ((HIM.out.be.setCell (p := ⟨w.heap.size, 7, none⟩) (Nat.le_refl _) _).setCell (p := ⟨w.heap.size, 8, none⟩) (Nat.le_refl _) _).setCell (p := ⟨w.heap.size, 9, none⟩) (Nat.le_refl _) _⟩
        obtain ⟨W7, hW7⟩ : ∃ W, ((WM.setCell ⟨w.heap.size, 7, none⟩ (.int .i64 n)).setCell ⟨w.heap.size, 8, none⟩ (.int .i64 cols)).setCell ⟨w.heap.size, 9, none⟩ (.slice Ar2 nc cr2) = W := ⟨_, rfl⟩
        rw [hW7] at kB7 HO7 HI7 ⊢
        have HRG7 : Hid (RG W7 (turnG g c p) Ar2 At Aw Ag) := Lib.hid (by
          have h := HRG.out.below HI7.out.be
          refine ⟨?_, h.rt, h.rw, h.rg⟩
          rw [HTU.out]
          exact RC.own (by rw [turn_len, HNC.out]; exact HO7.out) (turn_in HIN.out))
        have KE2 := Lib.hid (KE3.out p Ar2 cr2 W7 HRG7.out)
        rw [HTG.out, HMT.out] at KE2
        obtain ⟨⟨N2, D2⟩, hND2⟩ : ∃ x, errO (turnG g c p) = x := ⟨_, rfl⟩
        rw [hND2] at KE2
        simp only [if_true] at KE2
        have HND2 := Lib.hid hND2
        clear hW7 q7 q8 q9 gf hlB hlB2 m0 m1 m2 hlM hND2 hlw
        go_wp2_with (refine wpList_load_row rfl 79 (.tmp 3) rfl w.heap.size rfl 79 _ (0, 0) _ kB7 Try.underlying79 rfl rgrove_size ?_)
        refine KE2.out.mono ?_
        rintro e w8 ⟨rfl, hb⟩
        have HI8 := Lib.hid (HI7.out.below hb)
        clear hb kB7
        go_upto_region 15 with (fail)
        have be9 : Below w8.heap.size w8 (w8.alloc (.cells #[.int .i64 N2, .int .i64 D2] 49)) := (Below.refl _ _).alloc (Nat.le_refl _) _
        have kE := Blk.new w8 #[.int .i64 N2, .int .i64 D2] 49
        obtain ⟨W9, hW9⟩ : ∃ W, w8.alloc (.cells #[.int .i64 N2, .int .i64 D2] 49) = W := ⟨_, rfl⟩
        rw [hW9] at be9 kE ⊢
        have HI9 := Lib.hid (HI8.out.below be9)
        obtain ⟨e0, e1⟩ : W9.cell? ⟨w8.heap.size, 0, none⟩ = some (.int .i64 N2) ∧ W9.cell? ⟨w8.heap.size, 1, none⟩ = some (.int .i64 D2) := ⟨kE.cell 0, kE.cell 1⟩
        obtain ⟨s0, s1⟩ : W9.cell? ⟨w1.heap.size, 0, none⟩ = some (.int .i64 N) ∧ W9.cell? ⟨w1.heap.size, 1, none⟩ = some (.int .i64 D) := ⟨HI9.out.kS.cell 0, HI9.out.kS.cell 1⟩
        obtain ⟨r0, r1⟩ : W9.cell? ⟨w.heap.size + 1, 0, none⟩ = some (.int .i64 0) ∧ W9.cell? ⟨w.heap.size + 1, 1, none⟩ = some (.int .i64 0) := ⟨HI9.out.kR.cell 0, HI9.out.kR.cell 1⟩
        have r2 := fun i => HI9.out.kR.frozen i
        have hlR9 := HI9.out.kR.lt
        have hlS9 := HI9.out.kS.lt
        have hlE9 := kE.lt
        clear hW9 be9 kE
        go_wp2_with fail
        refine bodyPost_ret (results_ct rfl _ _ (w.heap.size + 1) 49 _ _ rfl ((HI9.out.kR.set 0 _).set 1 _) Try.underlying49 rfl signed_size) rfl ⟨?_, ?_⟩
        · have e : tellM g c (some p) = ((IntKind.i64.wrap (N2 - N), D), 0) := by
            show ((IntKind.i64.wrap ((errO (turnG g c p)).1 - (errO g).1), (errO g).2), (0 : Int)) = _
            rw [HND2.out, HND.out]
          rw [HTELL.out, e, wrapI_64]
          rfl
        · exact (HI9.out.be.setCell (p := ⟨w.heap.size + 1, 0, none⟩) (by show w.heap.size ≤ w.heap.size + 1; omega) _).setCell (p := ⟨w.heap.size + 1, 1, none⟩) (by show w.heap.size ≤ w.heap.size + 1; omega) _
    · have hv : V = ((0, 0), 8) := by rw [HSV.out, if_neg (fun h => hc h.2)]
      have HV := Lib.hid hv
      clear hv
      by_cases hc0 : col < 0
      · have d1 : decide (col < 0) = true := decide_eq_true hc0
        go_wp2_with fail
        refine bodyPost_ret (results_ct rfl _ _ (w.heap.size + 1) 49 _ _ rfl ((HI2.out.kR.set 0 _).set 1 _) Try.underlying49 rfl signed_size) rfl ⟨?_, ?_⟩
        · rw [HV.out]; rfl
        · exact (HI2.out.be.setCell (p := ⟨w.heap.size + 1, 0, none⟩) (by show w.heap.size ≤ w.heap.size + 1; omega) _).setCell (p := ⟨w.heap.size + 1, 1, none⟩) (by show w.heap.size ≤ w.heap.size + 1; omega) _
      · have d1 : decide (col < 0) = false := decide_eq_false hc0
        have d2 : decide (cols ≤ col) = true := decide_eq_true (by omega)
        go_wp2_with fail
        refine bodyPost_ret (results_ct rfl _ _ (w.heap.size + 1) 49 _ _ rfl ((HI2.out.kR.set 0 _).set 1 _) Try.underlying49 rfl signed_size) rfl ⟨?_, ?_⟩
        · rw [HV.out]; rfl
        · exact (HI2.out.be.setCell (p := ⟨w.heap.size + 1, 0, none⟩) (by show w.heap.size ≤ w.heap.size + 1; omega) _).setCell (p := ⟨w.heap.size + 1, 1, none⟩) (by show w.heap.size ≤ w.heap.size + 1; omega) _
end Go.Proofs.Ytpekofpiodaadaa.Hb
end

section
/- What is too great for the laws of layers 25 and 26. -/
namespace Go.Proofs.Ytpekofpiodaadaa.Hb
set_option linter.unusedVariables false
set_option linter.unusedSimpArgs false
open Go.RowKit

def longL {α : Type} (l : List α) : Bool := decide (100 < l.length)
def greatH (g : Grv) : Prop := 400 < g.cells.length ∨ (100 < g.rows ∧ g.rows ≤ 16777216) ∨ 10 < g.trees.length ∨ 10 < g.weights.length ∨ 100 < g.tgt.length
instance (g : Grv) : Decidable (greatH g) := by unfold greatH; infer_instance
def greatG (g : Grv) : Bool := decide (greatH g) || (g.trees.any longL || g.weights.any longL)
theorem great_not {g : Grv} (h : greatG g = false) : ¬ greatH g ∧ (∀ t ∈ g.trees, t.length ≤ 100) ∧ ∀ x ∈ g.weights, x.length ≤ 100 := by
  unfold greatG at h
  simp only [Bool.or_eq_false_iff, decide_eq_false_iff_not, List.any_eq_false] at h
  refine ⟨h.1, fun t ht => ?_, fun x hx => ?_⟩
  · have := h.2.1 t ht; unfold longL at this; simp at this; exact this
  · have := h.2.2 x hx; unfold longL at this; simp at this; exact this
theorem great_ok {g : Grv} (h : greatG g = false) : OkG g := by
  obtain ⟨h1, h2, h3⟩ := great_not h
  unfold greatH at h1
  exact ⟨by omega, by omega, by omega, by omega, fun t ht => by have := h2 t ht; omega, fun x hx => by have := h3 x hx; omega⟩
theorem great_rows {g : Grv} (h : greatG g = false) (hm : mayG g = true) : 0 ≤ g.rows ∧ g.rows ≤ 100 := by
  obtain ⟨h1, _⟩ := great_not h
  have := (head_is (may_is hm).1).2.1.1
  unfold greatH at h1
  omega
theorem any_at {α : Type} {p : α → Bool} {l : List α} {k : Nat} {x : α} (h : l[k]? = some x) : (l.drop k).any p = (p x || (l.drop (k + 1)).any p) := by
  obtain ⟨hk, rfl⟩ := List.getElem?_eq_some_iff.1 h
  rw [List.drop_eq_getElem_cons hk, List.any_cons]
set_option maxRecDepth 100000 in
set_option maxHeartbeats 4000000 in
theorem great_any (g : Grv) (Ac At Aw Ag : Option Addr) (cc ct cw cg : Nat) (w : World) (hr : RG w g Ac At Aw Ag) (l1 : g.trees.length ≤ 9223372036854775807) (l2 : g.weights.length ≤ 9223372036854775807) :
    Calls Try.prog 38 #[.agg (grvA g Ac At Aw Ag cc ct cw cg)] w fun e w' => e = .returned (.bool (greatG g)) ∧ Below w.heap.size w w' := by
  obtain ⟨T1, hT1⟩ : ∃ z, g.trees.any longL = z := ⟨_, rfl⟩
  obtain ⟨T2, hT2⟩ : ∃ z, g.weights.any longL = z := ⟨_, rfl⟩
  have HG : Hid (greatG g = (decide (greatH g) || (T1 || T2))) := Lib.hid (by unfold greatG; rw [hT1, hT2])
  have HT1 : Hid ((g.trees.drop 0).any longL = T1) := Lib.hid (by rw [List.drop_zero]; exact hT1)
  have HT2 : Hid ((g.weights.drop 0).any longL = T2) := Lib.hid (by rw [List.drop_zero]; exact hT2)
  obtain ⟨R, hR⟩ : ∃ R, greatG g = R := ⟨_, rfl⟩
  rw [hR] at HG ⊢
  have HRG := Lib.hid hr
  have hH : greatH g ↔ (400 < g.cells.length ∨ (100 < g.rows ∧ g.rows ≤ 16777216) ∨ 10 < g.trees.length ∨ 10 < g.weights.length ∨ 100 < g.tgt.length) := Iff.rfl
  obtain ⟨nc, hnc⟩ : ∃ n, g.cells.length = n := ⟨_, rfl⟩
  obtain ⟨nt, hnt⟩ : ∃ n, g.trees.length = n := ⟨_, rfl⟩
  obtain ⟨nw, hnw⟩ : ∃ n, g.weights.length = n := ⟨_, rfl⟩
  obtain ⟨ng, hng⟩ : ∃ n, g.tgt.length = n := ⟨_, rfl⟩
  obtain ⟨rows, hrows⟩ : ∃ x, g.rows = x := ⟨_, rfl⟩
  unfold grvA
  rw [hnt] at l1
  rw [hnw] at l2
  rw [hnc, hnt, hnw, hng, hrows] at hH ⊢
  have HN := Lib.hid (And.intro hnt hnw)
  have HYES : Hid (greatH g → R = true) := Lib.hid (fun h => by rw [HG.out, decide_eq_true h]; rfl)
  have HNO : Hid (¬ greatH g → R = (T1 || T2)) := Lib.hid (fun h => by rw [HG.out, decide_eq_false h]; rfl)
  have HHH := Lib.hid hH
  clear hT1 hT2 hR hr hnc hnt hnw hng hrows HG hH
  by_cases h1 : 400 < nc
  · have d1 : decide (400 < nc) = true := decide_eq_true h1
    have d1' : decide ((400 : Int) < nc) = true := decide_eq_true (by omega)
    go_enter Try.func38, Try.ntmps38
    go_wp2_with fail
    go_ret
    exact ⟨ret_bool (HYES.out (HHH.out.2 (by omega))).symm, (Below.refl _ _).alloc (Nat.le_refl _) _⟩
  have d1 : decide (400 < nc) = false := decide_eq_false h1
  have d1' : decide ((400 : Int) < nc) = false := decide_eq_false (by omega)
  by_cases h2 : 100 < rows ∧ rows ≤ 16777216
  · have d2 : decide (100 < rows) = true := decide_eq_true h2.1
    have d2' : decide (rows ≤ 16777216) = true := decide_eq_true h2.2
    go_enter Try.func38, Try.ntmps38
    go_wp2_with fail
    go_ret
    exact ⟨ret_bool (HYES.out (HHH.out.2 (by omega))).symm, (Below.refl _ _).alloc (Nat.le_refl _) _⟩
  by_cases e2 : 100 < rows
  · have d2 : decide (100 < rows) = true := decide_eq_true e2
    have d2' : decide (rows ≤ 16777216) = false := decide_eq_false (by omega)
    by_cases h3 : 10 < nt
    · have d3 : decide (10 < nt) = true := decide_eq_true h3
      have d3' : decide ((10 : Int) < nt) = true := decide_eq_true (by omega)
      go_enter Try.func38, Try.ntmps38
      go_wp2_with fail
      go_ret
      exact ⟨ret_bool (HYES.out (HHH.out.2 (by omega))).symm, (Below.refl _ _).alloc (Nat.le_refl _) _⟩
    have d3 : decide (10 < nt) = false := decide_eq_false h3
    have d3' : decide ((10 : Int) < nt) = false := decide_eq_false (by omega)
    by_cases h4 : 10 < nw
    · have d4 : decide (10 < nw) = true := decide_eq_true h4
      have d4' : decide ((10 : Int) < nw) = true := decide_eq_true (by omega)
      go_enter Try.func38, Try.ntmps38
      go_wp2_with fail
      go_ret
      exact ⟨ret_bool (HYES.out (HHH.out.2 (by omega))).symm, (Below.refl _ _).alloc (Nat.le_refl _) _⟩
    have d4 : decide (10 < nw) = false := decide_eq_false h4
    have d4' : decide ((10 : Int) < nw) = false := decide_eq_false (by omega)
    by_cases h5 : 100 < ng
    · have d5 : decide (100 < ng) = true := decide_eq_true h5
      have d5' : decide ((100 : Int) < ng) = true := decide_eq_true (by omega)
      go_enter Try.func38, Try.ntmps38
      go_wp2_with fail
      go_ret
      exact ⟨ret_bool (HYES.out (HHH.out.2 (by omega))).symm, (Below.refl _ _).alloc (Nat.le_refl _) _⟩
    have d5 : decide (100 < ng) = false := decide_eq_false h5
    have d5' : decide ((100 : Int) < ng) = false := decide_eq_false (by omega)
    have HNO2 : Hid (R = (T1 || T2)) := Lib.hid (HNO.out (fun h => by have := HHH.out.1 h; omega))
    clear h1 h2 e2 h3 h4 h5 HYES HNO HHH
    go_enter Try.func38, Try.ntmps38
    go_wp2_with fail
    have kB0 := Lib.hid (Blk.new w #[.int .i64 g.k, .int .i64 g.cl, .int .i64 g.b, .int .i64 g.t, .int .i64 g.d, .int .i64 g.l, .int .i64 g.p, .int .i64 rows, .int .i64 g.cols, .slice Ac nc cc, .slice At nt ct, .slice Aw nw cw, .slice Ag ng cg] 79)
    have hbe := Lib.hid ((Below.refl w.heap.size w).alloc (Nat.le_refl _) (.cells #[.int .i64 g.k, .int .i64 g.cl, .int .i64 g.b, .int .i64 g.t, .int .i64 g.d, .int .i64 g.l, .int .i64 g.p, .int .i64 rows, .int .i64 g.cols, .slice Ac nc cc, .slice At nt ct, .slice Aw nw cw, .slice Ag ng cg] 79))
    obtain ⟨W, hW⟩ : ∃ W, w.alloc (.cells #[.int .i64 g.k, .int .i64 g.cl, .int .i64 g.b, .int .i64 g.t, .int .i64 g.d, .int .i64 g.l, .int .i64 g.p, .int .i64 rows, .int .i64 g.cols, .slice Ac nc cc, .slice At nt ct, .slice Aw nw cw, .slice Ag ng cg] 79) = W := ⟨_, rfl⟩
    rw [hW] at kB0 hbe ⊢
    have HR2 := Lib.hid (HRG.out.below hbe.out)
    obtain ⟨q0, q1, q2, q3, q4, q5, q6, q7, q8, q9, q10, q11, q12⟩ := kB0.out.cells13
    clear hW d1 d1' d2 d2' d3 d3' d4 d4' d5 d5'
    go_loop [45] (fun iv => ∃ k : Nat, k ≤ nt ∧ iv = .int .i64 k ∧ Hid ((g.trees.drop k).any longL = T1)) (fun iv => nt - (intOf iv).toNat)
    case atStart => exact ⟨0, Nat.zero_le _, rfl, HT1⟩
    case round =>
      obtain ⟨k, hk, rfl, HI⟩ := hrel
      by_cases hlt : k < nt
      · have hlt' : (k : Int) < nt := by omega
        obtain ⟨adt, rfl, tr, Bt, capt, ht1, ht2, ht3, ht4, ht5⟩ := HR2.out.rt.at (i := k) (by rw [HN.out.1]; exact hlt)
        have HA := Lib.hid (any_at (p := longL) ht1)
        have hlg : Hid (longL tr = decide (100 < tr.length)) := Lib.hid rfl
        obtain ⟨m, hm⟩ : ∃ m, tr.length = m := ⟨_, rfl⟩
        rw [hm] at ht2 ht3 hlg
        clear ht1 ht5 hm
        by_cases hm : 100 < m
        · have d6 : decide (100 < m) = true := decide_eq_true hm
          have d6' : decide ((100 : Int) < m) = true := decide_eq_true (by omega)
          have HX : Hid (T1 = true) := Lib.hid (by rw [← HI.out, HA.out, hlg.out, decide_eq_true hm]; rfl)
          go_wp2_with fail
          go_ret
          exact ⟨ret_bool (by rw [HNO2.out, HX.out]; rfl), hbe.out⟩
        · have d6 : decide (100 < m) = false := decide_eq_false hm
          have d6' : decide ((100 : Int) < m) = false := decide_eq_false (by omega)
          have HX : Hid ((g.trees.drop (k + 1)).any longL = T1) := Lib.hid (by have := HI.out; rwa [HA.out, hlg.out, decide_eq_false hm, Bool.false_or] at this)
          go_wp2_with fail
          go_round
          case rel => exact ⟨k + 1, hlt, by go_num, HX⟩
          case measure => simp [intOf]; omega
      · obtain rfl : nt = k := by omega
        have HX1 : Hid (T1 = false) := Lib.hid (by rw [← HI.out, List.drop_of_length_le (by rw [HN.out.1]; exact Nat.le_refl _)]; rfl)
        go_wp2_with fail
        go_loop [56] (fun iv => ∃ k : Nat, k ≤ nw ∧ iv = .int .i64 k ∧ Hid ((g.weights.drop k).any longL = T2)) (fun iv => nw - (intOf iv).toNat)
        case atStart => exact ⟨0, Nat.zero_le _, rfl, HT2⟩
        case round =>
          obtain ⟨k2, hk2, rfl, HI2⟩ := hrel
          by_cases hlt2 : k2 < nw
          · have hlt2' : (k2 : Int) < nw := by omega
            obtain ⟨adt, rfl, tr, Bt, capt, ht1, ht2, ht3, ht4, ht5⟩ := HR2.out.rw.at (i := k2) (by rw [HN.out.2]; exact hlt2)
            have HA := Lib.hid (any_at (p := longL) ht1)
            have hlg : Hid (longL tr = decide (100 < tr.length)) := Lib.hid rfl
            obtain ⟨m, hm⟩ : ∃ m, tr.length = m := ⟨_, rfl⟩
            rw [hm] at ht2 ht3 hlg
            clear ht1 ht5 hm
            by_cases hm : 100 < m
            · have d6 : decide (100 < m) = true := decide_eq_true hm
              have d6' : decide ((100 : Int) < m) = true := decide_eq_true (by omega)
              have HX : Hid (T2 = true) := Lib.hid (by rw [← HI2.out, HA.out, hlg.out, decide_eq_true hm]; rfl)
              go_wp2_with fail
              go_ret
              exact ⟨ret_bool (by rw [HNO2.out, HX1.out, HX.out]; rfl), hbe.out⟩
            · have d6 : decide (100 < m) = false := decide_eq_false hm
              have d6' : decide ((100 : Int) < m) = false := decide_eq_false (by omega)
              have HX : Hid ((g.weights.drop (k2 + 1)).any longL = T2) := Lib.hid (by have := HI2.out; rwa [HA.out, hlg.out, decide_eq_false hm, Bool.false_or] at this)
              go_wp2_with fail
              go_round
              case rel => exact ⟨k2 + 1, hlt2, by go_num, HX⟩
              case measure => simp [intOf]; omega
          · obtain rfl : nw = k2 := by omega
            have HX2 : Hid (T2 = false) := Lib.hid (by rw [← HI2.out, List.drop_of_length_le (by rw [HN.out.2]; exact Nat.le_refl _)]; rfl)
            go_wp2_with fail
            go_ret
            exact ⟨ret_bool (by rw [HNO2.out, HX1.out, HX2.out]; rfl), hbe.out⟩
  · have d2 : decide (100 < rows) = false := decide_eq_false e2
    by_cases h3 : 10 < nt
    · have d3 : decide (10 < nt) = true := decide_eq_true h3
      have d3' : decide ((10 : Int) < nt) = true := decide_eq_true (by omega)
      go_enter Try.func38, Try.ntmps38
      go_wp2_with fail
      go_ret
      exact ⟨ret_bool (HYES.out (HHH.out.2 (by omega))).symm, (Below.refl _ _).alloc (Nat.le_refl _) _⟩
    have d3 : decide (10 < nt) = false := decide_eq_false h3
    have d3' : decide ((10 : Int) < nt) = false := decide_eq_false (by omega)
    by_cases h4 : 10 < nw
    · have d4 : decide (10 < nw) = true := decide_eq_true h4
      have d4' : decide ((10 : Int) < nw) = true := decide_eq_true (by omega)
      go_enter Try.func38, Try.ntmps38
      go_wp2_with fail
      go_ret
      exact ⟨ret_bool (HYES.out (HHH.out.2 (by omega))).symm, (Below.refl _ _).alloc (Nat.le_refl _) _⟩
    have d4 : decide (10 < nw) = false := decide_eq_false h4
    have d4' : decide ((10 : Int) < nw) = false := decide_eq_false (by omega)
    by_cases h5 : 100 < ng
    · have d5 : decide (100 < ng) = true := decide_eq_true h5
      have d5' : decide ((100 : Int) < ng) = true := decide_eq_true (by omega)
      go_enter Try.func38, Try.ntmps38
      go_wp2_with fail
      go_ret
      exact ⟨ret_bool (HYES.out (HHH.out.2 (by omega))).symm, (Below.refl _ _).alloc (Nat.le_refl _) _⟩
    have d5 : decide (100 < ng) = false := decide_eq_false h5
    have d5' : decide ((100 : Int) < ng) = false := decide_eq_false (by omega)
    have HNO2 : Hid (R = (T1 || T2)) := Lib.hid (HNO.out (fun h => by have := HHH.out.1 h; omega))
    clear h1 h2 e2 h3 h4 h5 HYES HNO HHH
    go_enter Try.func38, Try.ntmps38
    go_wp2_with fail
    have kB0 := Lib.hid (Blk.new w #[.int .i64 g.k, .int .i64 g.cl, .int .i64 g.b, .int .i64 g.t, .int .i64 g.d, .int .i64 g.l, .int .i64 g.p, .int .i64 rows, .int .i64 g.cols, .slice Ac nc cc, .slice At nt ct, .slice Aw nw cw, .slice Ag ng cg] 79)
    have hbe := Lib.hid ((Below.refl w.heap.size w).alloc (Nat.le_refl _) (.cells #[.int .i64 g.k, .int .i64 g.cl, .int .i64 g.b, .int .i64 g.t, .int .i64 g.d, .int .i64 g.l, .int .i64 g.p, .int .i64 rows, .int .i64 g.cols, .slice Ac nc cc, .slice At nt ct, .slice Aw nw cw, .slice Ag ng cg] 79))
    obtain ⟨W, hW⟩ : ∃ W, w.alloc (.cells #[.int .i64 g.k, .int .i64 g.cl, .int .i64 g.b, .int .i64 g.t, .int .i64 g.d, .int .i64 g.l, .int .i64 g.p, .int .i64 rows, .int .i64 g.cols, .slice Ac nc cc, .slice At nt ct, .slice Aw nw cw, .slice Ag ng cg] 79) = W := ⟨_, rfl⟩
    rw [hW] at kB0 hbe ⊢
    have HR2 := Lib.hid (HRG.out.below hbe.out)
    obtain ⟨q0, q1, q2, q3, q4, q5, q6, q7, q8, q9, q10, q11, q12⟩ := kB0.out.cells13
    clear hW d1 d1' d2 d3 d3' d4 d4' d5 d5'
    go_loop [45] (fun iv => ∃ k : Nat, k ≤ nt ∧ iv = .int .i64 k ∧ Hid ((g.trees.drop k).any longL = T1)) (fun iv => nt - (intOf iv).toNat)
    case atStart => exact ⟨0, Nat.zero_le _, rfl, HT1⟩
    case round =>
      obtain ⟨k, hk, rfl, HI⟩ := hrel
      by_cases hlt : k < nt
      · have hlt' : (k : Int) < nt := by omega
        obtain ⟨adt, rfl, tr, Bt, capt, ht1, ht2, ht3, ht4, ht5⟩ := HR2.out.rt.at (i := k) (by rw [HN.out.1]; exact hlt)
        have HA := Lib.hid (any_at (p := longL) ht1)
        have hlg : Hid (longL tr = decide (100 < tr.length)) := Lib.hid rfl
        obtain ⟨m, hm⟩ : ∃ m, tr.length = m := ⟨_, rfl⟩
        rw [hm] at ht2 ht3 hlg
        clear ht1 ht5 hm
        by_cases hm : 100 < m
        · have d6 : decide (100 < m) = true := decide_eq_true hm
          have d6' : decide ((100 : Int) < m) = true := decide_eq_true (by omega)
          have HX : Hid (T1 = true) := Lib.hid (by rw [← HI.out, HA.out, hlg.out, decide_eq_true hm]; rfl)
          go_wp2_with fail
          go_ret
          exact ⟨ret_bool (by rw [HNO2.out, HX.out]; rfl), hbe.out⟩
        · have d6 : decide (100 < m) = false := decide_eq_false hm
          have d6' : decide ((100 : Int) < m) = false := decide_eq_false (by omega)
          have HX : Hid ((g.trees.drop (k + 1)).any longL = T1) := Lib.hid (by have := HI.out; rwa [HA.out, hlg.out, decide_eq_false hm, Bool.false_or] at this)
          go_wp2_with fail
          go_round
          case rel => exact ⟨k + 1, hlt, by go_num, HX⟩
          case measure => simp [intOf]; omega
      · obtain rfl : nt = k := by omega
        have HX1 : Hid (T1 = false) := Lib.hid (by rw [← HI.out, List.drop_of_length_le (by rw [HN.out.1]; exact Nat.le_refl _)]; rfl)
        go_wp2_with fail
        go_loop [56] (fun iv => ∃ k : Nat, k ≤ nw ∧ iv = .int .i64 k ∧ Hid ((g.weights.drop k).any longL = T2)) (fun iv => nw - (intOf iv).toNat)
        case atStart => exact ⟨0, Nat.zero_le _, rfl, HT2⟩
        case round =>
          obtain ⟨k2, hk2, rfl, HI2⟩ := hrel
          by_cases hlt2 : k2 < nw
          · have hlt2' : (k2 : Int) < nw := by omega
            obtain ⟨adt, rfl, tr, Bt, capt, ht1, ht2, ht3, ht4, ht5⟩ := HR2.out.rw.at (i := k2) (by rw [HN.out.2]; exact hlt2)
            have HA := Lib.hid (any_at (p := longL) ht1)
            have hlg : Hid (longL tr = decide (100 < tr.length)) := Lib.hid rfl
            obtain ⟨m, hm⟩ : ∃ m, tr.length = m := ⟨_, rfl⟩
            rw [hm] at ht2 ht3 hlg
            clear ht1 ht5 hm
            by_cases hm : 100 < m
            · have d6 : decide (100 < m) = true := decide_eq_true hm
              have d6' : decide ((100 : Int) < m) = true := decide_eq_true (by omega)
              have HX : Hid (T2 = true) := Lib.hid (by rw [← HI2.out, HA.out, hlg.out, decide_eq_true hm]; rfl)
              go_wp2_with fail
              go_ret
              exact ⟨ret_bool (by rw [HNO2.out, HX1.out, HX.out]; rfl), hbe.out⟩
            · have d6 : decide (100 < m) = false := decide_eq_false hm
              have d6' : decide ((100 : Int) < m) = false := decide_eq_false (by omega)
              have HX : Hid ((g.weights.drop (k2 + 1)).any longL = T2) := Lib.hid (by have := HI2.out; rwa [HA.out, hlg.out, decide_eq_false hm, Bool.false_or] at this)
              go_wp2_with fail
              go_round
              case rel => exact ⟨k2 + 1, hlt2, by go_num, HX⟩
              case measure => simp [intOf]; omega
          · obtain rfl : nw = k2 := by omega
            have HX2 : Hid (T2 = false) := Lib.hid (by rw [← HI2.out, List.drop_of_length_le (by rw [HN.out.2]; exact Nat.le_refl _)]; rfl)
            go_wp2_with fail
            go_ret
            exact ⟨ret_bool (by rw [HNO2.out, HX1.out, HX2.out]; rfl), hbe.out⟩
end Go.Proofs.Ytpekofpiodaadaa.Hb
end

section
/- append of a whole slice, nil or not, onto what the call owns. -/
namespace Go.Proofs.Ytpekofpiodaadaa.Hb
set_option linter.unusedVariables false
set_option linter.unusedSimpArgs false
open Go.RowKit

theorem run_append_nothing {P : Program} {w : World} (base : Nat) (t ty e : TypeId) (i : TypeInfo) (size c : Nat) (ht : P.underlying t = some (.slice e)) (hi : P.info? e = some i)
    (v : Value) (n : Nat) (xs : List Value) (hown : w.ownsRow base e size v n xs) :
    (Builtin.append_ #[t, t] ty #[v, .slice none 0 c]).run P w = .ok v w := by
  rcases hown.2 with ⟨rfl, rfl⟩ | ⟨g, cap, cur, rfl, _, _, hnc, _⟩
  · simp [Builtin.append_, run_underlying ht, sizeOf, typeInfo, hi, Builtin.lenOf, Builtin.firstCells]
  · simp [Builtin.append_, run_underlying ht, sizeOf, typeInfo, hi, Builtin.lenOf, Builtin.firstCells, hnc, storeCells]
theorem wpList_append_any {P : Program} {w : World} {ops : Array Oper} {rest : List Oper} {o : Oper} {a : Act} {Q : Exit → Act → World → Prop} (hgd : o.guard = none) (s x : Operand) (t : TypeId)
    (ho : o.op = .call { callee := .builtin .append, args := #[s, x], argTypes := #[t, t] })
    (base : Nat) (e : TypeId) (i : TypeInfo) (z : Value) (size bytes : Nat) (ht : P.underlying t = some (.slice e)) (hi : P.info? e = some i) (hz : i.zero = some z)
    (hsize : i.size = size) (hby : i.bytes = bytes) (hzs : z.cells.size = size) (hsz : 0 < size)
    (v : Value) (n : Nat) (xs : List Value) (hs : a.eval s = v) (hown : w.ownsRow base e size v n xs)
    (A : Option Addr) (m c : Nat) (news : List Value) (hx : a.eval x = .slice A m c) (hl : news.length = m * size) (hA : (A = none ∧ m = 0) ∨ ∃ ad, A = some ad ∧ ∀ j u, news[j]? = some u → w.cell? (ad.add j) = some u) (h1 : ∀ u ∈ news, u.oneCell' = true)
    (h63 : n + m ≤ maxLen) (hbytes : (n + m) * bytes ≤ 140737488355328) (hbase : base ≤ w.heap.size)
    (h : ∀ v' w', w'.ownsRow base e size v' (n + m) (xs ++ news) → w.grownBy w' v.ownBlock → wpList P ops Q rest (a.put o.dst v') w') : wpList P ops Q (o :: rest) a w := by
  rcases hA with ⟨rfl, rfl⟩ | ⟨ad, rfl, hnews⟩
  · refine wpList_plain hgd fun K hK => ?_
    have hrun := run_append_nothing (P := P) (w := w) base t o.type e i size c ht hi v n xs hown
    have hn : news = [] := List.length_eq_zero_iff.1 (by omega)
    subst hn
    have h2 := h v w (by rw [Nat.add_zero, List.append_nil]; exact hown) ⟨rfl, rfl, rfl, Nat.le_refl _, fun _ _ _ => rfl⟩
    unfold Oper.wp
    simp [execOp, ho, resolve, invoke, builtin, hs, hx, hrun, Result.andThen]
    exact hK _ _ h2
  · exact wpList_append_own w hgd s x t ho base e i z size bytes ht hi hz hsize hby hzs hsz v n xs hs hown ad m c news hx hl hnews h1 h63 hbytes hbase (fun v' w' q1 q2 _ => h v' w' q1 q2)
/-- What a slice of uint16 that is read has. -/
theorem RC.news {w : World} {A : Option Addr} {l : List Int} (h : RC w A l) : (A = none ∧ l.length = 0) ∨ ∃ ad, A = some ad ∧ ∀ j u, (u16s l)[j]? = some u → w.cell? (ad.add j) = some u := by
  cases A with
  | none =>
    rcases h.2 with e | ⟨ad, e, _⟩
    · exact .inl ⟨rfl, by rw [e]; rfl⟩
    · cases e
  | some ad =>
    refine .inr ⟨ad, rfl, fun j u hu => ?_⟩
    have hj : j < l.length := by
      have := (List.getElem?_eq_some_iff.1 hu).1
      simpa [u16s] using this
    obtain ⟨ad', e, hc, _⟩ := h.at hj
    cases e
    rw [u16s_get hj] at hu
    rw [hc, ← hu]
theorem u16s_one (l : List Int) : ∀ u ∈ u16s l, u.oneCell' = true := fun u hu => by simp only [u16s, List.mem_map] at hu; obtain ⟨x, _, rfl⟩ := hu; rfl
theorem u16s_len (l : List Int) : (u16s l).length = l.length := by simp [u16s]
end Go.Proofs.Ytpekofpiodaadaa.Hb
end

section
/- The walk of the law ShakeOne. -/
namespace Go.Proofs.Ytpekofpiodaadaa.Hb
set_option linter.unusedVariables false
set_option linter.unusedSimpArgs false
open Go.RowKit

set_option maxRecDepth 100000 in
set_option maxHeartbeats 8000000 in
theorem shk1_any (g : Grv) (seed col : Int) (hsd : 0 ≤ seed ∧ seed ≤ 18446744073709551615) (Ac At Aw Ag : Option Addr) (cc ct cw cg : Nat) (w : World) (hr : RG w g Ac At Aw Ag) (l1 : g.trees.length ≤ 9223372036854775807) (l2 : g.weights.length ≤ 9223372036854775807) :
    Calls Try.prog 11 #[.agg (grvA g Ac At Aw Ag cc ct cw cg), .int .u64 seed, .int .i64 col] w (True0 w) := by
  have KG := Lib.hid (fun w hr => great_any g Ac At Aw Ag cc ct cw cg w hr l1 l2)
  have HRG := Lib.hid hr
  obtain ⟨GV, hGV⟩ : ∃ V, grvA g Ac At Aw Ag cc ct cw cg = V := ⟨_, rfl⟩
  have hsz : (Try.prog.info? 79).map (·.size) = some GV.size := by rw [← hGV]; kernel_rfl
  have hsz2 : (Try.prog.info? 79).map (·.size) = some 13 := by kernel_rfl
  cases hgr : greatG g with
  | true =>
    rw [hgr, hGV] at KG
    rw [hGV]
    clear hGV hgr
    go_enter Try.func11, Try.ntmps11
    go_upto_region 1 with (fail)
    have kB := Blk.new w GV 79
    have HBE := Lib.hid ((Below.refl w.heap.size w).alloc (Nat.le_refl _) (.cells GV 79))
    go_wp2_with (refine wpList_load_row rfl 79 (.tmp 3) rfl w.heap.size rfl 79 GV (0, 0) _ kB Try.underlying79 rfl hsz ?_)
    refine (KG.out _ (HRG.out.below HBE.out)).mono ?_
    rintro e w1 ⟨rfl, hb⟩
    have HBE1 := Lib.hid (HBE.out.trans (hb.mono HBE.out.size))
    clear hb kB
    go_wp2_with fail
    refine (fixed26_any _).mono ?_
    rintro e w2 ⟨rfl, hb⟩
    have HBE2 := Lib.hid (HBE1.out.trans (hb.mono HBE1.out.size))
    clear hb
    go_wp2_with fail
    go_ret
    exact ⟨rfl, HBE2.out⟩
  | false =>
    have hok := great_ok hgr
    have hrows : mayG g = true → g.rows ≤ 1048576 := fun h => by have := great_rows hgr h; omega
    have hcn : g.cells.length ≤ 400 := by have := (great_not hgr).1; unfold greatH at this; omega
    have KO := Lib.hid (fun w hr => sOne_any g Ac At Aw Ag cc ct cw cg seed col w hok hrows (by omega) hsd hr)
    have KR := Lib.hid (fun w hr => rone26_any g Ac At Aw Ag cc ct cw cg seed col w hok hrows (by omega) hsd hr)
    have KGr := Lib.hid (fun w => grove26_any g Ac At Aw Ag cc ct cw cg w)
    obtain ⟨⟨⟨N, D⟩, E⟩, hE⟩ : ∃ x, shakeO g seed col = x := ⟨_, rfl⟩
    rw [hE] at KO KR
    unfold tellV at KO KR
    simp only at KO KR
    rw [hgr, hGV] at KG
    rw [hGV] at KO KR KGr ⊢
    obtain ⟨nc, hnc⟩ : ∃ n, g.cells.length = n := ⟨_, rfl⟩
    have HQ9 : Hid (GV[9]? = some (.slice Ac nc cc)) := Lib.hid (by rw [← hGV, ← hnc]; rfl)
    have hGsz : GV.size = 13 := by rw [← hGV]; rfl
    have HNC := Lib.hid hnc
    rw [hnc] at hcn
    obtain ⟨i0, hi0, hz0, hz1, hz2⟩ := info_parts info_u16
    clear hGV hgr hok hrows hE hr hnc
    go_enter Try.func11, Try.ntmps11
    go_upto_region 1 with (fail)
    have kB := Blk.new w GV 79
    have HBE := Lib.hid ((Below.refl w.heap.size w).alloc (Nat.le_refl _) (.cells GV 79))
    go_wp2_with (refine wpList_load_row rfl 79 (.tmp 3) rfl w.heap.size rfl 79 GV (0, 0) _ kB Try.underlying79 rfl hsz ?_)
    refine (KG.out _ (HRG.out.below HBE.out)).mono ?_
    rintro e w1 ⟨rfl, hb⟩
    have HBE1 := Lib.hid (HBE.out.trans (hb.mono HBE.out.size))
    have kB1 := kB.below hb
    have q9 : w1.cell? ⟨w.heap.size, 9, none⟩ = some (.slice Ac nc cc) := (kB1.cell 9).trans HQ9.out
    have hlB := kB1.lt
    have KB1 := Lib.hid kB1
    clear hb kB kB1
    go_upto_region 4 with (at_builtin; refine wpList_append_any rfl _ _ 73 rfl w1.heap.size 71 i0 (.int .u16 0) 1 2 Try.underlying73 hi0 hz0 hz1 hz2 rfl (by decide) _ _ _ rfl (World.ownsRow_made w1 #[] 0 (Nat.le_refl _) (Nat.zero_le _) rfl) Ac nc cc (u16s g.cells) rfl (by rw [u16s_len, HNC.out, Nat.mul_one]) (by have h := (HRG.out.rc.below (HBE1.out.alloc HBE1.out.size (.cells #[] 71))).news; rw [HNC.out] at h; exact h) (u16s_one _) (by unfold maxLen; omega) (by omega) (by simp) ?_; intro v2 w2 hown2 hg2; rw [Nat.zero_add, List.nil_append] at hown2; have HB2 : Below w1.heap.size w1 w2 := ((Below.refl w1.heap.size w1).alloc (Nat.le_refl _) _).grown hg2 (by simp) (fun q e => by cases e; exact Nat.le_refl _); obtain ⟨a2, c2, rfl⟩ := own_slice hown2; have HRC2 := Lib.hid (RC.own (by rw [HNC.out]; exact hown2) HRG.out.rc.1); clear hown2 hg2)
    have KB2 := Lib.hid (KB1.out.below HB2)
    have HBE2 := Lib.hid (HBE1.out.trans (HB2.mono HBE1.out.size))
    have kB2 := KB2.out
    clear HB2 q9 hlB KB1 HBE1
    go_wp2_with (refine wpList_load_row rfl 79 (.tmp 3) rfl w.heap.size rfl 79 GV (0, 0) _ kB2 Try.underlying79 rfl hsz ?_)
    refine (KGr.out _).mono ?_
    rintro e w3 ⟨rfl, hb⟩
    have KB3 := Lib.hid (KB2.out.below hb)
    have HBE3 := Lib.hid (HBE2.out.trans (hb.mono HBE2.out.size))
    have HRC3 := Lib.hid (HRC2.out.below hb)
    clear hb kB2 KB2 HBE2 HRC2
    go_wp2_with fail
    refine (KO.out _ (HRG.out.below HBE3.out)).mono ?_
    rintro e w4 ⟨rfl, hb⟩
    have hbA : Below w4.heap.size w4 (w4.alloc (.cells #[.int .i64 N, .int .i64 D] 49)) := (Below.refl _ _).alloc (Nat.le_refl _) _
    have KB4 := Lib.hid ((KB3.out.below hb).below hbA)
    have HBE4 := Lib.hid ((HBE3.out.trans (hb.mono HBE3.out.size)).trans (hbA.mono (Nat.le_trans HBE3.out.size hb.size)))
    have HRC4 := Lib.hid ((HRC3.out.below hb).below hbA)
    have KS4 := Lib.hid (Blk.new w4 #[.int .i64 N, .int .i64 D] 49)
    clear hb hbA KB3 HBE3 HRC3
    go_upto_region 5 with (fail)
    obtain ⟨W4, hW4⟩ : ∃ W, w4.alloc (.cells #[.int .i64 N, .int .i64 D] 49) = W := ⟨_, rfl⟩
    rw [hW4] at KB4 HBE4 HRC4 KS4 ⊢
    have kB4 := KB4.out
    clear hW4
    go_wp2_with (refine wpList_load_row rfl 79 (.tmp 3) rfl w.heap.size rfl 79 GV (0, 0) _ kB4 Try.underlying79 rfl hsz ?_)
    refine (KR.out _ (HRG.out.below HBE4.out)).mono ?_
    rintro e w5 ⟨rfl, hb⟩
    have hbA : Below w5.heap.size w5 (w5.alloc (.cells #[.int .i64 N, .int .i64 D] 49)) := (Below.refl _ _).alloc (Nat.le_refl _) _
    have KB5 := Lib.hid ((KB4.out.below hb).below hbA)
    have HBE5 := Lib.hid ((HBE4.out.trans (hb.mono HBE4.out.size)).trans (hbA.mono (Nat.le_trans HBE4.out.size hb.size)))
    have HRC5 := Lib.hid ((HRC4.out.below hb).below hbA)
    have KS5 := Lib.hid ((KS4.out.below hb).below hbA)
    have KU5 := Lib.hid (Blk.new w5 #[.int .i64 N, .int .i64 D] 49)
    clear hb hbA KB4 HBE4 HRC4 KS4 kB4
    go_upto_region 6 with (fail)
    obtain ⟨W5, hW5⟩ : ∃ W, w5.alloc (.cells #[.int .i64 N, .int .i64 D] 49) = W := ⟨_, rfl⟩
    rw [hW5] at KB5 HBE5 HRC5 KS5 KU5 ⊢
    clear hW5
    have HRA := Lib.hid (HRG.out.rc.below HBE5.out)
    go_wp2_with fail
    go_loopw [38] (fun iv wr => ∃ k : Nat, k ≤ nc ∧ iv = .int .i64 k ∧ Hid (Below W5.heap.size W5 wr)) (fun iv _ => nc - (intOf iv).toNat)
    case atStart => exact ⟨0, Nat.zero_le _, rfl, Lib.hid (Below.refl _ _)⟩
    case round =>
      obtain ⟨k, hk, rfl, HBW⟩ := hrel
      have q9 : wr.cell? ⟨w.heap.size, 9, none⟩ = some (.slice Ac nc cc) := ((KB5.out.below HBW.out).cell 9).trans HQ9.out
      have hlB := (KB5.out.below HBW.out).lt
      by_cases hlt : k < nc
      · have hlt' : (k : Int) < nc := by omega
        obtain ⟨ad1, rfl, hx1, _, _⟩ := (HRA.out.below HBW.out).at (k := k) (by rw [HNC.out]; exact hlt)
        obtain ⟨ad2, rfl, hx2, _, _⟩ := (HRC5.out.below HBW.out).at (k := k) (by rw [HNC.out]; exact hlt)
        obtain ⟨x, hx⟩ : ∃ x, g.cells.getD k 0 = x := ⟨_, rfl⟩
        rw [hx] at hx1 hx2
        clear hx
        go_upto_region 9 with (fail)
        go_quiet (fail)
        go_wp2_with fail
        go_round
        case rel => exact ⟨k + 1, hlt, by go_num, Lib.hid (HBW.out.trans ⟨rfl, rfl, rfl, Nat.le_refl _, fun _ _ => rfl⟩)⟩
        case measure => simp [intOf]; omega
      · obtain rfl : nc = k := by omega
        go_wp2_with fail
        refine (fixed26_any _).mono ?_
        rintro e w6 ⟨rfl, hb⟩
        have HBE6 := Lib.hid ((HBE5.out.trans (HBW.out.mono HBE5.out.size)).trans (hb.mono (Nat.le_trans HBE5.out.size HBW.out.size)))
        have HBT := Lib.hid (HBW.out.trans (hb.mono HBW.out.size))
        obtain ⟨a0, a1⟩ : w6.cell? ⟨w4.heap.size, 0, none⟩ = some (.int .i64 N) ∧ w6.cell? ⟨w4.heap.size, 1, none⟩ = some (.int .i64 D) := ⟨(KS5.out.below HBT.out).cell 0, (KS5.out.below HBT.out).cell 1⟩
        obtain ⟨b0, b1⟩ : w6.cell? ⟨w5.heap.size, 0, none⟩ = some (.int .i64 N) ∧ w6.cell? ⟨w5.heap.size, 1, none⟩ = some (.int .i64 D) := ⟨(KU5.out.below HBT.out).cell 0, (KU5.out.below HBT.out).cell 1⟩
        have hl1 := (KS5.out.below HBT.out).lt
        have hl2 := (KU5.out.below HBT.out).lt
        have hq := fun (w : World) x0 x1 y0 y1 => eq_signed 9998 w x0 x1 y0 y1
        clear hb
        go_wp2_with fail
        go_ret
        exact ⟨ret_bool (by simp), HBE6.out⟩
end Go.Proofs.Ytpekofpiodaadaa.Hb
end

section
/- A column by which no tree splits, or whose cells are all alike, tells nothing: pure. -/
namespace Go.Proofs.Ytpekofpiodaadaa.Hb
set_option linter.unusedVariables false
open Go.RowKit

def splitsN (j : Int) (n : Nd) : Bool := n.f == j
def splitsT (j : Int) (t : List Nd) : Bool := t.any (splitsN j)
def sameC (g : Grv) (c i : Nat) : Bool := g.cells.getD (c * g.rows.toNat + i) 0 == g.cells.getD (c * g.rows.toNat) 0
def alikeC (g : Grv) (c : Nat) : Bool := (List.range g.rows.toNat).all (sameC g c)
theorem place_free {t : List Nd} {r s : List Int} {j : Nat} (hl : r.length = s.length) (hs : ∀ f, f ≠ j → r.getD f 0 = s.getD f 0) (hu : ∀ n ∈ t, n.f ≠ (j : Int)) : ∀ (k : Nat) (a : Int), placeGo t r k a = placeGo t s k a
  | 0, _ => rfl
  | k + 1, a => by
    rw [placeGo, placeGo, ← hl]
    by_cases h1 : a < 0 ∨ (t.length : Int) ≤ a
    · rw [if_pos h1, if_pos h1]
    · rw [if_neg h1, if_neg h1]
      by_cases h2 : (ndAt t a).f = -1
      · rw [if_pos h2, if_pos h2]
      · rw [if_neg h2, if_neg h2]
        by_cases h3 : (ndAt t a).f < 0 ∨ (r.length : Int) ≤ (ndAt t a).f
        · rw [if_pos h3, if_pos h3]
        · rw [if_neg h3, if_neg h3]
          have hm := hu _ (List.mem_of_getElem? (ndAt_get (t := t) (a := a) (by omega) (by omega)))
          have e : nextAt r (ndAt t a) = nextAt s (ndAt t a) := by
            unfold nextAt
            rw [hs _ (by omega)]
          rw [e]
          exact place_free hl hs hu k _
theorem leaves_free {r s : List Int} (i : Nat) : ∀ (ts : List (List Nd)) (ws : List (List Int)), (∀ t ∈ ts, placeO t r = placeO t s) → leavesGo r i ts ws = leavesGo s i ts ws
  | [], _, _ => rfl
  | _ :: _, [], _ => rfl
  | t :: ts, w :: ws, h => by
    rw [leavesGo, leavesGo, leaves_free i ts ws (fun t ht => h t (List.mem_cons_of_mem _ ht)), h t (List.mem_cons_self ..)]
theorem row_getD {rows cols : Int} {cells : List Int} {i f : Nat} : (rowO rows cols cells i).getD f 0 = if f < cols.toNat then cells.getD (f * rows.toNat + i) 0 else 0 := by
  unfold rowO
  rw [List.getD_eq_getElem?_getD, List.getElem?_map]
  by_cases h : f < cols.toNat
  · rw [List.getElem?_range h, if_pos h]; rfl
  · rw [List.getElem?_eq_none (by simpa using h), if_neg h]; rfl
theorem row_turn {rows cols : Int} {cells p : List Int} {c i f : Nat} (hi : i < rows.toNat) (hf : f ≠ c) : (rowO rows cols (turnO (c * rows.toNat) p cells rows.toNat) i).getD f 0 = (rowO rows cols cells i).getD f 0 := by
  rw [row_getD, row_getD]
  split
  · obtain ⟨n, hn⟩ : ∃ n, rows.toNat = n := ⟨_, rfl⟩
    rw [hn] at hi ⊢
    by_cases ht : f * n + i < cells.length
    · rw [turn_get ht, if_neg]
      rintro ⟨h1, h2⟩
      rcases Nat.lt_or_gt_of_ne hf with h | h
      · have := Nat.mul_le_mul_right n (show f + 1 ≤ c from h)
        rw [Nat.add_mul] at this
        omega
      · have := Nat.mul_le_mul_right n (show c + 1 ≤ f from h)
        rw [Nat.add_mul] at this
        omega
    · rw [List.getD_eq_getElem?_getD, List.getD_eq_getElem?_getD, List.getElem?_eq_none (by rw [turn_len]; omega), List.getElem?_eq_none (by omega)]
  · rfl
theorem unused_err {g : Grv} {c : Nat} {p : List Int} (h : g.trees.any (splitsT c) = false) : errO (turnG g c p) = errO g := by
  have hu : ∀ t ∈ g.trees, ∀ n ∈ t, n.f ≠ (c : Int) := fun t ht n hn e => by
    rw [List.any_eq_false] at h
    have h1 := h t ht
    unfold splitsT at h1
    rw [Bool.not_eq_true, List.any_eq_false] at h1
    exact h1 n hn (by unfold splitsN; rw [e]; simp)
  have hv : votesO (turnG g c p) = votesO g := by
    unfold votesO
    refine List.map_congr_left fun i hi => ?_
    have hi : i < g.rows.toNat := List.mem_range.1 hi
    have e : leavesO (turnG g c p) i = leavesO g i := by
      unfold leavesO
      refine leaves_free i _ _ (fun t ht => ?_)
      unfold placeO
      exact place_free (by rw [row_len, row_len]) (fun f hf => row_turn hi hf) (hu t ht) _ _
    unfold voteAt
    rw [e]
    rfl
  unfold errO
  rw [turnG_may, hv]
  rfl
theorem alike_err {g : Grv} {c : Nat} {p : List Int} (h : alikeC g c = true) (hp : p.Perm (rowI g.rows.toNat)) : errO (turnG g c p) = errO g := by
  have hs : ∀ i, i < g.rows.toNat → g.cells.getD (c * g.rows.toNat + i) 0 = g.cells.getD (c * g.rows.toNat) 0 := fun i hi => by
    unfold alikeC at h
    rw [List.all_eq_true] at h
    have := h i (by simpa using hi)
    unfold sameC at this
    simpa using this
  have e : turnO (c * g.rows.toNat) p g.cells g.rows.toNat = g.cells := getD_ext (turn_len ..) (fun t ht => by
    rw [turn_len] at ht
    rw [turn_get ht]
    split
    · rename_i hc
      have hin : (p.getD (t - c * g.rows.toNat) 0).toNat < g.rows.toNat := by
        rw [List.getD_eq_getElem?_getD]
        cases e : p[t - c * g.rows.toNat]? with
        | none => simp; omega
        | some x => have := perm_in hp x (List.mem_of_getElem? e); simp; omega
      rw [hs _ hin]
      have := hs (t - c * g.rows.toNat) (by omega)
      rw [show c * g.rows.toNat + (t - c * g.rows.toNat) = t from by omega] at this
      exact this.symm
    · rfl)
  unfold turnG
  rw [e]
theorem shakeR_perm {g : Grv} {seed : Int} {c : Nat} {p : List Int} (hn : g.rows.toNat ≤ 1048576) (h : shakeR g seed c = some p) : p.Perm (rowI g.rows.toNat) := by
  unfold shakeR at h
  exact permR_perm (k := 0) (Rk := (runO (numS (shakeKey seed c)) (stepPerm g.rows.toNat) (bndPerm g.rows.toNat) 0 (rowI g.rows.toNat) 0).2) hn (by rw [← h])
/-- What is told. -/
theorem tell_two (g : Grv) (seed : Int) (c : Nat) (hn : g.rows.toNat ≤ 1048576) : (tellO g seed c).2 = 7 ∨ (tellO g seed c).2 = 0 ∧ (g.trees.any (splitsT c) = false ∨ alikeC g c = true → (tellO g seed c).1.1 = 0) := by
  unfold tellO
  cases h : shakeR g seed c with
  | none => exact .inl rfl
  | some p =>
    refine .inr ⟨rfl, fun hu => ?_⟩
    have e : errO (turnG g c p) = errO g := by
      rcases hu with hu | hu
      · exact unused_err hu
      · exact alike_err hu (shakeR_perm hn h)
    show IntKind.i64.wrap ((errO (turnG g c p)).1 - (errO g).1) = 0
    rw [e, Int.sub_self]
    rfl
end Go.Proofs.Ytpekofpiodaadaa.Hb
end

section
/- The walk of the law ShakeUnused. -/
namespace Go.Proofs.Ytpekofpiodaadaa.Hb
set_option linter.unusedVariables false
set_option linter.unusedSimpArgs false
open Go.RowKit

theorem wpList_load_row_w {P : Program} {ops : Array Oper} {rest : List Oper} {o : Oper} {a : Act} {w : World} {Q : Exit → Act → World → Prop} (hw : Region.wanted o (yielded ops a.tmps) = true) (ty : TypeId) (x : Operand) (ho : o.op = .load ty x)
    (g : Nat) (hx : a.eval x = .pointer (some ⟨g, 0, none⟩)) (t : TypeId) (cs : Array Value) (fr : Nat × Nat) (d : TypeDesc) (hg : w.heap[g]? = some (.cells cs t fr))
    (hu : P.underlying ty = some d) (hd : (match d with | .struct _ | .array _ _ => true | _ => false) = true) (hi : (P.info? ty).map (·.size) = some cs.size)
    (h : wpList P ops Q rest (a.put o.dst (.agg cs)) w) : wpList P ops Q (o :: rest) a w := by
  unfold wpList
  rw [if_pos hw]
  exact .inl (wp_load_row ty x ho g hx t cs fr d hg hu hd hi h)
theorem any_snoc {α : Type} {p : α → Bool} {l : List α} {k : Nat} {x : α} (h : l[k]? = some x) : (l.take (k + 1)).any p = ((l.take k).any p || p x) := by
  obtain ⟨hk, rfl⟩ := List.getElem?_eq_some_iff.1 h
  rw [List.take_succ_eq_append_getElem hk, List.any_append]
  simp
set_option maxRecDepth 100000 in
set_option maxHeartbeats 8000000 in
theorem shk2_any (g : Grv) (seed colb : Int) (hsd : 0 ≤ seed ∧ seed ≤ 18446744073709551615) (hcb : 0 ≤ colb ∧ colb ≤ 255) (Ac At Aw Ag : Option Addr) (cc ct cw cg : Nat) (w : World) (hr : RG w g Ac At Aw Ag) (l1 : g.trees.length ≤ 9223372036854775807) (l2 : g.weights.length ≤ 9223372036854775807) :
    Calls Try.prog 12 #[.agg (grvA g Ac At Aw Ag cc ct cw cg), .int .u64 seed, .int .u8 colb] w (True0 w) := by
  have KG := Lib.hid (fun w hr => great_any g Ac At Aw Ag cc ct cw cg w hr l1 l2)
  have HRG := Lib.hid hr
  obtain ⟨GV, hGV⟩ : ∃ V, grvA g Ac At Aw Ag cc ct cw cg = V := ⟨_, rfl⟩
  have hsz : (Try.prog.info? 79).map (·.size) = some GV.size := by rw [← hGV]; kernel_rfl
  cases hgr : greatG g with
  | true =>
    rw [hgr, hGV] at KG
    rw [hGV]
    clear hGV hgr
    go_enter Try.func12, Try.ntmps12
    go_upto_region 1 with (fail)
    have kB := Blk.new w GV 79
    have HBE := Lib.hid ((Below.refl w.heap.size w).alloc (Nat.le_refl _) (.cells GV 79))
    go_wp2_with (refine wpList_load_row rfl 79 (.tmp 3) rfl w.heap.size rfl 79 GV (0, 0) _ kB Try.underlying79 rfl hsz ?_)
    refine (KG.out _ (HRG.out.below HBE.out)).mono ?_
    rintro e w1 ⟨rfl, hb⟩
    have HBE1 := Lib.hid (HBE.out.trans (hb.mono HBE.out.size))
    clear hb kB
    go_wp2_with fail
    refine (fixed26_any _).mono ?_
    rintro e w2 ⟨rfl, hb⟩
    have HBE2 := Lib.hid (HBE1.out.trans (hb.mono HBE1.out.size))
    clear hb
    go_wp2_with fail
    go_ret
    exact ⟨rfl, HBE2.out⟩
  | false =>
    have hok := great_ok hgr
    have KM := Lib.hid (fun w hr => rmay_any g Ac At Aw Ag cc ct cw cg w hok hr)
    cases hmay : mayG g with
    | false =>
      rw [hgr, hGV] at KG
      rw [hmay, hGV] at KM
      rw [hGV]
      clear hGV hgr hmay hok
      go_enter Try.func12, Try.ntmps12
      go_upto_region 1 with (fail)
      have kB := Blk.new w GV 79
      have HBE := Lib.hid ((Below.refl w.heap.size w).alloc (Nat.le_refl _) (.cells GV 79))
      go_wp2_with (refine wpList_load_row rfl 79 (.tmp 3) rfl w.heap.size rfl 79 GV (0, 0) _ kB Try.underlying79 rfl hsz ?_)
      refine (KG.out _ (HRG.out.below HBE.out)).mono ?_
      rintro e w1 ⟨rfl, hb⟩
      have HBE1 := Lib.hid (HBE.out.trans (hb.mono HBE.out.size))
      have kB1 := kB.below hb
      clear hb kB
      go_wp2_with (refine wpList_load_row_w rfl 79 (.tmp 3) rfl w.heap.size rfl 79 GV (0, 0) _ kB1 Try.underlying79 rfl hsz ?_)
      refine (KM.out _ (HRG.out.below HBE1.out)).mono ?_
      rintro e w2 ⟨rfl, hb⟩
      have HBE2 := Lib.hid (HBE1.out.trans (hb.mono HBE1.out.size))
      clear hb kB1
      go_wp2_with fail
      refine (fixed26_any _).mono ?_
      rintro e w3 ⟨rfl, hb⟩
      have HBE3 := Lib.hid (HBE2.out.trans (hb.mono HBE2.out.size))
      clear hb
      go_wp2_with fail
      go_ret
      exact ⟨rfl, HBE3.out⟩
    | true =>
      have hrows := great_rows hgr hmay
      have hcn : g.cells.length ≤ 400 := by have := (great_not hgr).1; unfold greatH at this; omega
      obtain ⟨_, hmat, hc1, hc2, _, _⟩ := head_is (may_is hmay).1
      have hm0 : matB g.rows g.cols g.cells.length = true := decide_eq_true hmat
      obtain ⟨n, hn⟩ := Int.eq_ofNat_of_zero_le hmat.1.1
      have hnt0 : g.rows.toNat = n := by omega
      have hnn : n ≤ 100 := by omega
      obtain ⟨c, hc⟩ := Int.eq_ofNat_of_zero_le (show 0 ≤ colb % g.cols from Int.emod_nonneg _ (by omega))
      have hcl : (c : Int) < g.cols := by have := Int.emod_lt_of_pos colb (show (0 : Int) < g.cols by omega); omega
      have hsO : shakeO g seed c = tellO g seed c := by unfold shakeO; rw [if_pos ⟨hmay, by omega, hcl⟩, Int.toNat_natCast]
      have KO := Lib.hid (fun w hr => sOne_any g Ac At Aw Ag cc ct cw cg seed c w hok (fun _ => by omega) (by omega) hsd hr)
      have hT2 := tell_two g seed c (by omega)
      rw [hsO] at KO
      obtain ⟨⟨⟨N, D⟩, E⟩, hE⟩ : ∃ x, tellO g seed c = x := ⟨_, rfl⟩
      rw [hE] at KO hT2
      unfold tellV at KO
      simp only at KO hT2
      have KGr := Lib.hid (fun w => grove26_any g Ac At Aw Ag cc ct cw cg w)
      have HIX := Lib.hid (fun (i : Nat) (hi : i < n) => mat_idx (by rw [← hn]; exact hm0) hcl hi)
      have HSAME : Hid (∀ i, sameC g c i = (g.cells.getD (c * n + i) 0 == g.cells.getD (c * n) 0)) := Lib.hid (fun i => by unfold sameC; rw [hnt0])
      have HALL : Hid (alikeC g c = (List.range n).all (sameC g c)) := Lib.hid (by unfold alikeC; rw [hnt0])
      rw [hgr, hGV] at KG
      rw [hmay, hGV] at KM
      rw [hGV] at KO KGr ⊢
      obtain ⟨nc, hnc⟩ : ∃ n, g.cells.length = n := ⟨_, rfl⟩
      obtain ⟨nt, hnt⟩ : ∃ n, g.trees.length = n := ⟨_, rfl⟩
      obtain ⟨cols, hcols⟩ : ∃ n, g.cols = n := ⟨_, rfl⟩
      have HQ7 : Hid (GV[7]? = some (.int .i64 n)) := Lib.hid (by rw [← hGV, ← hn]; rfl)
      have HQ8 : Hid (GV[8]? = some (.int .i64 cols)) := Lib.hid (by rw [← hGV, ← hcols]; rfl)
      have HQ9 : Hid (GV[9]? = some (.slice Ac nc cc)) := Lib.hid (by rw [← hGV, ← hnc]; rfl)
      have HQ10 : Hid (GV[10]? = some (.slice At nt ct)) := Lib.hid (by rw [← hGV, ← hnt]; rfl)
      have HNC := Lib.hid hnc
      have HNT := Lib.hid hnt
      have HT2 := Lib.hid hT2
      have hnt10 : nt ≤ 10 := by have := (great_not hgr).1; unfold greatH at this; omega
      have HT100 := Lib.hid (great_not hgr).2.1
      obtain ⟨P, hP⟩ : ∃ P, c * n = P := ⟨_, rfl⟩
      rw [hcols] at hc hcl hc1 hc2
      rw [hnc] at hcn HIX
      rw [hP] at HIX HSAME
      have wP : IntKind.i64.wrap ((c : Int) * (n : Int)) = (P : Int) := by
        rw [← Int.natCast_mul, hP, IntKind.wrap_i64]
        have : P ≤ 1024 * 100 := by
          rw [← hP]
          exact Nat.mul_le_mul (show c ≤ 1024 by omega) (show n ≤ 100 by omega)
        omega
      have wb : IntKind.i64.wrap colb = colb := by rw [IntKind.wrap_i64]; omega
      have tb : colb.tmod cols = (c : Int) := by rw [Int.tmod_eq_emod_of_nonneg hcb.1]; exact hc
      have hcb0 := hcb.1
      have hcb1 := hcb.2
      have hc0 : cols ≠ 0 := by omega
      clear hGV hgr hmay hok hrows hE hr hnc hnt hcols hmat hm0 hnt0 hsO hT2 hP hn hcb
      go_enter Try.func12, Try.ntmps12
      go_upto_region 1 with (fail)
      have kB := Blk.new w GV 79
      have HBE := Lib.hid ((Below.refl w.heap.size w).alloc (Nat.le_refl _) (.cells GV 79))
      go_wp2_with (refine wpList_load_row rfl 79 (.tmp 3) rfl w.heap.size rfl 79 GV (0, 0) _ kB Try.underlying79 rfl hsz ?_)
      refine (KG.out _ (HRG.out.below HBE.out)).mono ?_
      rintro e w1 ⟨rfl, hb⟩
      have HBE1 := Lib.hid (HBE.out.trans (hb.mono HBE.out.size))
      have kB1 := kB.below hb
      have KB1 := Lib.hid kB1
      clear hb kB
      go_wp2_with (refine wpList_load_row_w rfl 79 (.tmp 3) rfl w.heap.size rfl 79 GV (0, 0) _ kB1 Try.underlying79 rfl hsz ?_)
      refine (KM.out _ (HRG.out.below HBE1.out)).mono ?_
      rintro e w2 ⟨rfl, hb⟩
      have HBE2 := Lib.hid (HBE1.out.trans (hb.mono HBE1.out.size))
      have KB2 := Lib.hid (KB1.out.below hb)
      have q8 : w2.cell? ⟨w.heap.size, 8, none⟩ = some (.int .i64 cols) := (KB2.out.cell 8).trans HQ8.out
      have q10 : w2.cell? ⟨w.heap.size, 10, none⟩ = some (.slice At nt ct) := (KB2.out.cell 10).trans HQ10.out
      have hlB := KB2.out.lt
      clear hb kB1 KB1 HBE1
      go_upto_region 6 with (fail)
      clear q8 q10 hlB wb tb
      go_loopw [8, 34] (fun uv iv wr => ∃ (k : Nat) (u : Bool), k ≤ nt ∧ iv = .int .i64 k ∧ uv = .bool u ∧ Hid (u = (g.trees.take k).any (splitsT c)) ∧ Hid (Below w2.heap.size w2 wr)) (fun _ iv _ => nt - (intOf iv).toNat)
      case atStart => exact ⟨0, false, Nat.zero_le _, rfl, rfl, Lib.hid rfl, Lib.hid (Below.refl _ _)⟩
      case round =>
        obtain ⟨k, u, hk, rfl, rfl, HU, HBW⟩ := hrel
        obtain ⟨wo, hwo⟩ : ∃ x, x = wr := ⟨_, rfl⟩
        subst hwo
        by_cases hlt : k < nt
        · have hlt' : (k : Int) < nt := by omega
          obtain ⟨adt, rfl, tr, Bt, capt, ht1, ht2, ht3, ht4, ht5⟩ := (HRG.out.below (HBE2.out.trans (HBW.out.mono HBE2.out.size))).rt.at (i := k) (by rw [HNT.out]; exact hlt)
          have HTR := Lib.hid ht1
          have HRN := Lib.hid ht5
          have hm100 := HT100.out tr (List.mem_of_getElem? ht1)
          obtain ⟨m, hm⟩ : ∃ m, tr.length = m := ⟨_, rfl⟩
          have HM := Lib.hid hm
          rw [hm] at ht2 ht3 hm100
          clear ht1 ht5 hm
          go_wp2_with fail
          go_loopw [8, 40] (fun uv iv wi => ∃ (i : Nat) (v : Bool), i ≤ m ∧ iv = .int .i64 i ∧ uv = .bool v ∧ Hid (v = (u || (tr.take i).any (splitsN c))) ∧ Hid (Below wo.heap.size wo wi)) (fun _ iv _ => m - (intOf iv).toNat)
          case atStart => exact ⟨0, u, Nat.zero_le _, rfl, rfl, Lib.hid (by simp), Lib.hid (Below.refl _ _)⟩
          case round =>
            obtain ⟨i, v, hi, rfl, rfl, HV, HBI⟩ := hrel
            by_cases hil : i < m
            · have hil' : (i : Int) < m := by omega
              obtain ⟨ad, rfl, x, hx, hxok, hat⟩ := (HRN.out.below HBI.out).at (i := i) (by rw [HM.out]; exact hil)
              have HS := Lib.hid (any_snoc (p := splitsN c) hx)
              have HSN : Hid (splitsN c x = (x.f == (c : Int))) := Lib.hid rfl
              obtain ⟨p0, p1, p2, p3, p4, p5⟩ := hat
              obtain ⟨f, b, ll, c5, sx, q⟩ := x
              simp only at p0 p1 p2 p3 p4 p5 HSN
              clear hx hxok
              cases v with
              | true =>
                go_wp2_with fail
                go_roundw
                case rel => exact ⟨i + 1, true, hil, by go_num, rfl, Lib.hid (by rw [HS.out, ← Bool.or_assoc, ← HV.out]; rfl), Lib.hid (HBI.out.alloc HBI.out.size _)⟩
                case measure => simp [intOf]; omega
              | false =>
                go_wp2_with fail
                go_roundw
                case rel => exact ⟨i + 1, (f == (c : Int)), hil, by go_num, rfl, Lib.hid (by rw [HS.out, ← Bool.or_assoc, ← HV.out, HSN.out]; rfl), Lib.hid (HBI.out.alloc HBI.out.size _)⟩
                case measure => simp [intOf]; omega
            · obtain rfl : m = i := by omega
              have HE : Hid (v = (g.trees.take (k + 1)).any (splitsT c)) := Lib.hid (by
                rw [any_snoc HTR.out, ← HU.out, HV.out, List.take_of_length_le (by rw [HM.out]; exact Nat.le_refl _)]; rfl)
              go_wp2_with fail
              go_roundw
              case rel => exact ⟨k + 1, v, hlt, by go_num, rfl, HE, Lib.hid (HBW.out.trans (HBI.out.mono HBW.out.size))⟩
              case measure => simp [intOf]; omega
        · obtain rfl : nt = k := by omega
          have HUU : Hid (u = g.trees.any (splitsT c)) := Lib.hid (by rw [HU.out, List.take_of_length_le (by rw [HNT.out]; exact Nat.le_refl _)])
          have HBE3 := Lib.hid (HBE2.out.trans (HBW.out.mono HBE2.out.size))
          have KB3 := Lib.hid (KB2.out.below HBW.out)
          obtain ⟨w3, hw3⟩ : ∃ x, x = wo := ⟨_, rfl⟩
          subst hw3
          have q7 : w3.cell? ⟨w.heap.size, 7, none⟩ = some (.int .i64 n) := (KB3.out.cell 7).trans HQ7.out
          have hlB := KB3.out.lt
          clear HU HBW HBE2 KB2
          go_upto_region 15 with (fail)
          clear q7 hlB
          go_loopw [9, 56] (fun av iv wr => ∃ (i : Nat) (a : Bool), i ≤ n ∧ iv = .int .i64 i ∧ av = .bool a ∧ Hid (a = (List.range i).all (sameC g c)) ∧ Hid (Below w3.heap.size w3 wr)) (fun _ iv _ => n - (intOf iv).toNat)
          case atStart => exact ⟨0, true, Nat.zero_le _, rfl, rfl, Lib.hid rfl, Lib.hid (Below.refl _ _)⟩
          case round =>
            obtain ⟨i, a, hi, rfl, rfl, HA, HBA⟩ := hrel
            obtain ⟨w4, hw4⟩ : ∃ x, x = wr := ⟨_, rfl⟩
            subst hw4
            have KB4 := Lib.hid (KB3.out.below HBA.out)
            have HBE4 := Lib.hid (HBE3.out.trans (HBA.out.mono HBE3.out.size))
            by_cases hil : i < n
            · have hil' : (i : Int) < n := by omega
              have HNX : Hid ((List.range (i + 1)).all (sameC g c) = (a && sameC g c i)) := Lib.hid (by rw [List.range_succ, List.all_append, ← HA.out]; simp)
              cases a with
              | false =>
                go_upto_region 17 with (fail)
                go_quiet (fail)
                go_wp2_with fail
                go_roundw
                case rel => exact ⟨i + 1, false, hil, by go_num, rfl, Lib.hid (by rw [HNX.out]; rfl), Lib.hid (HBA.out.trans ⟨rfl, rfl, rfl, Nat.le_refl _, fun _ _ => rfl⟩)⟩
                case measure => simp [intOf]; omega
              | true =>
                obtain ⟨b1, b2, b3, b4⟩ := HIX.out i hil
                have hsm := HSAME.out i
                obtain ⟨ad, rfl, hx1, _, _⟩ := (HRG.out.rc.below HBE4.out).at (k := P + i) (by rw [HNC.out]; exact b1)
                obtain ⟨ad', e', hx2, _, _⟩ := (HRG.out.rc.below HBE4.out).at (k := P) (by rw [HNC.out]; omega)
                cases e'
                obtain ⟨x, hx⟩ : ∃ x, g.cells.getD (P + i) 0 = x := ⟨_, rfl⟩
                obtain ⟨y, hy⟩ : ∃ x, g.cells.getD P 0 = x := ⟨_, rfl⟩
                rw [hx] at hx1 hsm
                rw [hy] at hx2 hsm
                have HSM := Lib.hid hsm
                have q7 : w4.cell? ⟨w.heap.size, 7, none⟩ = some (.int .i64 n) := (KB4.out.cell 7).trans HQ7.out
                have q9 : w4.cell? ⟨w.heap.size, 9, none⟩ = some (.slice (some ad) nc cc) := (KB4.out.cell 9).trans HQ9.out
                have hlB := KB4.out.lt
                have w2' : IntKind.i64.wrap ((P : Int) + i) = ((P + i : Nat) : Int) := by rw [IntKind.wrap_i64]; omega
                obtain ⟨q1, hq1⟩ : ∃ q, P + i = q := ⟨_, rfl⟩
                rw [hq1] at b1 hx1 w2'
                have b5 : (q1 : Int) < nc := by omega
                have b6 : (P : Int) < nc := by omega
                clear hx hy hsm hq1 b2 b3 b4
                go_upto_region 17 with (fail)
                go_quiet (fail)
                go_wp2_with fail
                go_roundw
                case rel => exact ⟨i + 1, (x == y), hil, by go_num, rfl, Lib.hid (by rw [HNX.out, HSM.out]; rfl), Lib.hid (HBA.out.trans ⟨rfl, rfl, rfl, Nat.le_refl _, fun _ _ => rfl⟩)⟩
                case measure => simp [intOf]; omega
            · obtain rfl : n = i := by omega
              have HAA : Hid (a = alikeC g c) := Lib.hid (by rw [HA.out, HALL.out])
              have kB4 := KB4.out
              clear HA HBA HBE3 KB3
              go_upto_region 19 with (fail)
              go_wp2_with (refine wpList_load_row rfl 79 (.tmp 3) rfl w.heap.size rfl 79 GV (0, 0) _ kB4 Try.underlying79 rfl hsz ?_)
              refine (KGr.out _).mono ?_
              rintro e w5 ⟨rfl, hb⟩
              have HBE5 := Lib.hid (HBE4.out.trans (hb.mono HBE4.out.size))
              clear hb kB4 KB4 HBE4
              go_wp2_with fail
              refine (KO.out _ (HRG.out.below HBE5.out)).mono ?_
              rintro e w6 ⟨rfl, hb⟩
              have HBE6 := Lib.hid ((HBE5.out.trans (hb.mono HBE5.out.size)).alloc (Nat.le_trans HBE5.out.size hb.size) (.cells #[.int .i64 N, .int .i64 D] 49))
              have KS := Lib.hid (Blk.new w6 #[.int .i64 N, .int .i64 D] 49)
              clear hb HBE5
              go_upto_region 20 with (fail)
              obtain ⟨W6, hW6⟩ : ∃ W, w6.alloc (.cells #[.int .i64 N, .int .i64 D] 49) = W := ⟨_, rfl⟩
              rw [hW6] at HBE6 KS ⊢
              clear hW6
              rcases HT2.out with rfl | ⟨rfl, hz⟩
              · go_wp2_with fail
                refine (fixed26_any _).mono ?_
                rintro e w7 ⟨rfl, hb⟩
                have HBE7 := Lib.hid (HBE6.out.trans (hb.mono HBE6.out.size))
                clear hb
                go_wp2_with fail
                go_ret
                exact ⟨rfl, HBE7.out⟩
              · have hz2 : (u = true ∧ a = false) ∨ N = 0 := by
                  cases hu : u with
                  | false => exact .inr (hz (.inl (by rw [← HUU.out, hu])))
                  | true =>
                    cases ha : a with
                    | true => exact .inr (hz (.inr (by rw [← HAA.out, ha])))
                    | false => exact .inl ⟨rfl, rfl⟩
                clear hz
                go_wp2_with fail
                refine (fixed26_any _).mono ?_
                rintro e w7 ⟨rfl, hb⟩
                have HBE7 := Lib.hid (HBE6.out.trans (hb.mono HBE6.out.size))
                have kS7 := KS.out.below hb
                have s0 : w7.cell? ⟨w6.heap.size, 0, none⟩ = some (.int .i64 N) := kS7.cell 0
                have hlS := kS7.lt
                clear hb kS7
                rcases hz2 with ⟨rfl, rfl⟩ | rfl
                · go_wp2_with fail
                  go_ret
                  exact ⟨rfl, HBE7.out⟩
                · cases u <;> cases a
                  all_goals
                    go_wp2_with fail
                    go_ret
                    exact ⟨rfl, HBE7.out⟩
end Go.Proofs.Ytpekofpiodaadaa.Hb
end

section
/- How a grove among the arguments is read. -/
namespace Go.Proofs.Ytpekofpiodaadaa.Hb
set_option linter.unusedVariables false
open Go.RowKit Go.ChangeShapes Go.WideShapes Go.Deep

def intR : List Value → Prop := intK .i64 (-9223372036854775808) 9223372036854775807
section
variable {T : Type} {enc : TypeId × Value → T} {W : World} {base : Nat} {sp : Nat → Bool} {held : Bool}
theorem rds_i64 {t : TypeId} (hu : Try.prog.underlying t = some (.int .i64)) : Rds enc Try.prog W base sp held t intR := rds_int _ _ hu rfl rfl
def irow (k : IntKind) (lo hi : Int) (W : World) (cs : List Value) : Prop := ∃ l : List Int, rowK W 1 (fun y c => c = [.int k y] ∧ lo ≤ y ∧ y ≤ hi) l cs
theorem rds_irow {t e : TypeId} {k : IntKind} (lo hi : Int) (hu : Try.prog.underlying t = some (.slice e)) (he : Try.prog.underlying e = some (.int k)) (hc : Try.prog.cellsOf e = 1) (hlo : k.min = lo) (hhi : k.max = hi) : Rds enc Try.prog W base sp held t (irow k lo hi W) :=
  rds_slice 1 hu hc (rds_int lo hi he hlo hhi)
def cfgK : List Value → Prop := Parts [intR, intR, intR, intR, intR, intR, intR]
theorem rds_cfg : Rds enc Try.prog W base sp held 45 cfgK :=
  rds_struct Try.underlying45 (by kernel_rfl) ⟨rfl, rds_i64 Try.underlying3, by kernel_rfl, rds_i64 Try.underlying3, by kernel_rfl, rds_i64 Try.underlying3, by kernel_rfl, rds_i64 Try.underlying3, by kernel_rfl, rds_i64 Try.underlying3, by kernel_rfl, rds_i64 Try.underlying3, by kernel_rfl, rds_i64 Try.underlying3, trivial⟩
def matK (W : World) : List Value → Prop := Parts [intR, intR, irow .u16 0 65535 W]
theorem rds_mat : Rds enc Try.prog W base sp held 75 (matK W) :=
  rds_struct Try.underlying75 (by kernel_rfl) ⟨rfl, rds_i64 Try.underlying3, by kernel_rfl, rds_i64 Try.underlying3, by kernel_rfl, rds_irow 0 65535 Try.underlying73 Try.underlying71 (by kernel_rfl) rfl rfl, trivial⟩
def nodeK : List Value → Prop := fun cs => ∃ x, ndR x cs
theorem rds_node : Rds enc Try.prog W base sp held 90 nodeK :=
  (rds_struct Try.underlying90 (by kernel_rfl) (Ks := [intR, intR, intR, intR, intR, intR]) ⟨rfl, rds_i64 Try.underlying3, by kernel_rfl, rds_i64 Try.underlying3, by kernel_rfl, rds_i64 Try.underlying3, by kernel_rfl, rds_i64 Try.underlying3, by kernel_rfl, rds_i64 Try.underlying2, by kernel_rfl, rds_i64 Try.underlying2, trivial⟩).mono fun cs h => by
    obtain ⟨_, _, rfl, ⟨f, rfl, hf⟩, _, _, rfl, ⟨b, rfl, hb⟩, _, _, rfl, ⟨l, rfl, hl⟩, _, _, rfl, ⟨c, rfl, hc⟩, _, _, rfl, ⟨s, rfl, hs⟩, _, _, rfl, ⟨k, rfl, hk⟩, rfl⟩ := h
    exact ⟨⟨f, b, l, c, s, k⟩, rfl, hf, hb, hl, hc, hs, hk⟩
def treeK (W : World) (cs : List Value) : Prop := ∃ t : List Nd, rowK W 6 ndR t cs
theorem rds_tree : Rds enc Try.prog W base sp held 88 (treeK W) := rds_slice 6 Try.underlying88 (by kernel_rfl) rds_node
def treesK (W : World) (cs : List Value) : Prop := ∃ l : List (List Nd), rowK W 1 (rowK W 6 ndR) l cs
theorem rds_trees : Rds enc Try.prog W base sp held 47 (treesK W) := rds_slice 1 Try.underlying47 (by kernel_rfl) rds_tree
def iK (W : World) (cs : List Value) : Prop := ∃ t : List Int, rowK W 1 intR1 t cs
theorem rds_ints {t e : TypeId} (hu : Try.prog.underlying t = some (.slice e)) (he : Try.prog.underlying e = some (.int .i64)) (hc : Try.prog.cellsOf e = 1) : Rds enc Try.prog W base sp held t (iK W) := rds_slice 1 hu hc ((rds_i64 he).mono fun cs h => by obtain ⟨n, e, h1, h2⟩ := h; exact ⟨n, e, h1, h2⟩)
def wgtK (W : World) (cs : List Value) : Prop := ∃ l : List (List Int), rowK W 1 (rowK W 1 intR1) l cs
theorem rds_wgts : Rds enc Try.prog W base sp held 76 (wgtK W) := rds_slice 1 Try.underlying76 (by kernel_rfl) (rds_ints Try.underlying24 Try.underlying3 (by kernel_rfl))
theorem rds_grv : Rds enc Try.prog W base sp held 79 (Parts [cfgK, matK W, treesK W, wgtK W, iK W]) :=
  rds_struct Try.underlying79 (by kernel_rfl) ⟨rfl, rds_cfg, by kernel_rfl, rds_mat, by kernel_rfl, rds_trees, by kernel_rfl, rds_wgts, by kernel_rfl, rds_ints Try.underlying77 Try.underlying2 (by kernel_rfl), trivial⟩
/-- A grove, read. -/
def IsGrv (W : World) (v : Value) : Prop := ∃ (g : Grv) (Ac At Aw Ag : Option Addr) (cc ct cw cg : Nat), v = .agg (grvA g Ac At Aw Ag cc ct cw cg) ∧ RG W g Ac At Aw Ag ∧ g.cells.length ≤ 9223372036854775807 ∧ g.trees.length ≤ 9223372036854775807 ∧ g.weights.length ≤ 9223372036854775807 ∧ g.tgt.length ≤ 9223372036854775807
set_option maxRecDepth 100000 in
theorem read_grv {r : Reach} {b0 : Nat} {v : Value} {d : DataW T} {p : List MemPlace} (hv : Value.okWide Try.prog W r b0 79 v) (h : DataW.Trod enc Try.prog W base sp held 79 v d p) : IsGrv W v := by
  obtain ⟨cs, rfl, q1, q2, rfl, hc, q3, q4, rfl, hm, q5, q6, rfl, ht, q7, q8, rfl, hw, q9, q10, rfl, hg, rfl⟩ := open_agg Try.underlying79 hv h rds_grv
  obtain ⟨_, _, rfl, ⟨k, rfl, _⟩, _, _, rfl, ⟨cl, rfl, _⟩, _, _, rfl, ⟨b, rfl, _⟩, _, _, rfl, ⟨t, rfl, _⟩, _, _, rfl, ⟨dd, rfl, _⟩, _, _, rfl, ⟨l, rfl, _⟩, _, _, rfl, ⟨pp, rfl, _⟩, rfl⟩ := hc
  obtain ⟨_, _, rfl, ⟨rows, rfl, _⟩, _, _, rfl, ⟨cols, rfl, _⟩, _, _, rfl, ⟨cells, Ac, cc, rfl, lc, mc, rc⟩, rfl⟩ := hm
  obtain ⟨trees, At, ct, rfl, lt, mt, rt⟩ := ht
  obtain ⟨wgts, Aw, cw, rfl, lw, mw, rw⟩ := hw
  obtain ⟨tgt, Ag, cg, rfl, lg, mg, rg⟩ := hg
  exact ⟨⟨k, cl, b, t, dd, l, pp, rows, cols, cells, trees, wgts, tgt⟩, Ac, At, Aw, Ag, cc, ct, cw, cg, rfl, ⟨rc.ints, rt, rw, rg⟩, Nat.le_trans lc mc, Nat.le_trans lt mt, Nat.le_trans lw mw, Nat.le_trans lg mg⟩
end
end Go.Proofs.Ytpekofpiodaadaa.Hb
end

section
/- The law ShakeUnused, of whatever reads as its arguments. -/
namespace Go.Proofs.Ytpekofpiodaadaa.Hb
set_option linter.unusedVariables false
open Go.RowKit
theorem shk2_row (w : World) (v : Value) (h : IsGrv w v) (s : Int) (ws : (Lit.int .u64 s).wf = true) (c : Int) (wc : (Lit.int .u8 c).wf = true) : Calls Try.prog 12 #[v, .int .u64 s, .int .u8 c] w (True0 w) := by
  obtain ⟨g, Ac, At, Aw, Ag, cc, ct, cw, cg, rfl, hr, _, h2, h3, _⟩ := h
  exact shk2_any g s c (by simp [Lit.wf, IntKind.min, IntKind.max, IntKind.signed, IntKind.bits] at ws; omega) (by simp [Lit.wf, IntKind.min, IntKind.max, IntKind.signed, IntKind.bits] at wc; omega) Ac At Aw Ag cc ct cw cg w hr h2 h3
end Go.Proofs.Ytpekofpiodaadaa.Hb
end

section
/- A run of one goroutine alone, in the form of a row that says 'leaving'. -/
namespace Go.Proofs.Ytpekofpiodaadaa.Hb
theorem leaving_of_handed {a : Assume} {C : Checked} {os : Os} {f : FuncId} {r : Reach} {Pre : World → Array Value → Prop} {Post : World → Array Value → Value → World → Prop} (h : ReturnsInHanded a C os f r Pre Post) : ReturnsInLeavingWide a C os f r Pre Post := fun enter =>
  let ⟨h0, h1, h2, h3, h4⟩ := h enter
  ⟨h0, h1, h2, h3, fun w tape i hf =>
    let ⟨n, v, w', e, c, ro, po, ⟨j, last, hj, hs, ha⟩, al⟩ := h4 w tape i hf
    ⟨n, v, w', e, c, ro, po, ⟨j, last, hj, hs, ha.2.1, onlyLeaving_of_quiet ha.1, ha.2.2⟩, al⟩⟩
end Go.Proofs.Ytpekofpiodaadaa.Hb
end

/- Texts joined: the walks and the plain laws that the claim ModelPuts rests on. -/
import Derived.Test.YtpekofpiodaadaaMModelPuts5
import Derived.Test.YtpekofpiodaadaaMModelPuts4
import Derived.Test.YtpekofpiodaadaaRows
import Derived.Conc.Holds
import Derived.Leaving
section
/- The walk of ref28.Put. -/
namespace Go.Proofs.Ytpekofpiodaadaa.Hb
set_option linter.unusedVariables false
set_option linter.unusedSimpArgs false
open Go.RowKit

theorem flat_take_le {α : Type} (g : α → List Nat) (l : List α) (j : Nat) : ((l.take j).flatMap g).length ≤ (l.flatMap g).length := by
  have h : l.flatMap g = (l.take j).flatMap g ++ (l.drop j).flatMap g := by rw [← List.flatMap_append, List.take_append_drop]
  rw [h, List.length_append]
  omega
theorem strB_nil : strB [] = ⟨#[]⟩ := rfl
theorem strB_tree : strB [84, 82, 69, 69] = ⟨#[84, 82, 69, 69]⟩ := rfl
theorem be_tree : beN 1414677829 4 = [84, 82, 69, 69] := by decide
theorem add_tree (m : List Nat) (hm : m.length ≤ 8388608) : ∀ w, (Op.stringOp .add ⟨#[84, 82, 69, 69]⟩ (strB m)).run Try.prog w = .ok (.string (strB ([84, 82, 69, 69] ++ m))) w := by
  intro w
  have h := add_strN [84, 82, 69, 69] m (by simp) hm w
  rw [strB_tree] at h
  exact h
set_option maxRecDepth 100000 in
set_option maxHeartbeats 8000000 in
theorem rput28_no (f : Fst) (Ae At As : Option Addr) (ce ct cs : Nat) (w : World) (hok : OkF f) (hr : RFo w f Ae At As) (hin : in64 f.num ∧ in64 f.den ∧ ∀ x ∈ f.shake, in64 x.1 ∧ in64 x.2) (hmay : mayF f = false) :
    Calls Try.prog 33 #[.agg (forA f Ae At As ce ct cs)] w fun e w' => e = .returned (.tuple #[.string (strB []), .int .i64 8]) ∧ Below w.heap.size w w' := by
  have KM := Lib.hid (fun w hr => rmay28_any f Ae At As ce ct cs w hok hr hin)
  rw [hmay] at KM
  have HRF := Lib.hid hr
  unfold forA at KM ⊢
  obtain ⟨ne, hne⟩ : ∃ n, f.edges.length = n := ⟨_, rfl⟩
  obtain ⟨nt, hnt⟩ : ∃ n, f.trees.length = n := ⟨_, rfl⟩
  obtain ⟨ns, hns⟩ : ∃ n, f.shake.length = n := ⟨_, rfl⟩
  rw [hne, hnt, hns] at KM ⊢
  obtain ⟨k, cl, b, tt, d, l, p, cols, seed, edges, trees, num, den, shake⟩ := f
  simp only at KM HRF ⊢
  clear hne hnt hns hok hr hin hmay
  go_enter Try.func33, Try.ntmps33
  go_upto_region 1 with (fail)
  have KBX := Blk.new w #[.int .i64 k, .int .i64 cl, .int .i64 b, .int .i64 tt, .int .i64 d, .int .i64 l, .int .i64 p, .int .i64 cols, .int .u64 (seed : Int), .slice Ae ne ce, .slice At nt ct, .int .i64 num, .int .i64 den, .slice As ns cs] 59
  have HBE := Lib.hid ((Below.refl w.heap.size w).alloc (Nat.le_refl _) (.cells #[.int .i64 k, .int .i64 cl, .int .i64 b, .int .i64 tt, .int .i64 d, .int .i64 l, .int .i64 p, .int .i64 cols, .int .u64 (seed : Int), .slice Ae ne ce, .slice At nt ct, .int .i64 num, .int .i64 den, .slice As ns cs] 59))
  obtain ⟨W, hW⟩ : ∃ W, w.alloc (.cells #[.int .i64 k, .int .i64 cl, .int .i64 b, .int .i64 tt, .int .i64 d, .int .i64 l, .int .i64 p, .int .i64 cols, .int .u64 (seed : Int), .slice Ae ne ce, .slice At nt ct, .int .i64 num, .int .i64 den, .slice As ns cs] 59) = W := ⟨_, rfl⟩
  rw [hW] at KBX HBE ⊢
  clear hW
  go_wp2_with (refine wpList_load_row rfl 59 (.tmp 1) rfl w.heap.size rfl 59 _ (0, 0) _ KBX Try.underlying59 rfl forest_size ?_)
  refine (KM.out _ (HRF.out.below HBE.out)).mono ?_
  rintro e w1 ⟨rfl, hb⟩
  go_wp2_with fail
  go_ret2
  exact ⟨by rw [strB_nil]; rfl, HBE.out.trans (hb.mono HBE.out.size)⟩
set_option maxRecDepth 100000 in
set_option maxHeartbeats 16000000 in
theorem rput28_any (f : Fst) (Ae At As : Option Addr) (ce ct cs : Nat) (w : World) (hok : OkF f) (hr : RFo w f Ae At As) (hin : in64 f.num ∧ in64 f.den ∧ ∀ x ∈ f.shake, in64 x.1 ∧ in64 x.2) (hsd : f.seed < 18446744073709551616) (hmay : mayF f = true) (htl : ∀ t ∈ f.trees, t.length ≤ 600000) (hbig : (putF f).length ≤ 8388608) :
    Calls Try.prog 33 #[.agg (forA f Ae At As ce ct cs)] w fun e w' => e = .returned (.tuple #[.string (strB (putF f)), .int .i64 0]) ∧ Below w.heap.size w w' := by
  have KM := Lib.hid (fun w hr => rmay28_any f Ae At As ce ct cs w hok hr hin)
  rw [hmay] at KM
  have HM := Lib.hid (mayF_is hmay)
  have K8 := Lib.hid (fun w => rput8_any f.k f.cl f.b f.t f.d f.l f.p HM.out.ck w)
  have KN := Lib.hid (fun (t : List Nd) (A : Option Addr) (cap : Nat) w hr hl hright => rput18_any f.cols f.b f.k f.cl t A cap w hr hl hright)
  have HRF := Lib.hid hr
  have HTL := Lib.hid htl
  have HPF : Hid (putF f = (fstB f ++ (f.edges.zip f.shake).flatMap colX) ++ f.trees.flatMap (treeB f.k)) := Lib.hid (by unfold putF; rw [List.append_assoc])
  have HZN := Lib.hid (fun j es x h1 h2 => flat_next (g := colX) (zip_at (f := f) (j := j) (es := es) (x := x) h1 h2))
  have hne0 := HM.out.ne
  have hns0 := HM.out.ns
  have hcc := HM.out.c1
  have hc0 := HM.out.c0
  have HBIG1 : Hid (∀ j, (fstB f ++ ((f.edges.zip f.shake).take j).flatMap colX).length ≤ 8388608) := Lib.hid (fun j => by
    have h1 := flat_take_le colX (f.edges.zip f.shake) j
    rw [HPF.out] at hbig
    simp only [List.length_append] at hbig ⊢
    omega)
  have HBIG2 : Hid (∀ j, ((fstB f ++ (f.edges.zip f.shake).flatMap colX) ++ (f.trees.take j).flatMap (treeB f.k)).length ≤ 8388608) := Lib.hid (fun j => by
    have h1 := flat_take_le (treeB f.k) f.trees j
    rw [HPF.out] at hbig
    simp only [List.length_append] at hbig ⊢
    omega)
  have HFB : Hid (fstB f = ((((([84, 82, 69, 69] ++ cfgB f.k f.cl f.b f.t f.d f.l f.p) ++ beN (u64N f.cols) 2) ++ beN f.seed 8) ++ beN (u64N f.num) 8) ++ beN (u64N f.den) 4)) := Lib.hid (by unfold fstB; rw [be_tree]; simp only [List.append_assoc])
  have HFL := Lib.hid (fstB_len f)
  have HCFL := Lib.hid (cfgB_len f.k f.cl f.b f.t f.d f.l f.p)
  unfold forA at KM ⊢
  obtain ⟨PF, hPF⟩ : ∃ PF, putF f = PF := ⟨_, rfl⟩
  rw [hPF] at HPF ⊢
  obtain ⟨ne, hne⟩ : ∃ n, f.edges.length = n := ⟨_, rfl⟩
  obtain ⟨nt, hnt⟩ : ∃ n, f.trees.length = n := ⟨_, rfl⟩
  obtain ⟨ns, hns⟩ : ∃ n, f.shake.length = n := ⟨_, rfl⟩
  have lnt : nt ≤ 4096 := by
    have h1 := HM.out.nt
    have h2 := (chk_is HM.out.ck).t
    rw [hnt] at h1
    omega
  rw [hne, hnt, hns] at KM ⊢
  rw [hne] at hne0
  rw [hns] at hns0
  have HLN := Lib.hid (And.intro hne (And.intro hnt hns))
  obtain ⟨k, cl, b, tt, d, l, p, cols, seed, edges, trees, num, den, shake⟩ := f
  simp only at KM K8 KN HFL HPF HZN HTL HLN HBIG1 HBIG2 HFB HCFL hne0 hns0 hcc hc0 hsd ⊢
  subst hne0
  have HNSN := Lib.hid (show ns = ne by omega)
  have K1 := Lib.hid (fun w => rput7c (x := ne) (k := 2) (X := (ne : Int)) (K := 2) rfl rfl (by omega) (by omega) w)
  have K2 := Lib.hid (fun w => rput7c (x := seed) (k := 8) (X := (seed : Int)) (K := 8) rfl rfl (by omega) hsd w)
  have K3 := Lib.hid (fun w => rput7c (x := u64N num) (k := 8) (X := (u64N num : Int)) (K := 8) rfl rfl (by omega) (u64N_lt num) w)
  have K4 := Lib.hid (fun w => rput7c (x := u64N den) (k := 4) (X := (u64N den : Int)) (K := 4) rfl rfl (by omega) (u64N_lt den) w)
  have hw1 : IntKind.u64.wrap (ne : Int) = (ne : Int) := wrap_nat (by omega)
  have hw3 := u64N_wrap num
  have hw4 := u64N_wrap den
  rw [u64N_ofN (show ne < 18446744073709551616 by omega)] at HFB
  obtain ⟨FB, hFB⟩ : ∃ FB, fstB ⟨k, cl, b, tt, d, l, p, (ne : Int), seed, edges, trees, num, den, shake⟩ = FB := ⟨_, rfl⟩
  rw [hFB] at HFL HPF HBIG1 HBIG2 HFB
  obtain ⟨u3, hu3⟩ : ∃ u, u64N num = u := ⟨_, rfl⟩
  obtain ⟨u4, hu4⟩ : ∃ u, u64N den = u := ⟨_, rfl⟩
  rw [hu3] at K3 hw3 HFB
  rw [hu4] at K4 hw4 HFB
  obtain ⟨L0, hL0⟩ : ∃ L, cfgB k cl b tt d l p = L := ⟨_, rfl⟩
  rw [hL0] at K8 HFB HCFL
  obtain ⟨L1, hL1⟩ : ∃ L, beN ne 2 = L := ⟨_, rfl⟩
  obtain ⟨L2, hL2⟩ : ∃ L, beN seed 8 = L := ⟨_, rfl⟩
  obtain ⟨L3, hL3⟩ : ∃ L, beN u3 8 = L := ⟨_, rfl⟩
  obtain ⟨L4, hL4⟩ : ∃ L, beN u4 4 = L := ⟨_, rfl⟩
  rw [hL1] at K1 HFB
  rw [hL2] at K2 HFB
  rw [hL3] at K3 HFB
  rw [hL4] at K4 HFB
  have n0 := HCFL.out
  have n1 : L1.length = 2 := by rw [← hL1, be_len]
  have n2 : L2.length = 8 := by rw [← hL2, be_len]
  have n3 : L3.length = 8 := by rw [← hL3, be_len]
  have n4 : L4.length = 4 := by rw [← hL4, be_len]
  have a0 := add_tree L0 (by omega)
  have a1 := add_strN ([84, 82, 69, 69] ++ L0) L1 (by simp only [List.length_append, List.length_cons, List.length_nil]; omega) (by omega)
  have a2 := add_strN (([84, 82, 69, 69] ++ L0) ++ L1) L2 (by simp only [List.length_append, List.length_cons, List.length_nil]; omega) (by omega)
  have a3 := add_strN ((([84, 82, 69, 69] ++ L0) ++ L1) ++ L2) L3 (by simp only [List.length_append, List.length_cons, List.length_nil]; omega) (by omega)
  have a4 := add_strN (((([84, 82, 69, 69] ++ L0) ++ L1) ++ L2) ++ L3) L4 (by simp only [List.length_append, List.length_cons, List.length_nil]; omega) (by omega)
  obtain ⟨F5, hF5⟩ : ∃ F, ((((([84, 82, 69, 69] ++ L0) ++ L1) ++ L2) ++ L3) ++ L4) = F := ⟨_, rfl⟩
  rw [hF5] at a4 HFB
  obtain ⟨F4, hF4⟩ : ∃ F, (((([84, 82, 69, 69] ++ L0) ++ L1) ++ L2) ++ L3) = F := ⟨_, rfl⟩
  rw [hF4] at a3 a4
  obtain ⟨F3, hF3⟩ : ∃ F, ((([84, 82, 69, 69] ++ L0) ++ L1) ++ L2) = F := ⟨_, rfl⟩
  rw [hF3] at a2 a3
  obtain ⟨F2, hF2⟩ : ∃ F, (([84, 82, 69, 69] ++ L0) ++ L1) = F := ⟨_, rfl⟩
  rw [hF2] at a1 a2
  obtain ⟨F1, hF1⟩ : ∃ F, ([84, 82, 69, 69] ++ L0) = F := ⟨_, rfl⟩
  rw [hF1] at a0 a1
  obtain rfl : FB = F5 := HFB.out
  clear HFB hFB hu3 hu4 hL0 hL1 hL2 hL3 hL4 hF1 hF2 hF3 hF4 hF5 n0 n1 n2 n3 n4 hok hr hin hmay htl hPF hne hnt hns hbig hsd hns0 HCFL
  go_enter Try.func33, Try.ntmps33
  go_upto_region 1 with (fail)
  have KBX := Blk.new w #[.int .i64 k, .int .i64 cl, .int .i64 b, .int .i64 tt, .int .i64 d, .int .i64 l, .int .i64 p, .int .i64 (ne : Int), .int .u64 (seed : Int), .slice Ae ne ce, .slice At nt ct, .int .i64 num, .int .i64 den, .slice As ns cs] 59
  have HBE := Lib.hid ((Below.refl w.heap.size w).alloc (Nat.le_refl _) (.cells #[.int .i64 k, .int .i64 cl, .int .i64 b, .int .i64 tt, .int .i64 d, .int .i64 l, .int .i64 p, .int .i64 (ne : Int), .int .u64 (seed : Int), .slice Ae ne ce, .slice At nt ct, .int .i64 num, .int .i64 den, .slice As ns cs] 59))
  obtain ⟨W, hW⟩ : ∃ W, w.alloc (.cells #[.int .i64 k, .int .i64 cl, .int .i64 b, .int .i64 tt, .int .i64 d, .int .i64 l, .int .i64 p, .int .i64 (ne : Int), .int .u64 (seed : Int), .slice Ae ne ce, .slice At nt ct, .int .i64 num, .int .i64 den, .slice As ns cs] 59) = W := ⟨_, rfl⟩
  rw [hW] at KBX HBE ⊢
  clear hW
  go_wp2_with (refine wpList_load_row rfl 59 (.tmp 1) rfl w.heap.size rfl 59 _ (0, 0) _ KBX Try.underlying59 rfl forest_size ?_)
  refine (KM.out _ (HRF.out.below HBE.out)).mono ?_
  rintro e w1 ⟨rfl, hb⟩
  have kF1 := KBX.below hb
  have HB1 := Lib.hid (HBE.out.trans (hb.mono HBE.out.size))
  obtain ⟨q0, q1, q2, q3, q4, q5, q6, q7, q8, q9, q10, q11, q12, q13⟩ := kF1.cells14
  clear hb KBX HBE KM
  go_upto_region 4 with (fail)
  have kC := Blk.new w1 #[.int .i64 k, .int .i64 cl, .int .i64 b, .int .i64 tt, .int .i64 d, .int .i64 l, .int .i64 p] 45
  have bb : Below w1.heap.size w1 (w1.alloc (.cells #[.int .i64 k, .int .i64 cl, .int .i64 b, .int .i64 tt, .int .i64 d, .int .i64 l, .int .i64 p] 45)) := (Below.refl _ _).alloc (Nat.le_refl _) _
  have kF := kF1.below bb
  have HBE := Lib.hid (HB1.out.trans (bb.mono HB1.out.size))
  obtain ⟨W, hW⟩ : ∃ W, w1.alloc (.cells #[.int .i64 k, .int .i64 cl, .int .i64 b, .int .i64 tt, .int .i64 d, .int .i64 l, .int .i64 p] 45) = W := ⟨_, rfl⟩
  rw [hW] at kC kF HBE ⊢
  obtain ⟨g1, hg1⟩ : ∃ z, w1.heap.size = z := ⟨_, rfl⟩
  rw [hg1] at kC ⊢
  have HKF := Lib.hid (fun W' (hb : Below W.heap.size W W') => (kF.below hb).cells14)
  have HKC := Lib.hid (fun W' (hb : Below W.heap.size W W') => (show W'.cell? ⟨g1, 0, none⟩ = some (.int .i64 k) ∧ W'.cell? ⟨g1, 1, none⟩ = some (.int .i64 cl) ∧ W'.cell? ⟨g1, 2, none⟩ = some (.int .i64 b) ∧ W'.cell? ⟨g1, 3, none⟩ = some (.int .i64 tt) ∧ W'.cell? ⟨g1, 4, none⟩ = some (.int .i64 d) ∧ W'.cell? ⟨g1, 5, none⟩ = some (.int .i64 l) ∧ W'.cell? ⟨g1, 6, none⟩ = some (.int .i64 p) from ⟨(kC.below hb).cell 0, (kC.below hb).cell 1, (kC.below hb).cell 2, (kC.below hb).cell 3, (kC.below hb).cell 4, (kC.below hb).cell 5, (kC.below hb).cell 6⟩))
  have HRR := Lib.hid (fun W' (hb : Below W.heap.size W W') => HRF.out.below (HBE.out.trans (hb.mono HBE.out.size)))
  have HX0 := Lib.hid (Below.refl W.heap.size W)
  have HY0 := Lib.hid ((Below.refl W.heap.size W).drew)
  clear kF1 kF kC bb hW hg1 q0 q1 q2 q3 q4 q5 q6 q7 q8 q9 q10 q11 q12 q13
  have HSS : Hid (∀ W', Below W.heap.size W W' → (fun W' => (W'.cell? ⟨g1, 0, none⟩ = some (.int .i64 k) ∧ W'.cell? ⟨g1, 1, none⟩ = some (.int .i64 cl) ∧ W'.cell? ⟨g1, 2, none⟩ = some (.int .i64 b) ∧ W'.cell? ⟨g1, 3, none⟩ = some (.int .i64 tt) ∧ W'.cell? ⟨g1, 4, none⟩ = some (.int .i64 d) ∧ W'.cell? ⟨g1, 5, none⟩ = some (.int .i64 l) ∧ W'.cell? ⟨g1, 6, none⟩ = some (.int .i64 p)) ∧ W'.cell? ⟨w.heap.size, 7, none⟩ = some (.int .i64 (ne : Int)) ∧ W'.cell? ⟨w.heap.size, 8, none⟩ = some (.int .u64 (seed : Int)) ∧ W'.cell? ⟨w.heap.size, 11, none⟩ = some (.int .i64 num) ∧ W'.cell? ⟨w.heap.size, 12, none⟩ = some (.int .i64 den)) W') := Lib.hid (fun W' hb => by
    obtain ⟨q0, q1, q2, q3, q4, q5, q6, q7, q8, q9, q10, q11, q12, q13⟩ := HKF.out W' hb
    exact ⟨HKC.out W' hb, q7, q8, q11, q12⟩)
  refine wp_region_held_drew (S := (fun W' => (W'.cell? ⟨g1, 0, none⟩ = some (.int .i64 k) ∧ W'.cell? ⟨g1, 1, none⟩ = some (.int .i64 cl) ∧ W'.cell? ⟨g1, 2, none⟩ = some (.int .i64 b) ∧ W'.cell? ⟨g1, 3, none⟩ = some (.int .i64 tt) ∧ W'.cell? ⟨g1, 4, none⟩ = some (.int .i64 d) ∧ W'.cell? ⟨g1, 5, none⟩ = some (.int .i64 l) ∧ W'.cell? ⟨g1, 6, none⟩ = some (.int .i64 p)) ∧ W'.cell? ⟨w.heap.size, 7, none⟩ = some (.int .i64 (ne : Int)) ∧ W'.cell? ⟨w.heap.size, 8, none⟩ = some (.int .u64 (seed : Int)) ∧ W'.cell? ⟨w.heap.size, 11, none⟩ = some (.int .i64 num) ∧ W'.cell? ⟨w.heap.size, 12, none⟩ = some (.int .i64 den))) (by kernel_rfl) ?_ (fun hS0 => ?_)
  · exact HSS.out _ HY0.out
  refine' wpAnyH_take (i := 0) (v := _) rfl (by kernel_rfl) (by kernel_rfl) (by kernel_rfl) (fun _ _ _ h => h) (Or.inl ⟨by rfl, ?hym1⟩) hS0 ?restm1
  case hym1 => (intro w hSw; (try dsimp only at hSw); go_simp; try with_reducible rfl)
  simp only [Act.put, List.setIfInBounds_toArray, List.set_cons_zero, List.set_cons_succ, List.getElem_toArray, List.getElem_cons_zero, List.getElem_cons_succ]
  refine' wpAnyH_take (i := 3) (v := _) rfl (by kernel_rfl) (by kernel_rfl) (by kernel_rfl) (fun _ _ _ h => h) (Or.inl ⟨by rfl, ?hym2⟩) hS0 ?restm2
  case hym2 => (intro w hSw; (try dsimp only at hSw); go_simp; try with_reducible rfl)
  simp only [Act.put, List.setIfInBounds_toArray, List.set_cons_zero, List.set_cons_succ, List.getElem_toArray, List.getElem_cons_zero, List.getElem_cons_succ]
  refine' wpAnyH_take (i := 4) (v := _) rfl (by kernel_rfl) (by kernel_rfl) (by kernel_rfl) (fun _ _ _ h => h) (Or.inl ⟨by rfl, ?hym3⟩) hS0 ?restm3
  case hym3 => (intro w hSw; (try dsimp only at hSw); go_simp; try with_reducible rfl)
  simp only [Act.put, List.setIfInBounds_toArray, List.set_cons_zero, List.set_cons_succ, List.getElem_toArray, List.getElem_cons_zero, List.getElem_cons_succ]
  refine' wpAnyH_take (i := 5) (v := _) rfl (by kernel_rfl) (by kernel_rfl) (by kernel_rfl) (fun _ _ _ h => h) (Or.inl ⟨by rfl, ?hym4⟩) hS0 ?restm4
  case hym4 => (intro w hSw; (try dsimp only at hSw); go_simp; try with_reducible rfl)
  simp only [Act.put, List.setIfInBounds_toArray, List.set_cons_zero, List.set_cons_succ, List.getElem_toArray, List.getElem_cons_zero, List.getElem_cons_succ]
  refine' wpAnyH_take (i := 8) (v := _) rfl (by kernel_rfl) (by kernel_rfl) (by kernel_rfl) (fun _ _ _ h => h) (Or.inl ⟨by rfl, ?hym5⟩) hS0 ?restm5
  case hym5 => (intro w hSw; (try dsimp only at hSw); go_simp; try with_reducible rfl)
  simp only [Act.put, List.setIfInBounds_toArray, List.set_cons_zero, List.set_cons_succ, List.getElem_toArray, List.getElem_cons_zero, List.getElem_cons_succ]
  refine' wpAnyH_take (i := 9) (v := _) rfl (by kernel_rfl) (by kernel_rfl) (by kernel_rfl) (fun _ _ _ h => h) (Or.inl ⟨by rfl, ?hym6⟩) hS0 ?restm6
  case hym6 => (intro w hSw; (try dsimp only at hSw); go_simp; try with_reducible rfl)
  simp only [Act.put, List.setIfInBounds_toArray, List.set_cons_zero, List.set_cons_succ, List.getElem_toArray, List.getElem_cons_zero, List.getElem_cons_succ]
  refine' wpAnyH_take (i := 12) (v := _) rfl (by kernel_rfl) (by kernel_rfl) (by kernel_rfl) (fun _ _ _ h => h) (Or.inl ⟨by rfl, ?hym7⟩) hS0 ?restm7
  case hym7 => (intro w hSw; (try dsimp only at hSw); go_simp; try with_reducible rfl)
  simp only [Act.put, List.setIfInBounds_toArray, List.set_cons_zero, List.set_cons_succ, List.getElem_toArray, List.getElem_cons_zero, List.getElem_cons_succ]
  refine' wpAnyH_take (i := 13) (v := _) rfl (by kernel_rfl) (by kernel_rfl) (by kernel_rfl) (fun _ _ _ h => h) (Or.inl ⟨by rfl, ?hym8⟩) hS0 ?restm8
  case hym8 => (intro w hSw; (try dsimp only at hSw); go_simp; try with_reducible rfl)
  simp only [Act.put, List.setIfInBounds_toArray, List.set_cons_zero, List.set_cons_succ, List.getElem_toArray, List.getElem_cons_zero, List.getElem_cons_succ]
  refine' wpAnyH_take (i := 14) (v := _) rfl (by kernel_rfl) (by kernel_rfl) (by kernel_rfl) (fun _ _ _ h => h) (Or.inl ⟨by rfl, ?hym9⟩) hS0 ?restm9
  case hym9 => (intro w hSw; (try dsimp only at hSw); go_simp; try with_reducible rfl)
  simp only [Act.put, List.setIfInBounds_toArray, List.set_cons_zero, List.set_cons_succ, List.getElem_toArray, List.getElem_cons_zero, List.getElem_cons_succ]
  refine' wpAnyH_take (i := 15) (v := _) rfl (by kernel_rfl) (by kernel_rfl) (by kernel_rfl) (fun _ _ _ h => h) (Or.inl ⟨by rfl, ?hym10⟩) hS0 ?restm10
  case hym10 => (intro w hSw; (try dsimp only at hSw); go_simp; try with_reducible rfl)
  simp only [Act.put, List.setIfInBounds_toArray, List.set_cons_zero, List.set_cons_succ, List.getElem_toArray, List.getElem_cons_zero, List.getElem_cons_succ]
  refine' wpAnyH_take (i := 18) (v := _) rfl (by kernel_rfl) (by kernel_rfl) (by kernel_rfl) (fun _ _ _ h => h) (Or.inl ⟨by rfl, ?hym11⟩) hS0 ?restm11
  case hym11 => (intro w hSw; (try dsimp only at hSw); go_simp; try with_reducible rfl)
  simp only [Act.put, List.setIfInBounds_toArray, List.set_cons_zero, List.set_cons_succ, List.getElem_toArray, List.getElem_cons_zero, List.getElem_cons_succ]
  refine' wpAnyH_take (i := 19) (v := _) rfl (by kernel_rfl) (by kernel_rfl) (by kernel_rfl) (fun _ _ _ h => h) (Or.inl ⟨by rfl, ?hym12⟩) hS0 ?restm12
  case hym12 => (intro w hSw; (try dsimp only at hSw); go_simp; try with_reducible rfl)
  simp only [Act.put, List.setIfInBounds_toArray, List.set_cons_zero, List.set_cons_succ, List.getElem_toArray, List.getElem_cons_zero, List.getElem_cons_succ]
  refine' wpAnyH_take (i := 20) (v := _) rfl (by kernel_rfl) (by kernel_rfl) (by kernel_rfl) (fun _ _ _ h => h) (Or.inl ⟨by rfl, ?hym13⟩) hS0 ?restm13
  case hym13 => (intro w hSw; (try dsimp only at hSw); go_simp; try with_reducible rfl)
  simp only [Act.put, List.setIfInBounds_toArray, List.set_cons_zero, List.set_cons_succ, List.getElem_toArray, List.getElem_cons_zero, List.getElem_cons_succ]
  refine' wpAnyH_take (i := 21) (v := _) rfl (by kernel_rfl) (by kernel_rfl) (by kernel_rfl) (fun _ _ _ h => h) (Or.inl ⟨by rfl, ?hym14⟩) hS0 ?restm14
  case hym14 => (intro w hSw; (try dsimp only at hSw); go_simp; try with_reducible rfl)
  simp only [Act.put, List.setIfInBounds_toArray, List.set_cons_zero, List.set_cons_succ, List.getElem_toArray, List.getElem_cons_zero, List.getElem_cons_succ]
  refine wpAnyH_ready (rs := [1]) (by kernel_rfl) (by simp) ?_
  refine AllReadyH.cons rfl (fun K hK => ?_) AllReadyH.nil
  go_simp
  refine (K8.out _).mono ?_
  rintro e wq1 ⟨rfl, hb⟩
  have HY1 := Lib.hid (HY0.out.trans (hb.mono HY0.out.size))
  clear hb
  refine hK.out _ _ (HSS.out _ HY1.out) (fun hS1 => ?_)
  clear hK K
  refine' wpAnyH_take (i := 2) (v := _) rfl (by kernel_rfl) (by kernel_rfl) (by kernel_rfl) (fun _ _ _ h => h) (Or.inl ⟨by rfl, ?hym15⟩) hS1 ?restm15
  case hym15 => (intro w hSw; (try dsimp only at hSw); go_simp; try with_reducible rfl)
  simp only [Act.put, List.setIfInBounds_toArray, List.set_cons_zero, List.set_cons_succ, List.getElem_toArray, List.getElem_cons_zero, List.getElem_cons_succ]
  refine wpAnyH_ready (rs := [6]) (by kernel_rfl) (by simp) ?_
  refine AllReadyH.cons rfl (fun K hK => ?_) AllReadyH.nil
  go_simp
  refine (K1.out _).mono ?_
  rintro e wq2 ⟨rfl, hb⟩
  have HY2 := Lib.hid (HY1.out.trans (hb.mono HY1.out.size))
  clear hb
  refine hK.out _ _ (HSS.out _ HY2.out) (fun hS2 => ?_)
  clear hK K
  refine' wpAnyH_take (i := 7) (v := _) rfl (by kernel_rfl) (by kernel_rfl) (by kernel_rfl) (fun _ _ _ h => h) (Or.inl ⟨by rfl, ?hym16⟩) hS2 ?restm16
  case hym16 => (intro w hSw; (try dsimp only at hSw); go_simp; try with_reducible rfl)
  simp only [Act.put, List.setIfInBounds_toArray, List.set_cons_zero, List.set_cons_succ, List.getElem_toArray, List.getElem_cons_zero, List.getElem_cons_succ]
  refine wpAnyH_ready (rs := [10]) (by kernel_rfl) (by simp) ?_
  refine AllReadyH.cons rfl (fun K hK => ?_) AllReadyH.nil
  go_simp
  refine (K2.out _).mono ?_
  rintro e wq3 ⟨rfl, hb⟩
  have HY3 := Lib.hid (HY2.out.trans (hb.mono HY2.out.size))
  clear hb
  refine hK.out _ _ (HSS.out _ HY3.out) (fun hS3 => ?_)
  clear hK K
  refine' wpAnyH_take (i := 11) (v := _) rfl (by kernel_rfl) (by kernel_rfl) (by kernel_rfl) (fun _ _ _ h => h) (Or.inl ⟨by rfl, ?hym17⟩) hS3 ?restm17
  case hym17 => (intro w hSw; (try dsimp only at hSw); go_simp; try with_reducible rfl)
  simp only [Act.put, List.setIfInBounds_toArray, List.set_cons_zero, List.set_cons_succ, List.getElem_toArray, List.getElem_cons_zero, List.getElem_cons_succ]
  refine wpAnyH_ready (rs := [16]) (by kernel_rfl) (by simp) ?_
  refine AllReadyH.cons rfl (fun K hK => ?_) AllReadyH.nil
  go_simp
  refine (K3.out _).mono ?_
  rintro e wq4 ⟨rfl, hb⟩
  have HY4 := Lib.hid (HY3.out.trans (hb.mono HY3.out.size))
  clear hb
  refine hK.out _ _ (HSS.out _ HY4.out) (fun hS4 => ?_)
  clear hK K
  refine' wpAnyH_take (i := 17) (v := _) rfl (by kernel_rfl) (by kernel_rfl) (by kernel_rfl) (fun _ _ _ h => h) (Or.inl ⟨by rfl, ?hym18⟩) hS4 ?restm18
  case hym18 => (intro w hSw; (try dsimp only at hSw); go_simp; try with_reducible rfl)
  simp only [Act.put, List.setIfInBounds_toArray, List.set_cons_zero, List.set_cons_succ, List.getElem_toArray, List.getElem_cons_zero, List.getElem_cons_succ]
  refine wpAnyH_ready (rs := [22]) (by kernel_rfl) (by simp) ?_
  refine AllReadyH.cons rfl (fun K hK => ?_) AllReadyH.nil
  go_simp
  refine (K4.out _).mono ?_
  rintro e wq5 ⟨rfl, hb⟩
  have HY5 := Lib.hid (HY4.out.trans (hb.mono HY4.out.size))
  clear hb
  refine hK.out _ _ (HSS.out _ HY5.out) (fun hS5 => ?_)
  clear hK K
  refine' wpAnyH_take (i := 23) (v := _) rfl (by kernel_rfl) (by kernel_rfl) (by kernel_rfl) (fun _ _ _ h => h) (Or.inl ⟨by rfl, ?hym19⟩) hS5 ?restm19
  case hym19 => (intro w hSw; (try dsimp only at hSw); go_simp; try with_reducible rfl)
  simp only [Act.put, List.setIfInBounds_toArray, List.set_cons_zero, List.set_cons_succ, List.getElem_toArray, List.getElem_cons_zero, List.getElem_cons_succ]
  refine' wpAnyH_take (i := 24) (v := _) rfl (by kernel_rfl) (by kernel_rfl) (by kernel_rfl) (fun _ _ _ h => h) (Or.inl ⟨by rfl, ?hym20⟩) hS5 ?restm20
  case hym20 => (intro w hSw; (try dsimp only at hSw); go_simp; try with_reducible rfl)
  simp only [Act.put, List.setIfInBounds_toArray, List.set_cons_zero, List.set_cons_succ, List.getElem_toArray, List.getElem_cons_zero, List.getElem_cons_succ]
  refine wpAnyH_done (by kernel_rfl) ?_ _
  clear a0 a1 a2 a3 a4 hw1 hw3 hw4 HSS K1 K2 K3 K4 K8
  go_wp2_with fail
  go_loopw [5, 6] (fun sv iv wr => ∃ j : Nat, j ≤ ne ∧ iv = .int .i64 j ∧ sv = .string (strB (FB ++ ((edges.zip shake).take j).flatMap colX)) ∧ Hid (Below W.heap.size W wr)) (fun _ iv _ => ne - (intOf iv).toNat)
  case atStart => exact ⟨0, Nat.zero_le _, rfl, by simp, Lib.hid HY5.out⟩
  case round =>
    obtain ⟨j, hj, rfl, rfl, HB⟩ := hrel
    obtain ⟨q0, q1, q2, q3, q4, q5, q6, q7, q8, q9, q10, q11, q12, q13⟩ := HKF.out _ HB.out
    by_cases hlt : j < ne
    · have hlt' : (j : Int) < ne := by omega
      have hjs : j < ns := by have := HNSN.out; omega
      have hjs' : (j : Int) < ns := by omega
      obtain ⟨ad, rfl, es, Be, cap, h1, h2, _, hcap, h5⟩ := (HRR.out _ HB.out).re.at (i := j) (by rw [HLN.out.1]; exact hlt)
      obtain ⟨ads, rfl, ⟨xn, xd⟩, g1', _, _, g2, _⟩ := (HRR.out _ HB.out).rs.at (i := j) (by rw [HLN.out.2.2]; exact hjs)
      simp only at g2 h1 g1'
      have HZ := Lib.hid (HZN.out j _ _ h1 g1')
      have hm255 := HM.out.ee es (List.mem_of_getElem? h1)
      have hbg := HBIG1.out (j + 1)
      rw [HZ.out, ← List.append_assoc] at hbg
      obtain ⟨S, hS⟩ : ∃ S, FB ++ ((edges.zip shake).take j).flatMap colX = S := ⟨_, rfl⟩
      have HSE : Hid (FB ++ ((edges.zip shake).take (j + 1)).flatMap colX = S ++ colX (es, (xn, xd))) := Lib.hid (by rw [HZ.out, ← List.append_assoc, hS])
      rw [hS] at hbg ⊢
      unfold colX colB at hbg
      simp only [List.length_append, be_len, val_len] at hbg
      have HCX : Hid (colX (es, (xn, xd)) = beN es.length 1 ++ (es.flatMap valB ++ beN (u64N xn) 8)) := Lib.hid rfl
      have HVS := Lib.hid (fun i (hi : i < es.length) => val_snoc hi)
      have HVL := Lib.hid (fun i => val_len (es.take i))
      have HES := Lib.hid h5
      obtain ⟨m, hm⟩ : ∃ n, es.length = n := ⟨_, rfl⟩
      have HM2 := Lib.hid hm
      rw [hm] at h2 HVS HCX hm255 hbg
      have KL := Lib.hid (fun w => rput7c (x := m) (k := 1) (X := (m : Int)) (K := 1) rfl rfl (by omega) (by omega) w)
      have KX := Lib.hid (fun w => rput7c (x := u64N xn) (k := 8) (X := (u64N xn : Int)) (K := 8) rfl rfl (by omega) (u64N_lt xn) w)
      have hwm : IntKind.u64.wrap (m : Int) = (m : Int) := wrap_nat (by omega)
      have hwm2 : (m : Int) % 18446744073709551616 = (m : Int) := by omega
      have hwx := u64N_wrap xn
      have hwx2 := u64N_mod xn
      obtain ⟨ux, hux⟩ : ∃ u, u64N xn = u := ⟨_, rfl⟩
      rw [hux] at KX hwx hwx2 HCX
      have hsl : S.length + 8 * m ≤ 8388599 := by omega
      have b1 := add_strN S (beN m 1) (by omega) (by rw [be_len]; omega)
      have HX2 := Lib.hid (fun W' (hb : Below W.heap.size W W') (h2' : wr.cell? (ad.add j) = some (.slice Be m cap)) (hq : Below wr.heap.size wr W') => (hq.cell (World.block_lt_of_cell? wr _ h2')).trans h2')
      have HE2 := Lib.hid h2
      have HG2 := Lib.hid g2
      have HRX := Lib.hid (fun W' (hq : Below wr.heap.size wr W') => (show W'.cell? (ad.add j) = some (.slice Be m cap) ∧ W'.cell? (ads.add (j * 2)) = some (.int .i64 xn) ∧ RF W' Be es from ⟨(hq.cell (World.block_lt_of_cell? wr _ HE2.out)).trans HE2.out, (hq.cell (World.block_lt_of_cell? wr _ HG2.out)).trans HG2.out, HES.out.below hq⟩))
      clear hS hm hux hbg h1 g1' h5 HX2
      go_wp2_with fail
      refine (KL.out _).mono ?_
      rintro e wa ⟨rfl, hb⟩
      have HZ1 := Lib.hid hb
      have HB2 := Lib.hid (HB.out.trans (hb.mono HB.out.size))
      clear hb
      clear q0 q1 q2 q3 q4 q5 q6 q7 q8 q9 q10 q11 q12 q13 h2 g2 hwm hwm2
      go_wp2_with fail
      obtain ⟨S1, hS1⟩ : ∃ S1, S ++ beN m 1 = S1 := ⟨_, rfl⟩
      have HS1E := Lib.hid hS1
      have hsl1 : S1.length + 8 * m ≤ 8388600 := by rw [← hS1, List.length_append, be_len]; omega
      rw [hS1]
      clear hS1 b1 hsl
      go_loopw [5, 7] (fun sv iv wc => ∃ i : Nat, i ≤ m ∧ iv = .int .i64 i ∧ sv = .string (strB (S1 ++ (es.take i).flatMap valB)) ∧ Hid (Below wr.heap.size wr wc)) (fun _ iv _ => m - (intOf iv).toNat)
      case atStart => exact ⟨0, Nat.zero_le _, rfl, by simp, Lib.hid HZ1.out⟩
      case round =>
        obtain ⟨i, hi, rfl, rfl, HC⟩ := hrel
        have HBC := Lib.hid (HB.out.trans (HC.out.mono HB.out.size))
        obtain ⟨q0, q1, q2, q3, q4, q5, q6, q7, q8, q9, q10, q11, q12, q13⟩ := HKF.out _ HBC.out
        obtain ⟨h2, g2, h5⟩ := HRX.out _ HC.out
        by_cases hli : i < m
        · have hli' : (i : Int) < m := by omega
          obtain ⟨adv, rfl, hx, hx64⟩ := h5.at (i := i) (by rw [HM2.out]; exact hli)
          have HV := Lib.hid (HVS.out i hli)
          obtain ⟨x, hxx⟩ : ∃ x, es.getD i 0 = x := ⟨_, rfl⟩
          rw [hxx] at hx hx64 HV
          have hvl := HVL.out i
          have hti : (es.take i).length ≤ i := List.length_take_le _ _
          have hf := f64bits_run x
          have KV := Lib.hid (fun w => rput7c (x := x) (k := 8) (X := (x : Int)) (K := 8) rfl rfl (by omega) hx64 w)
          obtain ⟨S2, hS2⟩ : ∃ S2, S1 ++ (es.take i).flatMap valB = S2 := ⟨_, rfl⟩
          have HS2 : Hid (S1 ++ (es.take (i + 1)).flatMap valB = S2 ++ beN x 8) := Lib.hid (by rw [HV.out, ← List.append_assoc, hS2])
          have hl2 : S2.length ≤ 8388600 := by rw [← hS2, List.length_append]; omega
          rw [hS2]
          have b2 := add_strN S2 (beN x 8) (by omega) (by rw [be_len]; omega)
          clear hS2 hxx h5 hvl hti
          go_wp2_with fail
          refine (KV.out _).mono ?_
          rintro e wb ⟨rfl, hb⟩
          have HD := Lib.hid (HC.out.trans (hb.mono HC.out.size))
          clear hb
          go_wp2_with fail
          go_roundw
          case rel => exact ⟨i + 1, hli, by go_num, by rw [HS2.out], Lib.hid HD.out⟩
          case measure => simp [intOf]; omega
        · obtain rfl : m = i := by omega
          have he : es.take m = es := List.take_of_length_le (by rw [HM2.out]; omega)
          rw [he]
          have hvl := HVL.out m
          rw [he, HM2.out] at hvl
          have b3 := add_strN (S1 ++ es.flatMap valB) (beN ux 8) (by rw [List.length_append]; omega) (by rw [be_len]; omega)
          have HQ : Hid (S ++ colX (es, (xn, xd)) = (S1 ++ es.flatMap valB) ++ beN ux 8) := Lib.hid (by rw [HCX.out, ← HS1E.out]; simp only [List.append_assoc])
          clear he h5 hvl
          go_wp2_with fail
          refine (KX.out _).mono ?_
          rintro e wb ⟨rfl, hb⟩
          have HD := Lib.hid (HBC.out.trans (hb.mono HBC.out.size))
          clear hb
          go_wp2_with fail
          go_roundw
          case rel => exact ⟨j + 1, hlt, by go_num, by rw [HSE.out, HQ.out, List.append_assoc], Lib.hid HD.out⟩
          case measure => simp [intOf]; omega
    · obtain rfl : ne = j := by omega
      have hzt : (edges.zip shake).take ne = edges.zip shake := List.take_of_length_le (by have := HNSN.out; rw [List.length_zip, HLN.out.1, HLN.out.2.2]; omega)
      rw [hzt]
      have HZB := Lib.hid HB.out
      obtain ⟨S, hS⟩ : ∃ S, FB ++ (edges.zip shake).flatMap colX = S := ⟨_, rfl⟩
      rw [hS] at HPF HBIG2 ⊢
      clear hzt hS
      go_wp2_with fail
      clear q0 q1 q2 q3 q4 q5 q6 q7 q8 q9 q10 q11 q12 q13
      go_loopw [5, 8] (fun sv iv wc => ∃ j : Nat, j ≤ nt ∧ iv = .int .i64 j ∧ sv = .string (strB (S ++ (trees.take j).flatMap (treeB k))) ∧ Hid (Below W.heap.size W wc)) (fun _ iv _ => nt - (intOf iv).toNat)
      case atStart => exact ⟨0, Nat.zero_le _, rfl, by simp, Lib.hid HZB.out⟩
      case round =>
        obtain ⟨j, hj, rfl, rfl, HC⟩ := hrel
        obtain ⟨q0, q1, q2, q3, q4, q5, q6, q7, q8, q9, q10, q11, q12, q13⟩ := HKF.out _ HC.out
        by_cases hlt2 : j < nt
        · have hlt2' : (j : Int) < nt := by omega
          obtain ⟨adt, rfl, tr, Bt, capt, ht1, ht2, _, _, ht5⟩ := (HRR.out _ HC.out).rt.at (i := j) (by rw [HLN.out.2.1]; exact hlt2)
          simp only at ht1
          have hmem := List.mem_of_getElem? ht1
          have HZ2 := Lib.hid (flat_next (g := treeB k) ht1)
          have hbg := HBIG2.out (j + 1)
          rw [HZ2.out, ← List.append_assoc] at hbg
          obtain ⟨S2, hS2⟩ : ∃ S2, S ++ (trees.take j).flatMap (treeB k) = S2 := ⟨_, rfl⟩
          have HS2 : Hid (S ++ (trees.take (j + 1)).flatMap (treeB k) = S2 ++ treeB k tr) := Lib.hid (by rw [HZ2.out, ← List.append_assoc, hS2])
          rw [hS2] at hbg ⊢
          rw [List.length_append] at hbg
          have a1 := add_strN S2 (treeB k tr) (by omega) (by omega)
          have HTR := Lib.hid ht5
          have KNX := Lib.hid (fun W' (hb : Below wr.heap.size wr W') => KN.out tr Bt capt W' (HTR.out.below hb) (HTL.out tr hmem) (HM.out.tt tr hmem))
          obtain ⟨mt, hmt⟩ : ∃ n, tr.length = n := ⟨_, rfl⟩
          rw [hmt] at ht2 KNX
          have HSS : Hid (∀ W', Below wr.heap.size wr W' → (fun W' => (W'.cell? ⟨g1, 0, none⟩ = some (.int .i64 k) ∧ W'.cell? ⟨g1, 1, none⟩ = some (.int .i64 cl) ∧ W'.cell? ⟨g1, 2, none⟩ = some (.int .i64 b) ∧ W'.cell? ⟨g1, 3, none⟩ = some (.int .i64 tt) ∧ W'.cell? ⟨g1, 4, none⟩ = some (.int .i64 d) ∧ W'.cell? ⟨g1, 5, none⟩ = some (.int .i64 l) ∧ W'.cell? ⟨g1, 6, none⟩ = some (.int .i64 p)) ∧ W'.cell? ⟨w.heap.size, 7, none⟩ = some (.int .i64 (ne : Int)) ∧ W'.cell? ⟨w.heap.size, 10, none⟩ = some (.slice (some adt) nt ct) ∧ W'.cell? (adt.add j) = some (.slice Bt mt capt)) W') := Lib.hid (fun W' hb => by
            have hbw := HC.out.trans (hb.mono HC.out.size)
            obtain ⟨q0, q1, q2, q3, q4, q5, q6, q7, q8, q9, q10, q11, q12, q13⟩ := HKF.out W' hbw
            exact ⟨HKC.out W' hbw, q7, q10, (hb.cell (World.block_lt_of_cell? wr _ ht2)).trans ht2⟩)
          have HV0 := Lib.hid ((Below.refl wr.heap.size wr).drew)
          clear hS2 hbg hmt ht1 ht5 hmem
          go_upto_region 17 with (fail)
          clear q0 q1 q2 q3 q4 q5 q6 q7 q8 q9 q10 q11 q12 q13
          refine wp_region_held_drew (S := (fun W' => (W'.cell? ⟨g1, 0, none⟩ = some (.int .i64 k) ∧ W'.cell? ⟨g1, 1, none⟩ = some (.int .i64 cl) ∧ W'.cell? ⟨g1, 2, none⟩ = some (.int .i64 b) ∧ W'.cell? ⟨g1, 3, none⟩ = some (.int .i64 tt) ∧ W'.cell? ⟨g1, 4, none⟩ = some (.int .i64 d) ∧ W'.cell? ⟨g1, 5, none⟩ = some (.int .i64 l) ∧ W'.cell? ⟨g1, 6, none⟩ = some (.int .i64 p)) ∧ W'.cell? ⟨w.heap.size, 7, none⟩ = some (.int .i64 (ne : Int)) ∧ W'.cell? ⟨w.heap.size, 10, none⟩ = some (.slice (some adt) nt ct) ∧ W'.cell? (adt.add j) = some (.slice Bt mt capt))) (by kernel_rfl) ?_ (fun hS0 => ?_)
          · exact HSS.out _ HV0.out
          refine' wpAnyH_take (i := 0) (v := _) rfl (by kernel_rfl) (by kernel_rfl) (by kernel_rfl) (fun _ _ _ h => h) (Or.inl ⟨by rfl, ?hym21⟩) hS0 ?restm21
          case hym21 => (intro w hSw; (try dsimp only at hSw); go_simp; try with_reducible rfl)
          simp only [Act.put, List.setIfInBounds_toArray, List.set_cons_zero, List.set_cons_succ, List.getElem_toArray, List.getElem_cons_zero, List.getElem_cons_succ]
          refine' wpAnyH_take (i := 1) (v := _) rfl (by kernel_rfl) (by kernel_rfl) (by kernel_rfl) (fun _ _ _ h => h) (Or.inl ⟨by rfl, ?hym22⟩) hS0 ?restm22
          case hym22 => (intro w hSw; (try dsimp only at hSw); go_simp; try with_reducible rfl)
          simp only [Act.put, List.setIfInBounds_toArray, List.set_cons_zero, List.set_cons_succ, List.getElem_toArray, List.getElem_cons_zero, List.getElem_cons_succ]
          refine' wpAnyH_take (i := 2) (v := _) rfl (by kernel_rfl) (by kernel_rfl) (by kernel_rfl) (fun _ _ _ h => h) (Or.inl ⟨by rfl, ?hym23⟩) hS0 ?restm23
          case hym23 => (intro w hSw; (try dsimp only at hSw); go_simp; try with_reducible rfl)
          simp only [Act.put, List.setIfInBounds_toArray, List.set_cons_zero, List.set_cons_succ, List.getElem_toArray, List.getElem_cons_zero, List.getElem_cons_succ]
          refine' wpAnyH_take (i := 3) (v := _) rfl (by kernel_rfl) (by kernel_rfl) (by kernel_rfl) (fun _ _ _ h => h) (Or.inl ⟨by rfl, ?hym24⟩) hS0 ?restm24
          case hym24 => (intro w hSw; (try dsimp only at hSw); go_simp; try with_reducible rfl)
          simp only [Act.put, List.setIfInBounds_toArray, List.set_cons_zero, List.set_cons_succ, List.getElem_toArray, List.getElem_cons_zero, List.getElem_cons_succ]
          refine' wpAnyH_take (i := 4) (v := _) rfl (by kernel_rfl) (by kernel_rfl) (by kernel_rfl) (fun _ _ _ h => h) (Or.inl ⟨by rfl, ?hym25⟩) hS0 ?restm25
          case hym25 => (intro w hSw; (try dsimp only at hSw); go_simp; try with_reducible rfl)
          simp only [Act.put, List.setIfInBounds_toArray, List.set_cons_zero, List.set_cons_succ, List.getElem_toArray, List.getElem_cons_zero, List.getElem_cons_succ]
          refine' wpAnyH_take (i := 5) (v := _) rfl (by kernel_rfl) (by kernel_rfl) (by kernel_rfl) (fun _ _ _ h => h) (Or.inl ⟨by rfl, ?hym26⟩) hS0 ?restm26
          case hym26 => (intro w hSw; (try dsimp only at hSw); go_simp; try with_reducible rfl)
          simp only [Act.put, List.setIfInBounds_toArray, List.set_cons_zero, List.set_cons_succ, List.getElem_toArray, List.getElem_cons_zero, List.getElem_cons_succ]
          refine' wpAnyH_take (i := 6) (v := _) rfl (by kernel_rfl) (by kernel_rfl) (by kernel_rfl) (fun _ _ _ h => h) (Or.inl ⟨by rfl, ?hym27⟩) hS0 ?restm27
          case hym27 => (intro w hSw; (try dsimp only at hSw); go_simp; try with_reducible rfl)
          simp only [Act.put, List.setIfInBounds_toArray, List.set_cons_zero, List.set_cons_succ, List.getElem_toArray, List.getElem_cons_zero, List.getElem_cons_succ]
          refine' wpAnyH_take (i := 7) (v := _) rfl (by kernel_rfl) (by kernel_rfl) (by kernel_rfl) (fun _ _ _ h => h) (Or.inl ⟨by rfl, ?hym28⟩) hS0 ?restm28
          case hym28 => (intro w hSw; (try dsimp only at hSw); go_simp; try with_reducible rfl)
          simp only [Act.put, List.setIfInBounds_toArray, List.set_cons_zero, List.set_cons_succ, List.getElem_toArray, List.getElem_cons_zero, List.getElem_cons_succ]
          refine' wpAnyH_take (i := 8) (v := _) rfl (by kernel_rfl) (by kernel_rfl) (by kernel_rfl) (fun _ _ _ h => h) (Or.inl ⟨by rfl, ?hym29⟩) hS0 ?restm29
          case hym29 => (intro w hSw; (try dsimp only at hSw); go_simp; try with_reducible rfl)
          simp only [Act.put, List.setIfInBounds_toArray, List.set_cons_zero, List.set_cons_succ, List.getElem_toArray, List.getElem_cons_zero, List.getElem_cons_succ]
          refine' wpAnyH_take (i := 9) (v := _) rfl (by kernel_rfl) (by kernel_rfl) (by kernel_rfl) (fun _ _ _ h => h) (Or.inl ⟨by rfl, ?hym30⟩) hS0 ?restm30
          case hym30 => (intro w hSw; (try dsimp only at hSw); go_simp; try with_reducible rfl)
          simp only [Act.put, List.setIfInBounds_toArray, List.set_cons_zero, List.set_cons_succ, List.getElem_toArray, List.getElem_cons_zero, List.getElem_cons_succ]
          refine' wpAnyH_take (i := 10) (v := _) rfl (by kernel_rfl) (by kernel_rfl) (by kernel_rfl) (fun _ _ _ h => h) (Or.inl ⟨by rfl, ?hym31⟩) hS0 ?restm31
          case hym31 => (intro w hSw; (try dsimp only at hSw); go_simp; try with_reducible rfl)
          simp only [Act.put, List.setIfInBounds_toArray, List.set_cons_zero, List.set_cons_succ, List.getElem_toArray, List.getElem_cons_zero, List.getElem_cons_succ]
          refine' wpAnyH_take (i := 11) (v := _) rfl (by kernel_rfl) (by kernel_rfl) (by kernel_rfl) (fun _ _ _ h => h) (Or.inl ⟨by rfl, ?hym32⟩) hS0 ?restm32
          case hym32 => (intro w hSw; (try dsimp only at hSw); go_simp; try with_reducible rfl)
          simp only [Act.put, List.setIfInBounds_toArray, List.set_cons_zero, List.set_cons_succ, List.getElem_toArray, List.getElem_cons_zero, List.getElem_cons_succ]
          refine' wpAnyH_take (i := 12) (v := _) rfl (by kernel_rfl) (by kernel_rfl) (by kernel_rfl) (fun _ _ _ h => h) (Or.inl ⟨by rfl, ?hym33⟩) hS0 ?restm33
          case hym33 => (intro w hSw; (try dsimp only at hSw); go_simp; try with_reducible rfl)
          simp only [Act.put, List.setIfInBounds_toArray, List.set_cons_zero, List.set_cons_succ, List.getElem_toArray, List.getElem_cons_zero, List.getElem_cons_succ]
          refine' wpAnyH_take (i := 13) (v := _) rfl (by kernel_rfl) (by kernel_rfl) (by kernel_rfl) (fun _ _ _ h => h) (Or.inl ⟨by rfl, ?hym34⟩) hS0 ?restm34
          case hym34 => (intro w hSw; (try dsimp only at hSw); go_simp; try with_reducible rfl)
          simp only [Act.put, List.setIfInBounds_toArray, List.set_cons_zero, List.set_cons_succ, List.getElem_toArray, List.getElem_cons_zero, List.getElem_cons_succ]
          refine wpAnyH_ready (rs := [14]) (by kernel_rfl) (by simp) ?_
          refine AllReadyH.cons rfl (fun K hK => ?_) AllReadyH.nil
          go_simp
          refine (KNX.out _ HV0.out).mono ?_
          rintro e wq1 ⟨rfl, hb⟩
          have HV1 := Lib.hid (HV0.out.trans (hb.mono HV0.out.size))
          clear hb
          refine hK.out _ _ (HSS.out _ HV1.out) (fun hS1 => ?_)
          clear hK K
          refine' wpAnyH_take (i := 15) (v := _) rfl (by kernel_rfl) (by kernel_rfl) (by kernel_rfl) (fun _ _ _ h => h) (Or.inl ⟨by rfl, ?hym35⟩) hS1 ?restm35
          case hym35 => (intro w hSw; (try dsimp only at hSw); go_simp; try with_reducible rfl)
          simp only [Act.put, List.setIfInBounds_toArray, List.set_cons_zero, List.set_cons_succ, List.getElem_toArray, List.getElem_cons_zero, List.getElem_cons_succ]
          refine' wpAnyH_take (i := 16) (v := _) rfl (by kernel_rfl) (by kernel_rfl) (by kernel_rfl) (fun _ _ _ h => h) (Or.inl ⟨by rfl, ?hym36⟩) hS1 ?restm36
          case hym36 => (intro w hSw; (try dsimp only at hSw); go_simp; try with_reducible rfl)
          simp only [Act.put, List.setIfInBounds_toArray, List.set_cons_zero, List.set_cons_succ, List.getElem_toArray, List.getElem_cons_zero, List.getElem_cons_succ]
          refine wpAnyH_done (by kernel_rfl) ?_ _
          go_wp2_with fail
          go_roundw
          case rel => exact ⟨j + 1, hlt2, by go_num, by rw [HS2.out], Lib.hid (HC.out.trans (HV1.out.mono HC.out.size))⟩
          case measure => simp [intOf]; omega
        · obtain rfl : nt = j := by omega
          have htt : trees.take nt = trees := List.take_of_length_le (by have := HLN.out.2.1; (try simp only at this); omega)
          rw [htt, ← HPF.out]
          go_wp2_with fail
          go_ret2
          exact ⟨rfl, HBE.out.trans (HC.out.mono HBE.out.size)⟩
end Go.Proofs.Ytpekofpiodaadaa.Hb
end

section
/- The walk of the law ModelPuts. -/
namespace Go.Proofs.Ytpekofpiodaadaa.Hb
set_option linter.unusedVariables false
set_option linter.unusedSimpArgs false
open Go.RowKit

theorem putF_mil {f : Fst} (hm : mayF f = true) (n1 : f.edges.length ≤ 20) (n2 : f.trees.length ≤ 10) (n5 : ∀ t ∈ f.trees, t.length ≤ 100) : (putF f).length ≤ 8388608 := by
  have h1 := cols_len (mayF_is hm).ee 20
  have key : ∀ (l : List (List Nd)), (∀ x ∈ l, x.length ≤ 100) → (l.flatMap (treeB f.k)).length ≤ 1304 * l.length := by
    intro l
    induction l with
    | nil => simp
    | cons x r ih =>
      intro hx
      have h1 := ih (fun y hy => hx y (List.mem_cons_of_mem _ hy))
      have h2 := hx x (List.mem_cons_self ..)
      have h3 := flat_len (t := x) (kind := f.k)
      have h4 : (treeB f.k x).length ≤ 1304 := by unfold treeB; rw [List.length_append, be_len]; omega
      simp only [List.flatMap_cons, List.length_append, List.length_cons] at h1 ⊢
      omega
  have h2 := key f.trees n5
  have h3 : (f.edges.zip f.shake).take 20 = f.edges.zip f.shake := List.take_of_length_le (by rw [List.length_zip]; omega)
  rw [h3] at h1
  unfold putF
  rw [List.length_append, List.length_append, fstB_len]
  omega
theorem conv_nil (w : World) : (convert 54 9 (.slice none 0 0)).run Try.prog w = .ok (.string (strB [])) w := by
  rw [run_convert_bytes_string (P := Try.prog) w 54 9 5 none 0 0 Try.underlying54 Try.underlying5 Try.underlying9]
  first | rfl | (simp [go_sem, bytesToString]; done) | (simp [bytesToString]; rfl)
theorem str_self (l : List Nat) : ((strB l).toList == (strB l).toList) = true := beq_self_eq_true _
theorem in64_pl {w : World} {f : Fst} {Ae At As : Option Addr} (h : RPl w f Ae At As) : ∀ x ∈ f.shake, in64 x.1 ∧ in64 x.2 := by
  intro x hx
  obtain ⟨i, hi, rfl⟩ := List.getElem_of_mem hx
  obtain ⟨ad, rfl, y, h1, h2, h3, _, _⟩ := h.rs.at hi
  rw [List.getElem?_eq_getElem hi] at h1
  cases h1
  exact ⟨h2, h3⟩
set_option maxRecDepth 100000 in
set_option maxHeartbeats 16000000 in
theorem puts28_any (f : Fst) (Ae At As : Option Addr) (ce ct cs : Nat) (w : World) (hp : RPl w f Ae At As) (op : OkPl f) (hi : in64 f.num ∧ in64 f.den) :
    Calls Try.prog 8 #[.agg (forA f Ae At As ce ct cs)] w (True0 w) := by
  have KGp := Lib.hid (fun w hr => great28_any f Ae At As ce ct cs w hr op.le op.lt)
  have KX := Lib.hid fixed28_any
  have HP := Lib.hid hp
  have HOB := Lib.hid op
  have HIN := Lib.hid (show in64 f.num ∧ in64 f.den ∧ ∀ x ∈ f.shake, in64 x.1 ∧ in64 x.2 from ⟨hi.1, hi.2, in64_pl hp⟩)
  obtain ⟨PV, hPV⟩ : ∃ V, forA f Ae At As ce ct cs = V := ⟨_, rfl⟩
  have hszP : (Try.prog.info? 52).map (·.size) = some PV.size := by rw [← hPV]; kernel_rfl
  rw [hPV] at KGp
  rw [hPV]
  have HPV := Lib.hid hPV
  clear hPV hp op hi
  cases hgp : greatP f with
  | true =>
    rw [hgp] at KGp
    clear hgp
    go_enter Try.func8, Try.ntmps8
    go_upto_region 1 with (fail)
    have kP := Blk.new w PV 52
    have HBE := Lib.hid ((Below.refl w.heap.size w).alloc (Nat.le_refl _) (.cells PV 52))
    obtain ⟨W, hW⟩ : ∃ W, w.alloc (.cells PV 52) = W := ⟨_, rfl⟩
    rw [hW] at kP HBE ⊢
    have HKP := Lib.hid (fun W' (hb : Below W.heap.size W W') => kP.below hb)
    have HRP := Lib.hid (fun W' (hb : Below W.heap.size W W') => HP.out.below (HBE.out.trans (hb.mono HBE.out.size)))
    have HX0 := Lib.hid (Below.refl W.heap.size W)
    clear hW
    go_wp2_with (refine wpList_load_row rfl 52 (.tmp 1) rfl w.heap.size rfl 52 PV (0, 0) _ kP Try.underlying52 rfl hszP ?_)
    refine (KGp.out _ (HRP.out _ HX0.out)).mono ?_
    rintro e w1 ⟨rfl, hb⟩
    have HX1 := Lib.hid (HX0.out.trans (hb.mono HX0.out.size))
    clear hb
    clear kP
    go_wp2_with fail
    refine (KX.out _).mono ?_
    rintro e wz ⟨rfl, hb⟩
    have HXZ := Lib.hid (HX1.out.trans (hb.mono HX1.out.size))
    clear hb
    go_wp2_with fail
    go_ret
    exact ⟨ret_bool (by first | rfl | simp), HBE.out.trans (HXZ.out.mono HBE.out.size)⟩
  | false =>
    rw [hgp] at KGp
    obtain ⟨n1, n2, n3, n4, n5⟩ := great28_not hgp
    have KF := Lib.hid (fun w hr => full_any f Ae At As ce ct cs w hr n1 n4)
    rw [HPV.out] at KF
    have KMA := Lib.hid (fun A c w hr => mayf_any f A At As c ct cs w (great_okF hgp) hr)
    have KMB := Lib.hid (fun A c w hr => rmay28_any f A At As c ct cs w (great_okF hgp) hr HIN.out)
    cases hm : mayF f with
    | false =>
      have KP := Lib.hid (fun A c w hr => mput_no f A At As c ct cs w (great_okF hgp) hr hm)
      have KR := Lib.hid (fun A c w hr => rput28_no f A At As c ct cs w (great_okF hgp) hr HIN.out hm)
      rw [hm] at KMA KMB
      clear n1 n2 n3 n4 n5 hgp HOB hm
      go_enter Try.func8, Try.ntmps8
      go_upto_region 1 with (fail)
      have kP := Blk.new w PV 52
      have HBE := Lib.hid ((Below.refl w.heap.size w).alloc (Nat.le_refl _) (.cells PV 52))
      obtain ⟨W, hW⟩ : ∃ W, w.alloc (.cells PV 52) = W := ⟨_, rfl⟩
      rw [hW] at kP HBE ⊢
      have HKP := Lib.hid (fun W' (hb : Below W.heap.size W W') => kP.below hb)
      have HRP := Lib.hid (fun W' (hb : Below W.heap.size W W') => HP.out.below (HBE.out.trans (hb.mono HBE.out.size)))
      have HX0 := Lib.hid (Below.refl W.heap.size W)
      clear hW
      go_wp2_with (refine wpList_load_row rfl 52 (.tmp 1) rfl w.heap.size rfl 52 PV (0, 0) _ kP Try.underlying52 rfl hszP ?_)
      refine (KGp.out _ (HRP.out _ HX0.out)).mono ?_
      rintro e w1 ⟨rfl, hb⟩
      have HX1 := Lib.hid (HX0.out.trans (hb.mono HX0.out.size))
      clear hb
      clear kP
      have kP1 := HKP.out _ HX1.out
      go_wp2_with (refine wpList_load_row rfl 52 (.tmp 1) rfl w.heap.size rfl 52 PV (0, 0) _ kP1 Try.underlying52 rfl hszP ?_)
      refine (KF.out _ (HRP.out _ HX1.out)).mono ?_
      rintro e w3 ⟨B3, c3, rfl, hr3, hb⟩
      have HX3 := Lib.hid (HX1.out.trans (hb.mono HX1.out.size))
      clear hb
      clear kP1
      obtain ⟨FV, hFV⟩ : ∃ V, forA f B3 At As c3 ct cs = V := ⟨_, rfl⟩
      have hszF : (Try.prog.info? 59).map (·.size) = some FV.size := by rw [← hFV]; kernel_rfl
      have HFV := Lib.hid hFV
      have KPU := Lib.hid (fun w hr => KP.out B3 c3 w hr)
      have KRU := Lib.hid (fun w hr => KR.out B3 c3 w hr)
      have KM1 := Lib.hid (fun w hr => KMA.out B3 c3 w hr)
      have KM2 := Lib.hid (fun w hr => KMB.out B3 c3 w hr)
      rw [HFV.out] at KPU KRU
      rw [show forA f B3 At As c3 ct cs = #[.int .i64 f.k, .int .i64 f.cl, .int .i64 f.b, .int .i64 f.t, .int .i64 f.d, .int .i64 f.l, .int .i64 f.p, .int .i64 f.cols, .int .u64 (f.seed : Int), .slice B3 f.edges.length c3, .slice At f.trees.length ct, .int .i64 f.num, .int .i64 f.den, .slice As f.shake.length cs] from rfl]
      clear hFV
      go_upto_region 4 with (fail)
      have kF := Blk.new w3 FV 59
      have bb : Below w3.heap.size w3 (w3.alloc (.cells FV 59)) := (Below.refl _ _).alloc (Nat.le_refl _) _
      rw [show #[.int .i64 f.k, .int .i64 f.cl, .int .i64 f.b, .int .i64 f.t, .int .i64 f.d, .int .i64 f.l, .int .i64 f.p, .int .i64 f.cols, .int .u64 (f.seed : Int), .slice B3 f.edges.length c3, .slice At f.trees.length ct, .int .i64 f.num, .int .i64 f.den, .slice As f.shake.length cs] = FV from HFV.out]
      have HRF := Lib.hid (fun W' (hb : Below w3.heap.size w3 W') => hr3.below hb)
      have HB4 := Lib.hid bb
      have HX4 := Lib.hid (HX3.out.trans (bb.mono HX3.out.size))
      obtain ⟨W4, hW4⟩ : ∃ W, w3.alloc (.cells FV 59) = W := ⟨_, rfl⟩
      rw [hW4] at kF HB4 HX4 ⊢
      obtain ⟨g3, hg3⟩ : ∃ z, w3.heap.size = z := ⟨_, rfl⟩
      rw [hg3] at kF ⊢
      have HKF := Lib.hid (fun W' (hb : Below W4.heap.size W4 W') => kF.below hb)
      have HRF4 := Lib.hid (fun W' (hb : Below W4.heap.size W4 W') => HRF.out W' (HB4.out.trans (hb.mono HB4.out.size)))
      have HY4 := Lib.hid (Below.refl W4.heap.size W4)
      clear bb hr3 hW4 hg3
      go_wp2_with (refine wpList_load_row rfl 59 (.tmp 3) rfl g3 rfl 59 FV (0, 0) _ kF Try.underlying59 rfl hszF ?_)
      refine (KPU.out _ (HRF4.out _ HY4.out)).mono ?_
      rintro e w5 ⟨rfl, hb⟩
      have HY5 := Lib.hid (HY4.out.trans (hb.mono HY4.out.size))
      clear hb
      clear kF
      have kF := HKF.out _ HY5.out
      go_wp2_with (refine wpList_load_row rfl 59 (.tmp 3) rfl g3 rfl 59 FV (0, 0) _ kF Try.underlying59 rfl hszF ?_)
      refine (KRU.out _ (HRF4.out _ HY5.out)).mono ?_
      rintro e w6 ⟨rfl, hb⟩
      have HY6 := Lib.hid (HY5.out.trans (hb.mono HY5.out.size))
      clear hb
      clear kF
      have hcn := conv_nil
      have hss := str_self []
      obtain ⟨X0, hX0⟩ : ∃ X, strB [] = X := ⟨_, rfl⟩
      rw [hX0] at hcn hss ⊢
      have HCN := Lib.hid hcn
      clear hcn
      have HSS : Hid (∀ W', Below w6.heap.size w6 W' → (fun W' => (W'.cell? ⟨g3, 0, none⟩ = some (.int .i64 f.k) ∧ W'.cell? ⟨g3, 1, none⟩ = some (.int .i64 f.cl) ∧ W'.cell? ⟨g3, 2, none⟩ = some (.int .i64 f.b) ∧ W'.cell? ⟨g3, 3, none⟩ = some (.int .i64 f.t) ∧ W'.cell? ⟨g3, 4, none⟩ = some (.int .i64 f.d) ∧ W'.cell? ⟨g3, 5, none⟩ = some (.int .i64 f.l) ∧ W'.cell? ⟨g3, 6, none⟩ = some (.int .i64 f.p) ∧ W'.cell? ⟨g3, 7, none⟩ = some (.int .i64 f.cols) ∧ W'.cell? ⟨g3, 8, none⟩ = some (.int .u64 (f.seed : Int)) ∧ W'.cell? ⟨g3, 9, none⟩ = some (.slice B3 f.edges.length c3) ∧ W'.cell? ⟨g3, 10, none⟩ = some (.slice At f.trees.length ct) ∧ W'.cell? ⟨g3, 11, none⟩ = some (.int .i64 f.num) ∧ W'.cell? ⟨g3, 12, none⟩ = some (.int .i64 f.den) ∧ W'.cell? ⟨g3, 13, none⟩ = some (.slice As f.shake.length cs)) ∧ (convert 54 9 (.slice none 0 0)).run Try.prog W' = .ok (.string X0) W') W') := Lib.hid (fun W' hb => by
        have h1 := HKF.out W' (HY6.out.trans (hb.mono HY6.out.size))
        rw [← HFV.out] at h1
        exact ⟨Blk.cells14 h1, HCN.out W'⟩)
      have HZ0 := Lib.hid ((Below.refl w6.heap.size w6).drew)
      have HRX := Lib.hid (fun W' (hb : Below w6.heap.size w6 W') => HRF4.out W' (HY6.out.trans (hb.mono HY6.out.size)))
      go_upto_region 6 with (fail)
      refine wp_region_held_drew (S := (fun W' => (W'.cell? ⟨g3, 0, none⟩ = some (.int .i64 f.k) ∧ W'.cell? ⟨g3, 1, none⟩ = some (.int .i64 f.cl) ∧ W'.cell? ⟨g3, 2, none⟩ = some (.int .i64 f.b) ∧ W'.cell? ⟨g3, 3, none⟩ = some (.int .i64 f.t) ∧ W'.cell? ⟨g3, 4, none⟩ = some (.int .i64 f.d) ∧ W'.cell? ⟨g3, 5, none⟩ = some (.int .i64 f.l) ∧ W'.cell? ⟨g3, 6, none⟩ = some (.int .i64 f.p) ∧ W'.cell? ⟨g3, 7, none⟩ = some (.int .i64 f.cols) ∧ W'.cell? ⟨g3, 8, none⟩ = some (.int .u64 (f.seed : Int)) ∧ W'.cell? ⟨g3, 9, none⟩ = some (.slice B3 f.edges.length c3) ∧ W'.cell? ⟨g3, 10, none⟩ = some (.slice At f.trees.length ct) ∧ W'.cell? ⟨g3, 11, none⟩ = some (.int .i64 f.num) ∧ W'.cell? ⟨g3, 12, none⟩ = some (.int .i64 f.den) ∧ W'.cell? ⟨g3, 13, none⟩ = some (.slice As f.shake.length cs)) ∧ (convert 54 9 (.slice none 0 0)).run Try.prog W' = .ok (.string X0) W')) (by kernel_rfl) ?_ (fun hS0 => ?_)
      · exact HSS.out _ HZ0.out
      refine' wpAnyH_take (i := 0) (v := _) rfl (by kernel_rfl) (by kernel_rfl) (by kernel_rfl) (fun _ _ _ h => h) (Or.inl ⟨by rfl, ?hym1⟩) hS0 ?restm1
      case hym1 => (intro w hSw; (try dsimp only at hSw); go_simp; try with_reducible rfl)
      simp only [Act.put, List.setIfInBounds_toArray, List.set_cons_zero, List.set_cons_succ, List.getElem_toArray, List.getElem_cons_zero, List.getElem_cons_succ]
      refine' wpAnyH_take (i := 2) (v := _) rfl (by kernel_rfl) (by kernel_rfl) (by kernel_rfl) (fun _ _ _ h => h) (Or.inl ⟨by rfl, ?hym2⟩) hS0 ?restm2
      case hym2 => (intro w hSw; (try dsimp only at hSw); go_simp; try with_reducible rfl)
      simp only [Act.put, List.setIfInBounds_toArray, List.set_cons_zero, List.set_cons_succ, List.getElem_toArray, List.getElem_cons_zero, List.getElem_cons_succ]
      refine wpAnyH_ready (rs := [1]) (by kernel_rfl) (by simp) ?_
      refine AllReadyH.cons rfl (fun K hK => ?_) AllReadyH.nil
      go_simp
      refine (KM1.out _ (HRX.out _ HZ0.out)).mono ?_
      rintro e wq1 ⟨rfl, hb⟩
      have HZ1 := Lib.hid (HZ0.out.trans (hb.mono HZ0.out.size))
      clear hb
      refine hK.out _ _ (HSS.out _ HZ1.out) (fun hS1 => ?_)
      clear hK K
      refine wpAnyH_ready (rs := [3]) (by kernel_rfl) (by simp) ?_
      refine AllReadyH.cons rfl (fun K hK => ?_) AllReadyH.nil
      go_simp
      refine (KM2.out _ (HRX.out _ HZ1.out)).mono ?_
      rintro e wq2 ⟨rfl, hb⟩
      have HZ2 := Lib.hid (HZ1.out.trans (hb.mono HZ1.out.size))
      clear hb
      refine hK.out _ _ (HSS.out _ HZ2.out) (fun hS2 => ?_)
      clear hK K
      refine' wpAnyH_take (i := 4) (v := _) rfl (by kernel_rfl) (by kernel_rfl) (by kernel_rfl) (fun _ _ _ h => h) (Or.inl ⟨by rfl, ?hym3⟩) hS2 ?restm3
      case hym3 => (intro w hSw; (try dsimp only at hSw); go_simp; try with_reducible rfl)
      simp only [Act.put, List.setIfInBounds_toArray, List.set_cons_zero, List.set_cons_succ, List.getElem_toArray, List.getElem_cons_zero, List.getElem_cons_succ]
      refine' wpAnyH_take (i := 5) (v := _) rfl (by kernel_rfl) (by kernel_rfl) (by kernel_rfl) (fun _ _ _ h => h) (Or.inl ⟨by rfl, ?hym4⟩) hS2 ?restm4
      case hym4 => (intro w hSw; (try dsimp only at hSw); go_simp; try with_reducible rfl)
      simp only [Act.put, List.setIfInBounds_toArray, List.set_cons_zero, List.set_cons_succ, List.getElem_toArray, List.getElem_cons_zero, List.getElem_cons_succ]
      refine' wpAnyH_take (i := 6) (v := _) rfl (by kernel_rfl) (by kernel_rfl) (by kernel_rfl) (fun _ _ _ h => h) (Or.inl ⟨by rfl, ?hym5⟩) hS2 ?restm5
      case hym5 => (intro w hSw; (try dsimp only at hSw); go_simp; try with_reducible rfl)
      simp only [Act.put, List.setIfInBounds_toArray, List.set_cons_zero, List.set_cons_succ, List.getElem_toArray, List.getElem_cons_zero, List.getElem_cons_succ]
      refine' wpAnyH_take (i := 7) (v := _) rfl (by kernel_rfl) (by kernel_rfl) (by kernel_rfl) (fun _ _ _ h => h) (Or.inl ⟨by rfl, ?hym6⟩) hS2 ?restm6
      case hym6 => (intro w hSw; (try dsimp only at hSw); go_simp; try with_reducible rfl)
      simp only [Act.put, List.setIfInBounds_toArray, List.set_cons_zero, List.set_cons_succ, List.getElem_toArray, List.getElem_cons_zero, List.getElem_cons_succ]
      refine' wpAnyH_take (i := 8) (v := _) rfl (by kernel_rfl) (by kernel_rfl) (by kernel_rfl) (fun _ _ _ h => h) (Or.inl ⟨by rfl, ?hym7⟩) hS2 ?restm7
      case hym7 => (intro w hSw; (try dsimp only at hSw); go_simp; try with_reducible rfl)
      simp only [Act.put, List.setIfInBounds_toArray, List.set_cons_zero, List.set_cons_succ, List.getElem_toArray, List.getElem_cons_zero, List.getElem_cons_succ]
      refine' wpAnyH_take (i := 9) (v := _) rfl (by kernel_rfl) (by kernel_rfl) (by kernel_rfl) (fun _ _ _ h => h) (Or.inl ⟨by rfl, ?hym8⟩) hS2 ?restm8
      case hym8 => (intro w hSw; (try dsimp only at hSw); go_simp; try with_reducible rfl)
      simp only [Act.put, List.setIfInBounds_toArray, List.set_cons_zero, List.set_cons_succ, List.getElem_toArray, List.getElem_cons_zero, List.getElem_cons_succ]
      refine' wpAnyH_take (i := 10) (v := _) rfl (by kernel_rfl) (by kernel_rfl) (by kernel_rfl) (fun _ _ _ h => h) (Or.inl ⟨by rfl, ?hym9⟩) hS2 ?restm9
      case hym9 => (intro w hSw; (try dsimp only at hSw); go_simp; try with_reducible rfl)
      simp only [Act.put, List.setIfInBounds_toArray, List.set_cons_zero, List.set_cons_succ, List.getElem_toArray, List.getElem_cons_zero, List.getElem_cons_succ]
      refine' wpAnyH_take (i := 11) (v := _) rfl (by kernel_rfl) (by kernel_rfl) (by kernel_rfl) (fun _ _ _ h => h) (Or.inl ⟨by rfl, ?hym10⟩) hS2 ?restm10
      case hym10 => (intro w hSw; (try dsimp only at hSw); go_simp; try with_reducible rfl)
      simp only [Act.put, List.setIfInBounds_toArray, List.set_cons_zero, List.set_cons_succ, List.getElem_toArray, List.getElem_cons_zero, List.getElem_cons_succ]
      refine' wpAnyH_take (i := 12) (v := _) rfl (by kernel_rfl) (by kernel_rfl) (by kernel_rfl) (fun _ _ _ h => h) (Or.inl ⟨by rfl, ?hym11⟩) hS2 ?restm11
      case hym11 => (intro w hSw; (try dsimp only at hSw); go_simp; try with_reducible rfl)
      simp only [Act.put, List.setIfInBounds_toArray, List.set_cons_zero, List.set_cons_succ, List.getElem_toArray, List.getElem_cons_zero, List.getElem_cons_succ]
      refine' wpAnyH_take (i := 13) (v := _) rfl (by kernel_rfl) (by kernel_rfl) (by kernel_rfl) (fun _ _ _ h => h) (Or.inl ⟨by rfl, ?hym12⟩) hS2 ?restm12
      case hym12 => (intro w hSw; (try dsimp only at hSw); go_simp; try with_reducible rfl)
      simp only [Act.put, List.setIfInBounds_toArray, List.set_cons_zero, List.set_cons_succ, List.getElem_toArray, List.getElem_cons_zero, List.getElem_cons_succ]
      refine' wpAnyH_take (i := 14) (v := _) rfl (by kernel_rfl) (by kernel_rfl) (by kernel_rfl) (fun _ _ _ h => h) (Or.inl ⟨by rfl, ?hym13⟩) hS2 ?restm13
      case hym13 => (intro w hSw; (try dsimp only at hSw); go_simp; try with_reducible rfl)
      simp only [Act.put, List.setIfInBounds_toArray, List.set_cons_zero, List.set_cons_succ, List.getElem_toArray, List.getElem_cons_zero, List.getElem_cons_succ]
      refine' wpAnyH_take (i := 15) (v := _) rfl (by kernel_rfl) (by kernel_rfl) (by kernel_rfl) (fun _ _ _ h => h) (Or.inl ⟨by rfl, ?hym14⟩) hS2 ?restm14
      case hym14 => (intro w hSw; (try dsimp only at hSw); go_simp; try with_reducible rfl)
      simp only [Act.put, List.setIfInBounds_toArray, List.set_cons_zero, List.set_cons_succ, List.getElem_toArray, List.getElem_cons_zero, List.getElem_cons_succ]
      refine wpAnyH_done (by kernel_rfl) ?_ _
      have HXF := Lib.hid (HX4.out.trans ((HY6.out.trans (HZ2.out.mono HY6.out.size)).mono HX4.out.size))
      go_wp2_with fail
      refine (KX.out _).mono ?_
      rintro e wz ⟨rfl, hb⟩
      have HXZ := Lib.hid (HXF.out.trans (hb.mono HXF.out.size))
      clear hb
      go_wp2_with fail
      go_ret
      exact ⟨ret_bool (by first | rfl | simp), HBE.out.trans (HXZ.out.mono HBE.out.size)⟩
    | true =>
      have KP := Lib.hid (fun A c w hr => mput_any f A At As c ct cs w (great_okF hgp) hr hm (fun t ht => by have := n5 t ht; omega))
      have KR := Lib.hid (fun A c w hr => rput28_any f A At As c ct cs w (great_okF hgp) hr HIN.out HOB.out.seed hm (fun t ht => by have := n5 t ht; omega) (putF_mil hm n1 n2 n5))
      have hgo := getP_put hm ⟨HOB.out.seed, HP.out.re.all, fun t ht => by have := n5 t ht; omega⟩ (fun t ht => by have := n5 t ht; omega) []
      rw [List.append_nil] at hgo
      have HGO := Lib.hid (getF_ok hgo rfl)
      have HOKF := Lib.hid (great_okF hgp)
      have KS := Lib.hid (fun (g : Fst) A1 A2 A3 c1 c2 c3 B d w (hf : RFo w g A1 A2 A3) hg og => rsame27_any g f A1 A2 A3 B At As c1 c2 c3 d ct cs w hf hg og (great_okF hgp))
      rw [hm] at KMA KMB
      have hpos := putF_pos f
      have hin := putF_in f
      have hmil := putF_mil hm n1 n2 n5
      obtain ⟨l, hl⟩ : ∃ l, putF f = l := ⟨_, rfl⟩
      rw [hl] at KP KR HGO hpos hin hmil
      clear n1 n2 n3 n4 n5 hgp HOB hm hgo hl
      go_enter Try.func8, Try.ntmps8
      go_upto_region 1 with (fail)
      have kP := Blk.new w PV 52
      have HBE := Lib.hid ((Below.refl w.heap.size w).alloc (Nat.le_refl _) (.cells PV 52))
      obtain ⟨W, hW⟩ : ∃ W, w.alloc (.cells PV 52) = W := ⟨_, rfl⟩
      rw [hW] at kP HBE ⊢
      have HKP := Lib.hid (fun W' (hb : Below W.heap.size W W') => kP.below hb)
      have HRP := Lib.hid (fun W' (hb : Below W.heap.size W W') => HP.out.below (HBE.out.trans (hb.mono HBE.out.size)))
      have HX0 := Lib.hid (Below.refl W.heap.size W)
      clear hW
      go_wp2_with (refine wpList_load_row rfl 52 (.tmp 1) rfl w.heap.size rfl 52 PV (0, 0) _ kP Try.underlying52 rfl hszP ?_)
      refine (KGp.out _ (HRP.out _ HX0.out)).mono ?_
      rintro e w1 ⟨rfl, hb⟩
      have HX1 := Lib.hid (HX0.out.trans (hb.mono HX0.out.size))
      clear hb
      clear kP
      have kP1 := HKP.out _ HX1.out
      go_wp2_with (refine wpList_load_row rfl 52 (.tmp 1) rfl w.heap.size rfl 52 PV (0, 0) _ kP1 Try.underlying52 rfl hszP ?_)
      refine (KF.out _ (HRP.out _ HX1.out)).mono ?_
      rintro e w3 ⟨B3, c3, rfl, hr3, hb⟩
      have HX3 := Lib.hid (HX1.out.trans (hb.mono HX1.out.size))
      clear hb
      clear kP1
      obtain ⟨FV, hFV⟩ : ∃ V, forA f B3 At As c3 ct cs = V := ⟨_, rfl⟩
      have hszF : (Try.prog.info? 59).map (·.size) = some FV.size := by rw [← hFV]; kernel_rfl
      have HFV := Lib.hid hFV
      have KPU := Lib.hid (fun w hr => KP.out B3 c3 w hr)
      have KRU := Lib.hid (fun w hr => KR.out B3 c3 w hr)
      have KM1 := Lib.hid (fun w hr => KMA.out B3 c3 w hr)
      have KM2 := Lib.hid (fun w hr => KMB.out B3 c3 w hr)
      rw [HFV.out] at KPU KRU
      rw [show forA f B3 At As c3 ct cs = #[.int .i64 f.k, .int .i64 f.cl, .int .i64 f.b, .int .i64 f.t, .int .i64 f.d, .int .i64 f.l, .int .i64 f.p, .int .i64 f.cols, .int .u64 (f.seed : Int), .slice B3 f.edges.length c3, .slice At f.trees.length ct, .int .i64 f.num, .int .i64 f.den, .slice As f.shake.length cs] from rfl]
      clear hFV
      go_upto_region 4 with (fail)
      have kF := Blk.new w3 FV 59
      have bb : Below w3.heap.size w3 (w3.alloc (.cells FV 59)) := (Below.refl _ _).alloc (Nat.le_refl _) _
      rw [show #[.int .i64 f.k, .int .i64 f.cl, .int .i64 f.b, .int .i64 f.t, .int .i64 f.d, .int .i64 f.l, .int .i64 f.p, .int .i64 f.cols, .int .u64 (f.seed : Int), .slice B3 f.edges.length c3, .slice At f.trees.length ct, .int .i64 f.num, .int .i64 f.den, .slice As f.shake.length cs] = FV from HFV.out]
      have HRF := Lib.hid (fun W' (hb : Below w3.heap.size w3 W') => hr3.below hb)
      have HB4 := Lib.hid bb
      have HX4 := Lib.hid (HX3.out.trans (bb.mono HX3.out.size))
      obtain ⟨W4, hW4⟩ : ∃ W, w3.alloc (.cells FV 59) = W := ⟨_, rfl⟩
      rw [hW4] at kF HB4 HX4 ⊢
      obtain ⟨g3, hg3⟩ : ∃ z, w3.heap.size = z := ⟨_, rfl⟩
      rw [hg3] at kF ⊢
      have HKF := Lib.hid (fun W' (hb : Below W4.heap.size W4 W') => kF.below hb)
      have HRF4 := Lib.hid (fun W' (hb : Below W4.heap.size W4 W') => HRF.out W' (HB4.out.trans (hb.mono HB4.out.size)))
      have HY4 := Lib.hid (Below.refl W4.heap.size W4)
      clear bb hr3 hW4 hg3
      go_wp2_with (refine wpList_load_row rfl 59 (.tmp 3) rfl g3 rfl 59 FV (0, 0) _ kF Try.underlying59 rfl hszF ?_)
      refine (KPU.out _ (HRF4.out _ HY4.out)).mono ?_
      rintro e w5 ⟨a5, c5, rfl, ho5, hb⟩
      have HB5 := Lib.hid hb
      have HY5 := Lib.hid (HY4.out.trans (hb.mono HY4.out.size))
      clear hb
      clear kF
      obtain ⟨hc1, hc2⟩ := own_cap ho5
      have hrb5 := RB.own ho5 hin
      obtain ⟨ad, rfl, _⟩ := hrb5.at hpos
      have hadl := rb_lt hrb5 hpos
      have HRB := Lib.hid hrb5
      have HCAP := Lib.hid (And.intro hc1 (And.intro hc2 hadl))
      have HCV := Lib.hid (fun W' (hb : Below w5.heap.size w5 W') => (show (convert 54 9 (.slice (some ad) l.length c5)).run Try.prog W' = .ok (.string (strB l)) W' from conv_str l _ c5 W' (hrb5.below hb) hpos))
      obtain ⟨n, hn⟩ : ∃ n, l.length = n := ⟨_, rfl⟩
      have HN := Lib.hid hn
      have hss := str_self l
      obtain ⟨X0, hX0⟩ : ∃ X, strB l = X := ⟨_, rfl⟩
      rw [hX0] at KRU HCV hss
      rw [hn] at HCV ⊢
      clear ho5 hc1 hc2 hrb5 hadl hX0 hn hpos hmil hin
      have kF := HKF.out _ HY5.out
      go_wp2_with (refine wpList_load_row rfl 59 (.tmp 3) rfl g3 rfl 59 FV (0, 0) _ kF Try.underlying59 rfl hszF ?_)
      refine (KRU.out _ (HRF4.out _ HY5.out)).mono ?_
      rintro e w6 ⟨rfl, hb⟩
      have HB6 := Lib.hid hb
      have HY6 := Lib.hid (HY5.out.trans (hb.mono HY5.out.size))
      clear hb
      clear kF
      have HSS : Hid (∀ W', Below w6.heap.size w6 W' → (fun W' => (W'.cell? ⟨g3, 0, none⟩ = some (.int .i64 f.k) ∧ W'.cell? ⟨g3, 1, none⟩ = some (.int .i64 f.cl) ∧ W'.cell? ⟨g3, 2, none⟩ = some (.int .i64 f.b) ∧ W'.cell? ⟨g3, 3, none⟩ = some (.int .i64 f.t) ∧ W'.cell? ⟨g3, 4, none⟩ = some (.int .i64 f.d) ∧ W'.cell? ⟨g3, 5, none⟩ = some (.int .i64 f.l) ∧ W'.cell? ⟨g3, 6, none⟩ = some (.int .i64 f.p) ∧ W'.cell? ⟨g3, 7, none⟩ = some (.int .i64 f.cols) ∧ W'.cell? ⟨g3, 8, none⟩ = some (.int .u64 (f.seed : Int)) ∧ W'.cell? ⟨g3, 9, none⟩ = some (.slice B3 f.edges.length c3) ∧ W'.cell? ⟨g3, 10, none⟩ = some (.slice At f.trees.length ct) ∧ W'.cell? ⟨g3, 11, none⟩ = some (.int .i64 f.num) ∧ W'.cell? ⟨g3, 12, none⟩ = some (.int .i64 f.den) ∧ W'.cell? ⟨g3, 13, none⟩ = some (.slice As f.shake.length cs)) ∧ (convert 54 9 (.slice (some ad) n c5)).run Try.prog W' = .ok (.string X0) W') W') := Lib.hid (fun W' hb => by
        have h1 := HKF.out W' (HY6.out.trans (hb.mono HY6.out.size))
        rw [← HFV.out] at h1
        exact ⟨Blk.cells14 h1, HCV.out W' (HB6.out.trans (hb.mono HB6.out.size))⟩)
      have HZ0 := Lib.hid ((Below.refl w6.heap.size w6).drew)
      have HRX := Lib.hid (fun W' (hb : Below w6.heap.size w6 W') => HRF4.out W' (HY6.out.trans (hb.mono HY6.out.size)))
      go_upto_region 6 with (fail)
      refine wp_region_held_drew (S := (fun W' => (W'.cell? ⟨g3, 0, none⟩ = some (.int .i64 f.k) ∧ W'.cell? ⟨g3, 1, none⟩ = some (.int .i64 f.cl) ∧ W'.cell? ⟨g3, 2, none⟩ = some (.int .i64 f.b) ∧ W'.cell? ⟨g3, 3, none⟩ = some (.int .i64 f.t) ∧ W'.cell? ⟨g3, 4, none⟩ = some (.int .i64 f.d) ∧ W'.cell? ⟨g3, 5, none⟩ = some (.int .i64 f.l) ∧ W'.cell? ⟨g3, 6, none⟩ = some (.int .i64 f.p) ∧ W'.cell? ⟨g3, 7, none⟩ = some (.int .i64 f.cols) ∧ W'.cell? ⟨g3, 8, none⟩ = some (.int .u64 (f.seed : Int)) ∧ W'.cell? ⟨g3, 9, none⟩ = some (.slice B3 f.edges.length c3) ∧ W'.cell? ⟨g3, 10, none⟩ = some (.slice At f.trees.length ct) ∧ W'.cell? ⟨g3, 11, none⟩ = some (.int .i64 f.num) ∧ W'.cell? ⟨g3, 12, none⟩ = some (.int .i64 f.den) ∧ W'.cell? ⟨g3, 13, none⟩ = some (.slice As f.shake.length cs)) ∧ (convert 54 9 (.slice (some ad) n c5)).run Try.prog W' = .ok (.string X0) W')) (by kernel_rfl) ?_ (fun hS0 => ?_)
      · exact HSS.out _ HZ0.out
      refine' wpAnyH_take (i := 0) (v := _) rfl (by kernel_rfl) (by kernel_rfl) (by kernel_rfl) (fun _ _ _ h => h) (Or.inl ⟨by rfl, ?hym15⟩) hS0 ?restm15
      case hym15 => (intro w hSw; (try dsimp only at hSw); go_simp; try with_reducible rfl)
      simp only [Act.put, List.setIfInBounds_toArray, List.set_cons_zero, List.set_cons_succ, List.getElem_toArray, List.getElem_cons_zero, List.getElem_cons_succ]
      refine' wpAnyH_take (i := 2) (v := _) rfl (by kernel_rfl) (by kernel_rfl) (by kernel_rfl) (fun _ _ _ h => h) (Or.inl ⟨by rfl, ?hym16⟩) hS0 ?restm16
      case hym16 => (intro w hSw; (try dsimp only at hSw); go_simp; try with_reducible rfl)
      simp only [Act.put, List.setIfInBounds_toArray, List.set_cons_zero, List.set_cons_succ, List.getElem_toArray, List.getElem_cons_zero, List.getElem_cons_succ]
      refine wpAnyH_ready (rs := [1]) (by kernel_rfl) (by simp) ?_
      refine AllReadyH.cons rfl (fun K hK => ?_) AllReadyH.nil
      go_simp
      refine (KM1.out _ (HRX.out _ HZ0.out)).mono ?_
      rintro e wq1 ⟨rfl, hb⟩
      have HZ1 := Lib.hid (HZ0.out.trans (hb.mono HZ0.out.size))
      clear hb
      refine hK.out _ _ (HSS.out _ HZ1.out) (fun hS1 => ?_)
      clear hK K
      refine wpAnyH_ready (rs := [3]) (by kernel_rfl) (by simp) ?_
      refine AllReadyH.cons rfl (fun K hK => ?_) AllReadyH.nil
      go_simp
      refine (KM2.out _ (HRX.out _ HZ1.out)).mono ?_
      rintro e wq2 ⟨rfl, hb⟩
      have HZ2 := Lib.hid (HZ1.out.trans (hb.mono HZ1.out.size))
      clear hb
      refine hK.out _ _ (HSS.out _ HZ2.out) (fun hS2 => ?_)
      clear hK K
      refine' wpAnyH_take (i := 4) (v := _) rfl (by kernel_rfl) (by kernel_rfl) (by kernel_rfl) (fun _ _ _ h => h) (Or.inl ⟨by rfl, ?hym17⟩) hS2 ?restm17
      case hym17 => (intro w hSw; (try dsimp only at hSw); go_simp; try with_reducible rfl)
      simp only [Act.put, List.setIfInBounds_toArray, List.set_cons_zero, List.set_cons_succ, List.getElem_toArray, List.getElem_cons_zero, List.getElem_cons_succ]
      refine' wpAnyH_take (i := 5) (v := _) rfl (by kernel_rfl) (by kernel_rfl) (by kernel_rfl) (fun _ _ _ h => h) (Or.inl ⟨by rfl, ?hym18⟩) hS2 ?restm18
      case hym18 => (intro w hSw; (try dsimp only at hSw); go_simp; try with_reducible rfl)
      simp only [Act.put, List.setIfInBounds_toArray, List.set_cons_zero, List.set_cons_succ, List.getElem_toArray, List.getElem_cons_zero, List.getElem_cons_succ]
      refine' wpAnyH_take (i := 6) (v := _) rfl (by kernel_rfl) (by kernel_rfl) (by kernel_rfl) (fun _ _ _ h => h) (Or.inl ⟨by rfl, ?hym19⟩) hS2 ?restm19
      case hym19 => (intro w hSw; (try dsimp only at hSw); go_simp; try with_reducible rfl)
      simp only [Act.put, List.setIfInBounds_toArray, List.set_cons_zero, List.set_cons_succ, List.getElem_toArray, List.getElem_cons_zero, List.getElem_cons_succ]
      refine' wpAnyH_take (i := 7) (v := _) rfl (by kernel_rfl) (by kernel_rfl) (by kernel_rfl) (fun _ _ _ h => h) (Or.inl ⟨by rfl, ?hym20⟩) hS2 ?restm20
      case hym20 => (intro w hSw; (try dsimp only at hSw); go_simp; try with_reducible rfl)
      simp only [Act.put, List.setIfInBounds_toArray, List.set_cons_zero, List.set_cons_succ, List.getElem_toArray, List.getElem_cons_zero, List.getElem_cons_succ]
      refine' wpAnyH_take (i := 8) (v := _) rfl (by kernel_rfl) (by kernel_rfl) (by kernel_rfl) (fun _ _ _ h => h) (Or.inl ⟨by rfl, ?hym21⟩) hS2 ?restm21
      case hym21 => (intro w hSw; (try dsimp only at hSw); go_simp; try with_reducible rfl)
      simp only [Act.put, List.setIfInBounds_toArray, List.set_cons_zero, List.set_cons_succ, List.getElem_toArray, List.getElem_cons_zero, List.getElem_cons_succ]
      refine' wpAnyH_take (i := 9) (v := _) rfl (by kernel_rfl) (by kernel_rfl) (by kernel_rfl) (fun _ _ _ h => h) (Or.inl ⟨by rfl, ?hym22⟩) hS2 ?restm22
      case hym22 => (intro w hSw; (try dsimp only at hSw); go_simp; try with_reducible rfl)
      simp only [Act.put, List.setIfInBounds_toArray, List.set_cons_zero, List.set_cons_succ, List.getElem_toArray, List.getElem_cons_zero, List.getElem_cons_succ]
      refine' wpAnyH_take (i := 10) (v := _) rfl (by kernel_rfl) (by kernel_rfl) (by kernel_rfl) (fun _ _ _ h => h) (Or.inl ⟨by rfl, ?hym23⟩) hS2 ?restm23
      case hym23 => (intro w hSw; (try dsimp only at hSw); go_simp; try with_reducible rfl)
      simp only [Act.put, List.setIfInBounds_toArray, List.set_cons_zero, List.set_cons_succ, List.getElem_toArray, List.getElem_cons_zero, List.getElem_cons_succ]
      refine' wpAnyH_take (i := 11) (v := _) rfl (by kernel_rfl) (by kernel_rfl) (by kernel_rfl) (fun _ _ _ h => h) (Or.inl ⟨by rfl, ?hym24⟩) hS2 ?restm24
      case hym24 => (intro w hSw; (try dsimp only at hSw); go_simp; try with_reducible rfl)
      simp only [Act.put, List.setIfInBounds_toArray, List.set_cons_zero, List.set_cons_succ, List.getElem_toArray, List.getElem_cons_zero, List.getElem_cons_succ]
      refine' wpAnyH_take (i := 12) (v := _) rfl (by kernel_rfl) (by kernel_rfl) (by kernel_rfl) (fun _ _ _ h => h) (Or.inl ⟨by rfl, ?hym25⟩) hS2 ?restm25
      case hym25 => (intro w hSw; (try dsimp only at hSw); go_simp; try with_reducible rfl)
      simp only [Act.put, List.setIfInBounds_toArray, List.set_cons_zero, List.set_cons_succ, List.getElem_toArray, List.getElem_cons_zero, List.getElem_cons_succ]
      refine' wpAnyH_take (i := 13) (v := _) rfl (by kernel_rfl) (by kernel_rfl) (by kernel_rfl) (fun _ _ _ h => h) (Or.inl ⟨by rfl, ?hym26⟩) hS2 ?restm26
      case hym26 => (intro w hSw; (try dsimp only at hSw); go_simp; try with_reducible rfl)
      simp only [Act.put, List.setIfInBounds_toArray, List.set_cons_zero, List.set_cons_succ, List.getElem_toArray, List.getElem_cons_zero, List.getElem_cons_succ]
      refine' wpAnyH_take (i := 14) (v := _) rfl (by kernel_rfl) (by kernel_rfl) (by kernel_rfl) (fun _ _ _ h => h) (Or.inl ⟨by rfl, ?hym27⟩) hS2 ?restm27
      case hym27 => (intro w hSw; (try dsimp only at hSw); go_simp; try with_reducible rfl)
      simp only [Act.put, List.setIfInBounds_toArray, List.set_cons_zero, List.set_cons_succ, List.getElem_toArray, List.getElem_cons_zero, List.getElem_cons_succ]
      refine' wpAnyH_take (i := 15) (v := _) rfl (by kernel_rfl) (by kernel_rfl) (by kernel_rfl) (fun _ _ _ h => h) (Or.inl ⟨by rfl, ?hym28⟩) hS2 ?restm28
      case hym28 => (intro w hSw; (try dsimp only at hSw); go_simp; try with_reducible rfl)
      simp only [Act.put, List.setIfInBounds_toArray, List.set_cons_zero, List.set_cons_succ, List.getElem_toArray, List.getElem_cons_zero, List.getElem_cons_succ]
      refine wpAnyH_done (by kernel_rfl) ?_ _
      have HW7 := Lib.hid (HB6.out.trans (HZ2.out.mono HB6.out.size))
      have HY7 := Lib.hid (HY6.out.trans (HZ2.out.mono HY6.out.size))
      clear hss
      go_wp2_with fail
      have KG := gget_any l (some ad) c5 wq2 (HRB.out.below HW7.out) HCAP.out.1 HCAP.out.2.1 (fun ad' e => by cases e; exact Nat.lt_of_lt_of_le HCAP.out.2.2 HW7.out.size)
      rw [HN.out] at KG
      refine KG.mono ?_
      clear KG
      rintro e w8 ⟨hb, ⟨g, Ag, Atg, Asg, cg, ctg, csg, hg1, rfl, hg2, hg3⟩ | ⟨k, hk, rfl⟩⟩
      rotate_left
      · rw [HGO.out] at hk; cases hk
      have hgf : g = f := by rw [HGO.out] at hg1; cases hg1; rfl
      subst hgf
      have HRG := Lib.hid (fun W' (hb : Below w8.heap.size w8 W') => hg2.below hb)
      have HY8 := Lib.hid (HY7.out.trans (hb.mono HY7.out.size))
      clear hb
      have hsg := HRG.out
      obtain ⟨GV, hGV⟩ : ∃ V, forA g Ag Atg Asg cg ctg csg = V := ⟨_, rfl⟩
      have hszG : (Try.prog.info? 59).map (·.size) = some GV.size := by rw [← hGV]; kernel_rfl
      have HGV := Lib.hid hGV
      rw [show forA g Ag Atg Asg cg ctg csg = #[.int .i64 g.k, .int .i64 g.cl, .int .i64 g.b, .int .i64 g.t, .int .i64 g.d, .int .i64 g.l, .int .i64 g.p, .int .i64 g.cols, .int .u64 (g.seed : Int), .slice Ag g.edges.length cg, .slice Atg g.trees.length ctg, .int .i64 g.num, .int .i64 g.den, .slice Asg g.shake.length csg] from rfl]
      clear hGV hg1 hg2 hg3 hsg
      go_upto_region 11 with (fail)
      rw [show #[.int .i64 g.k, .int .i64 g.cl, .int .i64 g.b, .int .i64 g.t, .int .i64 g.d, .int .i64 g.l, .int .i64 g.p, .int .i64 g.cols, .int .u64 (g.seed : Int), .slice Ag g.edges.length cg, .slice Atg g.trees.length ctg, .int .i64 g.num, .int .i64 g.den, .slice Asg g.shake.length csg] = GV from HGV.out]
      have kG := Blk.new w8 GV 59
      have bb : Below w8.heap.size w8 (w8.alloc (.cells GV 59)) := (Below.refl _ _).alloc (Nat.le_refl _) _
      have HB9 := Lib.hid bb
      have HY9 := Lib.hid (HY8.out.trans (bb.mono HY8.out.size))
      obtain ⟨W9, hW9⟩ : ∃ W, w8.alloc (.cells GV 59) = W := ⟨_, rfl⟩
      rw [hW9] at kG HB9 HY9 ⊢
      obtain ⟨g8, hg8⟩ : ∃ z, w8.heap.size = z := ⟨_, rfl⟩
      rw [hg8] at kG ⊢
      clear bb hW9 hg8
      go_wp2_with fail
      refine (KX.out _).mono ?_
      rintro e wz ⟨rfl, hb⟩
      have kG2 := kG.below hb
      have HB10 := Lib.hid (HB9.out.trans (hb.mono HB9.out.size))
      have HY10 := Lib.hid (HY9.out.trans (hb.mono HY9.out.size))
      clear hb
      clear kG
      have kF := HKF.out _ HY10.out
      go_wp2_with (first | (refine wpList_load_row_g rfl 59 (.tmp 8) rfl g8 rfl 59 GV (0, 0) _ kG2 Try.underlying59 rfl hszG ?_) | (refine wpList_load_row_g rfl 59 (.tmp 3) rfl g3 rfl 59 FV (0, 0) _ kF Try.underlying59 rfl hszF ?_))
      have KSS := KS.out g Ag Atg Asg cg ctg csg B3 c3 wz (HRG.out _ HB10.out) (HRF4.out _ HY10.out) HOKF.out
      rw [HGV.out, HFV.out, decide_eq_true (show g = g from rfl)] at KSS
      refine KSS.mono ?_
      clear KSS
      rintro e wy ⟨rfl, hb⟩
      have HY11 := Lib.hid (HY10.out.trans (hb.mono HY10.out.size))
      clear hb
      go_wp2_with fail
      go_ret
      exact ⟨ret_bool (by first | rfl | simp), HBE.out.trans ((HX4.out.trans (HY11.out.mono HX4.out.size)).mono HBE.out.size)⟩
end Go.Proofs.Ytpekofpiodaadaa.Hb
end

section
/- The law ModelPuts, of whatever reads as its argument. -/
namespace Go.Proofs.Ytpekofpiodaadaa.Hb
set_option linter.unusedVariables false
open Go.RowKit
section
variable {T : Type} {enc : TypeId × Value → T} {W : World} {base : Nat} {sp : Nat → Bool} {held : Bool}
/-- A plain forest, read: the error's numbers are whole numbers of 64 bits. -/
def IsPl2 (W : World) (v : Value) : Prop := ∃ (f : Fst) (Ae At As : Option Addr) (ce ct cs : Nat), v = .agg (forA f Ae At As ce ct cs) ∧ RPl W f Ae At As ∧ OkPl f ∧ in64 f.num ∧ in64 f.den
set_option maxRecDepth 100000 in
theorem read_plain2 {r : Reach} {b0 : Nat} {v : Value} {d : DataW T} {p : List MemPlace} (hv : Value.okWide Try.prog W r b0 52 v) (h : DataW.Trod enc Try.prog W base sp held 52 v d p) : IsPl2 W v := by
  obtain ⟨cs, rfl, q1, q2, rfl, hc, q3, q4, rfl, hcols, q5, q6, rfl, hseed, q7, q8, rfl, he, q9, q10, rfl, ht, q11, q12, rfl, ho, q13, q14, rfl, hs, rfl⟩ := open_agg Try.underlying52 hv h rds_plain
  obtain ⟨_, _, rfl, ⟨k, rfl, _⟩, _, _, rfl, ⟨cl, rfl, _⟩, _, _, rfl, ⟨b, rfl, _⟩, _, _, rfl, ⟨t, rfl, _⟩, _, _, rfl, ⟨dd, rfl, _⟩, _, _, rfl, ⟨l, rfl, _⟩, _, _, rfl, ⟨pp, rfl, _⟩, rfl⟩ := hc
  obtain ⟨cols, rfl, _⟩ := hcols
  obtain ⟨seed, rfl, hsd⟩ := hseed
  obtain ⟨edges, Ae, ce, rfl, le, me, re⟩ := he
  obtain ⟨trees, At, ct, rfl, lt, mt, rt⟩ := ht
  obtain ⟨⟨num, den⟩, rfl, hn, hd⟩ := ho
  obtain ⟨shake, As, cs, rfl, ls, ms, rs⟩ := hs
  exact ⟨⟨k, cl, b, t, dd, l, pp, cols, seed, edges, trees, num, den, shake⟩, Ae, At, As, ce, ct, cs, rfl, ⟨re, rt, rs⟩, ⟨Nat.le_trans le me, Nat.le_trans lt mt, Nat.le_trans ls ms, hsd⟩, hn, hd⟩
end
theorem puts28_row (w : World) (v : Value) (h : IsPl2 w v) : Calls Try.prog 8 #[v] w (True0 w) := by
  obtain ⟨p, Ae, At, As, ce, ct, cs, rfl, hp, ho, hn, hd⟩ := h
  exact puts28_any p Ae At As ce ct cs w hp ho ⟨hn, hd⟩
end Go.Proofs.Ytpekofpiodaadaa.Hb
end

section
/- A run of one goroutine alone, in the form of a row that says 'leaving'. -/
namespace Go.Proofs.Ytpekofpiodaadaa.Hb
theorem leaving_of_handed {a : Assume} {C : Checked} {os : Os} {f : FuncId} {r : Reach} {Pre : World → Array Value → Prop} {Post : World → Array Value → Value → World → Prop} (h : ReturnsInHanded a C os f r Pre Post) : ReturnsInLeavingWide a C os f r Pre Post := fun enter =>
  let ⟨h0, h1, h2, h3, h4⟩ := h enter
  ⟨h0, h1, h2, h3, fun w tape i hf =>
    let ⟨n, v, w', e, c, ro, po, ⟨j, last, hj, hs, ha⟩, al⟩ := h4 w tape i hf
    ⟨n, v, w', e, c, ro, po, ⟨j, last, hj, hs, ha.2.1, onlyLeaving_of_quiet ha.1, ha.2.2⟩, al⟩⟩
end Go.Proofs.Ytpekofpiodaadaa.Hb
end

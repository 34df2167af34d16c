/- Texts joined: the walks and the plain laws that the claim ModelGets rests on. -/
import Derived.Test.YtpekofpiodaadaaMModelGets3
import Derived.Test.YtpekofpiodaadaaMModelGets1
import Derived.Test.YtpekofpiodaadaaMModelGets2
import Derived.Deep.AppendLies
import Derived.Deep.QuietTactic
import Derived.BigQuiet
section
/- The walk of node.Get. -/
namespace Go.Proofs.Ytpekofpiodaadaa.Hb
set_option linter.unusedVariables false
set_option linter.unusedSimpArgs false
open Go.RowKit

theorem rd_grown {w w1 : World} {N g : Nat} {l : List Nat} {row : Option Nat} (h : RdB w N g l) (hg : w.grownBy w1 row) (hr : ∀ q, row = some q → N ≤ q) : RdB w1 N g l := by
  cases row with
  | none =>
    exact h.below ⟨hg.os, hg.tape, hg.output, hg.size, fun k hk => hg.block k hk (by simp)⟩
  | some q => exact h.kept hg (hr q rfl)
theorem gr_own {w w1 w2 : World} {row own : Option Nat} (h : w.grownBy w1 row) (hg : w1.grownBy w2 own) (hr : ∀ q, own = some q → w.heap.size ≤ q) : w.grownBy w2 row :=
  ⟨hg.os.trans h.os, hg.tape.trans h.tape, hg.output.trans h.output, Nat.le_trans h.size hg.size, fun k hk hk2 => (hg.block k (Nat.lt_of_lt_of_le hk h.size) (fun e => by have := hr k e.symm; omega)).trans (h.block k hk hk2)⟩
set_option maxRecDepth 100000 in
set_option maxHeartbeats 8000000 in
theorem nget_any (N g : Nat) (l : List Nat) (cols bins kind classes : Int) (w : World) (h : RdB w N g l) :
    Calls Try.prog 143 #[.pointer (some ⟨g, 0, none⟩), .agg #[.int .i64 cols, .int .i64 bins, .int .i64 kind, .int .i64 classes]] w (Reads (treeP cols bins kind classes l) (fun w' t v => ∃ a c, v = .slice a t.length c ∧ w'.ownsRow w.heap.size 90 6 (.slice a t.length c) t.length (t.flatMap ndC) ∧ (∀ x ∈ t, x.ok) ∧ t.length ≤ 4194304) N g w) := by
  have KN := Lib.hid (fun k l w h h1 h2 => number_any N g k l w h h1 h2)
  have KO := Lib.hid (fun l left w h hl => none_any N g l cols bins kind classes left w h hl)
  have KF3 := Lib.hid (fun w => fail_any g 3 (by decide) w)
  have KF4 := Lib.hid (fun w => fail_any g 4 (by decide) w)
  have KL := Lib.hid (fun f b ll cc s q w => nleaf_any ⟨f, b, ll, cc, s, q⟩ w)
  have KR := Lib.hid (fun t A cap w hr hl => tright_any cols bins kind classes t A cap w hr hl)
  unfold ndV at KO KL
  unfold shpA at KR
  simp only at KL
  obtain ⟨i0, hi0, hz0, hz1, hz2⟩ := info_parts info_node
  have hgN := h.gN
  have hNw := h.Nw
  have hbw : Below w.heap.size w (w.alloc (.cells #[.int .i64 cols, .int .i64 bins, .int .i64 kind, .int .i64 classes] 132)) := (Below.refl w.heap.size w).alloc (Nat.le_refl _) _
  have HR0 := Lib.hid (h.below hbw)
  have HKS0 := Lib.hid (Blk.new w #[.int .i64 cols, .int .i64 bins, .int .i64 kind, .int .i64 classes] 132)
  have HG0 := Lib.hid (gr_below (row := some g) hbw)
  obtain ⟨W, hW⟩ : ∃ W, w.alloc (.cells #[.int .i64 cols, .int .i64 bins, .int .i64 kind, .int .i64 classes] 132) = W := ⟨_, rfl⟩
  obtain ⟨g0, hg0⟩ : ∃ z, w.heap.size = z := ⟨_, rfl⟩
  rw [hW] at HR0 HKS0 HG0
  rw [hg0] at HKS0 hNw ⊢
  have HSZ := Lib.hid hg0
  go_enter Try.func143, Try.ntmps143
  go_upto_region 1 with (fail)
  clear hbw h hW hg0
  go_wp2_with fail
  refine (KN.out 4 _ W HR0.out (by decide) (by decide)).mono ?_
  rintro e w1 ⟨hg1, ⟨n, r1, v, hp1, rfl, ⟨rfl, hx1⟩, hr1⟩ | ⟨er, hp1, rfl⟩⟩
  rotate_left
  · unfold Flt
    go_wp2_with fail
    exact ⟨rfl, gr_trans HG0.out hg1, .inr ⟨er, by unfold treeP; exact bind_err hp1, rfl⟩⟩
  have HG1 := Lib.hid (gr_trans HG0.out hg1)
  have HR1 := Lib.hid hr1
  have HP1 := Lib.hid hp1
  have HX1 := Lib.hid hx1
  have HKS1 := Lib.hid (own_blk HKS0.out hg1 (fun e => by simp only [Option.some.injEq] at e; omega))
  clear hg1 hp1 hr1 hx1 HR0 HG0 HKS0
  by_cases hbig : 4194304 < n
  · have d1 : decide (4194304 < n) = true := decide_eq_true hbig
    have d1' : decide ((4194304 : Int) < n) = true := decide_eq_true (by omega)
    have HB := Lib.hid hbig
    clear hbig
    go_wp2_with fail
    refine (KF4.out _).mono ?_
    rintro e w2 ⟨rfl, rfl⟩
    unfold Flt
    go_wp2_with fail
    exact ⟨rfl, HG1.out, .inr ⟨4, by unfold treeP; rw [bind_ok HP1.out]; rw [if_pos HB.out]; rfl, rfl⟩⟩
  have d1 : decide (4194304 < n) = false := decide_eq_false hbig
  have d1' : decide ((4194304 : Int) < n) = false := decide_eq_false (by omega)
  have HB := Lib.hid hbig
  have hn4 : n ≤ 4194304 := by omega
  clear hbig
  go_wp2_with fail
  clear d1 d1'
  obtain ⟨R, hR⟩ : ∃ R, nodesA kind n 1 [] r1 = R := ⟨_, rfl⟩
  have HRR := Lib.hid hR
  clear hR
  go_loopw [6, 7, 16] (fun o lv iv wr => ∃ (i : Nat) (lf : Int) (a : Option Addr) (c : Nat) (out : List Nd) (rest : List Nat), i ≤ n ∧ iv = .int .u64 i ∧ lv = .int .i64 lf ∧ o = .slice a i c ∧ (1 ≤ lf ∧ lf ≤ 1 + 2 * i) ∧ Hid (out.length = i ∧ wr.ownsRow (g0 + 1) 90 6 (.slice a i c) i (out.flatMap ndC) ∧ ∀ x ∈ out, x.ok) ∧ Hid (RdB wr N g rest) ∧ Hid (nodesA kind (n - i) lf out rest = R) ∧ Hid (w.grownBy wr (some g)) ∧ Hid (Blk wr g0 #[.int .i64 cols, .int .i64 bins, .int .i64 kind, .int .i64 classes] 132)) (fun _ _ iv _ => n - (intOf iv).toNat)
  case atStart => exact ⟨0, 1, none, 0, [], r1, Nat.zero_le _, rfl, rfl, rfl, by omega, Lib.hid ⟨rfl, World.ownsRow_nil _ _ _ _, by simp⟩, HR1, HRR, HG1, HKS1⟩
  case round =>
    obtain ⟨i, lf, a, c, out, rest, hi, rfl, rfl, rfl, hlf, HO, HR, HNO, HG, HKS⟩ := hrel
    have s0 := HKS.out.cell 0
    have s1 := HKS.out.cell 1
    have s2 := HKS.out.cell 2
    have s3 := HKS.out.cell 3
    by_cases hlt : i < n
    · have hlt' : (i : Int) < n := by omega
      have HS : Hid (R = bindP (oneN kind lf) (fun x => nodesA kind (n - (i + 1)) (if x.f = -1 then lf else lf + 2) (out ++ [x])) rest) := Lib.hid (by rw [← HNO.out, show n - i = (n - (i + 1)) + 1 from by omega]; rfl)
      have hwr := HKS.out.lt
      go_wp2_with fail
      refine (KO.out rest lf wr HR.out (by unfold in64; omega)).mono ?_
      rintro e w2 ⟨hg2, ⟨⟨f, b, ll, cc, s, q⟩, r2, v, hp2, rfl, ⟨rfl, hok⟩, hr2⟩ | ⟨er, hp2, rfl⟩⟩
      rotate_left
      · unfold Flt
        go_wp2_with fail
        exact ⟨rfl, gr_trans HG.out hg2, .inr ⟨er, by unfold treeP; rw [bind_ok HP1.out]; rw [if_neg HB.out]; exact bind_err (HRR.out.trans (HS.out.trans (bind_err hp2))), rfl⟩⟩
      simp only
      have HS2 : Hid (nodesA kind (n - (i + 1)) (if f = -1 then lf else lf + 2) (out ++ [⟨f, b, ll, cc, s, q⟩]) r2 = R) := Lib.hid (by rw [HS.out, bind_ok hp2])
      have HOK := Lib.hid hok
      have HO2 := Lib.hid (HO.out.2.1.kept hg2 (.inr (fun e => by have := (World.ownsRow.lt HO.out.2.1 g e).1; omega)))
      have HKS2 := Lib.hid (own_blk HKS.out hg2 (fun e => by simp only [Option.some.injEq] at e; omega))
      have HR2 := Lib.hid hr2
      have HG2 := Lib.hid (gr_trans HG.out hg2)
      clear hp2 hok hg2 hr2 s0 s1 s2 s3 HR HG HKS HS HNO
      go_upto_region 9 with (fail)
      have hb3 : Below w2.heap.size w2 (w2.alloc (.cells #[.int .i64 f, .int .i64 b, .int .i64 ll, .int .i64 cc, .int .i64 s, .int .i64 q] 90)) := (Below.refl w2.heap.size w2).alloc (Nat.le_refl _) _
      have HKZ := Lib.hid (Blk.new w2 #[.int .i64 f, .int .i64 b, .int .i64 ll, .int .i64 cc, .int .i64 s, .int .i64 q] 90)
      have HO3 := Lib.hid (own_below HO2.out hb3)
      have HKS3 := Lib.hid (HKS2.out.below hb3)
      have HR3 := Lib.hid (HR2.out.below hb3)
      have HG3 := Lib.hid (gr_trans HG2.out (gr_below hb3))
      have hw2 : g0 + 1 ≤ w2.heap.size := HKS2.out.lt
      obtain ⟨W3, hW3⟩ : ∃ W, w2.alloc (.cells #[.int .i64 f, .int .i64 b, .int .i64 ll, .int .i64 cc, .int .i64 s, .int .i64 q] 90) = W := ⟨_, rfl⟩
      obtain ⟨g3, hg3⟩ : ∃ z, w2.heap.size = z := ⟨_, rfl⟩
      rw [hW3] at HKZ HO3 HKS3 HR3 HG3 ⊢
      rw [hg3] at HKZ hw2 ⊢
      clear hb3 hW3 hg3 HO2 HKS2 HR2 HG2
      have z0 := HKZ.out.cell 0
      have z1 := HKZ.out.cell 1
      have z2 := HKZ.out.cell 2
      have z3 := HKZ.out.cell 3
      have z4 := HKZ.out.cell 4
      have z5 := HKZ.out.cell 5
      go_wp2_with fail
      refine (KL.out f b ll cc s q _).mono ?_
      rintro e w4 ⟨rfl, hb⟩
      have HO4 := Lib.hid (own_below HO3.out hb)
      have HKS4 := Lib.hid (HKS3.out.below hb)
      have HR4 := Lib.hid (HR3.out.below hb)
      have HG4 := Lib.hid (gr_trans HG3.out (gr_below hb))
      have HKZ4 := Lib.hid (HKZ.out.below hb)
      clear hb z0 z1 z2 z3 z4 z5 HO3 HKS3 HR3 HG3 HKZ
      have z0 := HKZ4.out.cell 0
      have z1 := HKZ4.out.cell 1
      have z2 := HKZ4.out.cell 2
      have z3 := HKZ4.out.cell 3
      have z4 := HKZ4.out.cell 4
      have z5 := HKZ4.out.cell 5
      have hl4 := HKZ4.out.lt
      by_cases hf : f = -1
      · have fb : (f == -1) = true := beq_iff_eq.2 hf
        have HF := Lib.hid hf
        clear hf
        go_wp2_with (at_builtin; refine wpList_append_lies _ rfl _ _ 88 rfl (g0 + 1) 90 i0 (.agg #[.int .i64 0, .int .i64 0, .int .i64 0, .int .i64 0, .int .i64 0, .int .i64 0]) 6 48 Try.underlying88 hi0 hz0 hz1 hz2 rfl (by decide) _ _ _ rfl (HO4.out.alloc _) ⟨w4.heap.size, 0, none⟩ 1 1 [.int .i64 f, .int .i64 b, .int .i64 ll, .int .i64 cc, .int .i64 s, .int .i64 q] rfl rfl (cell_six _ _ _ _ _ _ _ _) (by simp [Value.oneCell']) (by decide) (by unfold maxLen; omega) (by omega) (by simp; omega) _ rfl ?_; intro g5 c5 w5 hown5 hg5 hat5 hlt5)
        have HR5 := Lib.hid (rd_grown (HR4.out.below ((Below.refl w4.heap.size w4).alloc (Nat.le_refl _) (.cells #[.int .i64 f, .int .i64 b, .int .i64 ll, .int .i64 cc, .int .i64 s, .int .i64 q] 90))) hg5 (fun q e => by have := (World.ownsRow.lt HO4.out q e).1; omega))
        have HG5 := Lib.hid (gr_own (gr_trans HG4.out (gr_below ((Below.refl w4.heap.size w4).alloc (Nat.le_refl _) (.cells #[.int .i64 f, .int .i64 b, .int .i64 ll, .int .i64 cc, .int .i64 s, .int .i64 q] 90)))) hg5 (fun q e => by have := (World.ownsRow.lt HO4.out q e).1; have := HSZ.out; omega))
        have HKS5 := Lib.hid (own_blk (HKS4.out.below ((Below.refl w4.heap.size w4).alloc (Nat.le_refl _) (.cells #[.int .i64 f, .int .i64 b, .int .i64 ll, .int .i64 cc, .int .i64 s, .int .i64 q] 90))) hg5 (fun e => by have := (World.ownsRow.lt HO4.out g0 e).1; omega))
        go_roundw
        case rel => exact ⟨i + 1, lf, _, c5, out ++ [⟨f, b, ll, cc, s, q⟩], r2, hlt, by go_num, rfl, rfl, by omega, Lib.hid ⟨by rw [List.length_append, HO.out.1]; rfl, by rw [List.flatMap_append]; exact hown5, fun x hx => by
          rcases List.mem_append.1 hx with hx | hx
          · exact HO.out.2.2 x hx
          · simp only [List.mem_singleton] at hx; subst hx; exact HOK.out⟩, HR5, Lib.hid (by have := HS2.out; rw [if_pos HF.out] at this; exact this), HG5, HKS5⟩
        case measure => simp [intOf]; omega
      · have fb : (f == -1) = false := beq_eq_false_iff_ne.2 hf
        have HF := Lib.hid hf
        clear hf
        have hlw : wrap64 (lf + 2) = lf + 2 := by unfold wrap64; omega
        have hlw2 : IntKind.i64.wrap (lf + 2) = lf + 2 := by rw [wrapI_fst]; exact hlw
        go_wp2_with (at_builtin; refine wpList_append_lies _ rfl _ _ 88 rfl (g0 + 1) 90 i0 (.agg #[.int .i64 0, .int .i64 0, .int .i64 0, .int .i64 0, .int .i64 0, .int .i64 0]) 6 48 Try.underlying88 hi0 hz0 hz1 hz2 rfl (by decide) _ _ _ rfl (HO4.out.alloc _) ⟨w4.heap.size, 0, none⟩ 1 1 [.int .i64 f, .int .i64 b, .int .i64 ll, .int .i64 cc, .int .i64 s, .int .i64 q] rfl rfl (cell_six _ _ _ _ _ _ _ _) (by simp [Value.oneCell']) (by decide) (by unfold maxLen; omega) (by omega) (by simp; omega) _ rfl ?_; intro g5 c5 w5 hown5 hg5 hat5 hlt5)
        have HR5 := Lib.hid (rd_grown (HR4.out.below ((Below.refl w4.heap.size w4).alloc (Nat.le_refl _) (.cells #[.int .i64 f, .int .i64 b, .int .i64 ll, .int .i64 cc, .int .i64 s, .int .i64 q] 90))) hg5 (fun q e => by have := (World.ownsRow.lt HO4.out q e).1; omega))
        have HG5 := Lib.hid (gr_own (gr_trans HG4.out (gr_below ((Below.refl w4.heap.size w4).alloc (Nat.le_refl _) (.cells #[.int .i64 f, .int .i64 b, .int .i64 ll, .int .i64 cc, .int .i64 s, .int .i64 q] 90)))) hg5 (fun q e => by have := (World.ownsRow.lt HO4.out q e).1; have := HSZ.out; omega))
        have HKS5 := Lib.hid (own_blk (HKS4.out.below ((Below.refl w4.heap.size w4).alloc (Nat.le_refl _) (.cells #[.int .i64 f, .int .i64 b, .int .i64 ll, .int .i64 cc, .int .i64 s, .int .i64 q] 90))) hg5 (fun e => by have := (World.ownsRow.lt HO4.out g0 e).1; omega))
        go_roundw
        case rel => exact ⟨i + 1, lf + 2, _, c5, out ++ [⟨f, b, ll, cc, s, q⟩], r2, hlt, by go_num, by first | rfl | go_num, rfl, by omega, Lib.hid ⟨by rw [List.length_append, HO.out.1]; rfl, by rw [List.flatMap_append]; exact hown5, fun x hx => by
          rcases List.mem_append.1 hx with hx | hx
          · exact HO.out.2.2 x hx
          · simp only [List.mem_singleton] at hx; subst hx; exact HOK.out⟩, HR5, Lib.hid (by have := HS2.out; rw [if_neg HF.out] at this; exact this), HG5, HKS5⟩
        case measure => simp [intOf]; omega
    · obtain rfl : n = i := by omega
      have HRE : Hid (nodesA kind n 1 [] r1 = .ok (out, rest)) := Lib.hid (by rw [HRR.out, ← HNO.out, Nat.sub_self]; rfl)
      have hl4 := HO.out.1
      have KRX := Lib.hid (KR.out out a c wr (RN.own (by have := HO.out.2.1; rw [← HO.out.1] at this; exact this) HO.out.2.2) (by omega))
      rw [hl4] at KRX
      clear hl4
      obtain ⟨rt, hrt⟩ : ∃ z, rightT cols bins kind classes out = z := ⟨_, rfl⟩
      rw [hrt] at KRX
      have HRT := Lib.hid hrt
      clear hrt
      go_wp2_with fail
      refine KRX.out.mono ?_
      rintro e w2 ⟨rfl, hb⟩
      have HR5 := Lib.hid (HR.out.below hb)
      have HG5 := Lib.hid (gr_trans HG.out (gr_below hb))
      have HO5 := Lib.hid (own_below HO.out.2.1 hb)
      clear hb s0 s1 s2 s3
      cases rt with
      | false =>
        go_wp2_with fail
        refine (KF3.out _).mono ?_
        rintro e w3 ⟨rfl, rfl⟩
        unfold Flt
        go_wp2_with fail
        exact ⟨rfl, HG5.out, .inr ⟨3, by unfold treeP; rw [bind_ok HP1.out]; rw [if_neg HB.out, bind_ok HRE.out, if_neg (by rw [HRT.out]; decide)]; rfl, rfl⟩⟩
      | true =>
        go_wp2_with fail
        go_ret
        refine ⟨HG5.out, .inl ⟨out, rest, .slice a n c, by unfold treeP; rw [bind_ok HP1.out]; rw [if_neg HB.out, bind_ok HRE.out, if_pos HRT.out]; rfl, rfl, ⟨a, c, by rw [HO.out.1], ?_, HO.out.2.2, by rw [HO.out.1]; exact hn4⟩, HR5.out⟩⟩
        rw [HO.out.1]
        exact own_base_le HO5.out (by have := HSZ.out; omega)
end Go.Proofs.Ytpekofpiodaadaa.Hb
end

section
/- How a grove among the arguments is read. -/
namespace Go.Proofs.Ytpekofpiodaadaa.Hb
set_option linter.unusedVariables false
open Go.RowKit Go.ChangeShapes Go.WideShapes Go.Deep

def intR : List Value → Prop := intK .i64 (-9223372036854775808) 9223372036854775807
section
variable {T : Type} {enc : TypeId × Value → T} {W : World} {base : Nat} {sp : Nat → Bool} {held : Bool}
theorem rds_i64 {t : TypeId} (hu : Try.prog.underlying t = some (.int .i64)) : Rds enc Try.prog W base sp held t intR := rds_int _ _ hu rfl rfl
def irow (k : IntKind) (lo hi : Int) (W : World) (cs : List Value) : Prop := ∃ l : List Int, rowK W 1 (fun y c => c = [.int k y] ∧ lo ≤ y ∧ y ≤ hi) l cs
theorem rds_irow {t e : TypeId} {k : IntKind} (lo hi : Int) (hu : Try.prog.underlying t = some (.slice e)) (he : Try.prog.underlying e = some (.int k)) (hc : Try.prog.cellsOf e = 1) (hlo : k.min = lo) (hhi : k.max = hi) : Rds enc Try.prog W base sp held t (irow k lo hi W) :=
  rds_slice 1 hu hc (rds_int lo hi he hlo hhi)
def cfgK : List Value → Prop := Parts [intR, intR, intR, intR, intR, intR, intR]
theorem rds_cfg : Rds enc Try.prog W base sp held 45 cfgK :=
  rds_struct Try.underlying45 (by kernel_rfl) ⟨rfl, rds_i64 Try.underlying3, by kernel_rfl, rds_i64 Try.underlying3, by kernel_rfl, rds_i64 Try.underlying3, by kernel_rfl, rds_i64 Try.underlying3, by kernel_rfl, rds_i64 Try.underlying3, by kernel_rfl, rds_i64 Try.underlying3, by kernel_rfl, rds_i64 Try.underlying3, trivial⟩
def matK (W : World) : List Value → Prop := Parts [intR, intR, irow .u16 0 65535 W]
theorem rds_mat : Rds enc Try.prog W base sp held 75 (matK W) :=
  rds_struct Try.underlying75 (by kernel_rfl) ⟨rfl, rds_i64 Try.underlying3, by kernel_rfl, rds_i64 Try.underlying3, by kernel_rfl, rds_irow 0 65535 Try.underlying73 Try.underlying71 (by kernel_rfl) rfl rfl, trivial⟩
def nodeK : List Value → Prop := fun cs => ∃ x, ndR x cs
theorem rds_node : Rds enc Try.prog W base sp held 90 nodeK :=
  (rds_struct Try.underlying90 (by kernel_rfl) (Ks := [intR, intR, intR, intR, intR, intR]) ⟨rfl, rds_i64 Try.underlying3, by kernel_rfl, rds_i64 Try.underlying3, by kernel_rfl, rds_i64 Try.underlying3, by kernel_rfl, rds_i64 Try.underlying3, by kernel_rfl, rds_i64 Try.underlying2, by kernel_rfl, rds_i64 Try.underlying2, trivial⟩).mono fun cs h => by
    obtain ⟨_, _, rfl, ⟨f, rfl, hf⟩, _, _, rfl, ⟨b, rfl, hb⟩, _, _, rfl, ⟨l, rfl, hl⟩, _, _, rfl, ⟨c, rfl, hc⟩, _, _, rfl, ⟨s, rfl, hs⟩, _, _, rfl, ⟨k, rfl, hk⟩, rfl⟩ := h
    exact ⟨⟨f, b, l, c, s, k⟩, rfl, hf, hb, hl, hc, hs, hk⟩
def treeK (W : World) (cs : List Value) : Prop := ∃ t : List Nd, rowK W 6 ndR t cs
theorem rds_tree : Rds enc Try.prog W base sp held 88 (treeK W) := rds_slice 6 Try.underlying88 (by kernel_rfl) rds_node
def treesK (W : World) (cs : List Value) : Prop := ∃ l : List (List Nd), rowK W 1 (rowK W 6 ndR) l cs
theorem rds_trees : Rds enc Try.prog W base sp held 47 (treesK W) := rds_slice 1 Try.underlying47 (by kernel_rfl) rds_tree
def iK (W : World) (cs : List Value) : Prop := ∃ t : List Int, rowK W 1 intR1 t cs
theorem rds_ints {t e : TypeId} (hu : Try.prog.underlying t = some (.slice e)) (he : Try.prog.underlying e = some (.int .i64)) (hc : Try.prog.cellsOf e = 1) : Rds enc Try.prog W base sp held t (iK W) := rds_slice 1 hu hc ((rds_i64 he).mono fun cs h => by obtain ⟨n, e, h1, h2⟩ := h; exact ⟨n, e, h1, h2⟩)
def wgtK (W : World) (cs : List Value) : Prop := ∃ l : List (List Int), rowK W 1 (rowK W 1 intR1) l cs
theorem rds_wgts : Rds enc Try.prog W base sp held 76 (wgtK W) := rds_slice 1 Try.underlying76 (by kernel_rfl) (rds_ints Try.underlying24 Try.underlying3 (by kernel_rfl))
theorem rds_grv : Rds enc Try.prog W base sp held 79 (Parts [cfgK, matK W, treesK W, wgtK W, iK W]) :=
  rds_struct Try.underlying79 (by kernel_rfl) ⟨rfl, rds_cfg, by kernel_rfl, rds_mat, by kernel_rfl, rds_trees, by kernel_rfl, rds_wgts, by kernel_rfl, rds_ints Try.underlying77 Try.underlying2 (by kernel_rfl), trivial⟩
/-- A grove, read. -/
def IsGrv (W : World) (v : Value) : Prop := ∃ (g : Grv) (Ac At Aw Ag : Option Addr) (cc ct cw cg : Nat), v = .agg (grvA g Ac At Aw Ag cc ct cw cg) ∧ RG W g Ac At Aw Ag ∧ g.cells.length ≤ 9223372036854775807 ∧ g.trees.length ≤ 9223372036854775807 ∧ g.weights.length ≤ 9223372036854775807 ∧ g.tgt.length ≤ 9223372036854775807
set_option maxRecDepth 100000 in
theorem read_grv {r : Reach} {b0 : Nat} {v : Value} {d : DataW T} {p : List MemPlace} (hv : Value.okWide Try.prog W r b0 79 v) (h : DataW.Trod enc Try.prog W base sp held 79 v d p) : IsGrv W v := by
  obtain ⟨cs, rfl, q1, q2, rfl, hc, q3, q4, rfl, hm, q5, q6, rfl, ht, q7, q8, rfl, hw, q9, q10, rfl, hg, rfl⟩ := open_agg Try.underlying79 hv h rds_grv
  obtain ⟨_, _, rfl, ⟨k, rfl, _⟩, _, _, rfl, ⟨cl, rfl, _⟩, _, _, rfl, ⟨b, rfl, _⟩, _, _, rfl, ⟨t, rfl, _⟩, _, _, rfl, ⟨dd, rfl, _⟩, _, _, rfl, ⟨l, rfl, _⟩, _, _, rfl, ⟨pp, rfl, _⟩, rfl⟩ := hc
  obtain ⟨_, _, rfl, ⟨rows, rfl, _⟩, _, _, rfl, ⟨cols, rfl, _⟩, _, _, rfl, ⟨cells, Ac, cc, rfl, lc, mc, rc⟩, rfl⟩ := hm
  obtain ⟨trees, At, ct, rfl, lt, mt, rt⟩ := ht
  obtain ⟨wgts, Aw, cw, rfl, lw, mw, rw⟩ := hw
  obtain ⟨tgt, Ag, cg, rfl, lg, mg, rg⟩ := hg
  exact ⟨⟨k, cl, b, t, dd, l, pp, rows, cols, cells, trees, wgts, tgt⟩, Ac, At, Aw, Ag, cc, ct, cw, cg, rfl, ⟨rc.ints, rt, rw, rg⟩, Nat.le_trans lc mc, Nat.le_trans lt mt, Nat.le_trans lw mw, Nat.le_trans lg mg⟩
end
end Go.Proofs.Ytpekofpiodaadaa.Hb
end

section
/- How a plain forest among the arguments is read. -/
namespace Go.Proofs.Ytpekofpiodaadaa.Hb
set_option linter.unusedVariables false
open Go.RowKit Go.ChangeShapes Go.WideShapes Go.Deep

def u64R (y : Nat) (c : List Value) : Prop := c = [.int .u64 (y : Int)] ∧ y < 18446744073709551616
def RU2 (w : World) (A : Option Addr) (l : List (List Nat)) : Prop := RowAt w 1 (rowK w 1 u64R) A l
def RU1 (w : World) (A : Option Addr) (l : List Nat) : Prop := RowAt w 1 u64R A l
theorem RU2.below {w w1 : World} {A : Option Addr} {l : List (List Nat)} (h : RU2 w A l) (hb : Below w.heap.size w w1) : RU2 w1 A l := RowAt.belowR h hb (fun _ _ h => h.below hb)
theorem RU1.below {w w1 : World} {A : Option Addr} {l : List Nat} (h : RU1 w A l) (hb : Below w.heap.size w w1) : RU1 w1 A l := RowAt.below h hb
theorem RU2.at {w : World} {A : Option Addr} {l : List (List Nat)} (h : RU2 w A l) {i : Nat} (hi : i < l.length) : ∃ ad, A = some ad ∧ ∃ t B cap, l[i]? = some t ∧ w.cell? (ad.add i) = some (.slice B t.length cap) ∧ t.length ≤ cap ∧ cap ≤ 9223372036854775807 ∧ RU1 w B t := by
  obtain ⟨ad, rfl, ha⟩ := h (by omega)
  obtain ⟨c, h1, ⟨B, cap, rfl, k1, k2, k3⟩, h3⟩ := ha i _ (List.getElem?_eq_getElem hi)
  have e := h3 0 _ rfl
  rw [Nat.mul_one, Nat.add_zero] at e
  exact ⟨ad, rfl, _, B, cap, List.getElem?_eq_getElem hi, e, k1, k2, k3⟩
theorem RU1.at {w : World} {A : Option Addr} {l : List Nat} (h : RU1 w A l) {i : Nat} (hi : i < l.length) : ∃ ad, A = some ad ∧ w.cell? (ad.add i) = some (.int .u64 (l.getD i 0 : Nat)) ∧ l.getD i 0 < 18446744073709551616 := by
  obtain ⟨ad, rfl, ha⟩ := h (by omega)
  obtain ⟨c, h1, ⟨rfl, hok⟩, h3⟩ := ha i _ (List.getElem?_eq_getElem hi)
  have e : l.getD i 0 = l[i] := by rw [List.getD_eq_getElem?_getD, List.getElem?_eq_getElem hi]; rfl
  rw [e]
  have e := h3 0 _ rfl
  rw [Nat.mul_one, Nat.add_zero] at e
  exact ⟨ad, rfl, e, hok⟩
theorem RU1.all {w : World} {A : Option Addr} {l : List Nat} (h : RU1 w A l) : ∀ x ∈ l, x < 18446744073709551616 := by
  intro x hx
  obtain ⟨i, hi, rfl⟩ := List.getElem_of_mem hx
  obtain ⟨_, _, _, h3⟩ := h.at hi
  rwa [List.getD_eq_getElem?_getD, List.getElem?_eq_getElem hi] at h3
theorem RU2.all {w : World} {A : Option Addr} {l : List (List Nat)} (h : RU2 w A l) : ∀ t ∈ l, ∀ x ∈ t, x < 18446744073709551616 := by
  intro t ht
  obtain ⟨i, hi, rfl⟩ := List.getElem_of_mem ht
  obtain ⟨_, _, t, B, cap, h1, _, _, _, h2⟩ := h.at hi
  rw [List.getElem?_eq_getElem hi] at h1
  cases h1
  exact h2.all
/-- A plain forest as it is read. -/
structure RPl (w : World) (f : Fst) (Ae At As : Option Addr) : Prop where
  re : RU2 w Ae f.edges
  rt : RT w At f.trees
  rs : RS2 w As f.shake
theorem RPl.below {w w1 : World} {f : Fst} {Ae At As : Option Addr} (h : RPl w f Ae At As) (hb : Below w.heap.size w w1) : RPl w1 f Ae At As := ⟨h.re.below hb, h.rt.below hb, h.rs.below hb⟩
section
variable {T : Type} {enc : TypeId × Value → T} {W : World} {base : Nat} {sp : Nat → Bool} {held : Bool}
def edgesK (W : World) (cs : List Value) : Prop := ∃ l : List (List Nat), rowK W 1 (rowK W 1 u64R) l cs
theorem rds_u64 : Rds enc Try.prog W base sp held 34 (fun cs => ∃ y, u64R y cs) := (rds_int 0 18446744073709551615 Try.underlying34 rfl rfl).mono fun cs h => by
  obtain ⟨n, e, h1, h2⟩ := h
  refine ⟨n.toNat, ?_, by omega⟩
  rw [e, Int.toNat_of_nonneg h1]
theorem rds_u64s : Rds enc Try.prog W base sp held 31 (fun cs => ∃ l : List Nat, rowK W 1 u64R l cs) := rds_slice 1 Try.underlying31 (by kernel_rfl) rds_u64
theorem rds_edges : Rds enc Try.prog W base sp held 46 (edgesK W) := rds_slice 1 Try.underlying46 (by kernel_rfl) rds_u64s
def sgK : List Value → Prop := fun cs => ∃ x, sgR x cs
theorem rds_sg : Rds enc Try.prog W base sp held 49 sgK :=
  (rds_struct Try.underlying49 (by kernel_rfl) (Ks := [intR, intR]) ⟨rfl, rds_i64 Try.underlying2, by kernel_rfl, rds_i64 Try.underlying2, trivial⟩).mono fun cs h => by
    obtain ⟨_, _, rfl, ⟨a, rfl, ha⟩, _, _, rfl, ⟨b, rfl, hb⟩, rfl⟩ := h
    exact ⟨⟨a, b⟩, rfl, ha, hb⟩
def sgsK (W : World) (cs : List Value) : Prop := ∃ l : List (Int × Int), rowK W 2 sgR l cs
theorem rds_sgs : Rds enc Try.prog W base sp held 50 (sgsK W) := rds_slice 2 Try.underlying50 (by kernel_rfl) rds_sg
theorem rds_plain : Rds enc Try.prog W base sp held 52 (Parts [cfgK, intR, fun cs => ∃ y, u64R y cs, edgesK W, treesK W, sgK, sgsK W]) :=
  rds_struct Try.underlying52 (by kernel_rfl) ⟨rfl, rds_cfg, by kernel_rfl, rds_i64 Try.underlying3, by kernel_rfl, rds_u64, by kernel_rfl, rds_edges, by kernel_rfl, rds_trees, by kernel_rfl, rds_sg, by kernel_rfl, rds_sgs, trivial⟩
/-- A plain forest, read. -/
def IsPl (W : World) (v : Value) : Prop := ∃ (f : Fst) (Ae At As : Option Addr) (ce ct cs : Nat), v = .agg (forA f Ae At As ce ct cs) ∧ RPl W f Ae At As ∧ f.edges.length ≤ 9223372036854775807 ∧ f.trees.length ≤ 9223372036854775807 ∧ f.shake.length ≤ 9223372036854775807 ∧ f.seed < 18446744073709551616
set_option maxRecDepth 100000 in
theorem read_plain {r : Reach} {b0 : Nat} {v : Value} {d : DataW T} {p : List MemPlace} (hv : Value.okWide Try.prog W r b0 52 v) (h : DataW.Trod enc Try.prog W base sp held 52 v d p) : IsPl W v := by
  obtain ⟨cs, rfl, q1, q2, rfl, hc, q3, q4, rfl, hcols, q5, q6, rfl, hseed, q7, q8, rfl, he, q9, q10, rfl, ht, q11, q12, rfl, ho, q13, q14, rfl, hs, rfl⟩ := open_agg Try.underlying52 hv h rds_plain
  obtain ⟨_, _, rfl, ⟨k, rfl, _⟩, _, _, rfl, ⟨cl, rfl, _⟩, _, _, rfl, ⟨b, rfl, _⟩, _, _, rfl, ⟨t, rfl, _⟩, _, _, rfl, ⟨dd, rfl, _⟩, _, _, rfl, ⟨l, rfl, _⟩, _, _, rfl, ⟨pp, rfl, _⟩, rfl⟩ := hc
  obtain ⟨cols, rfl, _⟩ := hcols
  obtain ⟨seed, rfl, hsd⟩ := hseed
  obtain ⟨edges, Ae, ce, rfl, le, me, re⟩ := he
  obtain ⟨trees, At, ct, rfl, lt, mt, rt⟩ := ht
  obtain ⟨⟨num, den⟩, rfl, _⟩ := ho
  obtain ⟨shake, As, cs, rfl, ls, ms, rs⟩ := hs
  exact ⟨⟨k, cl, b, t, dd, l, pp, cols, seed, edges, trees, num, den, shake⟩, Ae, At, As, ce, ct, cs, rfl, ⟨re, rt, rs⟩, Nat.le_trans le me, Nat.le_trans lt mt, Nat.le_trans ls ms, hsd⟩
end
end Go.Proofs.Ytpekofpiodaadaa.Hb
end

section
/- The walks of ref06.Of and of ref28.Plain.Full. -/
namespace Go.Proofs.Ytpekofpiodaadaa.Hb
set_option linter.unusedVariables false
set_option linter.unusedSimpArgs false
open Go.RowKit

def flts (l : List Nat) : List Value := l.map fun x : Nat => Value.float .f64 x
theorem flts_len (l : List Nat) : (flts l).length = l.length := by simp [flts]
theorem flts_get {l : List Nat} {i : Nat} (h : i < l.length) : (flts l)[i]? = some (.float .f64 (l.getD i 0)) := by simp [flts, List.getD_eq_getElem?_getD, h]
theorem flts_next {l : List Nat} {i : Nat} (h : i < l.length) : flts (l.take (i + 1)) = flts (l.take i) ++ [.float .f64 (l.getD i 0)] := by
  rw [List.take_succ_eq_append_getElem h, List.getD_eq_getElem?_getD, List.getElem?_eq_getElem h]
  unfold flts
  rw [List.map_append]
  rfl
theorem info_f64 : (Try.prog.info? 139).map (fun i => (i.zero, i.size, i.bytes)) = some (some (.float .f64 0), 1, 8) := by kernel_rfl
theorem info_fs : (Try.prog.info? 94).map (fun i => (i.zero, i.size, i.bytes)) = some (some (.slice none 0 0), 1, 24) := by kernel_rfl
theorem RF.own {w : World} {base n c : Nat} {A : Option Addr} {l : List Nat} (h : w.ownsRow base 139 1 (.slice A n c) l.length (flts l)) (ho : ∀ x ∈ l, x < 18446744073709551616) : RF w A l := by
  intro h0
  obtain ⟨g, cap, hv, _, _, _, hc⟩ := own_open h h0
  simp only [Value.slice.injEq] at hv
  obtain ⟨rfl, _, _⟩ := hv
  refine ⟨_, rfl, fun i y hy => ⟨[.float .f64 y], rfl, ⟨rfl, ho y (List.mem_of_getElem? hy)⟩, fun j u hj => ?_⟩⟩
  obtain rfl : j = 0 := by have := (List.getElem?_eq_some_iff.1 hj).1; simp at this; omega
  simp only [List.getElem?_cons_zero, Option.some.injEq] at hj
  subst hj
  obtain ⟨hi, rfl⟩ := List.getElem?_eq_some_iff.1 hy
  rw [Nat.mul_one, Nat.add_zero, show (⟨g, 0, none⟩ : Addr).add i = ⟨g, i, none⟩ from by unfold Addr.add; split <;> simp_all]
  rw [hc i _ (flts_get hi), List.getD_eq_getElem?_getD, List.getElem?_eq_getElem hi]
  rfl
set_option maxRecDepth 100000 in
set_option maxHeartbeats 4000000 in
theorem rof_any (l : List Nat) (A : Option Addr) (cap : Nat) (w : World) (hr : RU1 w A l) (hl : l.length ≤ 1099511627776) :
    Calls Try.prog 46 #[.slice A l.length cap] w fun e w' => ∃ a c, e = .returned (.slice a l.length c) ∧ w'.ownsRow w.heap.size 139 1 (.slice a l.length c) l.length (flts l) ∧ Below w.heap.size w w' := by
  obtain ⟨i0, hi0, hz0, hz1, hz2⟩ := info_parts info_f64
  have HR := Lib.hid hr
  have HSN := Lib.hid (fun i (h : i < l.length) => flts_next h)
  obtain ⟨n, hn⟩ : ∃ n, l.length = n := ⟨_, rfl⟩
  have HN := Lib.hid hn
  rw [hn] at hl HSN ⊢
  clear hn hr
  go_enter Try.func46, Try.ntmps46
  go_wp2_with fail
  go_loopw [3, 4] (fun o iv wr => ∃ (k : Nat) (a : Option Addr) (c : Nat), k ≤ n ∧ iv = .int .i64 k ∧ o = .slice a k c ∧ Hid (wr.ownsRow w.heap.size 139 1 (.slice a k c) k (flts (l.take k))) ∧ Hid (Below w.heap.size w wr)) (fun _ iv _ => n - (intOf iv).toNat)
  case atStart =>
    refine ⟨0, _, _, Nat.zero_le _, rfl, rfl, Lib.hid ?_, Lib.hid ((Below.refl _ _).alloc (Nat.le_refl _) _)⟩
    exact World.ownsRow_made w #[] 0 (Nat.le_refl _) (Nat.zero_le _) rfl
  case round =>
    obtain ⟨k, a, c, hk, rfl, rfl, HO, HB⟩ := hrel
    by_cases hlt : k < n
    · have hlt' : (k : Int) < n := by omega
      obtain ⟨ad, rfl, hx, hxl⟩ := (HR.out.below HB.out).at (i := k) (by rw [HN.out]; exact hlt)
      have HX := Lib.hid (HSN.out k hlt)
      obtain ⟨x, ex⟩ : ∃ x, l.getD k 0 = x := ⟨_, rfl⟩
      rw [ex] at hx hxl HX
      have hf := f64from_run x
      have hs : w.heap.size ≤ wr.heap.size := HB.out.size
      clear ex
      go_wp2_with (at_builtin; refine wpList_append_lies _ rfl _ _ 94 rfl w.heap.size 139 i0 (.float .f64 0) 1 8 Try.underlying94 hi0 hz0 hz1 hz2 rfl (by decide) _ _ _ rfl (HO.out.alloc _) ⟨wr.heap.size, 0, none⟩ 1 1 [.float .f64 x] rfl rfl (cell_one_new _ _ _) (by simp [Value.oneCell']) (by decide) (by unfold maxLen; omega) (by omega) (by simp; omega) _ rfl ?_; intro g2 c2 w2 hown2 hg2 hat2 hlt2)
      go_roundw
      case rel =>
        refine ⟨k + 1, _, c2, hlt, by go_num, rfl, Lib.hid ?_, Lib.hid ?_⟩
        · rw [HX.out]; exact hown2
        · exact (HB.out.alloc HB.out.size _).grown hg2 (by have := HB.out.size; simp; omega) (fun q e => (World.ownsRow.lt HO.out q e).1)
      case measure => simp [intOf]; omega
    · obtain rfl : n = k := by omega
      go_wp2_with fail
      go_ret
      refine ⟨_, _, rfl, ?_, HB.out⟩
      have := HO.out
      rwa [List.take_of_length_le (by rw [HN.out]; exact Nat.le_refl _)] at this
/-- Rows of rows that the call owns. -/
structure Eds (w : World) (N : Nat) (v : Value) (n : Nat) (xs : List Value) (E : List (List Nat)) : Prop where
  own : w.ownsRow N 94 1 v n xs
  len : E.length = n
  row : ∀ (j : Nat) (es : List Nat), E[j]? = some es → ∃ a c, xs[j]? = some (Value.slice a es.length c) ∧ w.ownsRow N 139 1 (.slice a es.length c) es.length (flts es) ∧ ∀ g, (Value.slice a es.length c).ownBlock = some g → v.ownBlock ≠ some g
theorem Eds.below {w w1 : World} {N n : Nat} {v : Value} {xs : List Value} {E : List (List Nat)} (h : Eds w N v n xs E) (hb : Below w.heap.size w w1) : Eds w1 N v n xs E :=
  ⟨own_below h.own hb, h.len, fun j es he => by
    obtain ⟨a, c, h1, h2, h3⟩ := h.row j es he
    exact ⟨a, c, h1, own_below h2 hb, h3⟩⟩
theorem Eds.kept {w w1 : World} {N n q : Nat} {v : Value} {xs : List Value} {E : List (List Nat)} (h : Eds w N v n xs E) (hg : w.grownBy w1 (some q)) (hq : q < N) : Eds w1 N v n xs E :=
  ⟨h.own.kept hg (.inr (fun e => by have := (World.ownsRow.lt h.own q e).1; omega)), h.len, fun j es he => by
    obtain ⟨a, c, h1, h2, h3⟩ := h.row j es he
    exact ⟨a, c, h1, h2.kept hg (.inr (fun e => by have := (World.ownsRow.lt h2 q e).1; omega)), h3⟩⟩
theorem Eds.snoc {w w1 : World} {N n c g cap : Nat} {v : Value} {a : Option Addr} {xs : List Value} {E : List (List Nat)} {es : List Nat} (h : Eds w N v n xs E)
    (ho : w.ownsRow N 139 1 (.slice a es.length c) es.length (flts es)) (hn : ∀ q, (Value.slice a es.length c).ownBlock = some q → v.ownBlock ≠ some q)
    (hown : w1.ownsRow N 94 1 (.slice (some ⟨g, 0, none⟩) (n + 1) cap) (n + 1) (xs ++ [.slice a es.length c])) (hg : w.grownBy w1 v.ownBlock) (hat : v.ownBlock = some g ∨ g = w.heap.size) :
    Eds w1 N (.slice (some ⟨g, 0, none⟩) (n + 1) cap) (n + 1) (xs ++ [.slice a es.length c]) (E ++ [es]) := by
  have hl : xs.length = n := by have := h.own.1; omega
  have key : ∀ (a : Option Addr) (c : Nat) (es : List Nat), w.ownsRow N 139 1 (.slice a es.length c) es.length (flts es) → (∀ q, (Value.slice a es.length c).ownBlock = some q → v.ownBlock ≠ some q) →
      w1.ownsRow N 139 1 (.slice a es.length c) es.length (flts es) ∧ ∀ q, (Value.slice a es.length c).ownBlock = some q → (Value.slice (some ⟨g, 0, none⟩) (n + 1) cap).ownBlock ≠ some q := by
    intro a c es h1 h2
    refine ⟨h1.kept hg ?_, fun q hq e => ?_⟩
    · cases hb : (Value.slice a es.length c).ownBlock with
      | none => exact .inl rfl
      | some q => exact .inr (fun e => h2 q hb e.symm)
    · simp only [Value.ownBlock, Option.some.injEq] at e
      subst e
      rcases hat with e | e
      · exact h2 _ hq e
      · have := (World.ownsRow.lt h1 _ hq).2; omega
  refine ⟨hown, by rw [List.length_append, h.len]; rfl, fun j es' he => ?_⟩
  by_cases hj : j < n
  · rw [List.getElem?_append_left (by rw [h.len]; exact hj)] at he
    obtain ⟨a', c', h1, h2, h3⟩ := h.row j es' he
    have := key a' c' es' h2 h3
    exact ⟨a', c', by rw [List.getElem?_append_left (by omega)]; exact h1, this.1, this.2⟩
  · rw [List.getElem?_append_right (by rw [h.len]; omega), h.len] at he
    have hj0 : j - n = 0 := by have := (List.getElem?_eq_some_iff.1 he).1; simp at this; omega
    rw [hj0] at he
    simp only [List.getElem?_cons_zero, Option.some.injEq] at he
    subst he
    have := key a c es ho hn
    exact ⟨a, c, by rw [List.getElem?_append_right (by omega), hl, hj0]; rfl, this.1, this.2⟩
theorem Eds.re {w : World} {N n c : Nat} {A : Option Addr} {xs : List Value} {E : List (List Nat)} (h : Eds w N (.slice A n c) n xs E) (ho : ∀ t ∈ E, ∀ x ∈ t, x < 18446744073709551616) : RE w A E := by
  intro h0
  obtain ⟨g, cap, hv, _, _, _, hc⟩ := own_open h.own (by have := h.len; omega)
  simp only [Value.slice.injEq] at hv
  obtain ⟨rfl, _, _⟩ := hv
  refine ⟨_, rfl, fun i y hy => ?_⟩
  obtain ⟨a, c', h1, h2, _⟩ := h.row i y hy
  refine ⟨[.slice a y.length c'], rfl, ⟨a, c', rfl, ?_, ?_, RF.own h2 (ho y (List.mem_of_getElem? hy))⟩, fun j u hj => ?_⟩
  · rcases h2.2 with ⟨e, e2⟩ | ⟨g', cap', cur, e, _, _, q1, q2, _⟩
    · omega
    · simp only [Value.slice.injEq] at e; omega
  · rcases h2.2 with ⟨e, e2⟩ | ⟨g', cap', cur, e, _, _, q1, q2, _⟩
    · simp only [Value.slice.injEq] at e; omega
    · simp only [Value.slice.injEq] at e; unfold maxLen at q2; omega
  · obtain rfl : j = 0 := by have := (List.getElem?_eq_some_iff.1 hj).1; simp at this; omega
    simp only [List.getElem?_cons_zero, Option.some.injEq] at hj
    subst hj
    rw [Nat.mul_one, Nat.add_zero, show (⟨g, 0, none⟩ : Addr).add i = ⟨g, i, none⟩ from by unfold Addr.add; split <;> simp_all]
    exact hc i _ h1
/-- Three boxes of a call. -/
structure Bx3 (w wr : World) (C0 C1 C2 : Array Value) (t0 t1 t2 : TypeId) : Prop where
  b0 : Blk wr w.heap.size C0 t0
  b1 : Blk wr (w.heap.size + 1) C1 t1
  b2 : Blk wr (w.heap.size + 1 + 1) C2 t2
  bl : Below w.heap.size w wr
theorem Bx3.below {w wr w1 : World} {C0 C1 C2 : Array Value} {t0 t1 t2 : TypeId} (h : Bx3 w wr C0 C1 C2 t0 t1 t2) (hb : Below wr.heap.size wr w1) : Bx3 w w1 C0 C1 C2 t0 t1 t2 :=
  ⟨h.b0.below hb, h.b1.below hb, h.b2.below hb, h.bl.trans (hb.mono h.bl.size)⟩
theorem Bx3.grown {w wr w1 : World} {C0 C1 C2 : Array Value} {t0 t1 t2 : TypeId} {row : Option Nat} (h : Bx3 w wr C0 C1 C2 t0 t1 t2) (hg : wr.grownBy w1 row) (hr : ∀ q, row = some q → w.heap.size + 1 + 1 + 1 ≤ q) : Bx3 w w1 C0 C1 C2 t0 t1 t2 :=
  ⟨own_blk h.b0 hg (fun e => by have := hr _ e; omega), own_blk h.b1 hg (fun e => by have := hr _ e; omega), own_blk h.b2 hg (fun e => by have := hr _ e; omega), h.bl.grown hg h.bl.size (fun q e => by have := hr q e; omega)⟩
theorem grown_set3 (w : World) (q i : Nat) (v : Value) : w.grownBy (w.setCell ⟨q, i, none⟩ v) (some q) := ⟨rfl, rfl, rfl, by simp, fun k _ hk => Below.heap_setCell w ⟨q, i, none⟩ v k (fun e => hk (by rw [e]))⟩
theorem Bx3.set {w wr : World} {C0 C1 C2 : Array Value} {t0 t1 t2 : TypeId} (h : Bx3 w wr C0 C1 C2 t0 t1 t2) (i : Nat) (v : Value) : Bx3 w (wr.setCell ⟨w.heap.size + 1 + 1, i, none⟩ v) C0 C1 (C2.setIfInBounds i v) t0 t1 t2 :=
  ⟨own_blk h.b0 (grown_set3 wr _ i v) (fun e => by simp only [Option.some.injEq] at e; omega), own_blk h.b1 (grown_set3 wr _ i v) (fun e => by simp only [Option.some.injEq] at e; omega), h.b2.set i v, h.bl.grown (grown_set3 wr _ i v) h.bl.size (fun q e => by cases e; omega)⟩
theorem grown_row (w : World) (q : Nat) (cs : Array Value) : w.grownBy (w.setRow q cs) (some q) := ⟨rfl, rfl, rfl, by rw [size_setRow]; exact Nat.le_refl _, fun k _ hk => row_other (fun e => hk (by rw [e]))⟩
theorem forest_size3 : (Try.prog.info? 59).map (·.size) = some 14 := by kernel_rfl
theorem take_next {α : Type} {l : List α} {j : Nat} {x : α} (h : l[j]? = some x) : l.take (j + 1) = l.take j ++ [x] := by
  obtain ⟨hh, he⟩ := List.getElem?_eq_some_iff.1 h
  rw [List.take_succ_eq_append_getElem hh, he]
set_option maxRecDepth 100000 in
set_option maxHeartbeats 8000000 in
theorem full_any (f : Fst) (Ae At As : Option Addr) (ce ct cs : Nat) (w : World) (hr : RPl w f Ae At As) (hl : f.edges.length ≤ 20) (hl2 : ∀ t ∈ f.edges, t.length ≤ 300) :
    Calls Try.prog 31 #[.agg (forA f Ae At As ce ct cs)] w fun e w' => ∃ Be c, e = .returned (.agg (forA f Be At As c ct cs)) ∧ RFo w' f Be At As ∧ Below w.heap.size w w' := by
  have KO := Lib.hid rof_any
  have HR := Lib.hid hr
  have HL2 := Lib.hid hl2
  obtain ⟨i0, hi0, hz0, hz1, hz2⟩ := info_parts info_fs
  unfold forA
  obtain ⟨ne, hne⟩ : ∃ n, f.edges.length = n := ⟨_, rfl⟩
  obtain ⟨nt, hnt⟩ : ∃ n, f.trees.length = n := ⟨_, rfl⟩
  obtain ⟨ns, hns⟩ : ∃ n, f.shake.length = n := ⟨_, rfl⟩
  rw [hne] at hl
  rw [hne, hnt, hns]
  have HN := Lib.hid hne
  clear hr hl2 hne hnt hns
  obtain ⟨k, cl, b, tt, d, l, p, cols, seed, edges, trees, num, den, shake⟩ := f
  simp only at HN HL2 ⊢
  go_enter Try.func31, Try.ntmps31
  go_wp2_with fail
  have HX0 : Hid (Bx3 w (((w.alloc (.cells #[.int .i64 k, .int .i64 cl, .int .i64 b, .int .i64 tt, .int .i64 d, .int .i64 l, .int .i64 p, .int .i64 cols, .int .u64 (seed : Int), .slice Ae ne ce, .slice At nt ct, .int .i64 num, .int .i64 den, .slice As ns cs] 52)).alloc (.cells #[.int .i64 0, .int .i64 0, .int .i64 0, .int .i64 0, .int .i64 0, .int .i64 0, .int .i64 0, .int .i64 0, .int .u64 0, .slice none 0 0, .slice none 0 0, .int .i64 0, .int .i64 0, .slice none 0 0] 59)).alloc (.cells #[.int .i64 k, .int .i64 cl, .int .i64 b, .int .i64 tt, .int .i64 d, .int .i64 l, .int .i64 p, .int .i64 cols, .int .u64 (seed : Int), .slice none 0 0, .slice At nt ct, .int .i64 num, .int .i64 den, .slice As ns cs] 59)) #[.int .i64 k, .int .i64 cl, .int .i64 b, .int .i64 tt, .int .i64 d, .int .i64 l, .int .i64 p, .int .i64 cols, .int .u64 (seed : Int), .slice Ae ne ce, .slice At nt ct, .int .i64 num, .int .i64 den, .slice As ns cs] #[.int .i64 0, .int .i64 0, .int .i64 0, .int .i64 0, .int .i64 0, .int .i64 0, .int .i64 0, .int .i64 0, .int .u64 0, .slice none 0 0, .slice none 0 0, .int .i64 0, .int .i64 0, .slice none 0 0] #[.int .i64 k, .int .i64 cl, .int .i64 b, .int .i64 tt, .int .i64 d, .int .i64 l, .int .i64 p, .int .i64 cols, .int .u64 (seed : Int), .slice none 0 0, .slice At nt ct, .int .i64 num, .int .i64 den, .slice As ns cs] 52 59 59) := Lib.hid (by
    refine ⟨?_, ?_, ?_, (((Below.refl _ w).alloc (Nat.le_refl _) _).alloc (by simp) _).alloc (by simp; omega) _⟩
    all_goals
      unfold Blk World.alloc
      rw [Array.getElem?_eq_getElem (by simp <;> omega)]
      simp only [Array.getElem_push, Array.size_push]
      congr 1
      simp (disch := omega) only [dif_pos, dif_neg])
  obtain ⟨W, hW⟩ : ∃ W, ((w.alloc (.cells #[.int .i64 k, .int .i64 cl, .int .i64 b, .int .i64 tt, .int .i64 d, .int .i64 l, .int .i64 p, .int .i64 cols, .int .u64 (seed : Int), .slice Ae ne ce, .slice At nt ct, .int .i64 num, .int .i64 den, .slice As ns cs] 52)).alloc (.cells #[.int .i64 0, .int .i64 0, .int .i64 0, .int .i64 0, .int .i64 0, .int .i64 0, .int .i64 0, .int .i64 0, .int .u64 0, .slice none 0 0, .slice none 0 0, .int .i64 0, .int .i64 0, .slice none 0 0] 59)).alloc (.cells #[.int .i64 k, .int .i64 cl, .int .i64 b, .int .i64 tt, .int .i64 d, .int .i64 l, .int .i64 p, .int .i64 cols, .int .u64 (seed : Int), .slice none 0 0, .slice At nt ct, .int .i64 num, .int .i64 den, .slice As ns cs] 59) = W := ⟨_, rfl⟩
  rw [hW] at HX0 ⊢
  clear hW
  go_loopw [4] (fun iv wr => ∃ (i : Nat) (a : Option Addr) (c : Nat) (xs : List Value), i ≤ ne ∧ iv = .int .i64 i ∧ Hid (Eds wr (w.heap.size + 1 + 1 + 1) (.slice a i c) i xs (edges.take i)) ∧ Hid (Bx3 w wr #[.int .i64 k, .int .i64 cl, .int .i64 b, .int .i64 tt, .int .i64 d, .int .i64 l, .int .i64 p, .int .i64 cols, .int .u64 (seed : Int), .slice Ae ne ce, .slice At nt ct, .int .i64 num, .int .i64 den, .slice As ns cs] #[.int .i64 0, .int .i64 0, .int .i64 0, .int .i64 0, .int .i64 0, .int .i64 0, .int .i64 0, .int .i64 0, .int .u64 0, .slice none 0 0, .slice none 0 0, .int .i64 0, .int .i64 0, .slice none 0 0] #[.int .i64 k, .int .i64 cl, .int .i64 b, .int .i64 tt, .int .i64 d, .int .i64 l, .int .i64 p, .int .i64 cols, .int .u64 (seed : Int), .slice a i c, .slice At nt ct, .int .i64 num, .int .i64 den, .slice As ns cs] 52 59 59)) (fun iv _ => ne - (intOf iv).toNat)
  case atStart => exact ⟨0, none, 0, [], Nat.zero_le _, rfl, Lib.hid ⟨World.ownsRow_nil _ _ _ _, by simp, fun j es h => by simp at h⟩, HX0⟩
  case round =>
    obtain ⟨i, a, c, xs, hi, rfl, HE, HX⟩ := hrel
    have q9 := HX.out.b0.cell 9
    by_cases hlt : i < ne
    · have hlt' : (i : Int) < ne := by omega
      obtain ⟨ad, rfl, es, B, cp, h1, hx, _, _, hrx⟩ := HR.out.re.at (i := i) (by have := HN.out; simp only; omega)
      simp only at h1
      have HTK := Lib.hid (take_next h1)
      have hm300 := HL2.out es (List.mem_of_getElem? h1)
      have KX := Lib.hid (fun W (hb : Below w.heap.size w W) => KO.out es B cp W (hrx.below hb) (by omega))
      have HXC := Lib.hid (fun W (hb : Below w.heap.size w W) => (hb.cell (World.block_lt_of_cell? w _ hx)).trans hx)
      obtain ⟨m, hm⟩ : ∃ n, es.length = n := ⟨_, rfl⟩
      rw [hm] at KX HXC hm300
      have HM := Lib.hid hm
      clear h1 hx hrx hm
      have HSS : Hid (∀ {a : Option Addr} {n c : Nat} (wr : World), Bx3 w wr #[.int .i64 k, .int .i64 cl, .int .i64 b, .int .i64 tt, .int .i64 d, .int .i64 l, .int .i64 p, .int .i64 cols, .int .u64 (seed : Int), .slice (some ad) ne ce, .slice At nt ct, .int .i64 num, .int .i64 den, .slice As ns cs] #[.int .i64 0, .int .i64 0, .int .i64 0, .int .i64 0, .int .i64 0, .int .i64 0, .int .i64 0, .int .i64 0, .int .u64 0, .slice none 0 0, .slice none 0 0, .int .i64 0, .int .i64 0, .slice none 0 0] #[.int .i64 k, .int .i64 cl, .int .i64 b, .int .i64 tt, .int .i64 d, .int .i64 l, .int .i64 p, .int .i64 cols, .int .u64 (seed : Int), .slice a n c, .slice At nt ct, .int .i64 num, .int .i64 den, .slice As ns cs] 52 59 59 → (fun W => W.cell? ⟨w.heap.size, 9, none⟩ = some (.slice (some ad) ne ce) ∧ W.cell? (ad.add i) = some (.slice B m cp)) wr) := Lib.hid (fun wr h => ⟨h.b0.cell 9, HXC.out wr h.bl⟩)
      have HX1 := Lib.hid (HX.out.below (Below.refl wr.heap.size wr).drew)
      have HE1 := Lib.hid (HE.out.below (Below.refl wr.heap.size wr).drew)
      go_upto_region 5 with (fail)
      refine wp_region_held_drew (S := (fun W => W.cell? ⟨w.heap.size, 9, none⟩ = some (.slice (some ad) ne ce) ∧ W.cell? (ad.add i) = some (.slice B m cp))) (by kernel_rfl) ?_ (fun hS0 => ?_)
      · exact HSS.out _ HX1.out
      refine' wpAnyH_take (i := 0) (v := _) rfl (by kernel_rfl) (by kernel_rfl) (by kernel_rfl) (fun _ _ _ h => h) (Or.inl ⟨by rfl, ?hym1⟩) hS0 ?restm1
      case hym1 => (intro w hSw; (try dsimp only at hSw); go_simp; try with_reducible rfl)
      simp only [Act.put, List.setIfInBounds_toArray, List.set_cons_zero, List.set_cons_succ, List.getElem_toArray, List.getElem_cons_zero, List.getElem_cons_succ]
      refine' wpAnyH_take (i := 2) (v := _) rfl (by kernel_rfl) (by kernel_rfl) (by kernel_rfl) (fun _ _ _ h => h) (Or.inl ⟨by rfl, ?hym2⟩) hS0 ?restm2
      case hym2 => (intro w hSw; (try dsimp only at hSw); go_simp; try with_reducible rfl)
      simp only [Act.put, List.setIfInBounds_toArray, List.set_cons_zero, List.set_cons_succ, List.getElem_toArray, List.getElem_cons_zero, List.getElem_cons_succ]
      refine' wpAnyH_take (i := 3) (v := _) rfl (by kernel_rfl) (by kernel_rfl) (by kernel_rfl) (fun _ _ _ h => h) (Or.inl ⟨by rfl, ?hym3⟩) hS0 ?restm3
      case hym3 => (intro w hSw; (try dsimp only at hSw); go_simp; try with_reducible rfl)
      simp only [Act.put, List.setIfInBounds_toArray, List.set_cons_zero, List.set_cons_succ, List.getElem_toArray, List.getElem_cons_zero, List.getElem_cons_succ]
      refine' wpAnyH_take (i := 4) (v := _) rfl (by kernel_rfl) (by kernel_rfl) (by kernel_rfl) (fun _ _ _ h => h) (Or.inl ⟨by rfl, ?hym4⟩) hS0 ?restm4
      case hym4 => (intro w hSw; (try dsimp only at hSw); go_simp; try with_reducible rfl)
      simp only [Act.put, List.setIfInBounds_toArray, List.set_cons_zero, List.set_cons_succ, List.getElem_toArray, List.getElem_cons_zero, List.getElem_cons_succ]
      refine' wpAnyH_take (i := 5) (v := _) rfl (by kernel_rfl) (by kernel_rfl) (by kernel_rfl) (fun _ _ _ h => h) (Or.inl ⟨by rfl, ?hym5⟩) hS0 ?restm5
      case hym5 => (intro w hSw; (try dsimp only at hSw); go_simp; try with_reducible rfl)
      simp only [Act.put, List.setIfInBounds_toArray, List.set_cons_zero, List.set_cons_succ, List.getElem_toArray, List.getElem_cons_zero, List.getElem_cons_succ]
      refine' wpAnyH_take (i := 6) (v := _) rfl (by kernel_rfl) (by kernel_rfl) (by kernel_rfl) (fun _ _ _ h => h) (Or.inl ⟨by rfl, ?hym6⟩) hS0 ?restm6
      case hym6 => (intro w hSw; (try dsimp only at hSw); go_simp; try with_reducible rfl)
      simp only [Act.put, List.setIfInBounds_toArray, List.set_cons_zero, List.set_cons_succ, List.getElem_toArray, List.getElem_cons_zero, List.getElem_cons_succ]
      refine wpAnyH_ready (rs := [1, 7]) (by kernel_rfl) (by simp) ?_
      refine AllReadyH.cons rfl (fun K hK => ?_) (AllReadyH.cons rfl (fun K hK => ?_) AllReadyH.nil)
      · have f9 := HX1.out.b2.cell 9
        go_simp
        clear f9
        refine hK.out _ _ (HSS.out _ HX1.out) (fun hS1 => ?_)
        clear hK K
        refine wpAnyH_ready (rs := [7]) (by kernel_rfl) (by simp) ?_
        refine AllReadyH.cons rfl (fun K hK => ?_) AllReadyH.nil
        go_simp
        refine (KX.out _ HX1.out.bl).mono ?_
        rintro e w2 ⟨a5, c5, rfl, ho, hb⟩
        have HX2 := Lib.hid (HX1.out.below hb)
        have HE2 := Lib.hid (HE1.out.below hb)
        have HO := Lib.hid (own_base_le ho (show w.heap.size + 1 + 1 + 1 ≤ _ from HX1.out.b2.lt))
        have HOF := Lib.hid (fun q (e : (Value.slice a5 m c5).ownBlock = some q) (e2 : (Value.slice a i c).ownBlock = some q) => show False by have h1 := (World.ownsRow.lt ho q e).1; have h2 := (World.ownsRow.lt HE1.out.own q e2).2; omega)
        clear ho hb
        refine hK.out _ _ (HSS.out _ HX2.out) (fun hS2 => ?_)
        clear hK K
        refine wpAnyH_ready (rs := [8]) (by kernel_rfl) (by simp) ?_
        refine AllReadyH.cons rfl (fun K hK => ?_) AllReadyH.nil
        have hbb := (Below.refl (w2).heap.size (w2)).alloc (Nat.le_refl _) (.cells #[.slice a5 m c5] 94)
        have HX3 := Lib.hid (HX2.out.below hbb)
        have HE3 := Lib.hid (HE2.out.below hbb)
        have HO2 := Lib.hid (own_below HO.out hbb)
        have HNB := Lib.hid (Blk.new (w2) #[.slice a5 m c5] 94)
        clear hbb
        go_simp
        refine hK.out _ _ (HSS.out _ HX3.out) (fun hS3 => ?_)
        clear hK K
        refine wpAnyH_ready (rs := [9]) (by kernel_rfl) (by simp) ?_
        refine AllReadyH.cons rfl (fun K hK => ?_) AllReadyH.nil
        have hX3 := HX3.out.b2.lt
        refine step_append_lies _ (by rfl) _ _ 57 (by rfl) (w.heap.size + 1 + 1 + 1) 94 i0 (.slice none 0 0) 1 24 Try.underlying57 hi0 hz0 hz1 hz2 rfl (by decide) (.slice a i c) i xs (by rfl) HE3.out.own ⟨(w2).heap.size, 0, none⟩ 1 1 [.slice a5 m c5] (by rfl) rfl (World.news_of_block (show _ from HNB.out)) (by simp [Value.oneCell']) (by decide) (by unfold maxLen; omega) (by omega) (by omega) _ rfl ?_
        intro g3 c3 w3 hown3 hg3 hat3 hlt3
        have HY := Lib.hid (HX3.out.grown hg3 (fun q e => (World.ownsRow.lt HE3.out.own q e).1))
        have HEY := Lib.hid (HE3.out.snoc (es := es) (a := a5) (c := c5) (by rw [HM.out]; exact HO2.out) (by rw [HM.out]; exact HOF.out) (by rw [HM.out]; exact hown3) hg3 hat3)
        refine hK.out _ _ (HSS.out _ HY.out) (fun hS4 => ?_)
        clear hK K
        refine' wpAnyH_take (i := 10) (v := _) rfl (by kernel_rfl) (by kernel_rfl) (by kernel_rfl) (fun _ _ _ h => h) (Or.inl ⟨by rfl, ?hym7⟩) hS4 ?restm7
        case hym7 => (intro w hSw; (try dsimp only at hSw); go_simp; try with_reducible rfl)
        simp only [Act.put, List.setIfInBounds_toArray, List.set_cons_zero, List.set_cons_succ, List.getElem_toArray, List.getElem_cons_zero, List.getElem_cons_succ]
        refine wpAnyH_ready (rs := [11]) (by kernel_rfl) (by simp) ?_
        refine AllReadyH.cons rfl (fun K hK => ?_) AllReadyH.nil
        have f2 := HY.out.b2.lt
        have f1 := fun i => HY.out.b2.frozen i
        have f0 := HY.out.b2.cell 9
        go_simp
        clear f0 f1 f2
        have HZ := Lib.hid (HY.out.set 9 (.slice (some ⟨g3, 0, none⟩) (i + 1) c3))
        have HEZ := Lib.hid (HEY.out.kept (grown_set3 w3 (w.heap.size + 1 + 1) 9 (.slice (some ⟨g3, 0, none⟩) (i + 1) c3)) (by omega))
        refine hK.out _ _ (HSS.out _ HZ.out) (fun hS5 => ?_)
        clear hK K
        refine wpAnyH_done (by kernel_rfl) ?_ _
        go_wp2_with fail
        go_roundw
        case rel => exact ⟨i + 1, _, c3, _, hlt, by go_num, Lib.hid (by rw [HTK.out]; exact HEZ.out), Lib.hid HZ.out⟩
        case measure => simp [intOf]; omega
      · go_simp
        refine (KX.out _ HX1.out.bl).mono ?_
        rintro e w2 ⟨a5, c5, rfl, ho, hb⟩
        have HX2 := Lib.hid (HX1.out.below hb)
        have HE2 := Lib.hid (HE1.out.below hb)
        have HO := Lib.hid (own_base_le ho (show w.heap.size + 1 + 1 + 1 ≤ _ from HX1.out.b2.lt))
        have HOF := Lib.hid (fun q (e : (Value.slice a5 m c5).ownBlock = some q) (e2 : (Value.slice a i c).ownBlock = some q) => show False by have h1 := (World.ownsRow.lt ho q e).1; have h2 := (World.ownsRow.lt HE1.out.own q e2).2; omega)
        clear ho hb
        refine hK.out _ _ (HSS.out _ HX2.out) (fun hS2 => ?_)
        clear hK K
        refine wpAnyH_ready (rs := [1, 8]) (by kernel_rfl) (by simp) ?_
        refine AllReadyH.cons rfl (fun K hK => ?_) (AllReadyH.cons rfl (fun K hK => ?_) AllReadyH.nil)
        · have f9 := HX2.out.b2.cell 9
          go_simp
          clear f9
          refine hK.out _ _ (HSS.out _ HX2.out) (fun hS3 => ?_)
          clear hK K
          refine wpAnyH_ready (rs := [8]) (by kernel_rfl) (by simp) ?_
          refine AllReadyH.cons rfl (fun K hK => ?_) AllReadyH.nil
          have hbb := (Below.refl (w2).heap.size (w2)).alloc (Nat.le_refl _) (.cells #[.slice a5 m c5] 94)
          have HX3 := Lib.hid (HX2.out.below hbb)
          have HE3 := Lib.hid (HE2.out.below hbb)
          have HO2 := Lib.hid (own_below HO.out hbb)
          have HNB := Lib.hid (Blk.new (w2) #[.slice a5 m c5] 94)
          clear hbb
          go_simp
          refine hK.out _ _ (HSS.out _ HX3.out) (fun hS4 => ?_)
          clear hK K
          refine wpAnyH_ready (rs := [9]) (by kernel_rfl) (by simp) ?_
          refine AllReadyH.cons rfl (fun K hK => ?_) AllReadyH.nil
          have hX3 := HX3.out.b2.lt
          refine step_append_lies _ (by rfl) _ _ 57 (by rfl) (w.heap.size + 1 + 1 + 1) 94 i0 (.slice none 0 0) 1 24 Try.underlying57 hi0 hz0 hz1 hz2 rfl (by decide) (.slice a i c) i xs (by rfl) HE3.out.own ⟨(w2).heap.size, 0, none⟩ 1 1 [.slice a5 m c5] (by rfl) rfl (World.news_of_block (show _ from HNB.out)) (by simp [Value.oneCell']) (by decide) (by unfold maxLen; omega) (by omega) (by omega) _ rfl ?_
          intro g3 c3 w3 hown3 hg3 hat3 hlt3
          have HY := Lib.hid (HX3.out.grown hg3 (fun q e => (World.ownsRow.lt HE3.out.own q e).1))
          have HEY := Lib.hid (HE3.out.snoc (es := es) (a := a5) (c := c5) (by rw [HM.out]; exact HO2.out) (by rw [HM.out]; exact HOF.out) (by rw [HM.out]; exact hown3) hg3 hat3)
          refine hK.out _ _ (HSS.out _ HY.out) (fun hS5 => ?_)
          clear hK K
          refine' wpAnyH_take (i := 10) (v := _) rfl (by kernel_rfl) (by kernel_rfl) (by kernel_rfl) (fun _ _ _ h => h) (Or.inl ⟨by rfl, ?hym8⟩) hS5 ?restm8
          case hym8 => (intro w hSw; (try dsimp only at hSw); go_simp; try with_reducible rfl)
          simp only [Act.put, List.setIfInBounds_toArray, List.set_cons_zero, List.set_cons_succ, List.getElem_toArray, List.getElem_cons_zero, List.getElem_cons_succ]
          refine wpAnyH_ready (rs := [11]) (by kernel_rfl) (by simp) ?_
          refine AllReadyH.cons rfl (fun K hK => ?_) AllReadyH.nil
          have f2 := HY.out.b2.lt
          have f1 := fun i => HY.out.b2.frozen i
          have f0 := HY.out.b2.cell 9
          go_simp
          clear f0 f1 f2
          have HZ := Lib.hid (HY.out.set 9 (.slice (some ⟨g3, 0, none⟩) (i + 1) c3))
          have HEZ := Lib.hid (HEY.out.kept (grown_set3 w3 (w.heap.size + 1 + 1) 9 (.slice (some ⟨g3, 0, none⟩) (i + 1) c3)) (by omega))
          refine hK.out _ _ (HSS.out _ HZ.out) (fun hS6 => ?_)
          clear hK K
          refine wpAnyH_done (by kernel_rfl) ?_ _
          go_wp2_with fail
          go_roundw
          case rel => exact ⟨i + 1, _, c3, _, hlt, by go_num, Lib.hid (by rw [HTK.out]; exact HEZ.out), Lib.hid HZ.out⟩
          case measure => simp [intOf]; omega
        · have hbb := (Below.refl (w2).heap.size (w2)).alloc (Nat.le_refl _) (.cells #[.slice a5 m c5] 94)
          have HX3 := Lib.hid (HX2.out.below hbb)
          have HE3 := Lib.hid (HE2.out.below hbb)
          have HO2 := Lib.hid (own_below HO.out hbb)
          have HNB := Lib.hid (Blk.new (w2) #[.slice a5 m c5] 94)
          clear hbb
          go_simp
          refine hK.out _ _ (HSS.out _ HX3.out) (fun hS3 => ?_)
          clear hK K
          refine wpAnyH_ready (rs := [1]) (by kernel_rfl) (by simp) ?_
          refine AllReadyH.cons rfl (fun K hK => ?_) AllReadyH.nil
          have f9 := HX3.out.b2.cell 9
          go_simp
          clear f9
          refine hK.out _ _ (HSS.out _ HX3.out) (fun hS4 => ?_)
          clear hK K
          refine wpAnyH_ready (rs := [9]) (by kernel_rfl) (by simp) ?_
          refine AllReadyH.cons rfl (fun K hK => ?_) AllReadyH.nil
          have hX3 := HX3.out.b2.lt
          refine step_append_lies _ (by rfl) _ _ 57 (by rfl) (w.heap.size + 1 + 1 + 1) 94 i0 (.slice none 0 0) 1 24 Try.underlying57 hi0 hz0 hz1 hz2 rfl (by decide) (.slice a i c) i xs (by rfl) HE3.out.own ⟨(w2).heap.size, 0, none⟩ 1 1 [.slice a5 m c5] (by rfl) rfl (World.news_of_block (show _ from HNB.out)) (by simp [Value.oneCell']) (by decide) (by unfold maxLen; omega) (by omega) (by omega) _ rfl ?_
          intro g3 c3 w3 hown3 hg3 hat3 hlt3
          have HY := Lib.hid (HX3.out.grown hg3 (fun q e => (World.ownsRow.lt HE3.out.own q e).1))
          have HEY := Lib.hid (HE3.out.snoc (es := es) (a := a5) (c := c5) (by rw [HM.out]; exact HO2.out) (by rw [HM.out]; exact HOF.out) (by rw [HM.out]; exact hown3) hg3 hat3)
          refine hK.out _ _ (HSS.out _ HY.out) (fun hS5 => ?_)
          clear hK K
          refine' wpAnyH_take (i := 10) (v := _) rfl (by kernel_rfl) (by kernel_rfl) (by kernel_rfl) (fun _ _ _ h => h) (Or.inl ⟨by rfl, ?hym9⟩) hS5 ?restm9
          case hym9 => (intro w hSw; (try dsimp only at hSw); go_simp; try with_reducible rfl)
          simp only [Act.put, List.setIfInBounds_toArray, List.set_cons_zero, List.set_cons_succ, List.getElem_toArray, List.getElem_cons_zero, List.getElem_cons_succ]
          refine wpAnyH_ready (rs := [11]) (by kernel_rfl) (by simp) ?_
          refine AllReadyH.cons rfl (fun K hK => ?_) AllReadyH.nil
          have f2 := HY.out.b2.lt
          have f1 := fun i => HY.out.b2.frozen i
          have f0 := HY.out.b2.cell 9
          go_simp
          clear f0 f1 f2
          have HZ := Lib.hid (HY.out.set 9 (.slice (some ⟨g3, 0, none⟩) (i + 1) c3))
          have HEZ := Lib.hid (HEY.out.kept (grown_set3 w3 (w.heap.size + 1 + 1) 9 (.slice (some ⟨g3, 0, none⟩) (i + 1) c3)) (by omega))
          refine hK.out _ _ (HSS.out _ HZ.out) (fun hS6 => ?_)
          clear hK K
          refine wpAnyH_done (by kernel_rfl) ?_ _
          go_wp2_with fail
          go_roundw
          case rel => exact ⟨i + 1, _, c3, _, hlt, by go_num, Lib.hid (by rw [HTK.out]; exact HEZ.out), Lib.hid HZ.out⟩
          case measure => simp [intOf]; omega
    · obtain rfl : ne = i := by omega
      have htk : edges.take ne = edges := List.take_of_length_le (by rw [HN.out]; exact Nat.le_refl _)
      have HE9 := HE.out
      rw [htk] at HE9
      have HE9 := Lib.hid HE9
      have hone : ∀ v ∈ (#[.int .i64 k, .int .i64 cl, .int .i64 b, .int .i64 tt, .int .i64 d, .int .i64 l, .int .i64 p, .int .i64 cols, .int .u64 (seed : Int), .slice a ne c, .slice At nt ct, .int .i64 num, .int .i64 den, .slice As ns cs] : Array Value).toList, v.oneCell' = true := by simp [Value.oneCell']
      have k2 := HX.out.b2
      have k1 := HX.out.b1
      clear htk
      go_wp2_with (first | (refine wpList_load_row rfl 59 (.tmp 3) rfl (w.heap.size + 1 + 1) rfl 59 _ (0, 0) _ k2 Try.underlying59 rfl forest_size3 ?_) | (refine wpList_store_row rfl 59 (.tmp 2) (.tmp 36) rfl (w.heap.size + 1) rfl 59 _ #[.int .i64 k, .int .i64 cl, .int .i64 b, .int .i64 tt, .int .i64 d, .int .i64 l, .int .i64 p, .int .i64 cols, .int .u64 (seed : Int), .slice a ne c, .slice At nt ct, .int .i64 num, .int .i64 den, .slice As ns cs] rfl k1 forest_size3 rfl hone ?_))
      refine bodyPost_ret (results_cell rfl _ _ (w.heap.size + 1) 59 #[.int .i64 k, .int .i64 cl, .int .i64 b, .int .i64 tt, .int .i64 d, .int .i64 l, .int .i64 p, .int .i64 cols, .int .u64 (seed : Int), .slice a ne c, .slice At nt ct, .int .i64 num, .int .i64 den, .slice As ns cs] _ rfl k1.row Try.underlying59 rfl forest_size3) rfl ⟨a, ⟨c, rfl⟩, ⟨?_, ?_, ?_⟩, below_row0 HX.out.bl (by omega)⟩
      · exact (HE9.out.kept (grown_row wr (w.heap.size + 1) _) (by omega)).re HR.out.re.all
      · exact HR.out.rt.below (below_row0 HX.out.bl (by omega))
      · exact HR.out.rs.below (below_row0 HX.out.bl (by omega))
end Go.Proofs.Ytpekofpiodaadaa.Hb
end

section
/- The walk of config.Get. -/
namespace Go.Proofs.Ytpekofpiodaadaa.Hb
set_option linter.unusedVariables false
set_option linter.unusedSimpArgs false
open Go.RowKit

def cfgC (acc : List Int) : Array Value := #[.int .i64 (acc.getD 0 0), .int .i64 (acc.getD 1 0), .int .i64 (acc.getD 2 0), .int .i64 (acc.getD 3 0), .int .i64 (acc.getD 4 0), .int .i64 (acc.getD 5 0), .int .i64 (acc.getD 6 0)]
theorem cfgC_cell (acc : List Int) {j : Nat} (hj : j < 7) : ∃ y : Int, (cfgC acc)[j]? = some (.int .i64 y) := by
  obtain e | e | e | e | e | e | e : j = 0 ∨ j = 1 ∨ j = 2 ∨ j = 3 ∨ j = 4 ∨ j = 5 ∨ j = 6 := by omega
  all_goals
    subst e
    exact ⟨_, rfl⟩
theorem cfgC_set (acc : List Int) (x : Int) {j : Nat} (hl : acc.length = j) (hj : j < 7) : (cfgC acc).setIfInBounds j (.int .i64 x) = cfgC (acc ++ [x]) := by
  rcases acc with _ | ⟨a0, _ | ⟨a1, _ | ⟨a2, _ | ⟨a3, _ | ⟨a4, _ | ⟨a5, _ | ⟨a6, r⟩⟩⟩⟩⟩⟩⟩
  all_goals
    simp only [List.length_cons, List.length_nil] at hl
    first | omega | (subst hl; rfl)
theorem ptr_at (c : Nat) {j : Nat} (hj : j < 7) : (#[.pointer (some ⟨c, 0, none⟩), .pointer (some ⟨c, 1, none⟩), .pointer (some ⟨c, 2, none⟩), .pointer (some ⟨c, 3, none⟩), .pointer (some ⟨c, 4, none⟩), .pointer (some ⟨c, 5, none⟩), .pointer (some ⟨c, 6, none⟩)] : Array Value)[j]? = some (.pointer (some ⟨c, j, none⟩)) := by
  obtain e | e | e | e | e | e | e : j = 0 ∨ j = 1 ∨ j = 2 ∨ j = 3 ∨ j = 4 ∨ j = 5 ∨ j = 6 := by omega
  all_goals
    subst e
    rfl
theorem szs_at {k cl b t d l p x : Int} {n j : Nat} (h : (cfgL k cl b t d l p)[j]? = some (x, n)) : szs.drop j = n :: szs.drop (j + 1) ∧ 1 ≤ n ∧ n ≤ 4 := by
  have hj : j < 7 := (List.getElem?_eq_some_iff.1 h).1
  obtain e | e | e | e | e | e | e : j = 0 ∨ j = 1 ∨ j = 2 ∨ j = 3 ∨ j = 4 ∨ j = 5 ∨ j = 6 := by omega
  all_goals
    subst e
    simp only [cfgL, List.getElem?_cons_zero, List.getElem?_cons_succ, Option.some.injEq, Prod.mk.injEq] at h
    obtain ⟨_, rfl⟩ := h
    exact ⟨rfl, by omega, by omega⟩
theorem field_n (a b c d : Int) (w : World) : (Instr.field 203 (.agg #[.int .i64 a, .int .i64 b, .int .i64 c, .int .i64 d]) 3).run Try.prog w = .ok (.int .i64 d) w := by kernel_rfl
theorem config_size7 : (Try.prog.info? 45).map (·.size) = some 7 := by kernel_rfl
set_option maxRecDepth 100000 in
set_option maxHeartbeats 8000000 in
theorem cget_any (N g : Nat) (l : List Nat) (w : World) (h : RdB w N g l) :
    Calls Try.prog 140 #[.pointer (some ⟨g, 0, none⟩)] w (Reads (cfgP l) (fun _ c v => v = .agg (cfgC c) ∧ c.length = 7) N g w) := by
  have KN := Lib.hid (fun k l w h h1 h2 => number_any N g k l w h h1 h2)
  have KF := Lib.hid (fun k w he => fail_any g k he w)
  have KK := Lib.hid (fun k cl b t d l p w => check_any k cl b t d l p w)
  have KV := Lib.hid (fun k cl b t d l p w => fields_any k cl b t d l p w)
  have HIX := Lib.hid (fun k cl b t d l p j hj => fld_at k cl b t d l p j hj)
  have hgN := h.gN
  have hNw := h.Nw
  have HX0 : Hid (Bx3 w (((w.alloc (.cells #[.int .i64 0, .int .i64 0, .int .i64 0, .int .i64 0, .int .i64 0, .int .i64 0, .int .i64 0] 45)).alloc (.cells #[.int .i64 0, .int .i64 0, .int .i64 0, .int .i64 0, .int .i64 0, .int .i64 0, .int .i64 0] 45)).alloc (.cells #[.pointer (some ⟨w.heap.size + 1, 0, none⟩), .pointer (some ⟨w.heap.size + 1, 1, none⟩), .pointer (some ⟨w.heap.size + 1, 2, none⟩), .pointer (some ⟨w.heap.size + 1, 3, none⟩), .pointer (some ⟨w.heap.size + 1, 4, none⟩), .pointer (some ⟨w.heap.size + 1, 5, none⟩), .pointer (some ⟨w.heap.size + 1, 6, none⟩)] 260)) #[.int .i64 0, .int .i64 0, .int .i64 0, .int .i64 0, .int .i64 0, .int .i64 0, .int .i64 0] #[.int .i64 0, .int .i64 0, .int .i64 0, .int .i64 0, .int .i64 0, .int .i64 0, .int .i64 0] #[.pointer (some ⟨w.heap.size + 1, 0, none⟩), .pointer (some ⟨w.heap.size + 1, 1, none⟩), .pointer (some ⟨w.heap.size + 1, 2, none⟩), .pointer (some ⟨w.heap.size + 1, 3, none⟩), .pointer (some ⟨w.heap.size + 1, 4, none⟩), .pointer (some ⟨w.heap.size + 1, 5, none⟩), .pointer (some ⟨w.heap.size + 1, 6, none⟩)] 45 45 260) := Lib.hid (by
    refine ⟨?_, ?_, ?_, (((Below.refl _ w).alloc (Nat.le_refl _) _).alloc (by simp) _).alloc (by simp; omega) _⟩
    all_goals
      unfold Blk World.alloc
      rw [Array.getElem?_eq_getElem (by simp <;> omega)]
      simp only [Array.getElem_push, Array.size_push]
      congr 1
      simp (disch := omega) only [dif_pos, dif_neg])
  have HR0 := Lib.hid (h.below HX0.out.bl)
  have HG0 := Lib.hid (gr_below (row := some g) HX0.out.bl)
  obtain ⟨g0, hg0⟩ : ∃ z, w.heap.size = z := ⟨_, rfl⟩
  rw [hg0] at hNw HX0 HR0 HG0
  obtain ⟨W, hW⟩ : ∃ W, ((w.alloc (.cells #[.int .i64 0, .int .i64 0, .int .i64 0, .int .i64 0, .int .i64 0, .int .i64 0, .int .i64 0] 45)).alloc (.cells #[.int .i64 0, .int .i64 0, .int .i64 0, .int .i64 0, .int .i64 0, .int .i64 0, .int .i64 0] 45)).alloc (.cells #[.pointer (some ⟨g0 + 1, 0, none⟩), .pointer (some ⟨g0 + 1, 1, none⟩), .pointer (some ⟨g0 + 1, 2, none⟩), .pointer (some ⟨g0 + 1, 3, none⟩), .pointer (some ⟨g0 + 1, 4, none⟩), .pointer (some ⟨g0 + 1, 5, none⟩), .pointer (some ⟨g0 + 1, 6, none⟩)] 260) = W := ⟨_, rfl⟩
  rw [hW] at HX0 HR0 HG0
  have HK0 : Hid (Blk W g0 #[.int .i64 0, .int .i64 0, .int .i64 0, .int .i64 0, .int .i64 0, .int .i64 0, .int .i64 0] 45) := Lib.hid (by have := HX0.out.b0; rw [hg0] at this; exact this)
  have HK1 : Hid (Blk W (g0 + 1) (cfgC []) 45) := Lib.hid (by have := HX0.out.b1; rw [hg0] at this; exact this)
  have HK2 : Hid (Blk W (g0 + 1 + 1) #[.pointer (some ⟨g0 + 1, 0, none⟩), .pointer (some ⟨g0 + 1, 1, none⟩), .pointer (some ⟨g0 + 1, 2, none⟩), .pointer (some ⟨g0 + 1, 3, none⟩), .pointer (some ⟨g0 + 1, 4, none⟩), .pointer (some ⟨g0 + 1, 5, none⟩), .pointer (some ⟨g0 + 1, 6, none⟩)] 260) := Lib.hid (by have := HX0.out.b2; rw [hg0] at this; exact this)
  have HSZ := Lib.hid hg0
  go_enter Try.func140, Try.ntmps140
  go_wp2_with fail
  clear h hg0 hW HX0
  obtain ⟨R, hR⟩ : ∃ R, fieldsA szs [] l = R := ⟨_, rfl⟩
  have HRR := Lib.hid hR
  clear hR
  go_loopw [16] (fun iv wr => ∃ (j : Nat) (acc : List Int) (rest : List Nat), j ≤ 7 ∧ iv = .int .i64 j ∧ Hid (acc.length = j) ∧ Hid (Blk wr g0 #[.int .i64 0, .int .i64 0, .int .i64 0, .int .i64 0, .int .i64 0, .int .i64 0, .int .i64 0] 45) ∧ Hid (Blk wr (g0 + 1) (cfgC acc) 45) ∧ Hid (Blk wr (g0 + 1 + 1) #[.pointer (some ⟨g0 + 1, 0, none⟩), .pointer (some ⟨g0 + 1, 1, none⟩), .pointer (some ⟨g0 + 1, 2, none⟩), .pointer (some ⟨g0 + 1, 3, none⟩), .pointer (some ⟨g0 + 1, 4, none⟩), .pointer (some ⟨g0 + 1, 5, none⟩), .pointer (some ⟨g0 + 1, 6, none⟩)] 260) ∧ Hid (RdB wr N g rest) ∧ Hid (fieldsA (szs.drop j) acc rest = R) ∧ Hid (w.grownBy wr (some g))) (fun iv _ => 7 - (intOf iv).toNat)
  case atStart => exact ⟨0, [], l, by omega, rfl, Lib.hid rfl, HK0, HK1, HK2, HR0, HRR, HG0⟩
  case round =>
    obtain ⟨j, acc, rest, hj, rfl, HL, H0, H1, H2, HR, HNO, HG⟩ := hrel
    obtain ⟨A0, A1, A2, A3, A4, A5, A6, hA, hA2⟩ : ∃ a0 a1 a2 a3 a4 a5 a6 : Int, cfgC acc = #[.int .i64 a0, .int .i64 a1, .int .i64 a2, .int .i64 a3, .int .i64 a4, .int .i64 a5, .int .i64 a6] ∧ chkL acc = checkO a0 a1 a2 a3 a4 a5 a6 := ⟨_, _, _, _, _, _, _, rfl, rfl⟩
    have HA := Lib.hid hA
    have HA2 := Lib.hid hA2
    have kC := H1.out
    rw [hA] at kC
    obtain ⟨q0, q1, q2, q3, q4, q5, q6⟩ : wr.cell? ⟨g0 + 1, 0, none⟩ = some (.int .i64 A0) ∧ wr.cell? ⟨g0 + 1, 1, none⟩ = some (.int .i64 A1) ∧ wr.cell? ⟨g0 + 1, 2, none⟩ = some (.int .i64 A2) ∧ wr.cell? ⟨g0 + 1, 3, none⟩ = some (.int .i64 A3) ∧ wr.cell? ⟨g0 + 1, 4, none⟩ = some (.int .i64 A4) ∧ wr.cell? ⟨g0 + 1, 5, none⟩ = some (.int .i64 A5) ∧ wr.cell? ⟨g0 + 1, 6, none⟩ = some (.int .i64 A6) := ⟨kC.cell 0, kC.cell 1, kC.cell 2, kC.cell 3, kC.cell 4, kC.cell 5, kC.cell 6⟩
    clear hA hA2
    by_cases hlt : j < 7
    · have hlt' : (j : Int) < 7 := by omega
      obtain ⟨x, lo, hi, n, hx, hn8, hix⟩ := HIX.out A0 A1 A2 A3 A4 A5 A6 j hlt
      obtain ⟨hd, hn1, hn4⟩ := szs_at hx
      have HS : Hid (R = bindP (numP n) (fun x => fieldsA (szs.drop (j + 1)) (acc ++ [(x : Int)])) rest) := Lib.hid (by rw [← HNO.out, hd]; rfl)
      have hp : wr.cell? ⟨g0 + 1 + 1, j, none⟩ = some (.pointer (some ⟨g0 + 1, j, none⟩)) := by rw [H2.out.cell j]; exact ptr_at _ hlt
      clear kC hx hd
      go_wp2_with fail
      refine (KV.out A0 A1 A2 A3 A4 A5 A6 _).mono ?_
      rintro e w2 ⟨rfl, hb⟩
      have H02 := Lib.hid (H0.out.below hb)
      have H12 := Lib.hid (H1.out.below hb)
      have H22 := Lib.hid (H2.out.below hb)
      have HR2 := Lib.hid (HR.out.below hb)
      have HG2 := Lib.hid (gr_trans HG.out (gr_below hb))
      clear hb hp q0 q1 q2 q3 q4 q5 q6
      have hfd := field_n
      go_wp2_with fail
      refine (KN.out n rest w2 HR2.out hn1 (by omega)).mono ?_
      rintro e w3 ⟨hg3, ⟨y, r3, v, hp3, rfl, ⟨rfl, hy⟩, hr3⟩ | ⟨er, hp3, rfl⟩⟩
      rotate_left
      · unfold Flt
        go_wp2_with fail
        exact ⟨rfl, gr_trans HG2.out hg3, .inr ⟨er, by unfold cfgP; exact bind_err (HRR.out.trans (HS.out.trans (bind_err hp3))), rfl⟩⟩
      have HS3 : Hid (fieldsA (szs.drop (j + 1)) (acc ++ [(y : Int)]) r3 = R) := Lib.hid (by rw [HS.out, bind_ok hp3])
      have H03 := Lib.hid (own_blk H02.out hg3 (fun e => by simp only [Option.some.injEq] at e; omega))
      have H13 := Lib.hid (own_blk H12.out hg3 (fun e => by simp only [Option.some.injEq] at e; omega))
      have H23 := Lib.hid (own_blk H22.out hg3 (fun e => by simp only [Option.some.injEq] at e; omega))
      have HR3 := Lib.hid hr3
      have HG3 := Lib.hid (gr_trans HG2.out hg3)
      have hyl : y < 4294967296 := Nat.lt_of_lt_of_le hy (Nat.le_trans (Nat.pow_le_pow_right (by decide) hn4) (by decide))
      have hw := i64_small (x := y) (by omega)
      obtain ⟨z, hz⟩ := cfgC_cell acc hlt
      have z0 : w3.cell? ⟨g0 + 1, j, none⟩ = some (.int .i64 z) := by rw [H13.out.cell j]; exact hz
      have z1 := fun i => H13.out.frozen i
      have z2 := H13.out.lt
      have HKS := Lib.hid (H13.out.set j (.int .i64 (y : Int)))
      clear hp3 hg3 hr3 hy hz hix
      go_wp2_with fail
      go_roundw
      case rel => exact ⟨j + 1, acc ++ [(y : Int)], r3, hlt, by go_num, Lib.hid (by rw [List.length_append, HL.out]; rfl), Lib.hid (own_blk H03.out (gr_cell w3 (g0 + 1) j _) (fun e => by simp only [Option.some.injEq] at e; omega)), Lib.hid (by have := HKS.out; rw [cfgC_set acc _ HL.out hlt] at this; exact this), Lib.hid (own_blk H23.out (gr_cell w3 (g0 + 1) j _) (fun e => by simp only [Option.some.injEq] at e; omega)), Lib.hid (HR3.out.kept (gr_cell w3 (g0 + 1) j _) (by omega)), HS3, Lib.hid (gr_new (i := j) HG3.out _ (q := g0 + 1) (by have := HSZ.out; omega))⟩
      case measure => simp [intOf]; omega
    · obtain rfl : 7 = j := by omega
      have HRE : Hid (fieldsA szs [] l = .ok (acc, rest)) := Lib.hid (by rw [HRR.out, ← HNO.out]; rfl)
      clear kC
      obtain ⟨ck, hck⟩ : ∃ z, checkO A0 A1 A2 A3 A4 A5 A6 = z := ⟨_, rfl⟩
      have HCK : Hid (chkL acc = ck) := Lib.hid (by rw [HA2.out, hck])
      have KKX := Lib.hid (KK.out A0 A1 A2 A3 A4 A5 A6 wr)
      rw [hck] at KKX
      clear hck
      go_wp2_with fail
      refine KKX.out.mono ?_
      rintro e w2 ⟨rfl, hb⟩
      have H02 := Lib.hid (H0.out.below hb)
      have H12 := Lib.hid (H1.out.below hb)
      have HR2 := Lib.hid (HR.out.below hb)
      have HG2 := Lib.hid (gr_trans HG.out (gr_below hb))
      clear hb q0 q1 q2 q3 q4 q5 q6
      by_cases h0 : ck = 0
      · have HCK2 : Hid (chkL acc = 0) := Lib.hid (HCK.out.trans h0)
        subst h0
        have kC := H12.out
        rw [HA.out] at kC
        have k0 := H02.out
        have hone : ∀ v ∈ (#[.int .i64 A0, .int .i64 A1, .int .i64 A2, .int .i64 A3, .int .i64 A4, .int .i64 A5, .int .i64 A6] : Array Value).toList, v.oneCell' = true := by simp [Value.oneCell']
        have HR3 := Lib.hid (HR2.out.kept (gr_row _ g0 #[.int .i64 A0, .int .i64 A1, .int .i64 A2, .int .i64 A3, .int .i64 A4, .int .i64 A5, .int .i64 A6]) (by omega))
        have HG3 := Lib.hid (gr_newrow HG2.out #[.int .i64 A0, .int .i64 A1, .int .i64 A2, .int .i64 A3, .int .i64 A4, .int .i64 A5, .int .i64 A6] (q := g0) (by have := HSZ.out; omega))
        go_wp2_with (first | (refine wpList_load_row rfl 45 (.tmp 3) rfl (g0 + 1) rfl 45 _ (0, 0) _ kC Try.underlying45 rfl config_size7 ?_) | (refine wpList_store_row rfl 45 (.tmp 2) (.tmp 39) rfl g0 rfl 45 _ #[.int .i64 A0, .int .i64 A1, .int .i64 A2, .int .i64 A3, .int .i64 A4, .int .i64 A5, .int .i64 A6] rfl k0 config_size7 rfl hone ?_))
        refine bodyPost_ret (results_cell rfl _ _ g0 45 #[.int .i64 A0, .int .i64 A1, .int .i64 A2, .int .i64 A3, .int .i64 A4, .int .i64 A5, .int .i64 A6] _ rfl k0.row Try.underlying45 rfl config_size7) rfl ⟨HG3.out, .inl ⟨acc, rest, .agg #[.int .i64 A0, .int .i64 A1, .int .i64 A2, .int .i64 A3, .int .i64 A4, .int .i64 A5, .int .i64 A6], by unfold cfgP; rw [bind_ok HRE.out, if_pos HCK2.out]; rfl, rfl, ⟨by rw [HA.out], HL.out⟩, HR3.out⟩⟩
      · have e1 : (ck == 0) = false := beq_eq_false_iff_ne.2 h0
        have e2 : (ck != 0) = true := bne_iff_ne.2 h0
        have KFX := Lib.hid (fun w => KF.out ck w h0)
        have H00 := Lib.hid h0
        clear h0
        go_wp2_with fail
        refine (KFX.out _).mono ?_
        rintro e w3 ⟨rfl, rfl⟩
        unfold Flt
        go_wp2_with fail
        exact ⟨rfl, HG2.out, .inr ⟨ck, by unfold cfgP; rw [bind_ok HRE.out, HCK.out, if_neg H00.out]; rfl, rfl⟩⟩
end Go.Proofs.Ytpekofpiodaadaa.Hb
end

section
/- Rows that a call owns, no two of them in one block. -/
namespace Go.Proofs.Ytpekofpiodaadaa.Hb
set_option linter.unusedVariables false
set_option linter.unusedSimpArgs false
open Go.RowKit

structure ORow where
  v : Value
  e : TypeId
  sz : Nat
  n : Nat
  xs : List Value
def Sep (a b : Value) : Prop := ∀ q, a.ownBlock = some q → b.ownBlock ≠ some q
theorem Sep.symm {a b : Value} (h : Sep a b) : Sep b a := fun q h1 h2 => h q h2 h1
structure ORows (w : World) (B : Nat) (L : List ORow) : Prop where
  own : ∀ r ∈ L, w.ownsRow B r.e r.sz r.v r.n r.xs
  sep : L.Pairwise fun a b => Sep a.v b.v
theorem ORows.nil (w : World) (B : Nat) : ORows w B [] := ⟨by simp, List.Pairwise.nil⟩
theorem ORows.below {w w1 : World} {B : Nat} {L : List ORow} (h : ORows w B L) (hb : Below w.heap.size w w1) : ORows w1 B L := ⟨fun r hr => own_below (h.own r hr) hb, h.sep⟩
theorem ORows.kept {w w1 : World} {B q : Nat} {L : List ORow} (h : ORows w B L) (hg : w.grownBy w1 (some q)) (hq : q < B) : ORows w1 B L :=
  ⟨fun r hr => (h.own r hr).kept hg (.inr (fun e => by have := (World.ownsRow.lt (h.own r hr) q e).1; omega)), h.sep⟩
theorem ORows.perm {w : World} {B : Nat} {L M : List ORow} (h : ORows w B L) (hp : L.Perm M) : ORows w B M :=
  ⟨fun r hr => h.own r (hp.mem_iff.2 hr), (hp.pairwise_iff (fun h => h.symm)).1 h.sep⟩
theorem own_kept {w w1 : World} {B n sz : Nat} {e : TypeId} {v : Value} {xs : List Value} {row : Option Nat} (h : w.ownsRow B e sz v n xs) (hg : w.grownBy w1 row) (hr : ∀ q, v.ownBlock = some q → row ≠ some q) : w1.ownsRow B e sz v n xs := by
  refine h.kept hg ?_
  cases hv : v.ownBlock with
  | none => exact .inl rfl
  | some q => exact .inr (fun e => hr q hv e.symm)
/-- The first row grows. -/
theorem ORows.grow {w w1 : World} {B : Nat} {r r1 : ORow} {L : List ORow} (h : ORows w B (r :: L)) (hg : w.grownBy w1 r.v.ownBlock) (ho : w1.ownsRow B r1.e r1.sz r1.v r1.n r1.xs) (hat : ∀ q, r1.v.ownBlock = some q → r.v.ownBlock = some q ∨ q = w.heap.size) : ORows w1 B (r1 :: L) := by
  have hs := List.pairwise_cons.1 h.sep
  refine ⟨fun x hx => ?_, List.pairwise_cons.2 ⟨fun x hx q h1 h2 => ?_, hs.2⟩⟩
  · rcases List.mem_cons.1 hx with rfl | hx
    · exact ho
    · exact own_kept (h.own x (List.mem_cons_of_mem _ hx)) hg (fun q hq e => hs.1 x hx q e hq)
  · rcases hat q h1 with e | e
    · exact hs.1 x hx q e h2
    · have := (World.ownsRow.lt (h.own x (List.mem_cons_of_mem _ hx)) q h2).2; omega
/-- A new row. -/
theorem ORows.new {w w1 : World} {B B1 : Nat} {r : ORow} {L : List ORow} (h : ORows w B L) (hk : ORows w1 B L) (ho : w1.ownsRow B1 r.e r.sz r.v r.n r.xs) (hB : B ≤ B1) (h1 : w.heap.size ≤ B1) : ORows w1 B (r :: L) := by
  refine ⟨fun x hx => ?_, List.pairwise_cons.2 ⟨fun x hx q h2 h3 => ?_, hk.sep⟩⟩
  · rcases List.mem_cons.1 hx with rfl | hx
    · exact own_base_le ho hB
    · exact hk.own x hx
  · have := (World.ownsRow.lt ho q h2).1
    have := (World.ownsRow.lt (h.own x hx) q h3).2
    omega
theorem ORows.empty {w : World} {B : Nat} {L : List ORow} (h : ORows w B L) (e : TypeId) (sz : Nat) : ORows w B (⟨.slice none 0 0, e, sz, 0, []⟩ :: L) := by
  refine ⟨fun x hx => ?_, List.pairwise_cons.2 ⟨fun x hx q h2 h3 => by simp [Value.ownBlock] at h2, h.sep⟩⟩
  rcases List.mem_cons.1 hx with rfl | hx
  · exact World.ownsRow_nil _ _ _ _
  · exact h.own x hx
/-- What lies in the blocks from B on is the same in another world. -/
theorem ORows.same {w w2 : World} {B : Nat} {L : List ORow} (h : ORows w B L) (hb : ∀ k, B ≤ k → k < w.heap.size → w2.heap[k]? = w.heap[k]?) : ORows w2 B L :=
  ⟨fun r hr => by
    have ho := h.own r hr
    refine ⟨ho.1, ?_⟩
    rcases ho.2 with h2 | ⟨g, cap, cur, q1, q2, q3, q4⟩
    · exact .inl h2
    · exact .inr ⟨g, cap, cur, q1, q2, (hb g q2 (Array.getElem?_eq_some_iff.1 q3).1).trans q3, q4⟩, h.sep⟩
def eRow (p : Value × List Nat) : ORow := ⟨p.1, 139, 1, p.2.length, flts p.2⟩
def tRow (p : Value × List Nd) : ORow := ⟨p.1, 90, 6, p.2.length, p.2.flatMap ndC⟩
def esRow (v : Value) (I : List (Value × List Nat)) : ORow := ⟨v, 94, 1, I.length, I.map Prod.fst⟩
def tsRow (v : Value) (I : List (Value × List Nd)) : ORow := ⟨v, 88, 1, I.length, I.map Prod.fst⟩
def sgC (x : Int × Int) : List Value := [.int .i64 x.1, .int .i64 x.2]
def sgRow (v : Value) (S : List (Int × Int)) : ORow := ⟨v, 49, 2, S.length, S.flatMap sgC⟩
/-- The rows of a forest that is being read. -/
def fRows (ve vt vs : Value) (I : List (Value × List Nat)) (J : List (Value × List Nd)) (S : List (Int × Int)) : List ORow := esRow ve I :: sgRow vs S :: tsRow vt J :: (I.map eRow ++ J.map tRow)
theorem own_cap {w : World} {B sz n c : Nat} {e : TypeId} {A : Option Addr} {xs : List Value} (h : w.ownsRow B e sz (.slice A n c) n xs) : n ≤ c ∧ c ≤ 9223372036854775807 := by
  rcases h.2 with ⟨e, e2⟩ | ⟨g', cap', cur, e, _, _, q1, q2, _⟩
  · simp only [Value.slice.injEq] at e; omega
  · simp only [Value.slice.injEq] at e; unfold maxLen at q2; omega
theorem at_cell (g i : Nat) : (⟨g, 0, none⟩ : Addr).add i = ⟨g, i, none⟩ := by unfold Addr.add; split <;> simp_all
theorem ORows.re {w : World} {B n c : Nat} {A : Option Addr} {I : List (Value × List Nat)} {L : List ORow} (h : ORows w B L) (h1 : esRow (.slice A n c) I ∈ L) (h2 : ∀ p ∈ I, eRow p ∈ L) (hs : ∀ p ∈ I, ∃ a c, p.1 = .slice a p.2.length c) (ho : ∀ p ∈ I, ∀ x ∈ p.2, x < 18446744073709551616) : RE w A (I.map Prod.snd) := by
  intro h0
  rw [List.length_map] at h0
  obtain ⟨g, cap, hv, _, _, _, hc⟩ := own_open (h.own _ h1) h0
  simp only [esRow, Value.slice.injEq] at hv
  obtain ⟨rfl, _, _⟩ := hv
  refine ⟨_, rfl, fun i y hy => ?_⟩
  rw [List.getElem?_map] at hy
  obtain ⟨p, hp, rfl⟩ := Option.map_eq_some_iff.1 hy
  have hpm := List.mem_of_getElem? hp
  obtain ⟨a, c', hpe⟩ := hs p hpm
  have hr := h.own _ (h2 p hpm)
  simp only [eRow] at hr
  rw [hpe] at hr
  refine ⟨[.slice a p.2.length c'], rfl, ⟨a, c', rfl, (own_cap hr).1, (own_cap hr).2, RF.own hr (ho p hpm)⟩, fun j u hj => ?_⟩
  obtain rfl : j = 0 := by have := (List.getElem?_eq_some_iff.1 hj).1; simp at this; omega
  simp only [List.getElem?_cons_zero, Option.some.injEq] at hj
  subst hj
  rw [Nat.mul_one, Nat.add_zero, at_cell]
  exact hc i _ (by simp only [esRow]; rw [List.getElem?_map, hp, Option.map_some, hpe])
theorem ORows.rt {w : World} {B n c : Nat} {A : Option Addr} {I : List (Value × List Nd)} {L : List ORow} (h : ORows w B L) (h1 : tsRow (.slice A n c) I ∈ L) (h2 : ∀ p ∈ I, tRow p ∈ L) (hs : ∀ p ∈ I, ∃ a c, p.1 = .slice a p.2.length c) (ho : ∀ p ∈ I, ∀ x ∈ p.2, x.ok) : RT w A (I.map Prod.snd) := by
  intro h0
  rw [List.length_map] at h0
  obtain ⟨g, cap, hv, _, _, _, hc⟩ := own_open (h.own _ h1) h0
  simp only [tsRow, Value.slice.injEq] at hv
  obtain ⟨rfl, _, _⟩ := hv
  refine ⟨_, rfl, fun i y hy => ?_⟩
  rw [List.getElem?_map] at hy
  obtain ⟨p, hp, rfl⟩ := Option.map_eq_some_iff.1 hy
  have hpm := List.mem_of_getElem? hp
  obtain ⟨a, c', hpe⟩ := hs p hpm
  have hr := h.own _ (h2 p hpm)
  simp only [tRow] at hr
  rw [hpe] at hr
  refine ⟨[.slice a p.2.length c'], rfl, ⟨a, c', rfl, (own_cap hr).1, (own_cap hr).2, RN.own hr (ho p hpm)⟩, fun j u hj => ?_⟩
  obtain rfl : j = 0 := by have := (List.getElem?_eq_some_iff.1 hj).1; simp at this; omega
  simp only [List.getElem?_cons_zero, Option.some.injEq] at hj
  subst hj
  rw [Nat.mul_one, Nat.add_zero, at_cell]
  exact hc i _ (by simp only [tsRow]; rw [List.getElem?_map, hp, Option.map_some, hpe])
theorem sg_get : ∀ (l : List (Int × Int)) (i j : Nat) (x : Int × Int), l[i]? = some x → j < 2 → (l.flatMap sgC)[i * 2 + j]? = (sgC x)[j]?
  | [], i, j, x, h, _ => by simp at h
  | y :: l, i, j, x, h, hj => by
    rw [List.flatMap_cons]
    rcases i with _ | i
    · simp at h; subst h
      rw [Nat.zero_mul, Nat.zero_add, List.getElem?_append_left (by simp [sgC]; exact hj)]
    · rw [List.getElem?_append_right (by simp [sgC]; omega), show (sgC y).length = 2 from rfl, show (i + 1) * 2 + j - 2 = i * 2 + j by omega]
      exact sg_get l i j x (by simpa using h) hj
theorem ORows.rs {w : World} {B n c : Nat} {A : Option Addr} {S : List (Int × Int)} {L : List ORow} (h : ORows w B L) (h1 : sgRow (.slice A n c) S ∈ L) (ho : ∀ x ∈ S, in64 x.1 ∧ in64 x.2) : RS2 w A S := by
  intro h0
  obtain ⟨g, cap, hv, _, _, _, hc⟩ := own_open (h.own _ h1) h0
  simp only [sgRow, Value.slice.injEq] at hv
  obtain ⟨rfl, _, _⟩ := hv
  refine ⟨_, rfl, fun i y hy => ⟨sgC y, rfl, ⟨rfl, ho y (List.mem_of_getElem? hy)⟩, fun j u hj => ?_⟩⟩
  have hj2 : j < 2 := by have := (List.getElem?_eq_some_iff.1 hj).1; simpa [sgC] using this
  rw [at_cell]
  exact hc _ _ (by simp only [sgRow]; rw [sg_get S i j y hy hj2]; exact hj)
end Go.Proofs.Ytpekofpiodaadaa.Hb
end

section
/- The walk of ref08.Get: the config of a text's first bytes. -/
namespace Go.Proofs.Ytpekofpiodaadaa.Hb
set_option linter.unusedVariables false
set_option linter.unusedSimpArgs false
open Go.RowKit

def Z7 : Array Value := #[.int .i64 0, .int .i64 0, .int .i64 0, .int .i64 0, .int .i64 0, .int .i64 0, .int .i64 0]
def SZ7 : Array Value := #[.int .i64 1, .int .i64 2, .int .i64 2, .int .i64 2, .int .i64 1, .int .i64 4, .int .i64 2]
def offS (i : Nat) : Nat := (szs.take i).sum
theorem szs_at8 {i : Nat} (h : i < 7) : ∃ k : Nat, SZ7[i]? = some (.int .i64 (k : Int)) ∧ k ≤ 4 ∧ offS (i + 1) = offS i + k ∧ offS i + k ≤ 14 ∧ szs.drop i = k :: szs.drop (i + 1) := by
  obtain e | e | e | e | e | e | e : i = 0 ∨ i = 1 ∨ i = 2 ∨ i = 3 ∨ i = 4 ∨ i = 5 ∨ i = 6 := by omega
  all_goals
    subst e
    exact ⟨_, rfl, by decide, by decide, by decide, rfl⟩
theorem fields_short : ∀ (ks : List Nat) (acc : List Int) (l : List Nat), l.length < ks.sum → fieldsA ks acc l = .error 2
  | [], _, _, h => by simp at h
  | k :: ks, acc, l, h => by
    rw [fieldsA]
    by_cases hk : l.length < k
    · exact bind_err (num_short hk)
    · rw [bind_ok (num_some (by omega))]
      exact fields_short ks _ _ (by rw [List.length_drop]; rw [List.sum_cons] at h; omega)
theorem cfg_short {l : List Nat} (h : l.length < 14) : cfgP l = .error 2 := bind_err (fields_short szs [] l (by simpa [szs] using h))
theorem fields_step {ks : List Nat} {acc : List Int} {l : List Nat} {o k : Nat} (h : o + k ≤ l.length) : fieldsA (k :: ks) acc (l.drop o) = fieldsA ks (acc ++ [((numB ((l.drop o).take k) : Nat) : Int)]) (l.drop (o + k)) := by
  rw [fieldsA, bind_ok (num_some (by rw [List.length_drop]; omega)), List.drop_drop]
theorem boxes3 (w : World) (X0 X1 X2 : Array Value) (t0 t1 t2 : TypeId) (W : World) (h : W = (((w.alloc (.cells X0 t0)).alloc (.cells X1 t1)).alloc (.cells X2 t2))) :
    Blk W w.heap.size X0 t0 ∧ Blk W (w.heap.size + 1) X1 t1 ∧ Blk W (w.heap.size + 1 + 1) X2 t2 ∧ Below w.heap.size w W ∧ W.heap.size = w.heap.size + 1 + 1 + 1 := by
  subst h
  refine ⟨?_, ?_, ?_, ?_, by simp⟩
  case refine_4 => exact (((Below.refl _ w).alloc (Nat.le_refl _) _).alloc (by simp) _).alloc (by simp; omega) _
  all_goals
    unfold Blk World.alloc
    rw [Array.getElem?_eq_getElem (by simp <;> omega)]
    simp only [Array.getElem_push, Array.size_push]
    congr 1
    simp (disch := omega) only [dif_pos, dif_neg]
structure G8 (l : List Nat) (g0 i : Nat) (A : Option Addr) (c : Nat) (acc : List Int) (w wr : World) : Prop where
  len : acc.length = i
  rd : fieldsA szs [] l = fieldsA (szs.drop i) acc (l.drop (offS i))
  own : wr.ownsRow (g0 + 1) 3 1 (.slice A i c) i (ints acc)
  k0 : Blk wr g0 Z7 45
  kS : Blk wr (g0 + 1 + 1) SZ7 3
  ne : ∀ q, (Value.slice A i c).ownBlock = some q → q ≠ g0 + 1 + 1
  be : Below g0 w wr
theorem seven {acc : List Int} (h : acc.length = 7) : ∃ a0 a1 a2 a3 a4 a5 a6, acc = [a0, a1, a2, a3, a4, a5, a6] := by
  rcases acc with _ | ⟨a0, _ | ⟨a1, _ | ⟨a2, _ | ⟨a3, _ | ⟨a4, _ | ⟨a5, _ | ⟨a6, _ | ⟨a7, r⟩⟩⟩⟩⟩⟩⟩⟩
  all_goals simp only [List.length_cons, List.length_nil] at h
  all_goals first | omega | exact ⟨_, _, _, _, _, _, _, rfl⟩
def RC8 (l : List Nat) (w : World) (e : Ending) (w' : World) : Prop := Below w.heap.size w w' ∧ ((∃ a0 a1 a2 a3 a4 a5 a6, cfgP l = .ok ([a0, a1, a2, a3, a4, a5, a6], l.drop 14) ∧ e = .returned (.tuple #[.agg #[.int .i64 a0, .int .i64 a1, .int .i64 a2, .int .i64 a3, .int .i64 a4, .int .i64 a5, .int .i64 a6], .int .i64 0])) ∨ ∃ k, cfgP l = .error k ∧ k ≠ 0 ∧ e = .returned (.tuple #[.agg Z7, .int .i64 k]))
set_option maxRecDepth 100000 in
set_option maxHeartbeats 4000000 in
theorem rget8_short (l : List Nat) (h14 : l.length < 14) (w : World) : Calls Try.prog 83 #[.string (strB l)] w (RC8 l w) := by
  have HSH := Lib.hid (cfg_short h14)
  have hs := strB_size l
  unfold RC8
  obtain ⟨X, hX⟩ : ∃ X, strB l = X := ⟨_, rfl⟩
  rw [hX] at hs ⊢
  obtain ⟨n, hn⟩ : ∃ n, l.length = n := ⟨_, rfl⟩
  rw [hn] at hs h14
  have d1 : decide ((n : Int) < 14) = true := decide_eq_true (by omega)
  have d2 : decide (n < 14) = true := decide_eq_true h14
  clear hX hn h14
  go_enter Try.func83, Try.ntmps83
  go_upto_region 2 with (fail)
  have k0 := Blk.new w Z7 45
  have HBE := Lib.hid ((Below.refl w.heap.size w).alloc (Nat.le_refl _) (.cells Z7 45))
  have hone : ∀ v ∈ Z7.toList, v.oneCell' = true := by simp [Z7, Value.oneCell']
  obtain ⟨W, hW⟩ : ∃ W, w.alloc (.cells Z7 45) = W := ⟨_, rfl⟩
  rw [hW] at k0 HBE
  rw [show w.alloc (.cells #[.int .i64 0, .int .i64 0, .int .i64 0, .int .i64 0, .int .i64 0, .int .i64 0, .int .i64 0] 45) = W from hW]
  go_wp2_with (refine wpList_store_row rfl 45 (.tmp 2) (.tmp 16) rfl w.heap.size rfl 45 _ Z7 rfl k0 config_size7 rfl hone ?_)
  exact bodyPost_ret (results_ct rfl _ _ w.heap.size 45 Z7 _ rfl k0.row Try.underlying45 rfl config_size7) rfl ⟨below_row0 HBE.out (Nat.le_refl _), .inr ⟨2, HSH.out, by decide, rfl⟩⟩
set_option maxRecDepth 100000 in
set_option maxHeartbeats 8000000 in
theorem rget8_long (l : List Nat) (hb : ∀ x ∈ l, x < 256) (hn : l.length ≤ 1073741824) (h14 : 14 ≤ l.length) (w : World) : Calls Try.prog 83 #[.string (strB l)] w (RC8 l w) := by
  have K7 := Lib.hid (fun a k hk h w => rget7_yes l a k (a : Int) (k : Int) rfl rfl hb hk hn h w)
  have KCK := Lib.hid (fun a0 a1 a2 a3 a4 a5 a6 w => rcheck_any a0 a1 a2 a3 a4 a5 a6 w)
  have HST := Lib.hid (fun (ks : List Nat) (acc : List Int) (o k : Nat) (h : o + k ≤ l.length) => fields_step (ks := ks) (acc := acc) h)
  have HXB : Hid (∀ o k, k ≤ 4 → o + k ≤ l.length → numB ((l.drop o).take k) < 4294967296) := Lib.hid (fun o k hk h => by
    have h1 := numB_lt (l := (l.drop o).take k) (fun b hm => hb b (List.mem_of_mem_drop (List.mem_of_mem_take hm)))
    rw [List.length_take, List.length_drop, Nat.min_eq_left (by omega)] at h1
    exact Nat.lt_of_lt_of_le h1 (Nat.pow_le_pow_right (n := 256) (by decide) hk))
  have hs := strB_size l
  unfold RC8
  obtain ⟨i0, hi0, hz0, hz1, hz2⟩ := info_parts info_int
  obtain ⟨X, hX⟩ : ∃ X, strB l = X := ⟨_, rfl⟩
  rw [hX] at hs K7 ⊢
  obtain ⟨n, hnn⟩ : ∃ n, l.length = n := ⟨_, rfl⟩
  rw [hnn] at hs h14 hn HST HXB K7
  have d1 : decide ((n : Int) < 14) = false := decide_eq_false (by omega)
  have d2 : decide (n < 14) = false := decide_eq_false (by omega)
  have HN := Lib.hid (And.intro h14 hn)
  clear hX hnn hb
  go_enter Try.func83, Try.ntmps83
  go_wp2_with fail
  have HO3 := (World.ownsRow_made (w.alloc (.cells Z7 45)) (e := 3) (size := 1) #[] 0 (Nat.le_refl _) (Nat.zero_le _) rfl).alloc (.cells SZ7 3)
  simp only [World.size_alloc] at HO3
  obtain ⟨W, hW⟩ : ∃ W, ((w.alloc (.cells Z7 45)).alloc (.cells #[] 3)).alloc (.cells SZ7 3) = W := ⟨_, rfl⟩
  obtain ⟨k0, _, k2, hbe, hsz⟩ := boxes3 w Z7 #[] SZ7 45 3 3 W hW.symm
  rw [hW] at HO3
  have HG0 : Hid (G8 l w.heap.size 0 (some ⟨w.heap.size + 1, 0, none⟩) 0 [] w W) := Lib.hid ⟨rfl, rfl, HO3, k0, k2, fun q e => by simp only [Value.ownBlock, Option.some.injEq] at e; omega, hbe⟩
  rw [show ((w.alloc (.cells #[.int .i64 0, .int .i64 0, .int .i64 0, .int .i64 0, .int .i64 0, .int .i64 0, .int .i64 0] 45)).alloc (.cells #[] 3)).alloc (.cells #[.int .i64 1, .int .i64 2, .int .i64 2, .int .i64 2, .int .i64 1, .int .i64 4, .int .i64 2] 3) = W from hW]
  have HSZ := Lib.hid hsz
  clear hW k0 k2 hbe HO3 hsz d1 d2 hn h14
  go_loopw [4, 5, 7] (fun nv av iv wr => ∃ (i : Nat) (A : Option Addr) (c : Nat) (acc : List Int) (o : Nat), i ≤ 7 ∧ iv = .int .i64 i ∧ av = .int .i64 o ∧ nv = .slice A i c ∧ Hid (o = offS i) ∧ Hid (G8 l w.heap.size i A c acc w wr)) (fun _ _ iv _ => 7 - (intOf iv).toNat)
  case atStart => exact ⟨0, _, 0, [], 0, by omega, rfl, rfl, rfl, Lib.hid rfl, HG0⟩
  case round =>
    obtain ⟨i, A, c, acc, o, hi, rfl, rfl, rfl, HO, HG⟩ := hrel
    clear HG0
    by_cases hlt : i < 7
    · have hlt' : (i : Int) < 7 := by omega
      obtain ⟨k, hsv, hk4, hof, ho14, hdr⟩ := szs_at8 hlt
      have HOF := Lib.hid (And.intro hof hdr)
      rw [← HO.out] at ho14
      have h14 := HN.out.1
      have hx := HXB.out o k hk4 (by omega)
      have KX := Lib.hid (fun w => K7.out o k (by omega) (by omega) w)
      have HSTX := Lib.hid (HST.out (szs.drop (i + 1)) acc o k (by omega))
      obtain ⟨x, hxx⟩ : ∃ x, numB ((l.drop o).take k) = x := ⟨_, rfl⟩
      rw [hxx] at hx KX HSTX
      have s0 : wr.cell? ⟨w.heap.size + 1 + 1, i, none⟩ = some (.int .i64 (k : Int)) := by rw [HG.out.kS.cell i]; exact hsv
      have wx : IntKind.i64.wrap (x : Int) = (x : Int) := by rw [IntKind.wrap_i64]; omega
      have hsw := HG.out.be.size
      have hcc := (own_cap HG.out.own).1
      clear hsv hof hdr hxx
      go_wp2_with fail
      refine (KX.out _).mono ?_
      rintro e w1 ⟨rfl, rfl⟩
      go_wp2_with (at_builtin; refine wpList_append_lies _ rfl _ _ 24 rfl (w.heap.size + 1) 3 i0 (.int .i64 0) 1 8 Try.underlying24 hi0 hz0 hz1 hz2 rfl (by decide) (.slice A i c) i (ints acc) rfl (HG.out.own.alloc _) ⟨w1.heap.size, 0, none⟩ 1 1 [.int .i64 (x : Int)] rfl rfl (cell_one_new _ _ _) (by simp [Value.oneCell']) (by decide) (by unfold maxLen; omega) (by omega) (by simp; omega) _ rfl ?_; intro g5 c5 w5 hown5 hg5 hat5 hlt5)
      have AL : Below w1.heap.size w1 (w1.alloc (.cells #[.int .i64 (x : Int)] 3)) := (Below.refl _ _).alloc (Nat.le_refl _) _
      go_roundw
      case rel =>
        refine ⟨i + 1, some ⟨g5, 0, none⟩, c5, acc ++ [(x : Int)], o + k, hlt, by go_num, by go_num, rfl, Lib.hid (by rw [HOF.out.1, ← HO.out]), Lib.hid ⟨by rw [List.length_append, HG.out.len]; rfl, ?_, ?_, ?_, ?_, ?_, ?_⟩⟩
        · rw [HG.out.rd, HOF.out.2, ← HO.out, HSTX.out, HOF.out.1, HO.out]
        · rw [show ints (acc ++ [(x : Int)]) = ints acc ++ [.int .i64 (x : Int)] from by simp [ints]]; exact hown5
        · exact own_blk (HG.out.k0.below AL) hg5 (fun e => by have := (World.ownsRow.lt HG.out.own _ e).1; omega)
        · exact own_blk (HG.out.kS.below AL) hg5 (fun e => HG.out.ne _ e rfl)
        · intro q e
          simp only [Value.ownBlock, Option.some.injEq] at e
          subst e
          rcases hat5 with h | h
          · exact HG.out.ne _ h
          · have := HG.out.kS.lt; simp at h; omega
        · exact (HG.out.be.alloc HG.out.be.size _).grown hg5 (by simp; omega) (fun q e => by have := (World.ownsRow.lt HG.out.own q e).1; omega)
      case measure => simp [intOf]; omega
    · obtain rfl : 7 = i := by omega
      obtain ⟨a0, a1, a2, a3, a4, a5, a6, rfl⟩ := seven HG.out.len
      have HRD : Hid (fieldsA szs [] l = .ok ([a0, a1, a2, a3, a4, a5, a6], l.drop 14)) := Lib.hid (by rw [HG.out.rd]; rfl)
      obtain ⟨g, cap, hv, _, _, _, hc⟩ := own_open HG.out.own (by decide)
      simp only [Value.slice.injEq, true_and] at hv
      obtain ⟨rfl, rfl⟩ := hv
      have s0 := hc 0 _ rfl
      have s1 := hc 1 _ rfl
      have s2 := hc 2 _ rfl
      have s3 := hc 3 _ rfl
      have s4 := hc 4 _ rfl
      have s5 := hc 5 _ rfl
      have s6 := hc 6 _ rfl
      have KX := Lib.hid (fun w => KCK.out a0 a1 a2 a3 a4 a5 a6 w)
      obtain ⟨ck, hck⟩ : ∃ z, checkO a0 a1 a2 a3 a4 a5 a6 = z := ⟨_, rfl⟩
      have HCK : Hid (chkL [a0, a1, a2, a3, a4, a5, a6] = ck) := Lib.hid hck
      rw [hck] at KX
      clear hc hck
      go_upto_region 12 with (fail)
      go_cut [11] (fun cv wc => ∃ C : Nat, cv = .pointer (some ⟨C, 0, none⟩) ∧ Hid (Blk wc C #[.int .i64 a0, .int .i64 a1, .int .i64 a2, .int .i64 a3, .int .i64 a4, .int .i64 a5, .int .i64 a6] 45 ∧ Blk wc w.heap.size Z7 45 ∧ Below w.heap.size w wc))
      case first =>
        go_region_held3 (fun W => W.cell? ⟨g, 0, none⟩ = some (.int .i64 a0) ∧ W.cell? ⟨g, 1, none⟩ = some (.int .i64 a1) ∧ W.cell? ⟨g, 2, none⟩ = some (.int .i64 a2) ∧ W.cell? ⟨g, 3, none⟩ = some (.int .i64 a3) ∧ W.cell? ⟨g, 4, none⟩ = some (.int .i64 a4) ∧ W.cell? ⟨g, 5, none⟩ = some (.int .i64 a5) ∧ W.cell? ⟨g, 6, none⟩ = some (.int .i64 a6)) (go_keep) (fail)
        all_goals
          go_wp2
          go_meet
          case rel => exact ⟨_, rfl, Lib.hid ⟨Blk.new _ _ _, HG.out.k0.below ((Below.refl _ _).alloc (Nat.le_refl _) _).drew, (HG.out.be.alloc HG.out.be.size _).drew⟩⟩
      case rest =>
        obtain ⟨C, rfl, HK⟩ := hcut
        have kC := HK.out.1
        clear s0 s1 s2 s3 s4 s5 s6
        go_wp2_with (refine wpList_load_row rfl 45 (.tmp 11) rfl C rfl 45 _ (0, 0) _ kC Try.underlying45 rfl config_size7 ?_)
        refine (KX.out _).mono ?_
        rintro e w2 ⟨rfl, hb⟩
        have HK2 := Lib.hid (And.intro (HK.out.1.below hb) (And.intro (HK.out.2.1.below hb) (HK.out.2.2.trans (hb.mono HK.out.2.2.size))))
        clear hb kC
        have k0 := HK2.out.2.1
        have kC := HK2.out.1
        by_cases h0 : ck = 0
        · have HC0 := Lib.hid (HCK.out.trans h0)
          subst h0
          have hone : ∀ v ∈ (#[.int .i64 a0, .int .i64 a1, .int .i64 a2, .int .i64 a3, .int .i64 a4, .int .i64 a5, .int .i64 a6] : Array Value).toList, v.oneCell' = true := by simp [Value.oneCell']
          go_wp2_with (first | (refine wpList_load_row rfl 45 (.tmp 11) rfl C rfl 45 _ (0, 0) _ kC Try.underlying45 rfl config_size7 ?_) | (refine wpList_store_row rfl 45 (.tmp 2) (.tmp 70) rfl w.heap.size rfl 45 _ #[.int .i64 a0, .int .i64 a1, .int .i64 a2, .int .i64 a3, .int .i64 a4, .int .i64 a5, .int .i64 a6] rfl k0 config_size7 rfl hone ?_))
          exact bodyPost_ret (results_ct rfl _ _ w.heap.size 45 #[.int .i64 a0, .int .i64 a1, .int .i64 a2, .int .i64 a3, .int .i64 a4, .int .i64 a5, .int .i64 a6] _ rfl k0.row Try.underlying45 rfl config_size7) rfl ⟨below_row0 HK2.out.2.2 (Nat.le_refl _), .inl ⟨a0, a1, a2, a3, a4, a5, a6, by unfold cfgP; rw [bind_ok HRD.out, if_pos HC0.out]; rfl, rfl⟩⟩
        · have e1 : (ck == 0) = false := beq_eq_false_iff_ne.2 h0
          have e2 : (ck != 0) = true := bne_iff_ne.2 h0
          have HC0 := Lib.hid h0
          clear h0
          have hone : ∀ v ∈ Z7.toList, v.oneCell' = true := by simp [Z7, Value.oneCell']
          go_wp2_with (refine wpList_store_row rfl 45 (.tmp 2) (.tmp 68) rfl w.heap.size rfl 45 _ Z7 rfl k0 config_size7 rfl hone ?_)
          exact bodyPost_ret (results_ct rfl _ _ w.heap.size 45 Z7 _ rfl k0.row Try.underlying45 rfl config_size7) rfl ⟨below_row0 HK2.out.2.2 (Nat.le_refl _), .inr ⟨ck, by unfold cfgP; rw [bind_ok HRD.out, HCK.out, if_neg HC0.out]; rfl, HC0.out, rfl⟩⟩
theorem rget8_any (l : List Nat) (hb : ∀ x ∈ l, x < 256) (hn : l.length ≤ 1073741824) (w : World) : Calls Try.prog 83 #[.string (strB l)] w (RC8 l w) := by
  by_cases h : l.length < 14
  · exact rget8_short l h w
  · exact rget8_long l hb hn (by omega) w
end Go.Proofs.Ytpekofpiodaadaa.Hb
end

section
/- The walks of ref18.May and ref18.one. -/
namespace Go.Proofs.Ytpekofpiodaadaa.Hb
set_option linter.unusedVariables false
set_option linter.unusedSimpArgs false
open Go.RowKit

set_option maxRecDepth 100000 in
set_option maxHeartbeats 1000000 in
theorem rmayT_any (cols bins kind classes : Int) (w : World) : Calls Try.prog 133 #[.int .i64 cols, .int .i64 bins, .int .i64 kind, .int .i64 classes] w fun e w' => e = .returned (.bool (decide (mayS cols bins kind classes))) ∧ w = w' := by
  obtain ⟨R, hR⟩ : ∃ R, decide (mayS cols bins kind classes) = R := ⟨_, rfl⟩
  rw [hR]
  have HR := Lib.hid hR
  clear hR
  obtain ⟨k0, hk0⟩ : ∃ k0, (kind == 0) = k0 := ⟨_, rfl⟩
  obtain ⟨k1, hk1⟩ : ∃ k1, (kind == 1) = k1 := ⟨_, rfl⟩
  have HK0 := Lib.hid hk0
  have HK1 := Lib.hid hk1
  have H10 : Hid (k0 = true → k1 = true → False) := Lib.hid (fun h1 h2 => by rw [h1] at hk0; rw [h2] at hk1; have := beq_iff_eq.1 hk0; have := beq_iff_eq.1 hk1; omega)
  cases k0 <;> cases k1
  all_goals
    go_enter Try.func133, Try.ntmps133
    go_wp2_with fail
    all_goals
      go_ret
      refine ⟨congrArg (fun b => Ending.returned (.bool b)) ?_, rfl⟩
      rw [← HR.out]
      have x0 := HK0.out
      have x1 := HK1.out
      simp only [beq_iff_eq, beq_eq_false_iff_ne] at x0 x1
      unfold mayS
      first
      | (refine (decide_eq_false ?_).symm; omega)
      | (refine (decide_eq_true ?_).symm; omega)
      | (refine decide_eq_decide.2 ?_; omega)
      | (rw [Bool.eq_iff_iff]; simp; omega)

set_option maxRecDepth 100000 in
set_option maxHeartbeats 4000000 in
theorem rone_any (cols bins kind classes : Int) (x : Nd) (hx : x.ok) (w : World) : Calls Try.prog 134 #[ndV x, .int .i64 cols, .int .i64 bins, .int .i64 kind, .int .i64 classes] w fun e w' => e = .returned (.bool (decide (oneP cols bins kind classes x))) ∧ Below w.heap.size w w' := by
  have HS := Lib.hid (fun w => rsize_any x.s hx.2.2.2.2.1 w)
  obtain ⟨R, hR⟩ : ∃ R, decide (oneP cols bins kind classes x) = R := ⟨_, rfl⟩
  rw [hR]
  have HR := Lib.hid hR
  clear hR
  obtain ⟨f, b, l, c, s, k⟩ := x
  simp only [ndV] at HS ⊢
  clear hx
  have hbe : ∀ (w : World) (o : Obj), Below w.heap.size w (w.alloc o) := fun w o => (Below.refl _ _).alloc (Nat.le_refl _) _
  have hbd : ∀ (w : World) (o : Obj) (n : Nat), Below w.heap.size w ((w.alloc o).drewN n) := fun w o n => (hbe w o).trans ⟨rfl, rfl, rfl, Nat.le_refl _, fun _ _ => rfl⟩
  by_cases hf : 0 ≤ f
  · have d1 : decide (0 ≤ f) = true := decide_eq_true hf
    have hfin : Hid (R = decide (c = 0 ∧ s = 0 ∧ k = 0 ∧ 0 ≤ f ∧ f < cols ∧ 0 ≤ b ∧ b < bins)) := Lib.hid (by
      rw [← HR.out]
      refine decide_eq_decide.2 ?_
      unfold oneP
      dsimp only
      rw [if_neg (show ¬ f = -1 by omega)])
    have HF := Lib.hid hf
    clear hf
    go_enter Try.func134, Try.ntmps134
    go_wp2_with fail
    all_goals
      go_ret
      refine ⟨ret_bool ?_, hbe _ _⟩
      rw [hfin.out]
      have hf := HF.out
      first
      | (refine (decide_eq_false ?_).symm; omega)
      | (refine (decide_eq_true ?_).symm; omega)
      | (refine decide_eq_decide.2 ?_; omega)
      | (rw [Bool.eq_iff_iff]; simp; omega)
  have d1 : decide (0 ≤ f) = false := decide_eq_false hf
  by_cases hbad : f ≠ -1 ∨ b ≠ 0 ∨ l ≠ 0
  · have HB := Lib.hid hbad
    have HF := Lib.hid hf
    obtain ⟨x1, hx1⟩ : ∃ x1, (f != -1) = x1 := ⟨_, rfl⟩
    obtain ⟨x2, hx2⟩ : ∃ x2, (b != 0) = x2 := ⟨_, rfl⟩
    obtain ⟨x3, hx3⟩ : ∃ x3, (l != 0) = x3 := ⟨_, rfl⟩
    have hor : (x1 || (x2 || x3)) = true := by
      rw [← hx1, ← hx2, ← hx3]
      simp only [Bool.or_eq_true, bne_iff_ne]
      omega
    clear hf hbad
    have fin : Hid (R = false) := Lib.hid (by
      rw [← HR.out]
      have hf := HF.out
      have hb := HB.out
      refine decide_eq_false ?_
      unfold oneP
      dsimp only
      by_cases e : f = -1
      · rw [if_pos e]
        by_cases e2 : kind = 0
        · rw [if_pos e2]; omega
        · rw [if_neg e2]; omega
      · rw [if_neg e]; omega)
    cases x1 <;> cases x2 <;> cases x3
    all_goals first
    | (cases hor; done)
    | (go_enter Try.func134, Try.ntmps134
       go_wp2_with fail
       go_ret
       exact ⟨ret_bool fin.out.symm, hbe _ _⟩)
  · have e1 : f = -1 := by omega
    have e2 : b = 0 := by omega
    have e3 : l = 0 := by omega
    subst e1 e2 e3
    clear hbad hf d1
    by_cases hk : kind = 0
    · subst hk
      have hfin : Hid (R = decide (s = 0 ∧ k = 0 ∧ 0 ≤ c ∧ c < classes)) := Lib.hid (by
        rw [← HR.out]
        refine decide_eq_decide.2 ?_
        unfold oneP
        dsimp only
        rw [if_pos rfl, if_pos rfl]
        omega)
      go_enter Try.func134, Try.ntmps134
      go_wp2_with fail
      all_goals
        go_ret
        refine ⟨ret_bool ?_, hbe _ _⟩
        rw [hfin.out]
        first
        | (refine (decide_eq_false ?_).symm; omega)
        | (refine (decide_eq_true ?_).symm; omega)
        | (refine decide_eq_decide.2 ?_; omega)
        | (rw [Bool.eq_iff_iff]; simp; omega)
    · have k0 : (kind == 0) = false := beq_eq_false_iff_ne.2 hk
      have HK := Lib.hid hk
      clear hk
      have hfin : Hid (R = decide (c = 0 ∧ 1 ≤ k ∧ k ≤ 1048576 ∧ -(1048576 * k) ≤ s ∧ s ≤ 1048576 * k)) := Lib.hid (by
        rw [← HR.out]
        refine decide_eq_decide.2 ?_
        unfold oneP
        dsimp only
        rw [if_pos rfl, if_neg HK.out]
        omega)
      by_cases hbad : c ≠ 0 ∨ k < 1 ∨ 1048576 < k
      · have fin : Hid (R = false) := Lib.hid (by rw [hfin.out]; exact decide_eq_false (by omega))
        obtain ⟨x1, hx1⟩ : ∃ x1, (c == 0) = x1 := ⟨_, rfl⟩
        obtain ⟨x2, hx2⟩ : ∃ x2, decide (1 ≤ k) = x2 := ⟨_, rfl⟩
        obtain ⟨x3, hx3⟩ : ∃ x3, decide (k ≤ 1048576) = x3 := ⟨_, rfl⟩
        have hor : (x1 && (x2 && x3)) = false := by
          rw [← hx1, ← hx2, ← hx3, Bool.eq_false_iff]
          simp only [ne_eq, Bool.and_eq_true, beq_iff_eq, decide_eq_true_eq]
          omega
        clear hbad
        cases x1 <;> cases x2 <;> cases x3
        all_goals first
        | (cases hor; done)
        | (go_enter Try.func134, Try.ntmps134
           go_wp2_with fail
           go_quiet (fail)
           go_wp2_with fail
           go_ret
           exact ⟨ret_bool fin.out.symm, hbd _ _ _⟩)
      · have e1 : c = 0 := by omega
        subst e1
        have k1 : 1 ≤ k := by omega
        have k2 : k ≤ 1048576 := by omega
        have y1 : decide (1 ≤ k) = true := decide_eq_true k1
        have y2 : decide (k ≤ 1048576) = true := decide_eq_true k2
        have w1 : IntKind.u64.wrap k = k := by simp [IntKind.wrap, IntKind.bits, IntKind.signed]; omega
        have w2 : IntKind.u64.wrap (1048576 * k) = 1048576 * k := by simp [IntKind.wrap, IntKind.bits, IntKind.signed]; omega
        have W1 := Lib.hid w1
        have KB := Lib.hid (And.intro k1 k2)
        clear hbad
        go_enter Try.func134, Try.ntmps134
        go_wp2_with fail
        go_quiet ((go_at_call 77; exact Calls.quiet_of_same ((HS.out _).mono fun _ _ h => ⟨h.1, h.2.symm⟩)))
        go_wp2_with fail
        go_ret
        refine ⟨ret_bool ?_, hbd _ _ _⟩
        rw [hfin.out]
        have := KB.out
        refine decide_eq_decide.2 ?_
        refine ⟨fun h => ⟨trivial, by omega, by omega, by omega, by omega⟩, fun h => by have := h.2.2.2.1; have := h.2.2.2.2; omega⟩
end Go.Proofs.Ytpekofpiodaadaa.Hb
end

section
/- The walks of ref18.parent, ref18.Deep and ref18.Right. -/
namespace Go.Proofs.Ytpekofpiodaadaa.Hb
set_option linter.unusedVariables false
set_option linter.unusedSimpArgs false
open Go.RowKit

theorem par_yes {p : Nat} {n : Nd} {r : List Nd} {k : Nat} (h : 0 ≤ n.f ∧ (n.l = p ∨ n.l + 1 = p)) : parGo p (n :: r) k = k := by rw [parGo, if_pos h]
theorem par_no {p : Nat} {n : Nd} {r : List Nd} {k : Nat} (h : ¬ (0 ≤ n.f ∧ (n.l = p ∨ n.l + 1 = p))) : parGo p (n :: r) k = parGo p r (k + 1) := by rw [parGo, if_neg h]
theorem wrapI_64 (x : Int) : IntKind.i64.wrap x = wrap64 x := by rw [IntKind.wrap_i64]; unfold wrap64; omega
theorem wrap_next {l : Int} (h : in64 l) {p : Nat} (hp : p ≤ 1099511627776) : (wrap64 (l + 1) == (p : Int)) = decide (l + 1 = p) := by
  obtain ⟨h1, h2⟩ := h
  rw [Bool.eq_iff_iff, beq_iff_eq, decide_eq_true_iff, ← wrapI_64, IntKind.wrap_i64]
  omega
set_option maxRecDepth 100000 in
set_option maxHeartbeats 1000000 in
theorem rparent_any (t : List Nd) (A : Option Addr) (cap p : Nat) (w : World) (hr : RN w A t) (hl : t.length ≤ 1099511627776) (hp : p ≤ t.length) :
    Calls Try.prog 135 #[.slice A t.length cap, .int .i64 p] w fun e w' => e = .returned (.int .i64 (parO t p)) ∧ w = w' := by
  obtain ⟨P, hP⟩ : ∃ P, parO t p = P := ⟨_, rfl⟩
  rw [hP]
  have HP : Hid (parGo p ((t.take p).drop 0) 0 = P) := Lib.hid hP
  obtain ⟨n, hn⟩ : ∃ n, t.length = n := ⟨_, rfl⟩
  have HN := Lib.hid hn
  have HR := Lib.hid hr
  rw [hn] at hl hp ⊢
  clear hP hn hr
  go_enter Try.func135, Try.ntmps135
  go_wp2_with fail
  go_loopw [5] (fun iv wr => ∃ k : Nat, k ≤ p ∧ iv = .int .i64 k ∧ Hid (parGo p ((t.take p).drop k) k = P) ∧ Hid (w = wr)) (fun iv _ => p - (intOf iv).toNat)
  case atStart => exact ⟨0, Nat.zero_le _, rfl, HP, Lib.hid rfl⟩
  case round =>
    obtain ⟨k, hk, rfl, HI, HW⟩ := hrel
    by_cases hlt : k < p
    · have hlt' : (k : Int) < p := by omega
      have hkn : k < n := by omega
      have hkn' : (k : Int) < n := by omega
      obtain ⟨ad, rfl, x, hx, hxok, hat⟩ := (HR.out).at (i := k) (by rw [HN.out]; exact hkn)
      rw [HW.out] at hat
      have HDR : Hid ((t.take p).drop k = x :: (t.take p).drop (k + 1)) := Lib.hid (drop_nd (by rw [List.getElem?_take, if_pos hlt]; exact hx))
      obtain ⟨p0, p1, p2, p3, p4, p5⟩ := hat
      obtain ⟨f, b, l, c, s, q⟩ := x
      simp only at p0 p1 p2 p3 p4 p5
      obtain ⟨x0, hx0⟩ : ∃ x0, decide (0 ≤ f) = x0 := ⟨_, rfl⟩
      obtain ⟨x1, hx1⟩ : ∃ x1, (l == (p : Int)) = x1 := ⟨_, rfl⟩
      obtain ⟨x2, hx2⟩ : ∃ x2, (wrap64 (l + 1) == (p : Int)) = x2 := ⟨_, rfl⟩
      have hdec : Hid ((0 ≤ f ∧ (l = p ∨ l + 1 = p)) ↔ (x0 && (x1 || x2)) = true) := Lib.hid (by
        rw [← hx0, ← hx1, ← hx2, wrap_next hxok.2.2.1 (by omega)]
        simp)
      clear hx hxok
      cases x0 <;> cases x1 <;> cases x2
      all_goals
        go_wp2_with fail
        first
        | (go_ret
           refine ⟨ret_i64 ?_, HW.out⟩
           rw [← HI.out, HDR.out, par_yes (hdec.out.2 rfl)])
        | (go_roundw
           case rel => exact ⟨k + 1, hlt, by go_num, Lib.hid (by have := HI.out; rw [HDR.out, par_no (fun h => by have := hdec.out.1 h; simp at this)] at this; exact this), HW⟩
           case measure => simp [intOf]; omega)
    · obtain rfl : k = p := by omega
      have hfin : Hid (P = -1) := Lib.hid (by rw [← HI.out, List.drop_of_length_le (by rw [List.length_take]; omega)]; rfl)
      go_wp2_with fail
      go_ret
      exact ⟨ret_i64 hfin.out.symm, HW.out⟩

theorem refLeft_no {n : Nd} {r : List Nd} {i left : Nat} (h : 0 ≤ n.f) (h2 : n.l ≠ left ∨ left ≤ i) : refLeft (n :: r) i left = none := by rw [refLeft, if_pos h, if_pos h2]
theorem refLeft_two {n : Nd} {r : List Nd} {i left : Nat} (h : 0 ≤ n.f) (h2 : ¬ (n.l ≠ left ∨ left ≤ i)) : refLeft (n :: r) i left = refLeft r (i + 1) (left + 2) := by rw [refLeft, if_pos h, if_neg h2]
theorem refLeft_leaf {n : Nd} {r : List Nd} {i left : Nat} (h : ¬ 0 ≤ n.f) : refLeft (n :: r) i left = refLeft r (i + 1) left := by rw [refLeft, if_neg h]
theorem maxO_snoc (l : List Int) (x : Int) : maxO (l ++ [x]) = if maxO l < x then x else maxO l := by
  unfold maxO
  rw [List.foldl_append]
  show max _ _ = _
  split <;> omega
theorem maxO_le {m : Int} : ∀ (l : List Int) (a : Int), a ≤ m → (∀ x ∈ l, x ≤ m) → l.foldl max a ≤ m
  | [], a, h, _ => h
  | x :: r, a, h, hl => maxO_le r _ (by have := hl x (List.mem_cons_self ..); omega) (fun y hy => hl y (List.mem_cons_of_mem _ hy))
theorem maxO_ge : ∀ (l : List Int) (a : Int), a ≤ l.foldl max a
  | [], a => Int.le_refl _
  | x :: r, a => Int.le_trans (Int.le_max_left a x) (maxO_ge r _)
def deepO (t : List Nd) : Int := if (depGo t.length t 0 [0]).isSome then maxO (depthsO t) else -1
theorem rightT_deep (cols bins kind classes : Int) (t : List Nd) :
    rightT cols bins kind classes t = (decide (mayS cols bins kind classes) && (!decide (t = []) && ((t.all fun n => decide (oneP cols bins kind classes n)) && (decide (0 ≤ deepO t) && decide (deepO t ≤ 32))))) := by
  unfold rightT
  by_cases h1 : mayS cols bins kind classes
  case neg => simp [h1]
  by_cases h2 : t = []
  · subst h2; simp [h1, depthsO]
  by_cases h3 : (t.all fun n => decide (oneP cols bins kind classes n)) = true
  case neg => simp [h1, h3]
  rw [h3]
  have h0 : depthsO t = (depGo t.length t 0 [0]).getD [] := by unfold depthsO; rw [if_neg h2]
  have hg : 0 ≤ maxO (depthsO t) := maxO_ge _ _
  unfold deepO
  cases hd : depGo t.length t 0 [0] with
  | none =>
    rw [hd] at h0
    simp [h0]
  | some ds =>
    rw [hd, Option.getD_some] at h0
    have hl := (dep_front _ _ _ _ hd).2
    have hne : ds ≠ [] := fun e => h2 (List.length_eq_zero_iff.1 (by rw [← hl, e]; rfl))
    rw [h0] at hg ⊢
    simp [h1, h2, hne, hg]
set_option maxRecDepth 100000 in
set_option maxHeartbeats 4000000 in
theorem rdeep_any (t : List Nd) (A : Option Addr) (cap : Nat) (w : World) (hr : RN w A t) (hl : t.length ≤ 1099511627776) (hf : ∀ n ∈ t, -1 ≤ n.f) :
    Calls Try.prog 79 #[.slice A t.length cap] w fun e w' => e = .returned (.int .i64 (deepO t)) ∧ Below w.heap.size w w' := by
  obtain ⟨n, hn⟩ : ∃ n, t.length = n := ⟨_, rfl⟩
  obtain ⟨D, hD⟩ : ∃ D, deepO t = D := ⟨_, rfl⟩
  rw [hD]
  have hiff := dep_ref (L := n) t 0 [0] hf (by rw [hn]; omega)
  simp only [List.length_cons, List.length_nil, Nat.zero_add] at hiff
  have hbad : Hid (refLeft t 0 1 ≠ some n → D = -1) := Lib.hid (fun h => by
    rw [← hD]; unfold deepO
    rw [hn, if_neg (fun h2 => h (hiff.1 h2))])
  have HGOOD : Hid (refLeft t 0 1 = some n → ∃ ds : List Int, ds.length = n ∧ (∀ k : Nat, k < n → 0 ≤ ds.getD k 0 ∧ ds.getD k 0 ≤ (n : Int)) ∧ ds.getD 0 0 = 0 ∧ (∀ p, 0 < p → p < n → ∃ k : Nat, parO t p = k ∧ k < p ∧ ds.getD p 0 = ds.getD k 0 + 1) ∧ D = maxO ds) := Lib.hid (fun h => by
    have h2 := hiff.2 h
    obtain ⟨ds, hds⟩ := Option.isSome_iff_exists.1 h2
    have h3 := dep_of hf (by rw [hn]; exact hds)
    obtain ⟨e1, e2, e3⟩ := h3
    rw [hn] at e1 e3
    have hne : t ≠ [] := fun e => by subst e; simp at hn; subst hn; simp [depGo] at hds
    have hdo : depthsO t = ds := by unfold depthsO; rw [if_neg hne, hn, hds]; rfl
    refine ⟨ds, e1, fun k hk => ?_, e2, e3, ?_⟩
    · have := depths_low t (ds.getD k 0) (by rw [hdo, List.getD_eq_getElem?_getD, List.getElem?_eq_getElem (by omega)]; exact List.getElem_mem _)
      rw [hdo, e1] at this
      exact this
    · rw [← hD]; unfold deepO
      rw [hn, hds, hdo]; rfl)
  have KP := Lib.hid (fun (p : Nat) w hr (hp : p ≤ n) => rparent_any t A cap p w hr hl (by rw [hn]; exact hp))
  have HF : Hid (∀ (k : Nat) (x : Nd), t[k]? = some x → -1 ≤ x.f) := Lib.hid (fun k x h => hf x (List.mem_of_getElem? h))
  have HN := Lib.hid hn
  have HR := Lib.hid hr
  rw [hn] at hl KP ⊢
  obtain ⟨i0, hi0, hz0, hz1, hz2⟩ := info_parts info_int
  clear hn hr hiff hf hD
  go_enter Try.func79, Try.ntmps79
  go_wp2_with fail
  go_loopw [3, 4] (fun lv iv wr => ∃ (k m : Nat), k ≤ n ∧ iv = .int .i64 k ∧ lv = .int .i64 m ∧ m ≤ 1 + 2 * k ∧ Hid (refLeft (t.drop k) k m = refLeft t 0 1) ∧ Hid (w = wr)) (fun _ iv _ => n - (intOf iv).toNat)
  case atStart => exact ⟨0, 1, Nat.zero_le _, rfl, rfl, by omega, Lib.hid rfl, Lib.hid rfl⟩
  case round =>
    obtain ⟨k, m, hk, rfl, rfl, hm, HI, HW⟩ := hrel
    by_cases hlt : k < n
    · have hlt' : (k : Int) < n := by omega
      obtain ⟨ad, rfl, x, hx, hxok, hat⟩ := (HR.out).at (i := k) (by rw [HN.out]; exact hlt)
      rw [HW.out] at hat
      have HDR := Lib.hid (drop_nd hx)
      obtain ⟨p0, p1, p2, p3, p4, p5⟩ := hat
      obtain ⟨f, b, l, c, s, q⟩ := x
      simp only at p0 p1 p2 p3 p4 p5
      clear hx hxok
      by_cases hff : 0 ≤ f
      · have d0 : decide (0 ≤ f) = true := decide_eq_true hff
        have HFF := Lib.hid hff
        clear hff
        by_cases hno : l ≠ m ∨ m ≤ k
        · have hfin : Hid (D = -1) := Lib.hid (hbad.out (by rw [← HI.out, HDR.out, refLeft_no HFF.out hno]; simp))
          by_cases h1 : l = m
          · have e1 : (l != (m : Int)) = false := by simpa using h1
            have e2 : decide ((m : Int) ≤ k) = true := decide_eq_true (by omega)
            have e3 : decide (m ≤ k) = true := decide_eq_true (by omega)
            clear h1 hno
            go_wp2_with fail
            go_ret
            exact ⟨ret_i64 hfin.out.symm, by rw [← HW.out]; exact Below.refl _ _⟩
          · have e1 : (l != (m : Int)) = true := by simpa using h1
            clear h1 hno
            go_wp2_with fail
            go_ret
            exact ⟨ret_i64 hfin.out.symm, by rw [← HW.out]; exact Below.refl _ _⟩
        · have h1 : l = m := by omega
          have e1 : (l != (m : Int)) = false := by simpa using h1
          have e2 : decide ((m : Int) ≤ k) = false := decide_eq_false (by omega)
          have e3 : decide (m ≤ k) = false := decide_eq_false (by omega)
          have HI2 : Hid (refLeft (t.drop (k + 1)) (k + 1) (m + 2) = refLeft t 0 1) := Lib.hid (by have := HI.out; rw [HDR.out, refLeft_two HFF.out hno] at this; exact this)
          clear h1 hno
          go_wp2_with fail
          go_roundw
          case rel => exact ⟨k + 1, m + 2, hlt, by go_num, by go_num, by omega, HI2, HW⟩
          case measure => simp [intOf]; omega
      · have d0 : decide (0 ≤ f) = false := decide_eq_false hff
        have HI2 : Hid (refLeft (t.drop (k + 1)) (k + 1) m = refLeft t 0 1) := Lib.hid (by have := HI.out; rw [HDR.out, refLeft_leaf hff] at this; exact this)
        clear hff
        go_wp2_with fail
        go_roundw
        case rel => exact ⟨k + 1, m, hlt, by go_num, rfl, by omega, HI2, HW⟩
        case measure => simp [intOf]; omega
    · obtain rfl : k = n := by omega
      have hend : Hid (refLeft t 0 1 = some m) := Lib.hid (by rw [← HI.out, List.drop_of_length_le (by rw [HN.out]; exact Nat.le_refl _)]; rfl)
      by_cases hmk : m = k
      case neg =>
        have hfin : Hid (D = -1) := Lib.hid (hbad.out (by rw [hend.out]; simpa using hmk))
        have e1 : ((m : Int) != k) = true := bne_iff_ne.2 (by omega)
        have e2 : (m != k) = true := bne_iff_ne.2 hmk
        clear hmk
        go_wp2_with fail
        go_ret
        exact ⟨ret_i64 hfin.out.symm, by rw [← HW.out]; exact Below.refl _ _⟩
      obtain ⟨ds, hlen, hlow, h00, hpar, hmax⟩ := HGOOD.out (by rw [hend.out, hmk])
      have HL := Lib.hid hlen
      have HLOW := Lib.hid hlow
      have H00 := Lib.hid h00
      have HPAR := Lib.hid hpar
      have HMAX := Lib.hid hmax
      have e1 : ((m : Int) != k) = false := by rw [hmk]; simp
      have e2 : (m != k) = false := by simpa using hmk
      obtain ⟨n, hkn⟩ : ∃ n, n = k := ⟨_, rfl⟩
      clear hlen hlow h00 hpar hmax hmk HI hk hlt
      subst hkn
      obtain ⟨wo, hwo⟩ : ∃ x, x = wr := ⟨_, rfl⟩
      subst hwo
      have HW0 := HW.out
      subst HW0
      go_wp2_with fail
      go_loopw [5, 6, 7] (fun o mv jv wr => ∃ (k : Nat) (a : Option Addr) (c : Nat) (M : Int), k ≤ n ∧ jv = .int .i64 k ∧ o = .slice a k c ∧ mv = .int .i64 M ∧ Hid (maxO (ds.take k) = M) ∧ Hid (wr.ownsRow w.heap.size 3 1 (.slice a k c) k (ints (ds.take k))) ∧ Hid (Below w.heap.size w wr)) (fun _ _ jv _ => n - (intOf jv).toNat)
      case atStart =>
        refine ⟨0, _, _, 0, Nat.zero_le _, rfl, rfl, rfl, Lib.hid rfl, Lib.hid ?_, Lib.hid ((Below.refl _ _).alloc (Nat.le_refl _) _)⟩
        exact World.ownsRow_made w #[] 0 (Nat.le_refl _) (Nat.zero_le _) rfl
      case round =>
        obtain ⟨k, a, c, M, hk, rfl, rfl, rfl, HM, HO, HBe⟩ := hrel
        by_cases hlt : k < n
        · have hlt' : (k : Int) < n := by omega
          obtain ⟨d, hd⟩ : ∃ d, ds.getD k 0 = d := ⟨_, rfl⟩
          have hdb := HLOW.out k hlt
          rw [hd] at hdb
          have HX := Lib.hid hd
          have HDB := Lib.hid hdb
          clear hd hdb
          by_cases hk0 : k = 0
          · have q1 : decide ((0 : Int) < k) = false := decide_eq_false (by omega)
            have q2 : decide (0 < k) = false := decide_eq_false (by omega)
            have hd0 : Hid (d = 0) := Lib.hid (by rw [← HX.out, hk0]; exact H00.out)
            have hm0 : Hid (M = 0) := Lib.hid (by rw [← HM.out, hk0]; rfl)
            have HX : Hid (ds.getD k 0 = 0) := Lib.hid (by rw [HX.out, hd0.out])
            have q3 : decide (M < 0) = false := decide_eq_false (by rw [hm0.out]; omega)
            have MC : Hid (¬ M < 0) := Lib.hid (by rw [hm0.out]; omega)
            have HO1 := HO
            have HBe1 := HBe
            have hl1 : w.heap.size ≤ wr.heap.size := HBe1.out.size
            clear hk0
            obtain ⟨wA, hwA⟩ : ∃ x, x = wr := ⟨_, rfl⟩
            subst hwA
            go_wp2_with (at_builtin; refine wpList_append_lies _ rfl _ _ 24 rfl w.heap.size 3 i0 (.int .i64 0) 1 8 Try.underlying24 hi0 hz0 hz1 hz2 rfl (by decide) _ _ _ rfl (HO1.out.alloc _) ⟨wA.heap.size, 0, none⟩ 1 1 [.int .i64 0] rfl rfl (cell_one_new _ _ _) (by simp [Value.oneCell']) (by decide) (by unfold maxLen; omega) (by omega) (by simp; omega) _ rfl ?_; intro g2 c2 w2 hown2 hg2 hat2 hlt2)
            go_roundw
            case rel =>
              refine ⟨k + 1, _, c2, M, hlt, by go_num, rfl, rfl, Lib.hid ?_, Lib.hid ?_, Lib.hid ?_⟩
              · have e := take_snocI (l := ds) (k := k) (by rw [HL.out]; exact hlt)
                rw [HX.out] at e
                rw [e, maxO_snoc, HM.out, if_neg (by have := MC.out; omega)]
              · rw [take_snocI (by rw [HL.out]; exact hlt), HX.out, ints_snoc]; exact hown2
              · exact (HBe1.out.alloc HBe1.out.size _).grown hg2 (by have := HBe1.out.size; simp; omega) (fun q e => by have := (World.ownsRow.lt HO1.out q e).1; omega)
            case measure => simp [intOf]; omega
          · have q1 : decide ((0 : Int) < k) = true := decide_eq_true (by omega)
            have q2 : decide (0 < k) = true := decide_eq_true (by omega)
            obtain ⟨p, hp1, hp2, hp3⟩ := HPAR.out k (by omega) hlt
            have KC := Lib.hid (KP.out k wr (HR.out.below HBe.out) (by omega))
            rw [hp1] at KC
            obtain ⟨g, c', hv, h1, h2, h3, h4⟩ := own_open HO.out (by omega)
            cases hv
            have hy := HLOW.out p (by omega)
            obtain ⟨y, hyy⟩ : ∃ y, ds.getD p 0 = y := ⟨_, rfl⟩
            rw [hyy] at hy hp3
            have z0 : wr.cell? ⟨g, p, none⟩ = some (.int .i64 y) := h4 p _ (by rw [ints_get (by rw [List.length_take, HL.out]; omega), ← hyy, List.getD_eq_getElem?_getD, List.getD_eq_getElem?_getD, List.getElem?_take, if_pos hp2])
            have HD1 : Hid (y + 1 = d) := Lib.hid (by rw [← HX.out]; exact hp3.symm)
            have hw1 : IntKind.i64.wrap (y + 1) = d := by rw [IntKind.wrap_i64, HD1.out]; have := HDB.out; omega
            have hpk : p < k := hp2
            have hpk' : (p : Int) < k := by omega
            have hp0 : decide ((p : Int) < 0) = false := decide_eq_false (by omega)
            clear hp1 hp2 hp3 hyy hy h1 h2 h3 h4 hk0
            go_wp2_with fail
            refine KC.out.mono ?_
            rintro e w1 ⟨rfl, rfl⟩
            have HO1 := HO
            have HBe1 := HBe
            have hl1 : w.heap.size ≤ wr.heap.size := HBe1.out.size
            obtain ⟨wA, hwA⟩ : ∃ x, x = wr := ⟨_, rfl⟩
            subst hwA
            by_cases hMd : M < d
            · have q3 : decide (M < d) = true := decide_eq_true hMd
              have MC := Lib.hid hMd
              clear hMd
              go_wp2_with (at_builtin; refine wpList_append_lies _ rfl _ _ 24 rfl w.heap.size 3 i0 (.int .i64 0) 1 8 Try.underlying24 hi0 hz0 hz1 hz2 rfl (by decide) _ _ _ rfl (HO1.out.alloc _) ⟨wA.heap.size, 0, none⟩ 1 1 [.int .i64 d] rfl rfl (cell_one_new _ _ _) (by simp [Value.oneCell']) (by decide) (by unfold maxLen; omega) (by omega) (by simp; omega) _ rfl ?_; intro g2 c2 w2 hown2 hg2 hat2 hlt2)
              go_roundw
              case rel =>
                refine ⟨k + 1, _, c2, d, hlt, by go_num, rfl, rfl, Lib.hid ?_, Lib.hid ?_, Lib.hid ?_⟩
                · have e := take_snocI (l := ds) (k := k) (by rw [HL.out]; exact hlt)
                  rw [HX.out] at e
                  rw [e, maxO_snoc, HM.out, if_pos MC.out]
                · rw [take_snocI (by rw [HL.out]; exact hlt), HX.out, ints_snoc]; exact hown2
                · exact (HBe1.out.alloc HBe1.out.size _).grown hg2 (by have := HBe1.out.size; simp; omega) (fun q e => by have := (World.ownsRow.lt HO1.out q e).1; omega)
              case measure => simp [intOf]; omega
            · have q3 : decide (M < d) = false := decide_eq_false hMd
              have MC := Lib.hid hMd
              clear hMd
              go_wp2_with (at_builtin; refine wpList_append_lies _ rfl _ _ 24 rfl w.heap.size 3 i0 (.int .i64 0) 1 8 Try.underlying24 hi0 hz0 hz1 hz2 rfl (by decide) _ _ _ rfl (HO1.out.alloc _) ⟨wA.heap.size, 0, none⟩ 1 1 [.int .i64 d] rfl rfl (cell_one_new _ _ _) (by simp [Value.oneCell']) (by decide) (by unfold maxLen; omega) (by omega) (by simp; omega) _ rfl ?_; intro g2 c2 w2 hown2 hg2 hat2 hlt2)
              go_roundw
              case rel =>
                refine ⟨k + 1, _, c2, M, hlt, by go_num, rfl, rfl, Lib.hid ?_, Lib.hid ?_, Lib.hid ?_⟩
                · have e := take_snocI (l := ds) (k := k) (by rw [HL.out]; exact hlt)
                  rw [HX.out] at e
                  rw [e, maxO_snoc, HM.out, if_neg (by have := MC.out; omega)]
                · rw [take_snocI (by rw [HL.out]; exact hlt), HX.out, ints_snoc]; exact hown2
                · exact (HBe1.out.alloc HBe1.out.size _).grown hg2 (by have := HBe1.out.size; simp; omega) (fun q e => by have := (World.ownsRow.lt HO1.out q e).1; omega)
              case measure => simp [intOf]; omega
        · obtain rfl : n = k := by omega
          have hfin : Hid (D = M) := Lib.hid (by rw [HMAX.out, ← HM.out, List.take_of_length_le (by rw [HL.out]; exact Nat.le_refl _)])
          go_wp2_with fail
          go_ret
          exact ⟨ret_i64 hfin.out.symm, HBe.out⟩
set_option maxRecDepth 100000 in
set_option maxHeartbeats 1000000 in
theorem rtright_any (cols bins kind classes : Int) (t : List Nd) (A : Option Addr) (cap : Nat) (w : World) (hr : RN w A t) (hl : t.length ≤ 1099511627776) :
    Calls Try.prog 78 #[.slice A t.length cap, .int .i64 cols, .int .i64 bins, .int .i64 kind, .int .i64 classes] w fun e w' => e = .returned (.bool (rightT cols bins kind classes t)) ∧ Below w.heap.size w w' := by
  rw [rightT_deep]
  obtain ⟨n, hn⟩ : ∃ n, t.length = n := ⟨_, rfl⟩
  obtain ⟨R0, hR0⟩ : ∃ R0, decide (mayS cols bins kind classes) = R0 := ⟨_, rfl⟩
  have KM := Lib.hid (fun w => rmayT_any cols bins kind classes w)
  have KO := Lib.hid (fun x hx w => rone_any cols bins kind classes x hx w)
  have KD := Lib.hid (fun w hr hf => rdeep_any t A cap w hr hl hf)
  have HF : Hid (∀ (x : Nd), oneP cols bins kind classes x → -1 ≤ x.f) := Lib.hid (fun x h => oneP_f h)
  have hnil : (decide (t = [])) = decide (n = 0) := by rw [← hn]; exact decide_eq_decide.2 List.length_eq_zero_iff.symm
  rw [hn] at hl KD
  rw [hnil, hR0, hn]
  rw [hR0] at KM
  have HN := Lib.hid hn
  have HR := Lib.hid hr
  clear hn hr hnil hR0
  cases R0 with
  | false =>
    go_enter Try.func78, Try.ntmps78
    go_wp2_with fail
    refine (KM.out _).mono ?_
    rintro e w1 ⟨rfl, rfl⟩
    go_wp2_with fail
    go_ret
    exact ⟨ret_bool (by rw [Bool.false_and]), Below.refl _ _⟩
  | true =>
    by_cases h0 : n = 0
    · subst h0
      go_enter Try.func78, Try.ntmps78
      go_wp2_with fail
      refine (KM.out _).mono ?_
      rintro e w1 ⟨rfl, rfl⟩
      go_wp2_with fail
      go_ret
      exact ⟨ret_bool (by simp), Below.refl _ _⟩
    have n0 : (n == 0) = false := beq_eq_false_iff_ne.2 h0
    have n1 : ((n : Int) == 0) = false := beq_eq_false_iff_ne.2 (by omega)
    obtain ⟨R1, hR1⟩ : ∃ R1, (true && (!decide (n = 0) && ((t.all fun n => decide (oneP cols bins kind classes n)) && (decide (0 ≤ deepO t) && decide (deepO t ≤ 32))))) = R1 := ⟨_, rfl⟩
    rw [hR1]
    have HR1 : Hid (R1 = ((t.all fun n => decide (oneP cols bins kind classes n)) && (decide (0 ≤ deepO t) && decide (deepO t ≤ 32)))) := Lib.hid (by rw [← hR1, decide_eq_false h0]; rfl)
    have HN0 := Lib.hid h0
    clear hR1 h0
    go_enter Try.func78, Try.ntmps78
    go_wp2_with fail
    refine (KM.out _).mono ?_
    rintro e w1 ⟨rfl, rfl⟩
    go_wp2_with fail
    go_loopw [11] (fun iv wr => ∃ (k : Nat), k ≤ n ∧ iv = .int .i64 k ∧ Hid (∀ j x, j < k → t[j]? = some x → oneP cols bins kind classes x) ∧ Hid (Below w.heap.size w wr)) (fun iv _ => n - (intOf iv).toNat)
    case atStart => exact ⟨0, Nat.zero_le _, rfl, Lib.hid (fun j x h => by omega), Lib.hid (Below.refl _ _)⟩
    case round =>
      obtain ⟨k, hk, rfl, HI, HB⟩ := hrel
      by_cases hlt : k < n
      · have hlt' : (k : Int) < n := by omega
        obtain ⟨ad, rfl, x, hx, hxok, hat⟩ := (HR.out.below HB.out).at (i := k) (by rw [HN.out]; exact hlt)
        have HX := Lib.hid hx
        obtain ⟨p0, p1, p2, p3, p4, p5⟩ := hat
        have KC := Lib.hid (KO.out x hxok wr)
        obtain ⟨R2, hR2⟩ : ∃ R2, decide (oneP cols bins kind classes x) = R2 := ⟨_, rfl⟩
        rw [hR2] at KC
        have HR2 := Lib.hid hR2
        obtain ⟨f, b, l, c, s, q⟩ := x
        simp only [ndV] at p0 p1 p2 p3 p4 p5 KC
        clear hx hxok hR2
        go_wp2_with fail
        refine KC.out.mono ?_
        rintro e w1 ⟨rfl, hb⟩
        have HB1 := Lib.hid (HB.out.trans (hb.mono HB.out.size))
        clear hb p0 p1 p2 p3 p4 p5
        cases R2 with
        | false =>
          go_wp2_with fail
          go_ret
          refine ⟨ret_bool ?_, HB1.out⟩
          rw [HR1.out]
          have : (t.all fun n => decide (oneP cols bins kind classes n)) = false := by
            rw [Bool.eq_false_iff]
            intro h
            rw [List.all_eq_true] at h
            have := h _ (List.mem_of_getElem? HX.out)
            rw [HR2.out] at this
            cases this
          rw [this, Bool.false_and]
        | true =>
          go_wp2_with fail
          go_roundw
          case rel =>
            refine ⟨k + 1, hlt, by go_num, Lib.hid (fun j x hj hx => ?_), HB1⟩
            by_cases hjk : j = k
            · subst hjk
              rw [HX.out] at hx
              cases hx
              exact decide_eq_true_iff.1 HR2.out
            · exact HI.out j x (by omega) hx
          case measure => simp [intOf]; omega
      · obtain rfl : k = n := by omega
        have hall : Hid (∀ x ∈ t, oneP cols bins kind classes x) := Lib.hid (fun x hx => by
          obtain ⟨j, hj⟩ := List.getElem?_of_mem hx
          exact HI.out j x (by have := (List.getElem?_eq_some_iff.1 hj).1; have := HN.out; omega) hj)
        have KC := Lib.hid (KD.out wr (HR.out.below HB.out) (fun x hx => HF.out x (hall.out x hx)))
        obtain ⟨D, hD⟩ : ∃ D, deepO t = D := ⟨_, rfl⟩
        rw [hD] at KC
        have hfin : Hid (R1 = (decide (0 ≤ D) && decide (D ≤ 32))) := Lib.hid (by
          rw [HR1.out, hD, List.all_eq_true.2 (fun x hx => decide_eq_true (hall.out x hx)), Bool.true_and])
        obtain ⟨d1, hd1⟩ : ∃ d1, decide (0 ≤ D) = d1 := ⟨_, rfl⟩
        obtain ⟨d2, hd2⟩ : ∃ d2, decide (D ≤ 32) = d2 := ⟨_, rfl⟩
        rw [hd1, hd2] at hfin
        clear hD
        cases d1 <;> cases d2
        all_goals
          go_wp2_with fail
          refine KC.out.mono ?_
          rintro e w1 ⟨rfl, hb⟩
          go_wp2_with fail
          go_ret
          exact ⟨ret_bool hfin.out.symm, HB.out.trans (hb.mono HB.out.size)⟩
end Go.Proofs.Ytpekofpiodaadaa.Hb
end

section
/- The walk of ref18.Get: the tree that stands at a place of a text. -/
namespace Go.Proofs.Ytpekofpiodaadaa.Hb
set_option linter.unusedVariables false
set_option linter.unusedSimpArgs false
open Go.RowKit

def numsP : List Nat → List Nat → Prs (List Nat)
  | [], acc => pureP acc
  | k :: ks, acc => bindP (numP k) fun x => numsP ks (acc ++ [x])
theorem num_at {l : List Nat} {o k : Nat} (h : o + k ≤ l.length) : numP k (l.drop o) = .ok (numB ((l.drop o).take k), l.drop (o + k)) := by rw [num_some (by rw [List.length_drop]; omega), List.drop_drop]
theorem num_out {l : List Nat} {o k : Nat} (h : l.length < o + k) (ho : o ≤ l.length) : numP k (l.drop o) = .error 2 := num_short (by rw [List.length_drop]; omega)
theorem numB_at {l : List Nat} (hb : ∀ x ∈ l, x < 256) (o k : Nat) : numB ((l.drop o).take k) < 256 ^ k := by
  have h1 := numB_lt (l := (l.drop o).take k) (fun b hm => hb b (List.mem_of_mem_drop (List.mem_of_mem_take hm)))
  exact Nat.lt_of_lt_of_le h1 (Nat.pow_le_pow_right (by decide) (List.length_take_le _ _))
theorem one_x1 {kind left : Int} {l r : List Nat} (h : numP 1 l = .ok (1, r)) : oneN kind left l = bindP (numsP [2, 2] []) (fun z => pureP (⟨(z.getD 0 0 : Nat), (z.getD 1 0 : Nat), left, 0, 0, 0⟩ : Nd)) r := by
  unfold oneN
  rw [bind_ok h]
  simp only [show ¬ (1 : Nat) = 0 by decide, if_false, if_true]
  unfold bindP numsP bindP numsP bindP numsP pureP
  cases h1 : numP 2 r with
  | error e => simp
  | ok y =>
    obtain ⟨f, r1⟩ := y
    simp only
    cases h2 : numP 2 r1 with
    | error e => simp
    | ok y => obtain ⟨b, r2⟩ := y; simp
theorem one_c0 {kind left : Int} {l r : List Nat} (h : numP 1 l = .ok (0, r)) (hk : kind = 0) : oneN kind left l = bindP (numsP [1] []) (fun z => pureP (⟨-1, 0, 0, (z.getD 0 0 : Nat), 0, 0⟩ : Nd)) r := by
  unfold oneN
  rw [bind_ok h]
  simp only [if_true, if_pos hk]
  unfold bindP numsP bindP numsP pureP
  cases h1 : numP 1 r with
  | error e => simp
  | ok y => obtain ⟨f, r1⟩ := y; simp
theorem one_m {kind left : Int} {l r : List Nat} (h : numP 1 l = .ok (0, r)) (hk : ¬ kind = 0) : oneN kind left l = bindP (numsP [8, 4] []) (fun z => pureP (⟨-1, 0, 0, 0, sI (z.getD 0 0), (z.getD 1 0 : Nat)⟩ : Nd)) r := by
  unfold oneN
  rw [bind_ok h]
  simp only [if_true, if_neg hk]
  unfold bindP numsP bindP numsP bindP numsP pureP
  cases h1 : numP 8 r with
  | error e => simp
  | ok y =>
    obtain ⟨f, r1⟩ := y
    simp only
    cases h2 : numP 4 r1 with
    | error e => simp
    | ok y => obtain ⟨b, r2⟩ := y; simp
theorem one_bad {kind left : Int} {l r : List Nat} {x : Nat} (h : numP 1 l = .ok (x, r)) (hx : 1 < x) : oneN kind left l = .error 3 := by
  unfold oneN
  rw [bind_ok h, if_neg (by omega), if_neg (by omega)]
  rfl
def u6s (l : List Nat) : List Value := l.map fun x : Nat => Value.int .u64 (x : Int)
theorem info_u64r : (Try.prog.info? 34).map (fun i => (i.zero, i.size, i.bytes)) = some (some (.int .u64 0), 1, 8) := by kernel_rfl
/-- What a round has: the tree so far, the node's box, the sizes, the numbers that are read. -/
structure I18 (g0 gN gS gL : Nat) (NV SV : Array Value) (tv : Value) (i : Nat) (out : List Nd) (lv : Value) (acc : List Nat) (w wr : World) : Prop where
  t : wr.ownsRow g0 90 6 tv i (out.flatMap ndC)
  tq : ∀ q, tv.ownBlock = some q → q < gN
  kN : Blk wr gN NV 90
  kS : Blk wr gS SV 3
  lo : wr.ownsRow gL 34 1 lv acc.length (u6s acc)
  ns : gN < gS
  sl : gS < gL
  gn : g0 ≤ gN
  be : Below g0 w wr
theorem I18.below {g0 gN gS gL i : Nat} {NV SV : Array Value} {tv lv : Value} {out : List Nd} {acc : List Nat} {w wr w' : World} (h : I18 g0 gN gS gL NV SV tv i out lv acc w wr) (hb : Below wr.heap.size wr w') (h0 : g0 ≤ wr.heap.size) : I18 g0 gN gS gL NV SV tv i out lv acc w w' :=
  ⟨own_below h.t hb, h.tq, h.kN.below hb, h.kS.below hb, own_below h.lo hb, h.ns, h.sl, h.gn, h.be.trans (hb.mono h0)⟩
theorem I18.set {g0 gN gS gL i : Nat} {NV SV : Array Value} {tv lv : Value} {out : List Nd} {acc : List Nat} {w wr : World} (h : I18 g0 gN gS gL NV SV tv i out lv acc w wr) (off : Nat) (v : Value) : I18 g0 gN gS gL (NV.setIfInBounds off v) SV tv i out lv acc w (wr.setCell ⟨gN, off, none⟩ v) :=
  ⟨own_kept h.t (gr_cell wr gN off v) (fun q hq e => by have := h.tq q hq; simp only [Option.some.injEq] at e; omega), h.tq, h.kN.set off v, own_blk h.kS (gr_cell wr gN off v) (fun e => by have := h.ns; simp only [Option.some.injEq] at e; omega),
   own_kept h.lo (gr_cell wr gN off v) (fun q hq e => by have := (World.ownsRow.lt h.lo q hq).1; have := h.ns; have := h.sl; simp only [Option.some.injEq] at e; omega), h.ns, h.sl, h.gn, h.be.setCell (p := ⟨gN, off, none⟩) h.gn v⟩
theorem I18.drew {g0 gN gS gL i : Nat} {NV SV : Array Value} {tv lv : Value} {out : List Nd} {acc : List Nat} {w wr : World} (h : I18 g0 gN gS gL NV SV tv i out lv acc w wr) : I18 g0 gN gS gL NV SV tv i out lv acc w wr.drew :=
  ⟨h.t, h.tq, h.kN, h.kS, h.lo, h.ns, h.sl, h.gn, h.be.drew⟩
theorem I18.app {g0 gN gS gL i : Nat} {NV SV : Array Value} {tv lv lv2 : Value} {out : List Nd} {acc acc2 : List Nat} {w wr w' : World} (h : I18 g0 gN gS gL NV SV tv i out lv acc w wr) (hg : wr.grownBy w' lv.ownBlock) (ho : w'.ownsRow gL 34 1 lv2 acc2.length (u6s acc2)) (h0 : g0 ≤ wr.heap.size) : I18 g0 gN gS gL NV SV tv i out lv2 acc2 w w' :=
  ⟨own_kept h.t hg (fun q hq e => by have := h.tq q hq; have := (World.ownsRow.lt h.lo q e).1; have := h.ns; have := h.sl; omega), h.tq, own_blk h.kN hg (fun e => by have := (World.ownsRow.lt h.lo _ e).1; have := h.ns; have := h.sl; omega), own_blk h.kS hg (fun e => by have := (World.ownsRow.lt h.lo _ e).1; have := h.sl; omega), ho, h.ns, h.sl, h.gn,
   h.be.grown hg h0 (fun q e => by have := (World.ownsRow.lt h.lo q e).1; have := h.ns; have := h.sl; have := h.gn; omega)⟩
theorem cell_setN {w : World} {g off k i : Nat} {v : Value} (h : k ≠ g) : (w.setCell ⟨g, off, none⟩ v).cell? ⟨k, i, none⟩ = w.cell? ⟨k, i, none⟩ := by
  unfold World.cell?
  rw [Below.heap_setCell w ⟨g, off, none⟩ v k h]
theorem cell_drewN (w : World) (a : Addr) : w.drew.cell? a = w.cell? a := rfl
def RT18 (cols bins kind classes : Int) (l : List Nat) (o : Nat) (w : World) (e : Ending) (w' : World) : Prop := Below w.heap.size w w' ∧
  ((∃ (t : List Nd) (o2 : Nat) (A : Option Addr) (c : Nat), treeP cols bins kind classes (l.drop o) = .ok (t, l.drop o2) ∧ o2 ≤ l.length ∧ e = .returned (.tuple #[.slice A t.length c, .int .i64 (o2 : Int), .int .i64 0]) ∧ w'.ownsRow w.heap.size 90 6 (.slice A t.length c) t.length (t.flatMap ndC) ∧ (∀ x ∈ t, x.ok) ∧ t.length ≤ 4194304) ∨
   ∃ k, treeP cols bins kind classes (l.drop o) = .error k ∧ k ≠ 0 ∧ e = .returned (.tuple #[.slice none 0 0, .int .i64 0, .int .i64 k]))
set_option maxRecDepth 100000 in
set_option maxHeartbeats 16000000 in
theorem rget18_any (cols bins kind classes : Int) (l : List Nat) (o0 : Nat) (hb : ∀ x ∈ l, x < 256) (hn : l.length ≤ 1073741824) (ho0 : o0 ≤ l.length) (w : World) :
    Calls Try.prog 86 #[.string (strB l), .int .i64 (o0 : Int), .int .i64 cols, .int .i64 bins, .int .i64 kind, .int .i64 classes] w (RT18 cols bins kind classes l o0 w) := by
  have KY := Lib.hid (fun (a k : Nat) (K : Int) hK hk h w => rget7_yes l a k (a : Int) K rfl hK hb hk hn h w)
  have KN := Lib.hid (fun (a k : Nat) (K : Int) hK ha hk h w => rget7_no l a k (a : Int) K rfl hK ha hk hn h w)
  have KR := Lib.hid (fun t A cap w hr hl => rtright_any cols bins kind classes t A cap w hr hl)
  have HNB := Lib.hid (numB_at hb)
  have HAT := Lib.hid (fun (o k : Nat) (h : o + k ≤ l.length) => num_at (l := l) h)
  have HOUT := Lib.hid (fun (o k : Nat) (h : l.length < o + k) (ho : o ≤ l.length) => num_out (l := l) h ho)
  obtain ⟨i0, hi0, hz0, hz1, hz2⟩ := info_parts info_node
  obtain ⟨i1, hi1, hy0, hy1, hy2⟩ := info_parts info_u64r
  unfold RT18
  obtain ⟨X, hX⟩ : ∃ X, strB l = X := ⟨_, rfl⟩
  rw [hX] at KY KN ⊢
  obtain ⟨n, hnn⟩ : ∃ n, l.length = n := ⟨_, rfl⟩
  rw [hnn] at hn ho0 KY KN HAT HOUT ⊢
  have HN := Lib.hid hn
  clear hX hnn hb hn
  by_cases h4 : n < o0 + 4
  · have HE := Lib.hid (HOUT.out o0 4 h4 ho0)
    have KX := Lib.hid (fun w => KN.out o0 4 4 rfl ho0 (by omega) h4 w)
    clear h4
    go_enter Try.func86, Try.ntmps86
    go_wp2_with fail
    refine (KX.out _).mono ?_
    rintro e w1 ⟨rfl, rfl⟩
    go_wp2_with fail
    go_ret3
    exact ⟨Below.refl _ _, .inr ⟨2, by unfold treeP; exact bind_err HE.out, by decide, rfl⟩⟩
  have HE := Lib.hid (HAT.out o0 4 (by omega))
  have KX := Lib.hid (fun w => KY.out o0 4 4 rfl (by omega) (by omega) w)
  obtain ⟨m, hm⟩ : ∃ x, numB ((l.drop o0).take 4) = x := ⟨_, rfl⟩
  rw [hm] at HE KX
  have hm32 : m < 4294967296 := by rw [← hm]; exact Nat.lt_of_lt_of_le (HNB.out o0 4) (by decide)
  obtain ⟨o1, ho1⟩ : ∃ z, o0 + 4 = z := ⟨_, rfl⟩
  rw [ho1] at HE KX
  have ho1n : o1 ≤ n := by omega
  clear hm h4 ho1
  by_cases hbig : 4194304 < m
  · have d1 : decide (4194304 < m) = true := decide_eq_true hbig
    have d1' : decide ((4194304 : Int) < m) = true := decide_eq_true (by omega)
    have HB := Lib.hid hbig
    clear hbig
    go_enter Try.func86, Try.ntmps86
    go_wp2_with fail
    refine (KX.out _).mono ?_
    rintro e w1 ⟨rfl, rfl⟩
    go_wp2_with fail
    go_ret3
    exact ⟨Below.refl _ _, .inr ⟨4, by unfold treeP; rw [bind_ok HE.out, if_pos HB.out]; rfl, by decide, rfl⟩⟩
  have d1 : decide (4194304 < m) = false := decide_eq_false hbig
  have d1' : decide ((4194304 : Int) < m) = false := decide_eq_false (by omega)
  have HB := Lib.hid hbig
  have hm4 : m ≤ 4194304 := by omega
  clear hbig
  obtain ⟨R, hR⟩ : ∃ R, nodesA kind m 1 [] (l.drop o1) = R := ⟨_, rfl⟩
  have HRR := Lib.hid hR
  have HTE : Hid (∀ k, R = .error k → treeP cols bins kind classes (l.drop o0) = .error k) := Lib.hid (fun k h => by unfold treeP; rw [bind_ok HE.out, if_neg HB.out]; exact bind_err (hR.trans h))
  have HTO : Hid (∀ t r, R = .ok (t, r) → treeP cols bins kind classes (l.drop o0) = if rightT cols bins kind classes t then .ok (t, r) else .error 3) := Lib.hid (fun t r h => by unfold treeP; rw [bind_ok HE.out, if_neg HB.out, bind_ok (hR.trans h)]; split <;> rfl)
  clear hR HE HB
  go_enter Try.func86, Try.ntmps86
  go_wp2_with fail
  refine (KX.out _).mono ?_
  rintro e w1 ⟨rfl, rfl⟩
  go_wp2_with fail
  have HO0 := World.ownsRow_made w1 (e := 90) (size := 6) #[] 0 (Nat.le_refl _) (Nat.zero_le _) rfl
  have HBE0 := Lib.hid ((Below.refl w1.heap.size w1).alloc (Nat.le_refl _) (.cells #[] 90))
  obtain ⟨W, hW⟩ : ∃ W, w1.alloc (.cells #[] 90) = W := ⟨_, rfl⟩
  rw [hW] at HO0 HBE0 ⊢
  obtain ⟨g0, hg0⟩ : ∃ z, w1.heap.size = z := ⟨_, rfl⟩
  rw [hg0] at HO0 HBE0 ⊢
  have HOW0 := Lib.hid HO0
  have HSZ := Lib.hid hg0
  clear hW hg0 HO0 d1 d1' KX
  go_loopw [1, 17, 18, 19] (fun av tv lv iv wr => ∃ (i o : Nat) (lf : Int) (A : Option Addr) (c : Nat) (out : List Nd), i ≤ m ∧ iv = .int .u64 i ∧ av = .int .i64 o ∧ lv = .int .i64 lf ∧ tv = .slice A i c ∧ o ≤ n ∧ (1 ≤ lf ∧ lf ≤ 1 + 2 * i) ∧ Hid (out.length = i ∧ wr.ownsRow g0 90 6 (.slice A i c) i (out.flatMap ndC) ∧ ∀ x ∈ out, x.ok) ∧ Hid (nodesA kind (m - i) lf out (l.drop o) = R) ∧ Hid (Below g0 w1 wr)) (fun _ _ _ iv _ => m - (intOf iv).toNat)
  case atStart => exact ⟨0, o1, 1, _, 0, [], Nat.zero_le _, rfl, rfl, rfl, rfl, ho1n, by omega, Lib.hid ⟨rfl, HOW0.out, by simp⟩, HRR, HBE0⟩
  case round =>
    obtain ⟨i, o, lf, A, c, out, hi, rfl, rfl, rfl, rfl, hon, hlf, HO, HNO, HBE⟩ := hrel
    clear HOW0 HBE0 ho1n
    have hsw : g0 ≤ wr.heap.size := by have := HBE.out.size; have := HSZ.out; omega
    by_cases hlt : i < m
    · have hlt' : (i : Int) < m := by omega
      have HS : Hid (R = bindP (oneN kind lf) (fun x => nodesA kind (m - (i + 1)) (if x.f = -1 then lf else lf + 2) (out ++ [x])) (l.drop o)) := Lib.hid (by rw [← HNO.out, show m - i = (m - (i + 1)) + 1 from by omega]; rfl)
      by_cases h1 : n < o + 1
      · have HE := Lib.hid (HOUT.out o 1 h1 hon)
        have KX := Lib.hid (fun w => KN.out o 1 1 rfl hon (by omega) h1 w)
        clear h1
        go_wp2_with fail
        refine (KX.out _).mono ?_
        rintro e w2 ⟨rfl, rfl⟩
        go_wp2_with fail
        go_ret3
        exact ⟨by rw [HSZ.out]; exact HBE.out, .inr ⟨2, HTE.out 2 (HS.out.trans (bind_err (by unfold oneN; exact bind_err HE.out))), by decide, rfl⟩⟩
      have HE := Lib.hid (HAT.out o 1 (by omega))
      have KX := Lib.hid (fun w => KY.out o 1 1 rfl (by omega) (by omega) w)
      obtain ⟨x, hx⟩ : ∃ x, numB ((l.drop o).take 1) = x := ⟨_, rfl⟩
      rw [hx] at HE KX
      have hx8 : x < 256 := by rw [← hx]; exact HNB.out o 1
      obtain ⟨o2, ho2⟩ : ∃ z, o + 1 = z := ⟨_, rfl⟩
      rw [ho2] at HE KX
      have ho2n : o2 ≤ n := by omega
      clear hx h1 ho2
      by_cases hx1 : 1 < x
      · have d1 : decide (1 < x) = true := decide_eq_true hx1
        have d1' : decide ((1 : Int) < x) = true := decide_eq_true (by omega)
        have HX := Lib.hid hx1
        clear hx1
        go_wp2_with fail
        refine (KX.out _).mono ?_
        rintro e w2 ⟨rfl, rfl⟩
        go_wp2_with fail
        go_ret3
        exact ⟨by rw [HSZ.out]; exact HBE.out, .inr ⟨3, HTE.out 3 (HS.out.trans (bind_err (one_bad HE.out HX.out))), by decide, rfl⟩⟩
      have d1 : decide (1 < x) = false := decide_eq_false hx1
      have d1' : decide ((1 : Int) < x) = false := decide_eq_false (by omega)
      clear HNO
      by_cases hx0 : x = 1
      · subst hx0
        have HOL := Lib.hid HO.out.1
        have HOK := Lib.hid HO.out.2.2
        have HZE : Hid (∀ e, numsP [2, 2] [] (l.drop o2) = .error e → R = .error e) := Lib.hid (fun e h => HS.out.trans (bind_err (by rw [one_x1 HE.out]; exact bind_err h)))
        have HZO : Hid (∀ z r, numsP [2, 2] [] (l.drop o2) = .ok (z, r) → R = nodesA kind (m - (i + 1)) (lf + 2) (out ++ [(⟨(z.getD 0 0 : Nat), (z.getD 1 0 : Nat), lf, 0, 0, 0⟩ : Nd)]) r) := Lib.hid (fun z r h => by rw [HS.out, bind_ok (show oneN kind lf (l.drop o) = .ok ((⟨(z.getD 0 0 : Nat), (z.getD 1 0 : Nat), lf, 0, 0, 0⟩ : Nd), r) from by rw [one_x1 HE.out, bind_ok h]; rfl)]; show nodesA kind _ (if ((z.getD 0 0 : Nat) : Int) = -1 then lf else lf + 2) _ r = _; rw [if_neg (by omega)])
        obtain ⟨RZ, hRZ⟩ : ∃ z, numsP [2, 2] [] (l.drop o2) = z := ⟨_, rfl⟩
        have HRZ := Lib.hid hRZ
        rw [hRZ] at HZE HZO
        clear hRZ HS
        go_wp2_with fail
        refine (KX.out _).mono ?_
        rintro e w2 ⟨rfl, rfl⟩
        clear KX
        go_wp2_with fail
        clear d1 d1'
        have hbx := boxesF w2 (#[.int .i64 (-1), .int .i64 0, .int .i64 0, .int .i64 0, .int .i64 0, .int .i64 0]) (#[.int .i64 8, .int .i64 4]) (#[.int .i64 2, .int .i64 2]) #[] 90 3 3 34 _ rfl
        have hol := World.ownsRow_made (((w2.alloc (.cells #[.int .i64 (-1), .int .i64 0, .int .i64 0, .int .i64 0, .int .i64 0, .int .i64 0] 90)).alloc (.cells #[.int .i64 8, .int .i64 4] 3)).alloc (.cells #[.int .i64 2, .int .i64 2] 3)) (e := 34) (size := 1) #[] 0 (Nat.le_refl _) (Nat.zero_le _) rfl
        simp only [World.size_alloc] at hol
        have hot := own_below HO.out.2.1 hbx.2.2.2.2
        have hbe := HBE.out.trans (hbx.2.2.2.2.mono hsw)
        have kN0 := hbx.1
        have kS0 := hbx.2.2.1
        obtain ⟨W2, hW2⟩ : ∃ W, ((((w2.alloc (.cells #[.int .i64 (-1), .int .i64 0, .int .i64 0, .int .i64 0, .int .i64 0, .int .i64 0] 90)).alloc (.cells #[.int .i64 8, .int .i64 4] 3)).alloc (.cells #[.int .i64 2, .int .i64 2] 3)).alloc (.cells #[] 34)) = W := ⟨_, rfl⟩
        rw [hW2] at hol hot hbe kN0 kS0 ⊢
        obtain ⟨gN, hgN⟩ : ∃ z, w2.heap.size = z := ⟨_, rfl⟩
        rw [hgN] at hol kN0 kS0 hsw ⊢
        have HI0 : Hid (I18 g0 gN (gN + 2) (gN + 3) #[.int .i64 (-1), .int .i64 0, .int .i64 0, .int .i64 0, .int .i64 0, .int .i64 0] #[.int .i64 2, .int .i64 2] (.slice A i c) i out (.slice (some ⟨gN + 3, 0, none⟩) 0 0) [] w1 W2) := Lib.hid ⟨hot, fun q hq => by have := (World.ownsRow.lt HO.out.2.1 q hq).2; omega, kN0, kS0, hol, by omega, by omega, hsw, hbe⟩
        clear hbx hol hot hbe kN0 kS0 hW2 hgN
        go_loopw [1, 25, 26] (fun av lv kv wz => ∃ (k oz : Nat) (LA : Option Addr) (lc : Nat) (acc : List Nat), k ≤ 2 ∧ kv = .int .i64 k ∧ av = .int .i64 oz ∧ lv = .slice LA k lc ∧ oz ≤ n ∧ Hid (acc.length = k ∧ ∀ j x, acc[j]? = some x → x < 256 ^ (([2, 2] : List Nat).getD j 0)) ∧ Hid (numsP (([2, 2] : List Nat).drop k) acc (l.drop oz) = RZ) ∧ Hid (I18 g0 gN (gN + 2) (gN + 3) #[.int .i64 (-1), .int .i64 0, .int .i64 0, .int .i64 0, .int .i64 0, .int .i64 0] #[.int .i64 2, .int .i64 2] (.slice A i c) i out (.slice LA k lc) acc w1 wz)) (fun _ _ kv _ => 2 - (intOf kv).toNat)
        case atStart => exact ⟨0, o2, _, 0, [], by omega, rfl, rfl, rfl, ho2n, Lib.hid ⟨rfl, by simp⟩, HRZ, HI0⟩
        case round =>
          obtain ⟨k, oz, LA, lc, acc, hk, rfl, rfl, rfl, hoz, HA, HNZ, HI⟩ := hrel
          clear HI0 HO HBE hsw ho2n
          by_cases hkq : k < 2
          · have hkq' : (k : Int) < 2 := by omega
            obtain ⟨z, hsv, hz8, hdr, hgd⟩ : ∃ z : Nat, (#[.int .i64 2, .int .i64 2] : Array Value)[k]? = some (.int .i64 (z : Int)) ∧ z ≤ 8 ∧ ([2, 2] : List Nat).drop k = z :: ([2, 2] : List Nat).drop (k + 1) ∧ ([2, 2] : List Nat).getD k 0 = z := by
              obtain e | e : k = 0 ∨ k = 1 := by omega
              · subst e; exact ⟨2, rfl, by decide, rfl, rfl⟩
              · subst e; exact ⟨2, rfl, by decide, rfl, rfl⟩
            have s0 : wr.cell? ⟨gN + 2, k, none⟩ = some (.int .i64 (z : Int)) := by rw [HI.out.kS.cell k]; exact hsv
            have HNZ2 : Hid (RZ = numsP (z :: ([2, 2] : List Nat).drop (k + 1)) acc (l.drop oz)) := Lib.hid (by rw [← hdr, HNZ.out])
            have HGD := Lib.hid hgd
            clear hsv hdr hgd HNZ
            by_cases hz : n < oz + z
            · have HE2 := Lib.hid (HOUT.out oz z hz hoz)
              have KX := Lib.hid (fun w => KN.out oz z (z : Int) rfl hoz hz8 hz w)
              clear hz
              go_wp2_with fail
              refine (KX.out _).mono ?_
              rintro e w2 ⟨rfl, rfl⟩
              go_wp2_with fail
              go_ret3
              exact ⟨by rw [HSZ.out]; exact HI.out.be, .inr ⟨2, HTE.out 2 (HZE.out 2 (HNZ2.out.trans (by rw [numsP]; exact bind_err HE2.out))), by decide, rfl⟩⟩
            have HE2 := Lib.hid (HAT.out oz z (by omega))
            have KX := Lib.hid (fun w => KY.out oz z (z : Int) rfl hz8 (by omega) w)
            have hy := HNB.out oz z
            obtain ⟨y, hyy⟩ : ∃ x, numB ((l.drop oz).take z) = x := ⟨_, rfl⟩
            rw [hyy] at HE2 KX hy
            have HY := Lib.hid hy
            have HNZ3 : Hid (numsP (([2, 2] : List Nat).drop (k + 1)) (acc ++ [y]) (l.drop (oz + z)) = RZ) := Lib.hid (by rw [HNZ2.out, numsP, bind_ok HE2.out])
            obtain ⟨o3, ho3⟩ : ∃ z', oz + z = z' := ⟨_, rfl⟩
            rw [ho3] at HNZ3 KX
            have ho3n : o3 ≤ n := by omega
            clear hyy hz ho3 HNZ2 hy
            have hlen := HA.out.1
            have hlo := HI.out.lo
            rw [hlen] at hlo
            have HLO := Lib.hid hlo
            have hlw := HI.out.kS.lt
            have hlB := Lib.hid (fun q e => (World.ownsRow.lt hlo q e).1)
            clear hlen hlo
            have hgs : g0 ≤ wr.heap.size := by have := HI.out.gn; have := HI.out.ns; omega
            go_wp2_with fail
            refine (KX.out _).mono ?_
            rintro e w2 ⟨rfl, rfl⟩
            have hgl : gN + 3 ≤ w2.heap.size := by omega
            go_wp2_with (at_builtin; refine wpList_append_lies _ rfl _ _ 31 rfl (gN + 3) 34 i1 (.int .u64 0) 1 8 Try.underlying31 hi1 hy0 hy1 hy2 rfl (by decide) (.slice LA k lc) k (u6s acc) rfl (HLO.out.alloc _) ⟨w2.heap.size, 0, none⟩ 1 1 [.int .u64 (y : Int)] rfl rfl (cell_one_new _ _ _) (by simp [Value.oneCell']) (by decide) (by unfold maxLen; omega) (by omega) (by simp; omega) _ rfl ?_; intro g5 c5 w5 hown5 hg5 hat5 hlt5)
            have AL : Below w2.heap.size w2 (w2.alloc (.cells #[.int .u64 (y : Int)] 34)) := (Below.refl _ _).alloc (Nat.le_refl _) _
            have HI3 : Hid (I18 g0 gN (gN + 2) (gN + 3) #[.int .i64 (-1), .int .i64 0, .int .i64 0, .int .i64 0, .int .i64 0, .int .i64 0] #[.int .i64 2, .int .i64 2] (.slice A i c) i out (.slice (some ⟨g5, 0, none⟩) (k + 1) c5) (acc ++ [y]) w1 w5) := Lib.hid ((HI.out.below AL hgs).app hg5 (by rw [List.length_append, HA.out.1, show u6s (acc ++ [y]) = u6s acc ++ [.int .u64 (y : Int)] from by simp [u6s]]; exact hown5) (by simp; omega))
            clear AL hown5 hg5 hat5 hlt5
            go_roundw
            case rel => exact ⟨k + 1, o3, _, c5, acc ++ [y], hkq, by go_num, rfl, rfl, ho3n, Lib.hid ⟨by rw [List.length_append, HA.out.1]; rfl, fun j x hj => by
              rcases Nat.lt_or_ge j acc.length with h | h
              · rw [List.getElem?_append_left h] at hj; exact HA.out.2 j x hj
              · rw [List.getElem?_append_right h] at hj
                obtain rfl : j = k := by have h2 := (List.getElem?_eq_some_iff.1 hj).1; simp at h2; have := HA.out.1; omega
                rw [HA.out.1, Nat.sub_self] at hj; simp at hj; subst hj; rw [HGD.out]; exact HY.out⟩, HNZ3, HI3⟩
            case measure => simp [intOf]; omega
          · obtain rfl : 2 = k := by omega
            obtain ⟨a0, a1, rfl⟩ : ∃ a0 a1, acc = [a0, a1] := by
              have h := HA.out.1
              rcases acc with _ | ⟨a0, _ | ⟨a1, _ | ⟨a2, r⟩⟩⟩
              all_goals simp only [List.length_cons, List.length_nil] at h
              all_goals first | omega | exact ⟨_, _, rfl⟩
            have b0 := HA.out.2 0 a0 rfl
            simp only [List.getD_cons_zero, List.getD_cons_succ] at b0
            have p0 : a0 < 65536 := Nat.lt_of_lt_of_le b0 (by decide)
            have b1 := HA.out.2 1 a1 rfl
            simp only [List.getD_cons_zero, List.getD_cons_succ] at b1
            have p1 : a1 < 65536 := Nat.lt_of_lt_of_le b1 (by decide)
            have HZ2 : Hid (RZ = .ok ([a0, a1], l.drop oz)) := Lib.hid (by rw [← HNZ.out]; rfl)
            have HR2 := Lib.hid (HZO.out _ _ HZ2.out)
            obtain ⟨gl, cap, hv, _, _, _, hc⟩ := own_open HI.out.lo (by simp)
            simp only [List.length_cons, List.length_nil, Value.slice.injEq] at hv
            obtain ⟨rfl, _, rfl⟩ := hv
            have hglB := (World.ownsRow.lt HI.out.lo gl rfl).1
            have s0 : wr.cell? ⟨gl, 0, none⟩ = some (.int .u64 (a0 : Int)) := hc 0 _ rfl
            have s1 : wr.cell? ⟨gl, 1, none⟩ = some (.int .u64 (a1 : Int)) := hc 1 _ rfl
            have w0 : IntKind.i64.wrap (a0 : Int) = (a0 : Int) := by rw [IntKind.wrap_i64]; omega
            have w1' : IntKind.i64.wrap (a1 : Int) = (a1 : Int) := by rw [IntKind.wrap_i64]; omega
            clear hc b0 b1
            have hlN := HI.out.kN.lt
            have hns : gl ≠ gN := by have := HI.out.ns; have := HI.out.sl; omega
            have hns2 : gN ≠ gl := fun e => hns e.symm
            have n0 := HI.out.kN.cell 0
            have n1 := HI.out.kN.cell 1
            have n2 := HI.out.kN.cell 2
            have n3 := HI.out.kN.cell 3
            have n4 := HI.out.kN.cell 4
            have n5 := HI.out.kN.cell 5
            have nf := fun i => HI.out.kN.frozen i
            have hgs : g0 ≤ wr.heap.size := by have := HI.out.gn; omega
            go_upto_region 33 with (fail)
            go_cut [] (fun wc => Hid (I18 g0 gN (gN + 2) (gN + 3) #[.int .i64 (a0 : Int), .int .i64 (a1 : Int), .int .i64 lf, .int .i64 0, .int .i64 0, .int .i64 0] #[.int .i64 2, .int .i64 2] (.slice A i c) i out (.slice (some ⟨gl, 0, none⟩) 2 lc) [a0, a1] w1 wc))
            case first =>
              go_region_held3 (fun W => W.cell? ⟨gl, 0, none⟩ = some (.int .u64 (a0 : Int)) ∧ W.cell? ⟨gl, 1, none⟩ = some (.int .u64 (a1 : Int))) (go_keep) (fail)
              all_goals
                go_wp2
                go_meet
                case rel => exact Lib.hid ((((((((HI.out).set 0 _).set 1 _).set 2 _).set 3 _).set 4 _).set 5 _).drew)
            case rest =>
              have HI4 := hcut
              clear hcut HI hlN hns hns2 nf hgs hglB n0 n1 n2 n3 n4 n5 s0 s1
              have n0 := HI4.out.kN.cell 0
              have n1 := HI4.out.kN.cell 1
              have n2 := HI4.out.kN.cell 2
              have n3 := HI4.out.kN.cell 3
              have n4 := HI4.out.kN.cell 4
              have n5 := HI4.out.kN.cell 5
              have hlN := HI4.out.kN.lt
              have hgn := HI4.out.gn
              have hlw : wrap64 (lf + 2) = lf + 2 := by unfold wrap64; omega
              have hlw2 : IntKind.i64.wrap (lf + 2) = lf + 2 := by rw [wrapI_fst]; exact hlw
              go_wp2_with (at_builtin; refine wpList_append_lies _ rfl _ _ 88 rfl g0 90 i0 (.agg #[.int .i64 0, .int .i64 0, .int .i64 0, .int .i64 0, .int .i64 0, .int .i64 0]) 6 48 Try.underlying88 hi0 hz0 hz1 hz2 rfl (by decide) _ _ _ rfl (HI4.out.t.alloc _) ⟨_, 0, none⟩ 1 1 [.int .i64 (a0 : Int), .int .i64 (a1 : Int), .int .i64 lf, .int .i64 0, .int .i64 0, .int .i64 0] rfl rfl (cell_six _ _ _ _ _ _ _ _) (by simp [Value.oneCell']) (by decide) (by unfold maxLen; omega) (by omega) (by simp; omega) _ rfl ?_; intro g5 c5 w5 hown5 hg5 hat5 hlt5)
              have HB5 : Hid (Below g0 w1 w5) := Lib.hid ((HI4.out.be.alloc (by omega) _).grown hg5 (by simp; omega) (fun q e => (World.ownsRow.lt HI4.out.t q e).1))
              go_roundw
              case rel => exact ⟨i + 1, oz, lf + 2, _, c5, out ++ [⟨(a0 : Int), (a1 : Int), lf, 0, 0, 0⟩], hlt, by go_num, rfl, by first | rfl | go_num, rfl, hoz, by omega, Lib.hid ⟨by rw [List.length_append, HOL.out]; rfl, by rw [List.flatMap_append]; exact hown5, fun x hx => by
                rcases List.mem_append.1 hx with hx | hx
                · exact HOK.out x hx
                · simp only [List.mem_singleton] at hx; subst hx; exact ⟨(show in64 ((a0 : Int)) from by unfold in64; omega), (show in64 ((a1 : Int)) from by unfold in64; omega), (show in64 (lf) from by unfold in64; omega), (show in64 (0) from by unfold in64; omega), (show in64 (0) from by unfold in64; omega), (show in64 (0) from by unfold in64; omega)⟩⟩,
                Lib.hid HR2.out.symm, HB5⟩
              case measure => simp [intOf]; omega
      obtain rfl : x = 0 := by omega
      by_cases hk0 : kind = 0
      · have kb : (kind == 0) = true := beq_iff_eq.2 hk0
        have HK0 := Lib.hid hk0
        clear hk0
        have HOL := Lib.hid HO.out.1
        have HOK := Lib.hid HO.out.2.2
        have HZE : Hid (∀ e, numsP [1] [] (l.drop o2) = .error e → R = .error e) := Lib.hid (fun e h => HS.out.trans (bind_err (by rw [one_c0 HE.out HK0.out]; exact bind_err h)))
        have HZO : Hid (∀ z r, numsP [1] [] (l.drop o2) = .ok (z, r) → R = nodesA kind (m - (i + 1)) (lf) (out ++ [(⟨-1, 0, 0, (z.getD 0 0 : Nat), 0, 0⟩ : Nd)]) r) := Lib.hid (fun z r h => by rw [HS.out, bind_ok (show oneN kind lf (l.drop o) = .ok ((⟨-1, 0, 0, (z.getD 0 0 : Nat), 0, 0⟩ : Nd), r) from by rw [one_c0 HE.out HK0.out, bind_ok h]; rfl)]; show nodesA kind _ (if (-1 : Int) = -1 then lf else lf + 2) _ r = _; rw [if_pos rfl])
        obtain ⟨RZ, hRZ⟩ : ∃ z, numsP [1] [] (l.drop o2) = z := ⟨_, rfl⟩
        have HRZ := Lib.hid hRZ
        rw [hRZ] at HZE HZO
        clear hRZ HS
        go_wp2_with fail
        refine (KX.out _).mono ?_
        rintro e w2 ⟨rfl, rfl⟩
        clear KX
        go_wp2_with fail
        clear d1 d1'
        have hbx := boxesF w2 (#[.int .i64 (-1), .int .i64 0, .int .i64 0, .int .i64 0, .int .i64 0, .int .i64 0]) (#[.int .i64 8, .int .i64 4]) (#[.int .i64 1]) #[] 90 3 3 34 _ rfl
        have hol := World.ownsRow_made (((w2.alloc (.cells #[.int .i64 (-1), .int .i64 0, .int .i64 0, .int .i64 0, .int .i64 0, .int .i64 0] 90)).alloc (.cells #[.int .i64 8, .int .i64 4] 3)).alloc (.cells #[.int .i64 1] 3)) (e := 34) (size := 1) #[] 0 (Nat.le_refl _) (Nat.zero_le _) rfl
        simp only [World.size_alloc] at hol
        have hot := own_below HO.out.2.1 hbx.2.2.2.2
        have hbe := HBE.out.trans (hbx.2.2.2.2.mono hsw)
        have kN0 := hbx.1
        have kS0 := hbx.2.2.1
        obtain ⟨W2, hW2⟩ : ∃ W, ((((w2.alloc (.cells #[.int .i64 (-1), .int .i64 0, .int .i64 0, .int .i64 0, .int .i64 0, .int .i64 0] 90)).alloc (.cells #[.int .i64 8, .int .i64 4] 3)).alloc (.cells #[.int .i64 1] 3)).alloc (.cells #[] 34)) = W := ⟨_, rfl⟩
        rw [hW2] at hol hot hbe kN0 kS0 ⊢
        obtain ⟨gN, hgN⟩ : ∃ z, w2.heap.size = z := ⟨_, rfl⟩
        rw [hgN] at hol kN0 kS0 hsw ⊢
        have HI0 : Hid (I18 g0 gN (gN + 2) (gN + 3) #[.int .i64 (-1), .int .i64 0, .int .i64 0, .int .i64 0, .int .i64 0, .int .i64 0] #[.int .i64 1] (.slice A i c) i out (.slice (some ⟨gN + 3, 0, none⟩) 0 0) [] w1 W2) := Lib.hid ⟨hot, fun q hq => by have := (World.ownsRow.lt HO.out.2.1 q hq).2; omega, kN0, kS0, hol, by omega, by omega, hsw, hbe⟩
        clear hbx hol hot hbe kN0 kS0 hW2 hgN
        go_loopw [1, 25, 26] (fun av lv kv wz => ∃ (k oz : Nat) (LA : Option Addr) (lc : Nat) (acc : List Nat), k ≤ 1 ∧ kv = .int .i64 k ∧ av = .int .i64 oz ∧ lv = .slice LA k lc ∧ oz ≤ n ∧ Hid (acc.length = k ∧ ∀ j x, acc[j]? = some x → x < 256 ^ (([1] : List Nat).getD j 0)) ∧ Hid (numsP (([1] : List Nat).drop k) acc (l.drop oz) = RZ) ∧ Hid (I18 g0 gN (gN + 2) (gN + 3) #[.int .i64 (-1), .int .i64 0, .int .i64 0, .int .i64 0, .int .i64 0, .int .i64 0] #[.int .i64 1] (.slice A i c) i out (.slice LA k lc) acc w1 wz)) (fun _ _ kv _ => 1 - (intOf kv).toNat)
        case atStart => exact ⟨0, o2, _, 0, [], by omega, rfl, rfl, rfl, ho2n, Lib.hid ⟨rfl, by simp⟩, HRZ, HI0⟩
        case round =>
          obtain ⟨k, oz, LA, lc, acc, hk, rfl, rfl, rfl, hoz, HA, HNZ, HI⟩ := hrel
          clear HI0 HO HBE hsw ho2n
          by_cases hkq : k < 1
          · have hkq' : (k : Int) < 1 := by omega
            obtain ⟨z, hsv, hz8, hdr, hgd⟩ : ∃ z : Nat, (#[.int .i64 1] : Array Value)[k]? = some (.int .i64 (z : Int)) ∧ z ≤ 8 ∧ ([1] : List Nat).drop k = z :: ([1] : List Nat).drop (k + 1) ∧ ([1] : List Nat).getD k 0 = z := by
              have e : k = 0 := by omega
              subst e; exact ⟨1, rfl, by decide, rfl, rfl⟩
            have s0 : wr.cell? ⟨gN + 2, k, none⟩ = some (.int .i64 (z : Int)) := by rw [HI.out.kS.cell k]; exact hsv
            have HNZ2 : Hid (RZ = numsP (z :: ([1] : List Nat).drop (k + 1)) acc (l.drop oz)) := Lib.hid (by rw [← hdr, HNZ.out])
            have HGD := Lib.hid hgd
            clear hsv hdr hgd HNZ
            by_cases hz : n < oz + z
            · have HE2 := Lib.hid (HOUT.out oz z hz hoz)
              have KX := Lib.hid (fun w => KN.out oz z (z : Int) rfl hoz hz8 hz w)
              clear hz
              go_wp2_with fail
              refine (KX.out _).mono ?_
              rintro e w2 ⟨rfl, rfl⟩
              go_wp2_with fail
              go_ret3
              exact ⟨by rw [HSZ.out]; exact HI.out.be, .inr ⟨2, HTE.out 2 (HZE.out 2 (HNZ2.out.trans (by rw [numsP]; exact bind_err HE2.out))), by decide, rfl⟩⟩
            have HE2 := Lib.hid (HAT.out oz z (by omega))
            have KX := Lib.hid (fun w => KY.out oz z (z : Int) rfl hz8 (by omega) w)
            have hy := HNB.out oz z
            obtain ⟨y, hyy⟩ : ∃ x, numB ((l.drop oz).take z) = x := ⟨_, rfl⟩
            rw [hyy] at HE2 KX hy
            have HY := Lib.hid hy
            have HNZ3 : Hid (numsP (([1] : List Nat).drop (k + 1)) (acc ++ [y]) (l.drop (oz + z)) = RZ) := Lib.hid (by rw [HNZ2.out, numsP, bind_ok HE2.out])
            obtain ⟨o3, ho3⟩ : ∃ z', oz + z = z' := ⟨_, rfl⟩
            rw [ho3] at HNZ3 KX
            have ho3n : o3 ≤ n := by omega
            clear hyy hz ho3 HNZ2 hy
            have hlen := HA.out.1
            have hlo := HI.out.lo
            rw [hlen] at hlo
            have HLO := Lib.hid hlo
            have hlw := HI.out.kS.lt
            have hlB := Lib.hid (fun q e => (World.ownsRow.lt hlo q e).1)
            clear hlen hlo
            have hgs : g0 ≤ wr.heap.size := by have := HI.out.gn; have := HI.out.ns; omega
            go_wp2_with fail
            refine (KX.out _).mono ?_
            rintro e w2 ⟨rfl, rfl⟩
            have hgl : gN + 3 ≤ w2.heap.size := by omega
            go_wp2_with (at_builtin; refine wpList_append_lies _ rfl _ _ 31 rfl (gN + 3) 34 i1 (.int .u64 0) 1 8 Try.underlying31 hi1 hy0 hy1 hy2 rfl (by decide) (.slice LA k lc) k (u6s acc) rfl (HLO.out.alloc _) ⟨w2.heap.size, 0, none⟩ 1 1 [.int .u64 (y : Int)] rfl rfl (cell_one_new _ _ _) (by simp [Value.oneCell']) (by decide) (by unfold maxLen; omega) (by omega) (by simp; omega) _ rfl ?_; intro g5 c5 w5 hown5 hg5 hat5 hlt5)
            have AL : Below w2.heap.size w2 (w2.alloc (.cells #[.int .u64 (y : Int)] 34)) := (Below.refl _ _).alloc (Nat.le_refl _) _
            have HI3 : Hid (I18 g0 gN (gN + 2) (gN + 3) #[.int .i64 (-1), .int .i64 0, .int .i64 0, .int .i64 0, .int .i64 0, .int .i64 0] #[.int .i64 1] (.slice A i c) i out (.slice (some ⟨g5, 0, none⟩) (k + 1) c5) (acc ++ [y]) w1 w5) := Lib.hid ((HI.out.below AL hgs).app hg5 (by rw [List.length_append, HA.out.1, show u6s (acc ++ [y]) = u6s acc ++ [.int .u64 (y : Int)] from by simp [u6s]]; exact hown5) (by simp; omega))
            clear AL hown5 hg5 hat5 hlt5
            go_roundw
            case rel => exact ⟨k + 1, o3, _, c5, acc ++ [y], hkq, by go_num, rfl, rfl, ho3n, Lib.hid ⟨by rw [List.length_append, HA.out.1]; rfl, fun j x hj => by
              rcases Nat.lt_or_ge j acc.length with h | h
              · rw [List.getElem?_append_left h] at hj; exact HA.out.2 j x hj
              · rw [List.getElem?_append_right h] at hj
                obtain rfl : j = k := by have h2 := (List.getElem?_eq_some_iff.1 hj).1; simp at h2; have := HA.out.1; omega
                rw [HA.out.1, Nat.sub_self] at hj; simp at hj; subst hj; rw [HGD.out]; exact HY.out⟩, HNZ3, HI3⟩
            case measure => simp [intOf]; omega
          · obtain rfl : 1 = k := by omega
            obtain ⟨a0, rfl⟩ : ∃ a0, acc = [a0] := by
              have h := HA.out.1
              rcases acc with _ | ⟨a0, _ | ⟨a1, r⟩⟩
              all_goals simp only [List.length_cons, List.length_nil] at h
              all_goals first | omega | exact ⟨_, rfl⟩
            have b0 := HA.out.2 0 a0 rfl
            simp only [List.getD_cons_zero, List.getD_cons_succ] at b0
            have p0 : a0 < 256 := Nat.lt_of_lt_of_le b0 (by decide)
            have HZ2 : Hid (RZ = .ok ([a0], l.drop oz)) := Lib.hid (by rw [← HNZ.out]; rfl)
            have HR2 := Lib.hid (HZO.out _ _ HZ2.out)
            obtain ⟨gl, cap, hv, _, _, _, hc⟩ := own_open HI.out.lo (by simp)
            simp only [List.length_cons, List.length_nil, Value.slice.injEq] at hv
            obtain ⟨rfl, _, rfl⟩ := hv
            have hglB := (World.ownsRow.lt HI.out.lo gl rfl).1
            have s0 : wr.cell? ⟨gl, 0, none⟩ = some (.int .u64 (a0 : Int)) := hc 0 _ rfl
            have w0 : IntKind.i64.wrap (a0 : Int) = (a0 : Int) := by rw [IntKind.wrap_i64]; omega
            clear hc b0
            have hlN := HI.out.kN.lt
            have hns : gl ≠ gN := by have := HI.out.ns; have := HI.out.sl; omega
            have hns2 : gN ≠ gl := fun e => hns e.symm
            have n0 := HI.out.kN.cell 0
            have n1 := HI.out.kN.cell 1
            have n2 := HI.out.kN.cell 2
            have n3 := HI.out.kN.cell 3
            have n4 := HI.out.kN.cell 4
            have n5 := HI.out.kN.cell 5
            have nf := fun i => HI.out.kN.frozen i
            have hgs : g0 ≤ wr.heap.size := by have := HI.out.gn; omega
            go_upto_region 36 with (fail)
            go_cut [] (fun wc => Hid (I18 g0 gN (gN + 2) (gN + 3) #[.int .i64 (-1), .int .i64 0, .int .i64 0, .int .i64 (a0 : Int), .int .i64 0, .int .i64 0] #[.int .i64 1] (.slice A i c) i out (.slice (some ⟨gl, 0, none⟩) 1 lc) [a0] w1 wc))
            case first =>
              go_wp2_with fail
              go_meet
              case rel => exact Lib.hid (HI.out.set 3 _)
            case rest =>
              have HI4 := hcut
              clear hcut HI hlN hns hns2 nf hgs hglB n0 n1 n2 n3 n4 n5 s0
              have n0 := HI4.out.kN.cell 0
              have n1 := HI4.out.kN.cell 1
              have n2 := HI4.out.kN.cell 2
              have n3 := HI4.out.kN.cell 3
              have n4 := HI4.out.kN.cell 4
              have n5 := HI4.out.kN.cell 5
              have hlN := HI4.out.kN.lt
              have hgn := HI4.out.gn
              go_wp2_with (at_builtin; refine wpList_append_lies _ rfl _ _ 88 rfl g0 90 i0 (.agg #[.int .i64 0, .int .i64 0, .int .i64 0, .int .i64 0, .int .i64 0, .int .i64 0]) 6 48 Try.underlying88 hi0 hz0 hz1 hz2 rfl (by decide) _ _ _ rfl (HI4.out.t.alloc _) ⟨_, 0, none⟩ 1 1 [.int .i64 (-1), .int .i64 0, .int .i64 0, .int .i64 (a0 : Int), .int .i64 0, .int .i64 0] rfl rfl (cell_six _ _ _ _ _ _ _ _) (by simp [Value.oneCell']) (by decide) (by unfold maxLen; omega) (by omega) (by simp; omega) _ rfl ?_; intro g5 c5 w5 hown5 hg5 hat5 hlt5)
              have HB5 : Hid (Below g0 w1 w5) := Lib.hid ((HI4.out.be.alloc (by omega) _).grown hg5 (by simp; omega) (fun q e => (World.ownsRow.lt HI4.out.t q e).1))
              go_roundw
              case rel => exact ⟨i + 1, oz, lf, _, c5, out ++ [⟨(-1), 0, 0, (a0 : Int), 0, 0⟩], hlt, by go_num, rfl, rfl, rfl, hoz, by omega, Lib.hid ⟨by rw [List.length_append, HOL.out]; rfl, by rw [List.flatMap_append]; exact hown5, fun x hx => by
                rcases List.mem_append.1 hx with hx | hx
                · exact HOK.out x hx
                · simp only [List.mem_singleton] at hx; subst hx; exact ⟨(show in64 ((-1)) from by unfold in64; omega), (show in64 (0) from by unfold in64; omega), (show in64 (0) from by unfold in64; omega), (show in64 ((a0 : Int)) from by unfold in64; omega), (show in64 (0) from by unfold in64; omega), (show in64 (0) from by unfold in64; omega)⟩⟩,
                Lib.hid HR2.out.symm, HB5⟩
              case measure => simp [intOf]; omega
      · have kb : (kind == 0) = false := beq_eq_false_iff_ne.2 hk0
        have HK0 := Lib.hid hk0
        clear hk0
        have HOL := Lib.hid HO.out.1
        have HOK := Lib.hid HO.out.2.2
        have HZE : Hid (∀ e, numsP [8, 4] [] (l.drop o2) = .error e → R = .error e) := Lib.hid (fun e h => HS.out.trans (bind_err (by rw [one_m HE.out HK0.out]; exact bind_err h)))
        have HZO : Hid (∀ z r, numsP [8, 4] [] (l.drop o2) = .ok (z, r) → R = nodesA kind (m - (i + 1)) (lf) (out ++ [(⟨-1, 0, 0, 0, sI (z.getD 0 0), (z.getD 1 0 : Nat)⟩ : Nd)]) r) := Lib.hid (fun z r h => by rw [HS.out, bind_ok (show oneN kind lf (l.drop o) = .ok ((⟨-1, 0, 0, 0, sI (z.getD 0 0), (z.getD 1 0 : Nat)⟩ : Nd), r) from by rw [one_m HE.out HK0.out, bind_ok h]; rfl)]; show nodesA kind _ (if (-1 : Int) = -1 then lf else lf + 2) _ r = _; rw [if_pos rfl])
        obtain ⟨RZ, hRZ⟩ : ∃ z, numsP [8, 4] [] (l.drop o2) = z := ⟨_, rfl⟩
        have HRZ := Lib.hid hRZ
        rw [hRZ] at HZE HZO
        clear hRZ HS
        go_wp2_with fail
        refine (KX.out _).mono ?_
        rintro e w2 ⟨rfl, rfl⟩
        clear KX
        go_wp2_with fail
        clear d1 d1'
        have hbx := boxes3 w2 (#[.int .i64 (-1), .int .i64 0, .int .i64 0, .int .i64 0, .int .i64 0, .int .i64 0]) (#[.int .i64 8, .int .i64 4]) #[] 90 3 34 _ rfl
        have hol := World.ownsRow_made ((w2.alloc (.cells #[.int .i64 (-1), .int .i64 0, .int .i64 0, .int .i64 0, .int .i64 0, .int .i64 0] 90)).alloc (.cells #[.int .i64 8, .int .i64 4] 3)) (e := 34) (size := 1) #[] 0 (Nat.le_refl _) (Nat.zero_le _) rfl
        simp only [World.size_alloc] at hol
        have hot := own_below HO.out.2.1 hbx.2.2.2.1
        have hbe := HBE.out.trans (hbx.2.2.2.1.mono hsw)
        have kN0 := hbx.1
        have kS0 := hbx.2.1
        obtain ⟨W2, hW2⟩ : ∃ W, (((w2.alloc (.cells #[.int .i64 (-1), .int .i64 0, .int .i64 0, .int .i64 0, .int .i64 0, .int .i64 0] 90)).alloc (.cells #[.int .i64 8, .int .i64 4] 3)).alloc (.cells #[] 34)) = W := ⟨_, rfl⟩
        rw [hW2] at hol hot hbe kN0 kS0 ⊢
        obtain ⟨gN, hgN⟩ : ∃ z, w2.heap.size = z := ⟨_, rfl⟩
        rw [hgN] at hol kN0 kS0 hsw ⊢
        have HI0 : Hid (I18 g0 gN (gN + 1) (gN + 2) #[.int .i64 (-1), .int .i64 0, .int .i64 0, .int .i64 0, .int .i64 0, .int .i64 0] #[.int .i64 8, .int .i64 4] (.slice A i c) i out (.slice (some ⟨gN + 2, 0, none⟩) 0 0) [] w1 W2) := Lib.hid ⟨hot, fun q hq => by have := (World.ownsRow.lt HO.out.2.1 q hq).2; omega, kN0, kS0, hol, by omega, by omega, hsw, hbe⟩
        clear hbx hol hot hbe kN0 kS0 hW2 hgN
        go_loopw [1, 25, 26] (fun av lv kv wz => ∃ (k oz : Nat) (LA : Option Addr) (lc : Nat) (acc : List Nat), k ≤ 2 ∧ kv = .int .i64 k ∧ av = .int .i64 oz ∧ lv = .slice LA k lc ∧ oz ≤ n ∧ Hid (acc.length = k ∧ ∀ j x, acc[j]? = some x → x < 256 ^ (([8, 4] : List Nat).getD j 0)) ∧ Hid (numsP (([8, 4] : List Nat).drop k) acc (l.drop oz) = RZ) ∧ Hid (I18 g0 gN (gN + 1) (gN + 2) #[.int .i64 (-1), .int .i64 0, .int .i64 0, .int .i64 0, .int .i64 0, .int .i64 0] #[.int .i64 8, .int .i64 4] (.slice A i c) i out (.slice LA k lc) acc w1 wz)) (fun _ _ kv _ => 2 - (intOf kv).toNat)
        case atStart => exact ⟨0, o2, _, 0, [], by omega, rfl, rfl, rfl, ho2n, Lib.hid ⟨rfl, by simp⟩, HRZ, HI0⟩
        case round =>
          obtain ⟨k, oz, LA, lc, acc, hk, rfl, rfl, rfl, hoz, HA, HNZ, HI⟩ := hrel
          clear HI0 HO HBE hsw ho2n
          by_cases hkq : k < 2
          · have hkq' : (k : Int) < 2 := by omega
            obtain ⟨z, hsv, hz8, hdr, hgd⟩ : ∃ z : Nat, (#[.int .i64 8, .int .i64 4] : Array Value)[k]? = some (.int .i64 (z : Int)) ∧ z ≤ 8 ∧ ([8, 4] : List Nat).drop k = z :: ([8, 4] : List Nat).drop (k + 1) ∧ ([8, 4] : List Nat).getD k 0 = z := by
              obtain e | e : k = 0 ∨ k = 1 := by omega
              · subst e; exact ⟨8, rfl, by decide, rfl, rfl⟩
              · subst e; exact ⟨4, rfl, by decide, rfl, rfl⟩
            have s0 : wr.cell? ⟨gN + 1, k, none⟩ = some (.int .i64 (z : Int)) := by rw [HI.out.kS.cell k]; exact hsv
            have HNZ2 : Hid (RZ = numsP (z :: ([8, 4] : List Nat).drop (k + 1)) acc (l.drop oz)) := Lib.hid (by rw [← hdr, HNZ.out])
            have HGD := Lib.hid hgd
            clear hsv hdr hgd HNZ
            by_cases hz : n < oz + z
            · have HE2 := Lib.hid (HOUT.out oz z hz hoz)
              have KX := Lib.hid (fun w => KN.out oz z (z : Int) rfl hoz hz8 hz w)
              clear hz
              go_wp2_with fail
              refine (KX.out _).mono ?_
              rintro e w2 ⟨rfl, rfl⟩
              go_wp2_with fail
              go_ret3
              exact ⟨by rw [HSZ.out]; exact HI.out.be, .inr ⟨2, HTE.out 2 (HZE.out 2 (HNZ2.out.trans (by rw [numsP]; exact bind_err HE2.out))), by decide, rfl⟩⟩
            have HE2 := Lib.hid (HAT.out oz z (by omega))
            have KX := Lib.hid (fun w => KY.out oz z (z : Int) rfl hz8 (by omega) w)
            have hy := HNB.out oz z
            obtain ⟨y, hyy⟩ : ∃ x, numB ((l.drop oz).take z) = x := ⟨_, rfl⟩
            rw [hyy] at HE2 KX hy
            have HY := Lib.hid hy
            have HNZ3 : Hid (numsP (([8, 4] : List Nat).drop (k + 1)) (acc ++ [y]) (l.drop (oz + z)) = RZ) := Lib.hid (by rw [HNZ2.out, numsP, bind_ok HE2.out])
            obtain ⟨o3, ho3⟩ : ∃ z', oz + z = z' := ⟨_, rfl⟩
            rw [ho3] at HNZ3 KX
            have ho3n : o3 ≤ n := by omega
            clear hyy hz ho3 HNZ2 hy
            have hlen := HA.out.1
            have hlo := HI.out.lo
            rw [hlen] at hlo
            have HLO := Lib.hid hlo
            have hlw := HI.out.kS.lt
            have hlB := Lib.hid (fun q e => (World.ownsRow.lt hlo q e).1)
            clear hlen hlo
            have hgs : g0 ≤ wr.heap.size := by have := HI.out.gn; have := HI.out.ns; omega
            go_wp2_with fail
            refine (KX.out _).mono ?_
            rintro e w2 ⟨rfl, rfl⟩
            have hgl : gN + 2 ≤ w2.heap.size := by omega
            go_wp2_with (at_builtin; refine wpList_append_lies _ rfl _ _ 31 rfl (gN + 2) 34 i1 (.int .u64 0) 1 8 Try.underlying31 hi1 hy0 hy1 hy2 rfl (by decide) (.slice LA k lc) k (u6s acc) rfl (HLO.out.alloc _) ⟨w2.heap.size, 0, none⟩ 1 1 [.int .u64 (y : Int)] rfl rfl (cell_one_new _ _ _) (by simp [Value.oneCell']) (by decide) (by unfold maxLen; omega) (by omega) (by simp; omega) _ rfl ?_; intro g5 c5 w5 hown5 hg5 hat5 hlt5)
            have AL : Below w2.heap.size w2 (w2.alloc (.cells #[.int .u64 (y : Int)] 34)) := (Below.refl _ _).alloc (Nat.le_refl _) _
            have HI3 : Hid (I18 g0 gN (gN + 1) (gN + 2) #[.int .i64 (-1), .int .i64 0, .int .i64 0, .int .i64 0, .int .i64 0, .int .i64 0] #[.int .i64 8, .int .i64 4] (.slice A i c) i out (.slice (some ⟨g5, 0, none⟩) (k + 1) c5) (acc ++ [y]) w1 w5) := Lib.hid ((HI.out.below AL hgs).app hg5 (by rw [List.length_append, HA.out.1, show u6s (acc ++ [y]) = u6s acc ++ [.int .u64 (y : Int)] from by simp [u6s]]; exact hown5) (by simp; omega))
            clear AL hown5 hg5 hat5 hlt5
            go_roundw
            case rel => exact ⟨k + 1, o3, _, c5, acc ++ [y], hkq, by go_num, rfl, rfl, ho3n, Lib.hid ⟨by rw [List.length_append, HA.out.1]; rfl, fun j x hj => by
              rcases Nat.lt_or_ge j acc.length with h | h
              · rw [List.getElem?_append_left h] at hj; exact HA.out.2 j x hj
              · rw [List.getElem?_append_right h] at hj
                obtain rfl : j = k := by have h2 := (List.getElem?_eq_some_iff.1 hj).1; simp at h2; have := HA.out.1; omega
                rw [HA.out.1, Nat.sub_self] at hj; simp at hj; subst hj; rw [HGD.out]; exact HY.out⟩, HNZ3, HI3⟩
            case measure => simp [intOf]; omega
          · obtain rfl : 2 = k := by omega
            obtain ⟨a0, a1, rfl⟩ : ∃ a0 a1, acc = [a0, a1] := by
              have h := HA.out.1
              rcases acc with _ | ⟨a0, _ | ⟨a1, _ | ⟨a2, r⟩⟩⟩
              all_goals simp only [List.length_cons, List.length_nil] at h
              all_goals first | omega | exact ⟨_, _, rfl⟩
            have b0 := HA.out.2 0 a0 rfl
            simp only [List.getD_cons_zero, List.getD_cons_succ] at b0
            have p0 : a0 < 18446744073709551616 := Nat.lt_of_lt_of_le b0 (by decide)
            have b1 := HA.out.2 1 a1 rfl
            simp only [List.getD_cons_zero, List.getD_cons_succ] at b1
            have p1 : a1 < 4294967296 := Nat.lt_of_lt_of_le b1 (by decide)
            have HZ2 : Hid (RZ = .ok ([a0, a1], l.drop oz)) := Lib.hid (by rw [← HNZ.out]; rfl)
            have HR2 := Lib.hid (HZO.out _ _ HZ2.out)
            obtain ⟨gl, cap, hv, _, _, _, hc⟩ := own_open HI.out.lo (by simp)
            simp only [List.length_cons, List.length_nil, Value.slice.injEq] at hv
            obtain ⟨rfl, _, rfl⟩ := hv
            have hglB := (World.ownsRow.lt HI.out.lo gl rfl).1
            have s0 : wr.cell? ⟨gl, 0, none⟩ = some (.int .u64 (a0 : Int)) := hc 0 _ rfl
            have s1 : wr.cell? ⟨gl, 1, none⟩ = some (.int .u64 (a1 : Int)) := hc 1 _ rfl
            have w0 : IntKind.i64.wrap (a0 : Int) = sI a0 := rfl
            have w1' : IntKind.i64.wrap (a1 : Int) = (a1 : Int) := by rw [IntKind.wrap_i64]; omega
            clear hc b0 b1
            have hlN := HI.out.kN.lt
            have hns : gl ≠ gN := by have := HI.out.ns; have := HI.out.sl; omega
            have hns2 : gN ≠ gl := fun e => hns e.symm
            have n0 := HI.out.kN.cell 0
            have n1 := HI.out.kN.cell 1
            have n2 := HI.out.kN.cell 2
            have n3 := HI.out.kN.cell 3
            have n4 := HI.out.kN.cell 4
            have n5 := HI.out.kN.cell 5
            have nf := fun i => HI.out.kN.frozen i
            have hgs : g0 ≤ wr.heap.size := by have := HI.out.gn; omega
            go_upto_region 37 with (fail)
            go_cut [] (fun wc => Hid (I18 g0 gN (gN + 1) (gN + 2) #[.int .i64 (-1), .int .i64 0, .int .i64 0, .int .i64 0, .int .i64 (sI a0), .int .i64 (a1 : Int)] #[.int .i64 8, .int .i64 4] (.slice A i c) i out (.slice (some ⟨gl, 0, none⟩) 2 lc) [a0, a1] w1 wc))
            case first =>
              go_region_held3 (fun W => W.cell? ⟨gl, 0, none⟩ = some (.int .u64 (a0 : Int)) ∧ W.cell? ⟨gl, 1, none⟩ = some (.int .u64 (a1 : Int))) (go_keep) (fail)
              all_goals
                go_wp2
                go_meet
                case rel => exact Lib.hid ((((HI.out).set 4 _).set 5 _).drew)
            case rest =>
              have HI4 := hcut
              clear hcut HI hlN hns hns2 nf hgs hglB n0 n1 n2 n3 n4 n5 s0 s1
              have n0 := HI4.out.kN.cell 0
              have n1 := HI4.out.kN.cell 1
              have n2 := HI4.out.kN.cell 2
              have n3 := HI4.out.kN.cell 3
              have n4 := HI4.out.kN.cell 4
              have n5 := HI4.out.kN.cell 5
              have hlN := HI4.out.kN.lt
              have hgn := HI4.out.gn
              go_wp2_with (at_builtin; refine wpList_append_lies _ rfl _ _ 88 rfl g0 90 i0 (.agg #[.int .i64 0, .int .i64 0, .int .i64 0, .int .i64 0, .int .i64 0, .int .i64 0]) 6 48 Try.underlying88 hi0 hz0 hz1 hz2 rfl (by decide) _ _ _ rfl (HI4.out.t.alloc _) ⟨_, 0, none⟩ 1 1 [.int .i64 (-1), .int .i64 0, .int .i64 0, .int .i64 0, .int .i64 (sI a0), .int .i64 (a1 : Int)] rfl rfl (cell_six _ _ _ _ _ _ _ _) (by simp [Value.oneCell']) (by decide) (by unfold maxLen; omega) (by omega) (by simp; omega) _ rfl ?_; intro g5 c5 w5 hown5 hg5 hat5 hlt5)
              have HB5 : Hid (Below g0 w1 w5) := Lib.hid ((HI4.out.be.alloc (by omega) _).grown hg5 (by simp; omega) (fun q e => (World.ownsRow.lt HI4.out.t q e).1))
              go_roundw
              case rel => exact ⟨i + 1, oz, lf, _, c5, out ++ [⟨(-1), 0, 0, 0, (sI a0), (a1 : Int)⟩], hlt, by go_num, rfl, rfl, rfl, hoz, by omega, Lib.hid ⟨by rw [List.length_append, HOL.out]; rfl, by rw [List.flatMap_append]; exact hown5, fun x hx => by
                rcases List.mem_append.1 hx with hx | hx
                · exact HOK.out x hx
                · simp only [List.mem_singleton] at hx; subst hx; exact ⟨(show in64 ((-1)) from by unfold in64; omega), (show in64 (0) from by unfold in64; omega), (show in64 (0) from by unfold in64; omega), (show in64 (0) from by unfold in64; omega), sI_in _, (show in64 ((a1 : Int)) from by unfold in64; omega)⟩⟩,
                Lib.hid HR2.out.symm, HB5⟩
              case measure => simp [intOf]; omega
    · obtain rfl : m = i := by omega
      have HRE : Hid (R = .ok (out, l.drop o)) := Lib.hid (by rw [← HNO.out, Nat.sub_self]; rfl)
      have hl4 := HO.out.1
      have KRX := Lib.hid (KR.out out A c wr (RN.own (by have := HO.out.2.1; rw [← HO.out.1] at this; exact this) HO.out.2.2) (by omega))
      rw [hl4] at KRX
      clear hl4
      obtain ⟨rt, hrt⟩ : ∃ z, rightT cols bins kind classes out = z := ⟨_, rfl⟩
      rw [hrt] at KRX
      have HRT := Lib.hid hrt
      clear hrt
      go_wp2_with fail
      refine KRX.out.mono ?_
      rintro e w2 ⟨rfl, hb⟩
      have HB5 : Hid (Below g0 w1 w2) := Lib.hid (HBE.out.trans (hb.mono hsw))
      have HO5 := Lib.hid (own_below HO.out.2.1 hb)
      clear hb
      cases rt with
      | false =>
        go_wp2_with fail
        go_ret3
        exact ⟨by rw [HSZ.out]; exact HB5.out, .inr ⟨3, by rw [HTO.out _ _ HRE.out, if_neg (by rw [HRT.out]; decide)], by decide, rfl⟩⟩
      | true =>
        go_wp2_with fail
        go_ret3
        refine ⟨by rw [HSZ.out]; exact HB5.out, .inl ⟨out, o, A, c, by rw [HTO.out _ _ HRE.out, if_pos HRT.out], hon, by rw [HO.out.1]; rfl, ?_, HO.out.2.2, by rw [HO.out.1]; exact hm4⟩⟩
        rw [HO.out.1, HSZ.out]
        exact HO5.out
end Go.Proofs.Ytpekofpiodaadaa.Hb
end

section
/- The walks of ref06.Same, ref18.Same, ref27.Same. -/
namespace Go.Proofs.Ytpekofpiodaadaa.Hb
set_option linter.unusedVariables false
set_option linter.unusedSimpArgs false
open Go.RowKit

/-- What a function answers that only draws. -/
def SaysD (v : Value) (w : World) (e : Ending) (w' : World) : Prop := e = .returned v ∧ ∃ m, w' = w.drewN m
theorem eq_sgq {a b c d : Int} {q : Bool} (h : decide (a = c ∧ b = d) = q) (w : World) :
    (Op.equalIn 10000 49 (.agg #[.int .i64 a, .int .i64 b]) (.agg #[.int .i64 c, .int .i64 d])).run Try.prog w = .ok q w := by
  have key : (Op.equalIn (9998 + 2) 49 (.agg #[.int .i64 a, .int .i64 b]) (.agg #[.int .i64 c, .int .i64 d])).run Try.prog w = .ok (a == c && (b == d && true)) w := by
    refine eqs_of Try.underlying49 (by kernel_rfl) ?_
    refine eqf_cons (by rfl) (by go_simp; rfl) (by go_simp; rfl) (by go_simp) ?_
    exact eqf_cons (by rfl) (by go_simp; rfl) (by go_simp; rfl) (by go_simp) eqf_nil
  have e : (a == c && (b == d && true)) = q := by
    rw [← h, Bool.eq_iff_iff]; simp
  rw [e] at key
  exact key
theorem eq_ndq {x y : Nd} {q : Bool} (h : decide (x = y) = q) (w : World) :
    (Op.equalIn 10000 90 (.agg #[.int .i64 x.f, .int .i64 x.b, .int .i64 x.l, .int .i64 x.c, .int .i64 x.s, .int .i64 x.k]) (.agg #[.int .i64 y.f, .int .i64 y.b, .int .i64 y.l, .int .i64 y.c, .int .i64 y.s, .int .i64 y.k])).run Try.prog w = .ok q w := by
  have key := eq_nd 9998 w x.f x.b x.l x.c x.s x.k y.f y.b y.l y.c y.s y.k
  have e : (x.f == y.f && (x.b == y.b && (x.l == y.l && (x.c == y.c && (x.s == y.s && (x.k == y.k && true)))))) = q := by
    rw [← h, Bool.eq_iff_iff]
    obtain ⟨a1, a2, a3, a4, a5, a6⟩ := x
    obtain ⟨b1, b2, b3, b4, b5, b6⟩ := y
    simp
  rw [e] at key
  exact key
theorem eq_cfq {a0 a1 a2 a3 a4 a5 a6 b0 b1 b2 b3 b4 b5 b6 : Int} {q : Bool} (h : decide (a0 = b0 ∧ a1 = b1 ∧ a2 = b2 ∧ a3 = b3 ∧ a4 = b4 ∧ a5 = b5 ∧ a6 = b6) = q) (w : World) :
    (Op.equalIn 10000 45 (.agg #[.int .i64 a0, .int .i64 a1, .int .i64 a2, .int .i64 a3, .int .i64 a4, .int .i64 a5, .int .i64 a6]) (.agg #[.int .i64 b0, .int .i64 b1, .int .i64 b2, .int .i64 b3, .int .i64 b4, .int .i64 b5, .int .i64 b6])).run Try.prog w = .ok q w := by
  have key : (Op.equalIn (9998 + 2) 45 (.agg #[.int .i64 a0, .int .i64 a1, .int .i64 a2, .int .i64 a3, .int .i64 a4, .int .i64 a5, .int .i64 a6]) (.agg #[.int .i64 b0, .int .i64 b1, .int .i64 b2, .int .i64 b3, .int .i64 b4, .int .i64 b5, .int .i64 b6])).run Try.prog w = .ok (a0 == b0 && (a1 == b1 && (a2 == b2 && (a3 == b3 && (a4 == b4 && (a5 == b5 && (a6 == b6 && true))))))) w := by
    refine eqs_of Try.underlying45 (by kernel_rfl) ?_
    refine eqf_cons (by rfl) (by go_simp; rfl) (by go_simp; rfl) (by go_simp) ?_
    refine eqf_cons (by rfl) (by go_simp; rfl) (by go_simp; rfl) (by go_simp) ?_
    refine eqf_cons (by rfl) (by go_simp; rfl) (by go_simp; rfl) (by go_simp) ?_
    refine eqf_cons (by rfl) (by go_simp; rfl) (by go_simp; rfl) (by go_simp) ?_
    refine eqf_cons (by rfl) (by go_simp; rfl) (by go_simp; rfl) (by go_simp) ?_
    refine eqf_cons (by rfl) (by go_simp; rfl) (by go_simp; rfl) (by go_simp) ?_
    exact eqf_cons (by rfl) (by go_simp; rfl) (by go_simp; rfl) (by go_simp) eqf_nil
  have e : (a0 == b0 && (a1 == b1 && (a2 == b2 && (a3 == b3 && (a4 == b4 && (a5 == b5 && (a6 == b6 && true))))))) = q := by
    rw [← h, Bool.eq_iff_iff]; simp
  rw [e] at key
  exact key
theorem Fst.tup_inj {f g : Fst} : (f.k = g.k ∧ f.cl = g.cl ∧ f.b = g.b ∧ f.t = g.t ∧ f.d = g.d ∧ f.l = g.l ∧ f.p = g.p ∧ f.cols = g.cols ∧ f.seed = g.seed ∧ f.edges = g.edges ∧ f.trees = g.trees ∧ f.num = g.num ∧ f.den = g.den ∧ f.shake = g.shake) ↔ f = g := by
  obtain ⟨a1, a2, a3, a4, a5, a6, a7, a8, a9, a10, a11, a12, a13, a14⟩ := f
  obtain ⟨b1, b2, b3, b4, b5, b6, b7, b8, b9, b10, b11, b12, b13, b14⟩ := g
  simp
instance : DecidableEq Fst := fun f g => decidable_of_iff _ Fst.tup_inj
theorem lists_eq {α : Type} {a b : List α} {n : Nat} (hl : a.length = n) (hl2 : b.length = n) (h : ∀ i, i < n → a[i]? = b[i]?) : a = b := by
  refine List.ext_getElem? (fun i => ?_)
  by_cases hi : i < n
  · exact h i hi
  · rw [List.getElem?_eq_none (by omega), List.getElem?_eq_none (by omega)]
set_option maxRecDepth 100000 in
set_option maxHeartbeats 4000000 in
theorem rsame06_any (a b : List Nat) (A B : Option Addr) (ca cb : Nat) (w : World) (ha : RF w A a) (hb : RF w B b) (la : a.length ≤ 9223372036854775807) (lb : b.length ≤ 9223372036854775807) :
    Calls Try.prog 64 #[.slice A a.length ca, .slice B b.length cb] w (SaysD (.bool (decide (a = b))) w) := by
  obtain ⟨R, hR⟩ : ∃ z, decide (a = b) = z := ⟨_, rfl⟩
  have HNO := Lib.hid (fun (i : Nat) (h : a[i]? ≠ b[i]?) => (hR.symm.trans (decide_eq_false (fun e => h (by rw [e])))))
  have HNL := Lib.hid (fun (h : a.length ≠ b.length) => (hR.symm.trans (decide_eq_false (fun e => h (by rw [e])))))
  have HYES := Lib.hid (fun (n : Nat) (h1 : a.length = n) (h2 : b.length = n) (h : ∀ i : Nat, i < n → a[i]? = b[i]?) => (hR.symm.trans (decide_eq_true (lists_eq h1 h2 h))))
  have HA := Lib.hid ha
  have HB := Lib.hid hb
  rw [hR]
  obtain ⟨n, hn⟩ : ∃ n, a.length = n := ⟨_, rfl⟩
  obtain ⟨m, hm⟩ : ∃ n, b.length = n := ⟨_, rfl⟩
  rw [hn] at HNL la
  rw [hm] at HNL lb
  rw [hn, hm]
  have HLN := Lib.hid (And.intro hn hm)
  clear hn hm ha hb hR
  by_cases hnm : n = m
  · subst hnm
    go_enter Try.func64, Try.ntmps64
    go_wp2_with fail
    go_loopw [5] (fun iv wr => ∃ i d : Nat, i ≤ n ∧ iv = .int .i64 i ∧ wr = w.drewN d ∧ Hid (∀ j, j < i → a[j]? = b[j]?)) (fun iv _ => n - (intOf iv).toNat)
    case atStart => exact ⟨0, 0, Nat.zero_le _, rfl, rfl, Lib.hid (fun j hj => by omega)⟩
    case round =>
      obtain ⟨i, d, hi, rfl, rfl, HI⟩ := hrel
      by_cases hlt : i < n
      · have hlt' : (i : Int) < n := by omega
        obtain ⟨ad, rfl, hx, _⟩ := HA.out.at (i := i) (by rw [HLN.out.1]; exact hlt)
        obtain ⟨bd, rfl, hy, _⟩ := HB.out.at (i := i) (by rw [HLN.out.2]; exact hlt)
        have h1 : a[i]? = some (a.getD i 0) := by rw [List.getD_eq_getElem?_getD, List.getElem?_eq_getElem (by rw [HLN.out.1]; exact hlt)]; rfl
        have h2 : b[i]? = some (b.getD i 0) := by rw [List.getD_eq_getElem?_getD, List.getElem?_eq_getElem (by rw [HLN.out.2]; exact hlt)]; rfl
        obtain ⟨x, ex⟩ : ∃ x, a.getD i 0 = x := ⟨_, rfl⟩
        obtain ⟨y, ey⟩ : ∃ x, b.getD i 0 = x := ⟨_, rfl⟩
        rw [ex] at h1 hx
        rw [ey] at h2 hy
        have HX := Lib.hid h1
        have HY := Lib.hid h2
        have hf1 := f64bits_run x
        have hf2 := f64bits_run y
        clear ex ey h1 h2
        obtain ⟨q, hq⟩ : ∃ q, decide (x = y) = q := ⟨_, rfl⟩
        have hq1 : ((x : Int) == (y : Int)) = q := by rw [← hq, Bool.eq_iff_iff]; simp; omega
        have hq2 : ((x : Int) != (y : Int)) = !q := by rw [← hq1]; rfl
        cases q with
        | true =>
          have HE : Hid (a[i]? = b[i]?) := Lib.hid (by rw [HX.out, HY.out, of_decide_eq_true hq])
          clear hq
          go_wp2_with fail
          go_quiet (fail)
          go_wp2_with fail
          go_roundw
          case rel => exact ⟨i + 1, _, hlt, by go_num, rfl, Lib.hid (fun j hj => by
            by_cases e : j = i
            · rw [e]; exact HE.out
            · exact HI.out j (by omega))⟩
          case measure => simp [intOf]; omega
        | false =>
          have HF : Hid (R = false) := Lib.hid (HNO.out i (fun e => of_decide_eq_false hq (by rw [HX.out, HY.out] at e; cases e; rfl)))
          clear hq
          go_wp2_with fail
          go_quiet (fail)
          go_wp2_with fail
          go_ret
          exact ⟨by rw [HF.out]; rfl, _, by first | rfl | exact World.drewN_drewN _ _ _⟩
      · obtain rfl : n = i := by omega
        have HF : Hid (R = true) := Lib.hid (HYES.out n HLN.out.1 HLN.out.2 HI.out)
        go_wp2_with fail
        go_ret
        exact ⟨by rw [HF.out]; rfl, _, by first | rfl | exact World.drewN_drewN _ _ _⟩
  · have HF : Hid (R = false) := Lib.hid (HNL.out hnm)
    have e1 : ((n : Int) == (m : Int)) = false := beq_eq_false_iff_ne.2 (by omega)
    have e2 : ((n : Int) != (m : Int)) = true := bne_iff_ne.2 (by omega)
    go_enter Try.func64, Try.ntmps64
    go_wp2_with fail
    go_ret
    exact ⟨by rw [HF.out]; rfl, 0, rfl⟩
set_option maxRecDepth 100000 in
set_option maxHeartbeats 4000000 in
theorem rsame18_any (a b : List Nd) (A B : Option Addr) (ca cb : Nat) (w : World) (ha : RN w A a) (hb : RN w B b) (la : a.length ≤ 9223372036854775807) (lb : b.length ≤ 9223372036854775807) :
    Calls Try.prog 65 #[.slice A a.length ca, .slice B b.length cb] w (SaysD (.bool (decide (a = b))) w) := by
  obtain ⟨R, hR⟩ : ∃ z, decide (a = b) = z := ⟨_, rfl⟩
  have HNO := Lib.hid (fun (i : Nat) (h : a[i]? ≠ b[i]?) => (hR.symm.trans (decide_eq_false (fun e => h (by rw [e])))))
  have HNL := Lib.hid (fun (h : a.length ≠ b.length) => (hR.symm.trans (decide_eq_false (fun e => h (by rw [e])))))
  have HYES := Lib.hid (fun (n : Nat) (h1 : a.length = n) (h2 : b.length = n) (h : ∀ i : Nat, i < n → a[i]? = b[i]?) => (hR.symm.trans (decide_eq_true (lists_eq h1 h2 h))))
  have HA := Lib.hid ha
  have HB := Lib.hid hb
  rw [hR]
  obtain ⟨n, hn⟩ : ∃ n, a.length = n := ⟨_, rfl⟩
  obtain ⟨m, hm⟩ : ∃ n, b.length = n := ⟨_, rfl⟩
  rw [hn] at HNL la
  rw [hm] at HNL lb
  rw [hn, hm]
  have HLN := Lib.hid (And.intro hn hm)
  clear hn hm ha hb hR
  by_cases hnm : n = m
  · subst hnm
    go_enter Try.func65, Try.ntmps65
    go_wp2_with fail
    go_loopw [5] (fun iv wr => ∃ i d : Nat, i ≤ n ∧ iv = .int .i64 i ∧ wr = w.drewN d ∧ Hid (∀ j, j < i → a[j]? = b[j]?)) (fun iv _ => n - (intOf iv).toNat)
    case atStart => exact ⟨0, 0, Nat.zero_le _, rfl, rfl, Lib.hid (fun j hj => by omega)⟩
    case round =>
      obtain ⟨i, d, hi, rfl, rfl, HI⟩ := hrel
      by_cases hlt : i < n
      · have hlt' : (i : Int) < n := by omega
        obtain ⟨ad, rfl, x, h1, _, hx⟩ := HA.out.at (i := i) (by rw [HLN.out.1]; exact hlt)
        obtain ⟨bd, rfl, y, h2, _, hy⟩ := HB.out.at (i := i) (by rw [HLN.out.2]; exact hlt)
        obtain ⟨p0, p1, p2, p3, p4, p5⟩ := hx
        obtain ⟨r0, r1, r2, r3, r4, r5⟩ := hy
        have HX := Lib.hid h1
        have HY := Lib.hid h2
        clear h1 h2
        obtain ⟨q, hq⟩ : ∃ q, decide (x = y) = q := ⟨_, rfl⟩
        have hqq := eq_ndq hq
        cases q with
        | true =>
          have HE : Hid (a[i]? = b[i]?) := Lib.hid (by rw [HX.out, HY.out, of_decide_eq_true hq])
          clear hq
          go_wp2_with fail
          go_quiet (fail)
          go_wp2_with fail
          go_roundw
          case rel => exact ⟨i + 1, _, hlt, by go_num, rfl, Lib.hid (fun j hj => by
            by_cases e : j = i
            · rw [e]; exact HE.out
            · exact HI.out j (by omega))⟩
          case measure => simp [intOf]; omega
        | false =>
          have HF : Hid (R = false) := Lib.hid (HNO.out i (fun e => of_decide_eq_false hq (by rw [HX.out, HY.out] at e; cases e; rfl)))
          clear hq
          go_wp2_with fail
          go_quiet (fail)
          go_wp2_with fail
          go_ret
          exact ⟨by rw [HF.out]; rfl, _, by first | rfl | exact World.drewN_drewN _ _ _⟩
      · obtain rfl : n = i := by omega
        have HF : Hid (R = true) := Lib.hid (HYES.out n HLN.out.1 HLN.out.2 HI.out)
        go_wp2_with fail
        go_ret
        exact ⟨by rw [HF.out]; rfl, _, by first | rfl | exact World.drewN_drewN _ _ _⟩
  · have HF : Hid (R = false) := Lib.hid (HNL.out hnm)
    have e1 : ((n : Int) == (m : Int)) = false := beq_eq_false_iff_ne.2 (by omega)
    have e2 : ((n : Int) != (m : Int)) = true := bne_iff_ne.2 (by omega)
    go_enter Try.func65, Try.ntmps65
    go_wp2_with fail
    go_ret
    exact ⟨by rw [HF.out]; rfl, 0, rfl⟩
set_option maxRecDepth 100000 in
set_option maxHeartbeats 16000000 in
theorem rsame27_any (f g : Fst) (A1 A2 A3 A1' A2' A3' : Option Addr) (c1 c2 c3 c1' c2' c3' : Nat) (w : World) (hf : RFo w f A1 A2 A3) (hg : RFo w g A1' A2' A3') (of : OkF f) (og : OkF g) :
    Calls Try.prog 32 #[.agg (forA f A1 A2 A3 c1 c2 c3), .agg (forA g A1' A2' A3' c1' c2' c3')] w fun e w' => e = .returned (.bool (decide (f = g))) ∧ Below w.heap.size w w' := by
  have K6 := Lib.hid rsame06_any
  have K18 := Lib.hid rsame18_any
  obtain ⟨R, hR⟩ : ∃ z, decide (f = g) = z := ⟨_, rfl⟩
  have HN1 := Lib.hid (fun (h : ¬ (f.k = g.k ∧ f.cl = g.cl ∧ f.b = g.b ∧ f.t = g.t ∧ f.d = g.d ∧ f.l = g.l ∧ f.p = g.p)) => (hR.symm.trans (decide_eq_false (fun e => h (by rw [e]; simp)))))
  have HN2 := Lib.hid (fun (h : ¬ f.cols = g.cols) => (hR.symm.trans (decide_eq_false (fun e => h (by rw [e])))))
  have HN3 := Lib.hid (fun (h : ¬ f.seed = g.seed) => (hR.symm.trans (decide_eq_false (fun e => h (by rw [e])))))
  have HN4 := Lib.hid (fun (h : ¬ (f.num = g.num ∧ f.den = g.den)) => (hR.symm.trans (decide_eq_false (fun e => h (by rw [e]; simp)))))
  have HN5 := Lib.hid (fun (h : ¬ f.edges.length = g.edges.length) => (hR.symm.trans (decide_eq_false (fun e => h (by rw [e])))))
  have HN6 := Lib.hid (fun (h : ¬ f.trees.length = g.trees.length) => (hR.symm.trans (decide_eq_false (fun e => h (by rw [e])))))
  have HN7 := Lib.hid (fun (h : ¬ f.shake.length = g.shake.length) => (hR.symm.trans (decide_eq_false (fun e => h (by rw [e])))))
  have HNE := Lib.hid (fun (i : Nat) (h : ¬ f.edges[i]? = g.edges[i]?) => (hR.symm.trans (decide_eq_false (fun e => h (by rw [e])))))
  have HNT := Lib.hid (fun (i : Nat) (h : ¬ f.trees[i]? = g.trees[i]?) => (hR.symm.trans (decide_eq_false (fun e => h (by rw [e])))))
  have HNS := Lib.hid (fun (i : Nat) (h : ¬ f.shake[i]? = g.shake[i]?) => (hR.symm.trans (decide_eq_false (fun e => h (by rw [e])))))
  have HYES := Lib.hid (fun (h1 : f.k = g.k ∧ f.cl = g.cl ∧ f.b = g.b ∧ f.t = g.t ∧ f.d = g.d ∧ f.l = g.l ∧ f.p = g.p) (h2 : f.cols = g.cols) (h3 : f.seed = g.seed) (h4 : f.num = g.num ∧ f.den = g.den) (h5 : f.edges = g.edges) (h6 : f.trees = g.trees) (h7 : f.shake = g.shake) => (hR.symm.trans (decide_eq_true (by
    obtain ⟨a1, a2, a3, a4, a5, a6, a7, a8, a9, a10, a11, a12, a13, a14⟩ := f
    obtain ⟨b1, b2, b3, b4, b5, b6, b7, b8, b9, b10, b11, b12, b13, b14⟩ := g
    simp_all))))
  have HF := Lib.hid hf
  have HG := Lib.hid hg
  have HOF := Lib.hid of
  have HOG := Lib.hid og
  rw [hR]
  unfold forA
  obtain ⟨ne, hne⟩ : ∃ n, f.edges.length = n := ⟨_, rfl⟩
  obtain ⟨nt, hnt⟩ : ∃ n, f.trees.length = n := ⟨_, rfl⟩
  obtain ⟨ns, hns⟩ : ∃ n, f.shake.length = n := ⟨_, rfl⟩
  obtain ⟨ne', hne'⟩ : ∃ n, g.edges.length = n := ⟨_, rfl⟩
  obtain ⟨nt', hnt'⟩ : ∃ n, g.trees.length = n := ⟨_, rfl⟩
  obtain ⟨ns', hns'⟩ : ∃ n, g.shake.length = n := ⟨_, rfl⟩
  have lne := of.le
  have lnt := of.lt
  have lns := of.ls
  rw [hne] at lne
  rw [hnt] at lnt
  rw [hns] at lns
  rw [hne, hne'] at HN5
  rw [hnt, hnt'] at HN6
  rw [hns, hns'] at HN7
  rw [hne, hne', hnt, hnt', hns, hns']
  have HLE := Lib.hid (And.intro hne hne')
  have HLT := Lib.hid (And.intro hnt hnt')
  have HLS := Lib.hid (And.intro hns hns')
  clear hne hne' hnt hnt' hns hns' hf hg of og hR
  obtain ⟨k, cl, b, tt, dd, l, p, cols, seed, edges, trees, num, den, shake⟩ := f
  obtain ⟨k', cl', b', tt', dd', l', p', cols', seed', edges', trees', num', den', shake'⟩ := g
  simp only at HN1 HN2 HN3 HN4 HN5 HN6 HN7 HNE HNT HNS HYES HLE HLT HLS ⊢
  go_enter Try.func32, Try.ntmps32
  go_upto_region 1 with (fail)
  have kF0 := Blk.new w #[.int .i64 k, .int .i64 cl, .int .i64 b, .int .i64 tt, .int .i64 dd, .int .i64 l, .int .i64 p, .int .i64 cols, .int .u64 (seed : Int), .slice A1 ne c1, .slice A2 nt c2, .int .i64 num, .int .i64 den, .slice A3 ns c3] 59
  have kG := Blk.new (w.alloc (.cells #[.int .i64 k, .int .i64 cl, .int .i64 b, .int .i64 tt, .int .i64 dd, .int .i64 l, .int .i64 p, .int .i64 cols, .int .u64 (seed : Int), .slice A1 ne c1, .slice A2 nt c2, .int .i64 num, .int .i64 den, .slice A3 ns c3] 59)) #[.int .i64 k', .int .i64 cl', .int .i64 b', .int .i64 tt', .int .i64 dd', .int .i64 l', .int .i64 p', .int .i64 cols', .int .u64 (seed' : Int), .slice A1' ne' c1', .slice A2' nt' c2', .int .i64 num', .int .i64 den', .slice A3' ns' c3'] 59
  rw [World.size_alloc] at kG
  have bb : Below (w.alloc (.cells #[.int .i64 k, .int .i64 cl, .int .i64 b, .int .i64 tt, .int .i64 dd, .int .i64 l, .int .i64 p, .int .i64 cols, .int .u64 (seed : Int), .slice A1 ne c1, .slice A2 nt c2, .int .i64 num, .int .i64 den, .slice A3 ns c3] 59)).heap.size (w.alloc (.cells #[.int .i64 k, .int .i64 cl, .int .i64 b, .int .i64 tt, .int .i64 dd, .int .i64 l, .int .i64 p, .int .i64 cols, .int .u64 (seed : Int), .slice A1 ne c1, .slice A2 nt c2, .int .i64 num, .int .i64 den, .slice A3 ns c3] 59)) ((w.alloc (.cells #[.int .i64 k, .int .i64 cl, .int .i64 b, .int .i64 tt, .int .i64 dd, .int .i64 l, .int .i64 p, .int .i64 cols, .int .u64 (seed : Int), .slice A1 ne c1, .slice A2 nt c2, .int .i64 num, .int .i64 den, .slice A3 ns c3] 59)).alloc (.cells #[.int .i64 k', .int .i64 cl', .int .i64 b', .int .i64 tt', .int .i64 dd', .int .i64 l', .int .i64 p', .int .i64 cols', .int .u64 (seed' : Int), .slice A1' ne' c1', .slice A2' nt' c2', .int .i64 num', .int .i64 den', .slice A3' ns' c3'] 59)) := (Below.refl _ _).alloc (Nat.le_refl _) _
  have HBE := Lib.hid (((Below.refl w.heap.size w).alloc (Nat.le_refl _) (.cells #[.int .i64 k, .int .i64 cl, .int .i64 b, .int .i64 tt, .int .i64 dd, .int .i64 l, .int .i64 p, .int .i64 cols, .int .u64 (seed : Int), .slice A1 ne c1, .slice A2 nt c2, .int .i64 num, .int .i64 den, .slice A3 ns c3] 59)).alloc (by simp) (.cells #[.int .i64 k', .int .i64 cl', .int .i64 b', .int .i64 tt', .int .i64 dd', .int .i64 l', .int .i64 p', .int .i64 cols', .int .u64 (seed' : Int), .slice A1' ne' c1', .slice A2' nt' c2', .int .i64 num', .int .i64 den', .slice A3' ns' c3'] 59))
  have kF := kF0.below bb
  obtain ⟨W, hW⟩ : ∃ W, (w.alloc (.cells #[.int .i64 k, .int .i64 cl, .int .i64 b, .int .i64 tt, .int .i64 dd, .int .i64 l, .int .i64 p, .int .i64 cols, .int .u64 (seed : Int), .slice A1 ne c1, .slice A2 nt c2, .int .i64 num, .int .i64 den, .slice A3 ns c3] 59)).alloc (.cells #[.int .i64 k', .int .i64 cl', .int .i64 b', .int .i64 tt', .int .i64 dd', .int .i64 l', .int .i64 p', .int .i64 cols', .int .u64 (seed' : Int), .slice A1' ne' c1', .slice A2' nt' c2', .int .i64 num', .int .i64 den', .slice A3' ns' c3'] 59) = W := ⟨_, rfl⟩
  rw [hW] at kF kG HBE ⊢
  have HRF := Lib.hid (HF.out.below HBE.out)
  have HRG := Lib.hid (HG.out.below HBE.out)
  obtain ⟨g0, hg0⟩ : ∃ z, w.heap.size + 1 = z := ⟨_, rfl⟩
  rw [hg0] at kG ⊢
  obtain ⟨q0, q1, q2, q3, q4, q5, q6, q7, q8, q9, q10, q11, q12, q13⟩ := kF.cells14
  obtain ⟨r0, r1, r2, r3, r4, r5, r6, r7, r8, r9, r10, r11, r12, r13⟩ := kG.cells14
  clear kF0 bb hW hg0 HF HG kF kG
  obtain ⟨z1, hz1⟩ : ∃ z, decide (k = k' ∧ cl = cl' ∧ b = b' ∧ tt = tt' ∧ dd = dd' ∧ l = l' ∧ p = p') = z := ⟨_, rfl⟩
  have e1 := eq_cfq hz1
  cases z1 with
  | false =>
    have HX : Hid (R = false) := Lib.hid (HN1.out (of_decide_eq_false hz1))
    clear hz1
    go_wp2_with fail
    go_ret
    exact ⟨by rw [HX.out]; rfl, HBE.out⟩
  | true =>
    have HZ1 := Lib.hid (of_decide_eq_true hz1)
    clear hz1
    by_cases h2 : cols = cols'
    rotate_left
    · have HX : Hid (R = false) := Lib.hid (HN2.out h2)
      have e2 : ((cols : Int) == (cols' : Int)) = false := beq_eq_false_iff_ne.2 (by omega)
      have e3 : ((cols : Int) != (cols' : Int)) = true := bne_iff_ne.2 (by omega)
      go_wp2_with fail
      go_ret
      exact ⟨by rw [HX.out]; rfl, HBE.out⟩
    have HZ2 := Lib.hid h2
    subst h2
    by_cases h3 : seed = seed'
    rotate_left
    · have HX : Hid (R = false) := Lib.hid (HN3.out h3)
      have e2 : ((seed : Int) == (seed' : Int)) = false := beq_eq_false_iff_ne.2 (by omega)
      have e3 : ((seed : Int) != (seed' : Int)) = true := bne_iff_ne.2 (by omega)
      go_wp2_with fail
      go_ret
      exact ⟨by rw [HX.out]; rfl, HBE.out⟩
    have HZ3 := Lib.hid h3
    subst h3
    obtain ⟨z4, hz4⟩ : ∃ z, decide (num = num' ∧ den = den') = z := ⟨_, rfl⟩
    have e4 := eq_sgq hz4
    cases z4 with
    | false =>
      have HX : Hid (R = false) := Lib.hid (HN4.out (of_decide_eq_false hz4))
      clear hz4
      go_wp2_with fail
      go_ret
      exact ⟨by rw [HX.out]; rfl, HBE.out⟩
    | true =>
      have HZ4 := Lib.hid (of_decide_eq_true hz4)
      clear hz4
      by_cases h5 : ne = ne'
      rotate_left
      · have HX : Hid (R = false) := Lib.hid (HN5.out h5)
        have e2 : ((ne : Int) == (ne' : Int)) = false := beq_eq_false_iff_ne.2 (by omega)
        have e3 : ((ne : Int) != (ne' : Int)) = true := bne_iff_ne.2 (by omega)
        go_wp2_with fail
        go_ret
        exact ⟨by rw [HX.out]; rfl, HBE.out⟩
      subst h5
      by_cases h6 : nt = nt'
      rotate_left
      · have HX : Hid (R = false) := Lib.hid (HN6.out h6)
        have e2 : ((nt : Int) == (nt' : Int)) = false := beq_eq_false_iff_ne.2 (by omega)
        have e3 : ((nt : Int) != (nt' : Int)) = true := bne_iff_ne.2 (by omega)
        go_wp2_with fail
        go_ret
        exact ⟨by rw [HX.out]; rfl, HBE.out⟩
      subst h6
      by_cases h7 : ns = ns'
      rotate_left
      · have HX : Hid (R = false) := Lib.hid (HN7.out h7)
        have e2 : ((ns : Int) == (ns' : Int)) = false := beq_eq_false_iff_ne.2 (by omega)
        have e3 : ((ns : Int) != (ns' : Int)) = true := bne_iff_ne.2 (by omega)
        go_wp2_with fail
        go_ret
        exact ⟨by rw [HX.out]; rfl, HBE.out⟩
      subst h7
      have HY2 : Hid (edges = edges' → trees = trees' → shake = shake' → R = true) := Lib.hid (fun a1 a2 a3 => HYES.out HZ1.out rfl rfl HZ4.out a1 a2 a3)
      clear HN1 HN2 HN3 HN4 HN5 HN6 HN7 HYES
      go_wp2_with fail
      clear e1 e4 q0 q1 q2 q3 q4 q5 q6 q7 q8 q11 q12 r0 r1 r2 r3 r4 r5 r6 r7 r8 r11 r12
      go_loopw [5] (fun iv wr => ∃ i d : Nat, i ≤ ne ∧ iv = .int .i64 i ∧ wr = W.drewN d ∧ Hid (∀ j, j < i → edges[j]? = edges'[j]?)) (fun iv _ => ne - (intOf iv).toNat)
      case atStart => exact ⟨0, 0, Nat.zero_le _, rfl, rfl, Lib.hid (fun j hj => by omega)⟩
      case round =>
        obtain ⟨i, d, hi, rfl, rfl, HI⟩ := hrel
        by_cases hlt : i < ne
        · have hlt' : (i : Int) < ne := by omega
          obtain ⟨ad, rfl, t, B1, cp1, h1, hx, _, _, hrx⟩ := HRF.out.re.at (i := i) (by rw [HLE.out.1]; exact hlt)
          obtain ⟨bd, rfl, t', B2, cp2, h2, hy, _, _, hry⟩ := HRG.out.re.at (i := i) (by rw [HLE.out.2]; exact hlt)
          simp only at h1 h2
          have KX := Lib.hid (fun d => K6.out t t' B1 B2 cp1 cp2 (W.drewN d) (hrx.below ⟨rfl, rfl, rfl, Nat.le_refl _, fun _ _ => rfl⟩) (hry.below ⟨rfl, rfl, rfl, Nat.le_refl _, fun _ _ => rfl⟩) (by have := HOF.out.ee t (List.mem_of_getElem? h1); omega) (by have := HOG.out.ee t' (List.mem_of_getElem? h2); omega))
          have HX := Lib.hid h1
          have HY := Lib.hid h2
          obtain ⟨q, hq⟩ : ∃ q, decide (t = t') = q := ⟨_, rfl⟩
          rw [hq] at KX
          obtain ⟨n1, hn1⟩ : ∃ n, t.length = n := ⟨_, rfl⟩
          obtain ⟨n2, hn2⟩ : ∃ n, t'.length = n := ⟨_, rfl⟩
          rw [hn1] at hx KX
          rw [hn2] at hy KX
          clear h1 h2 hrx hry hn1 hn2
          cases q with
          | true =>
            have HE : Hid (edges[i]? = edges'[i]?) := Lib.hid (by rw [HX.out, HY.out, of_decide_eq_true hq])
            clear hq
            go_wp2_with fail
            go_quiet ((go_at_call 64; refine (KX.out _).mono ?_; rintro e w1 ⟨rfl, m, rfl⟩; refine ⟨rfl, ?_⟩; first | exact ⟨_, World.drewN_drewN _ _ _⟩ | exact ⟨_, by rw [World.drewN_drewN, World.drewN_drewN, Nat.add_assoc]⟩ | exact ⟨_, by rw [World.drewN_drewN, Nat.add_assoc]⟩))
            go_wp2_with fail
            go_roundw
            case rel => exact ⟨i + 1, _, hlt, by go_num, rfl, Lib.hid (fun j hj => by
              by_cases e : j = i
              · rw [e]; exact HE.out
              · exact HI.out j (by omega))⟩
            case measure => simp [intOf]; omega
          | false =>
            have HF : Hid (R = false) := Lib.hid (HNE.out i (fun e => of_decide_eq_false hq (by rw [HX.out, HY.out] at e; cases e; rfl)))
            clear hq
            go_wp2_with fail
            go_quiet ((go_at_call 64; refine (KX.out _).mono ?_; rintro e w1 ⟨rfl, m, rfl⟩; refine ⟨rfl, ?_⟩; first | exact ⟨_, World.drewN_drewN _ _ _⟩ | exact ⟨_, by rw [World.drewN_drewN, World.drewN_drewN, Nat.add_assoc]⟩ | exact ⟨_, by rw [World.drewN_drewN, Nat.add_assoc]⟩))
            go_wp2_with fail
            go_ret
            exact ⟨by rw [HF.out]; rfl, HBE.out.trans ⟨rfl, rfl, rfl, Nat.le_refl _, fun _ _ => rfl⟩⟩
        · obtain rfl : ne = i := by omega
          have Hedges : Hid (edges = edges') := Lib.hid (lists_eq HLE.out.1 HLE.out.2 HI.out)
          clear HI hlt hi
          go_wp2_with fail
          go_loopw [6] (fun iv wr => ∃ i d : Nat, i ≤ nt ∧ iv = .int .i64 i ∧ wr = W.drewN d ∧ Hid (∀ j, j < i → trees[j]? = trees'[j]?)) (fun iv _ => nt - (intOf iv).toNat)
          case atStart => exact ⟨0, d, Nat.zero_le _, rfl, rfl, Lib.hid (fun j hj => by omega)⟩
          case round =>
            obtain ⟨i, d, hi, rfl, rfl, HI⟩ := hrel
            by_cases hlt : i < nt
            · have hlt' : (i : Int) < nt := by omega
              obtain ⟨ad, rfl, t, B1, cp1, h1, hx, _, _, hrx⟩ := HRF.out.rt.at (i := i) (by rw [HLT.out.1]; exact hlt)
              obtain ⟨bd, rfl, t', B2, cp2, h2, hy, _, _, hry⟩ := HRG.out.rt.at (i := i) (by rw [HLT.out.2]; exact hlt)
              simp only at h1 h2
              have KX := Lib.hid (fun d => K18.out t t' B1 B2 cp1 cp2 (W.drewN d) (hrx.below ⟨rfl, rfl, rfl, Nat.le_refl _, fun _ _ => rfl⟩) (hry.below ⟨rfl, rfl, rfl, Nat.le_refl _, fun _ _ => rfl⟩) (by have := HOF.out.tt t (List.mem_of_getElem? h1); omega) (by have := HOG.out.tt t' (List.mem_of_getElem? h2); omega))
              have HX := Lib.hid h1
              have HY := Lib.hid h2
              obtain ⟨q, hq⟩ : ∃ q, decide (t = t') = q := ⟨_, rfl⟩
              rw [hq] at KX
              obtain ⟨n1, hn1⟩ : ∃ n, t.length = n := ⟨_, rfl⟩
              obtain ⟨n2, hn2⟩ : ∃ n, t'.length = n := ⟨_, rfl⟩
              rw [hn1] at hx KX
              rw [hn2] at hy KX
              clear h1 h2 hrx hry hn1 hn2
              cases q with
              | true =>
                have HE : Hid (trees[i]? = trees'[i]?) := Lib.hid (by rw [HX.out, HY.out, of_decide_eq_true hq])
                clear hq
                go_wp2_with fail
                go_quiet ((go_at_call 65; refine (KX.out _).mono ?_; rintro e w1 ⟨rfl, m, rfl⟩; refine ⟨rfl, ?_⟩; first | exact ⟨_, World.drewN_drewN _ _ _⟩ | exact ⟨_, by rw [World.drewN_drewN, World.drewN_drewN, Nat.add_assoc]⟩ | exact ⟨_, by rw [World.drewN_drewN, Nat.add_assoc]⟩))
                go_wp2_with fail
                go_roundw
                case rel => exact ⟨i + 1, _, hlt, by go_num, rfl, Lib.hid (fun j hj => by
                  by_cases e : j = i
                  · rw [e]; exact HE.out
                  · exact HI.out j (by omega))⟩
                case measure => simp [intOf]; omega
              | false =>
                have HF : Hid (R = false) := Lib.hid (HNT.out i (fun e => of_decide_eq_false hq (by rw [HX.out, HY.out] at e; cases e; rfl)))
                clear hq
                go_wp2_with fail
                go_quiet ((go_at_call 65; refine (KX.out _).mono ?_; rintro e w1 ⟨rfl, m, rfl⟩; refine ⟨rfl, ?_⟩; first | exact ⟨_, World.drewN_drewN _ _ _⟩ | exact ⟨_, by rw [World.drewN_drewN, World.drewN_drewN, Nat.add_assoc]⟩ | exact ⟨_, by rw [World.drewN_drewN, Nat.add_assoc]⟩))
                go_wp2_with fail
                go_ret
                exact ⟨by rw [HF.out]; rfl, HBE.out.trans ⟨rfl, rfl, rfl, Nat.le_refl _, fun _ _ => rfl⟩⟩
            · obtain rfl : nt = i := by omega
              have Htrees : Hid (trees = trees') := Lib.hid (lists_eq HLT.out.1 HLT.out.2 HI.out)
              clear HI hlt hi
              go_wp2_with fail
              go_loopw [7] (fun iv wr => ∃ i d : Nat, i ≤ ns ∧ iv = .int .i64 i ∧ wr = W.drewN d ∧ Hid (∀ j, j < i → shake[j]? = shake'[j]?)) (fun iv _ => ns - (intOf iv).toNat)
              case atStart => exact ⟨0, d, Nat.zero_le _, rfl, rfl, Lib.hid (fun j hj => by omega)⟩
              case round =>
                obtain ⟨i, d, hi, rfl, rfl, HI⟩ := hrel
                by_cases hlt : i < ns
                · have hlt' : (i : Int) < ns := by omega
                  obtain ⟨ad, rfl, x, h1, _, _, hx, hx2⟩ := HRF.out.rs.at (i := i) (by rw [HLS.out.1]; exact hlt)
                  obtain ⟨bd, rfl, y, h2, _, _, hy, hy2⟩ := HRG.out.rs.at (i := i) (by rw [HLS.out.2]; exact hlt)
                  simp only at h1 h2
                  have HX := Lib.hid h1
                  have HY := Lib.hid h2
                  obtain ⟨xn, xd⟩ := x
                  obtain ⟨yn, yd⟩ := y
                  simp only at hx hx2 hy hy2
                  obtain ⟨q, hq0⟩ : ∃ q, decide (xn = yn ∧ xd = yd) = q := ⟨_, rfl⟩
                  have hqq := eq_sgq hq0
                  have hq : decide ((xn, xd) = (yn, yd)) = q := by rw [← hq0, Bool.eq_iff_iff]; simp
                  clear h1 h2 hq0
                  cases q with
                  | true =>
                    have HE : Hid (shake[i]? = shake'[i]?) := Lib.hid (by rw [HX.out, HY.out, of_decide_eq_true hq])
                    clear hq
                    go_wp2_with fail
                    go_quiet (fail)
                    go_wp2_with fail
                    go_roundw
                    case rel => exact ⟨i + 1, _, hlt, by go_num, rfl, Lib.hid (fun j hj => by
                      by_cases e : j = i
                      · rw [e]; exact HE.out
                      · exact HI.out j (by omega))⟩
                    case measure => simp [intOf]; omega
                  | false =>
                    have HF : Hid (R = false) := Lib.hid (HNS.out i (fun e => of_decide_eq_false hq (by rw [HX.out, HY.out] at e; cases e; rfl)))
                    clear hq
                    go_wp2_with fail
                    go_quiet (fail)
                    go_wp2_with fail
                    go_ret
                    exact ⟨by rw [HF.out]; rfl, HBE.out.trans ⟨rfl, rfl, rfl, Nat.le_refl _, fun _ _ => rfl⟩⟩
                · obtain rfl : ns = i := by omega
                  have Hshake : Hid (shake = shake') := Lib.hid (lists_eq HLS.out.1 HLS.out.2 HI.out)
                  have HX : Hid (R = true) := Lib.hid (HY2.out Hedges.out Htrees.out Hshake.out)
                  go_wp2_with fail
                  go_ret
                  exact ⟨by rw [HX.out]; rfl, HBE.out.trans ⟨rfl, rfl, rfl, Nat.le_refl _, fun _ _ => rfl⟩⟩
end Go.Proofs.Ytpekofpiodaadaa.Hb
end

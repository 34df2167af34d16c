/- Texts joined: the walks and the plain laws that the claim ModelPuts rests on. -/
import Derived.Test.YtpekofpiodaadaaMModelPuts4
import Derived.Test.YtpekofpiodaadaaMModelPuts3
import Derived.Test.YtpekofpiodaadaaMModelPuts1
import Derived.Deep.QuietTactic
import Derived.BigQuiet
import Derived.Laws.Concat
section
/- The walk of ref10.Right. -/
namespace Go.Proofs.Ytpekofpiodaadaa.Hb
set_option linter.unusedVariables false
set_option linter.unusedSimpArgs false
open Go.RowKit

theorem rf_one {w : World} {g x : Nat} (h : Blk w g #[.float .f64 x] 139) (hx : x < 18446744073709551616) : RF w (some ⟨g, 0, none⟩) [x] := rowAt_one rfl ⟨rfl, hx⟩ (blk_list h)
theorem right_big {l : List Nat} (h : 255 < l.length) : rightE l = false := by
  unfold rightE
  rw [decide_eq_false (show ¬ l.length < 256 by omega), Bool.and_false]
set_option maxRecDepth 100000 in
set_option maxHeartbeats 8000000 in
theorem rright10_any (l : List Nat) (A : Option Addr) (cap : Nat) (w : World) (hr : RF w A l) (hl : l.length ≤ 9223372036854775807) :
    Calls Try.prog 132 #[.slice A l.length cap] w fun e w' => e = .returned (.bool (rightE l)) ∧ Below w.heap.size w w' := by
  have HN : Hid (∀ i, i < l.length → okE l i = false → rightE l = false) := Lib.hid (fun i hi h => right_no hi h)
  have HY : Hid ((∀ i, i < l.length → okE l i = true) → rightE l = decide (l.length < 256)) := Lib.hid right_yes
  have HBG := Lib.hid (fun h => right_big (l := l) h)
  obtain ⟨R, hR⟩ : ∃ R, rightE l = R := ⟨_, rfl⟩
  rw [hR] at HN HY HBG ⊢
  obtain ⟨n, hn⟩ : ∃ n, l.length = n := ⟨_, rfl⟩
  have HLN := Lib.hid hn
  rw [hn] at HN HY hl HBG ⊢
  have HR := Lib.hid hr
  clear hR hn hr
  by_cases hbig : 255 < n
  · have d1 : decide (255 < n) = true := decide_eq_true hbig
    have d1' : decide ((255 : Int) < n) = true := decide_eq_true (by omega)
    have HF := Lib.hid (HBG.out hbig)
    go_enter Try.func132, Try.ntmps132
    go_wp2_with fail
    go_ret
    exact ⟨by rw [HF.out]; rfl, Below.refl _ _⟩
  have d1 : decide (255 < n) = false := decide_eq_false hbig
  have d1' : decide ((255 : Int) < n) = false := decide_eq_false (by omega)
  have HNB := Lib.hid hbig
  clear hbig
  go_enter Try.func132, Try.ntmps132
  go_wp2_with fail
  clear d1 d1'
  go_loopw [3] (fun iv wr => ∃ i : Nat, i ≤ n ∧ iv = .int .i64 i ∧ Hid (∀ j, j < i → okE l j = true) ∧ Hid (Below w.heap.size w wr)) (fun iv _ => n - (intOf iv).toNat)
  case atStart => exact ⟨0, Nat.zero_le _, rfl, Lib.hid (fun j hj => by omega), Lib.hid (Below.refl _ _)⟩
  case round =>
    obtain ⟨i, hi, rfl, HI, HB⟩ := hrel
    by_cases hlt : i < n
    · have hlt' : (i : Int) < n := by omega
      obtain ⟨ad, rfl, hx0, hxl⟩ := HR.out.at (i := i) (by rw [HLN.out]; exact hlt)
      obtain ⟨x, ex⟩ : ∃ x, l.getD i 0 = x := ⟨_, rfl⟩
      rw [ex] at hx0 hxl
      have HXC := Lib.hid (fun W (hb : Below w.heap.size w W) => (hb.cell (World.block_lt_of_cell? w _ hx0)).trans hx0)
      have HEX := Lib.hid ex
      have KM := Lib.hid (fun w => rmissing_any x w)
      have KC := Lib.hid (fun w => rclean_any x w)
      have KS := Lib.hid (fun c A B ca cb w (h1 : c < 18446744073709551616) ha hb => rsame06_any [x] [c] A B ca cb w ha hb (by simp) (by simp))
      have HCL := Lib.hid (clean_lt hxl)
      obtain ⟨c, ec⟩ : ∃ c, cleanF x = c := ⟨_, rfl⟩
      have HEC := Lib.hid ec
      rw [ec] at KC HCL
      have HXL := Lib.hid hxl
      clear ex ec hx0 hxl
      have hx := HXC.out wr HB.out
      have HX0 := Lib.hid (HB.out.trans ((Below.refl wr.heap.size wr).drew.mono HB.out.size))
      cases hna : nanF x with
      | true =>
        rw [hna] at KM
        have HF := Lib.hid (HN.out i hlt (ok_nan HEX.out hna))
        clear hna
        go_upto_region 6 with (fail)
        refine wp_region_held_drew (S := (fun W => W.cell? (ad.add i) = some (.float .f64 x))) (by kernel_rfl) ?_ (fun hS0 => ?_)
        · exact HXC.out _ HX0.out
        refine' wpAnyH_take (i := 0) (v := _) rfl (by kernel_rfl) (by kernel_rfl) (by kernel_rfl) (fun _ _ _ h => h) (Or.inl ⟨by rfl, ?hym1⟩) hS0 ?restm1
        case hym1 => (intro w hSw; (try dsimp only at hSw); go_simp; try with_reducible rfl)
        simp only [Act.put, List.setIfInBounds_toArray, List.set_cons_zero, List.set_cons_succ, List.getElem_toArray, List.getElem_cons_zero, List.getElem_cons_succ]
        refine' wpAnyH_take (i := 1) (v := _) rfl (by kernel_rfl) (by kernel_rfl) (by kernel_rfl) (fun _ _ _ h => h) (Or.inl ⟨by rfl, ?hym2⟩) hS0 ?restm2
        case hym2 => (intro w hSw; (try dsimp only at hSw); go_simp; try with_reducible rfl)
        simp only [Act.put, List.setIfInBounds_toArray, List.set_cons_zero, List.set_cons_succ, List.getElem_toArray, List.getElem_cons_zero, List.getElem_cons_succ]
        refine' wpAnyH_take (i := 2) (v := _) rfl (by kernel_rfl) (by kernel_rfl) (by kernel_rfl) (fun _ _ _ h => h) (Or.inl ⟨by rfl, ?hym3⟩) hS0 ?restm3
        case hym3 => (intro w hSw; (try dsimp only at hSw); go_simp; try with_reducible rfl)
        simp only [Act.put, List.setIfInBounds_toArray, List.set_cons_zero, List.set_cons_succ, List.getElem_toArray, List.getElem_cons_zero, List.getElem_cons_succ]
        refine' wpAnyH_take (i := 3) (v := _) rfl (by kernel_rfl) (by kernel_rfl) (by kernel_rfl) (fun _ _ _ h => h) (Or.inl ⟨by rfl, ?hym4⟩) hS0 ?restm4
        case hym4 => (intro w hSw; (try dsimp only at hSw); go_simp; try with_reducible rfl)
        simp only [Act.put, List.setIfInBounds_toArray, List.set_cons_zero, List.set_cons_succ, List.getElem_toArray, List.getElem_cons_zero, List.getElem_cons_succ]
        refine wpAnyH_ready (rs := [4]) (by kernel_rfl) (by simp) ?_
        refine AllReadyH.cons rfl (fun K hK => ?_) AllReadyH.nil
        go_simp
        refine (KM.out _).mono ?_
        rintro e w1 ⟨rfl, rfl⟩
        refine hK.out _ _ (HXC.out _ HX0.out) (fun hS1 => ?_)
        clear hK K
        refine' wpAnyH_take (i := 5) (v := _) rfl (by kernel_rfl) (by kernel_rfl) (by kernel_rfl) (fun _ _ _ h => h) (Or.inl ⟨by rfl, ?hym5⟩) hS1 ?restm5
        case hym5 => (intro w hSw; (try dsimp only at hSw); go_simp; try with_reducible rfl)
        simp only [Act.put, List.setIfInBounds_toArray, List.set_cons_zero, List.set_cons_succ, List.getElem_toArray, List.getElem_cons_zero, List.getElem_cons_succ]
        refine' wpAnyH_take (i := 6) (v := _) rfl (by kernel_rfl) (by kernel_rfl) (by kernel_rfl) (fun _ _ _ h => h) (Or.inr ⟨by rfl, rfl⟩) hS1 ?restm6
        simp only [Act.put, List.setIfInBounds_toArray, List.set_cons_zero, List.set_cons_succ, List.getElem_toArray, List.getElem_cons_zero, List.getElem_cons_succ]
        refine' wpAnyH_take (i := 7) (v := _) rfl (by kernel_rfl) (by kernel_rfl) (by kernel_rfl) (fun _ _ _ h => h) (Or.inr ⟨by rfl, rfl⟩) hS1 ?restm7
        simp only [Act.put, List.setIfInBounds_toArray, List.set_cons_zero, List.set_cons_succ, List.getElem_toArray, List.getElem_cons_zero, List.getElem_cons_succ]
        refine' wpAnyH_take (i := 8) (v := _) rfl (by kernel_rfl) (by kernel_rfl) (by kernel_rfl) (fun _ _ _ h => h) (Or.inr ⟨by rfl, rfl⟩) hS1 ?restm8
        simp only [Act.put, List.setIfInBounds_toArray, List.set_cons_zero, List.set_cons_succ, List.getElem_toArray, List.getElem_cons_zero, List.getElem_cons_succ]
        refine' wpAnyH_take (i := 9) (v := _) rfl (by kernel_rfl) (by kernel_rfl) (by kernel_rfl) (fun _ _ _ h => h) (Or.inr ⟨by rfl, rfl⟩) hS1 ?restm9
        simp only [Act.put, List.setIfInBounds_toArray, List.set_cons_zero, List.set_cons_succ, List.getElem_toArray, List.getElem_cons_zero, List.getElem_cons_succ]
        refine' wpAnyH_take (i := 10) (v := _) rfl (by kernel_rfl) (by kernel_rfl) (by kernel_rfl) (fun _ _ _ h => h) (Or.inr ⟨by rfl, rfl⟩) hS1 ?restm10
        simp only [Act.put, List.setIfInBounds_toArray, List.set_cons_zero, List.set_cons_succ, List.getElem_toArray, List.getElem_cons_zero, List.getElem_cons_succ]
        refine' wpAnyH_take (i := 11) (v := _) rfl (by kernel_rfl) (by kernel_rfl) (by kernel_rfl) (fun _ _ _ h => h) (Or.inr ⟨by rfl, rfl⟩) hS1 ?restm11
        simp only [Act.put, List.setIfInBounds_toArray, List.set_cons_zero, List.set_cons_succ, List.getElem_toArray, List.getElem_cons_zero, List.getElem_cons_succ]
        refine' wpAnyH_take (i := 12) (v := _) rfl (by kernel_rfl) (by kernel_rfl) (by kernel_rfl) (fun _ _ _ h => h) (Or.inr ⟨by rfl, rfl⟩) hS1 ?restm12
        simp only [Act.put, List.setIfInBounds_toArray, List.set_cons_zero, List.set_cons_succ, List.getElem_toArray, List.getElem_cons_zero, List.getElem_cons_succ]
        refine' wpAnyH_take (i := 13) (v := _) rfl (by kernel_rfl) (by kernel_rfl) (by kernel_rfl) (fun _ _ _ h => h) (Or.inr ⟨by rfl, rfl⟩) hS1 ?restm13
        simp only [Act.put, List.setIfInBounds_toArray, List.set_cons_zero, List.set_cons_succ, List.getElem_toArray, List.getElem_cons_zero, List.getElem_cons_succ]
        refine' wpAnyH_take (i := 14) (v := _) rfl (by kernel_rfl) (by kernel_rfl) (by kernel_rfl) (fun _ _ _ h => h) (Or.inr ⟨by rfl, rfl⟩) hS1 ?restm14
        simp only [Act.put, List.setIfInBounds_toArray, List.set_cons_zero, List.set_cons_succ, List.getElem_toArray, List.getElem_cons_zero, List.getElem_cons_succ]
        refine' wpAnyH_take (i := 15) (v := _) rfl (by kernel_rfl) (by kernel_rfl) (by kernel_rfl) (fun _ _ _ h => h) (Or.inr ⟨by rfl, rfl⟩) hS1 ?restm15
        simp only [Act.put, List.setIfInBounds_toArray, List.set_cons_zero, List.set_cons_succ, List.getElem_toArray, List.getElem_cons_zero, List.getElem_cons_succ]
        refine' wpAnyH_take (i := 16) (v := _) rfl (by kernel_rfl) (by kernel_rfl) (by kernel_rfl) (fun _ _ _ h => h) (Or.inr ⟨by rfl, rfl⟩) hS1 ?restm16
        simp only [Act.put, List.setIfInBounds_toArray, List.set_cons_zero, List.set_cons_succ, List.getElem_toArray, List.getElem_cons_zero, List.getElem_cons_succ]
        refine' wpAnyH_take (i := 17) (v := _) rfl (by kernel_rfl) (by kernel_rfl) (by kernel_rfl) (fun _ _ _ h => h) (Or.inr ⟨by rfl, rfl⟩) hS1 ?restm17
        simp only [Act.put, List.setIfInBounds_toArray, List.set_cons_zero, List.set_cons_succ, List.getElem_toArray, List.getElem_cons_zero, List.getElem_cons_succ]
        refine' wpAnyH_take (i := 18) (v := _) rfl (by kernel_rfl) (by kernel_rfl) (by kernel_rfl) (fun _ _ _ h => h) (Or.inr ⟨by rfl, rfl⟩) hS1 ?restm18
        simp only [Act.put, List.setIfInBounds_toArray, List.set_cons_zero, List.set_cons_succ, List.getElem_toArray, List.getElem_cons_zero, List.getElem_cons_succ]
        refine' wpAnyH_take (i := 19) (v := _) rfl (by kernel_rfl) (by kernel_rfl) (by kernel_rfl) (fun _ _ _ h => h) (Or.inl ⟨by rfl, ?hym19⟩) hS1 ?restm19
        case hym19 => (intro w hSw; (try dsimp only at hSw); go_simp; try with_reducible rfl)
        simp only [Act.put, List.setIfInBounds_toArray, List.set_cons_zero, List.set_cons_succ, List.getElem_toArray, List.getElem_cons_zero, List.getElem_cons_succ]
        refine wpAnyH_done (by kernel_rfl) ?_ _
        go_wp2_with fail
        go_ret
        exact ⟨by rw [HF.out]; rfl, HX0.out⟩
      | false =>
        rw [hna] at KM
        have HNA := Lib.hid hna
        clear hna
        by_cases hc : x = c
        rotate_left
        · have HF := Lib.hid (HN.out i hlt (ok_unclean HEX.out (by rw [HEC.out]; exact hc)))
          have KSX : Hid (∀ A B ca cb w, RF w A [x] → RF w B [c] → Calls Try.prog 64 #[.slice A 1 ca, .slice B 1 cb] w (SaysD (.bool false) w)) := Lib.hid (fun A B ca cb w ha hb => by have := KS.out c A B ca cb w HCL.out ha hb; rw [decide_eq_false (show ¬ [x] = [c] by simpa using hc)] at this; exact this)
          clear KS hc
          go_upto_region 6 with (fail)
          refine wp_region_held_drew (S := (fun W => W.cell? (ad.add i) = some (.float .f64 x))) (by kernel_rfl) ?_ (fun hS0 => ?_)
          · exact HXC.out _ HX0.out
          refine' wpAnyH_take (i := 0) (v := _) rfl (by kernel_rfl) (by kernel_rfl) (by kernel_rfl) (fun _ _ _ h => h) (Or.inl ⟨by rfl, ?hym20⟩) hS0 ?restm20
          case hym20 => (intro w hSw; (try dsimp only at hSw); go_simp; try with_reducible rfl)
          simp only [Act.put, List.setIfInBounds_toArray, List.set_cons_zero, List.set_cons_succ, List.getElem_toArray, List.getElem_cons_zero, List.getElem_cons_succ]
          refine' wpAnyH_take (i := 1) (v := _) rfl (by kernel_rfl) (by kernel_rfl) (by kernel_rfl) (fun _ _ _ h => h) (Or.inl ⟨by rfl, ?hym21⟩) hS0 ?restm21
          case hym21 => (intro w hSw; (try dsimp only at hSw); go_simp; try with_reducible rfl)
          simp only [Act.put, List.setIfInBounds_toArray, List.set_cons_zero, List.set_cons_succ, List.getElem_toArray, List.getElem_cons_zero, List.getElem_cons_succ]
          refine' wpAnyH_take (i := 2) (v := _) rfl (by kernel_rfl) (by kernel_rfl) (by kernel_rfl) (fun _ _ _ h => h) (Or.inl ⟨by rfl, ?hym22⟩) hS0 ?restm22
          case hym22 => (intro w hSw; (try dsimp only at hSw); go_simp; try with_reducible rfl)
          simp only [Act.put, List.setIfInBounds_toArray, List.set_cons_zero, List.set_cons_succ, List.getElem_toArray, List.getElem_cons_zero, List.getElem_cons_succ]
          refine' wpAnyH_take (i := 3) (v := _) rfl (by kernel_rfl) (by kernel_rfl) (by kernel_rfl) (fun _ _ _ h => h) (Or.inl ⟨by rfl, ?hym23⟩) hS0 ?restm23
          case hym23 => (intro w hSw; (try dsimp only at hSw); go_simp; try with_reducible rfl)
          simp only [Act.put, List.setIfInBounds_toArray, List.set_cons_zero, List.set_cons_succ, List.getElem_toArray, List.getElem_cons_zero, List.getElem_cons_succ]
          refine wpAnyH_ready (rs := [4]) (by kernel_rfl) (by simp) ?_
          refine AllReadyH.cons rfl (fun K hK => ?_) AllReadyH.nil
          go_simp
          refine (KM.out _).mono ?_
          rintro e w1 ⟨rfl, rfl⟩
          refine hK.out _ _ (HXC.out _ HX0.out) (fun hS1 => ?_)
          clear hK K
          refine' wpAnyH_take (i := 5) (v := _) rfl (by kernel_rfl) (by kernel_rfl) (by kernel_rfl) (fun _ _ _ h => h) (Or.inl ⟨by rfl, ?hym24⟩) hS1 ?restm24
          case hym24 => (intro w hSw; (try dsimp only at hSw); go_simp; try with_reducible rfl)
          simp only [Act.put, List.setIfInBounds_toArray, List.set_cons_zero, List.set_cons_succ, List.getElem_toArray, List.getElem_cons_zero, List.getElem_cons_succ]
          refine' wpAnyH_take (i := 6) (v := _) rfl (by kernel_rfl) (by kernel_rfl) (by kernel_rfl) (fun _ _ _ h => h) (Or.inl ⟨by rfl, ?hym25⟩) hS1 ?restm25
          case hym25 => (intro w hSw; (try dsimp only at hSw); go_simp; try with_reducible rfl)
          simp only [Act.put, List.setIfInBounds_toArray, List.set_cons_zero, List.set_cons_succ, List.getElem_toArray, List.getElem_cons_zero, List.getElem_cons_succ]
          refine' wpAnyH_take (i := 7) (v := _) rfl (by kernel_rfl) (by kernel_rfl) (by kernel_rfl) (fun _ _ _ h => h) (Or.inl ⟨by rfl, ?hym26⟩) hS1 ?restm26
          case hym26 => (intro w hSw; (try dsimp only at hSw); go_simp; try with_reducible rfl)
          simp only [Act.put, List.setIfInBounds_toArray, List.set_cons_zero, List.set_cons_succ, List.getElem_toArray, List.getElem_cons_zero, List.getElem_cons_succ]
          refine' wpAnyH_take (i := 8) (v := _) rfl (by kernel_rfl) (by kernel_rfl) (by kernel_rfl) (fun _ _ _ h => h) (Or.inl ⟨by rfl, ?hym27⟩) hS1 ?restm27
          case hym27 => (intro w hSw; (try dsimp only at hSw); go_simp; try with_reducible rfl)
          simp only [Act.put, List.setIfInBounds_toArray, List.set_cons_zero, List.set_cons_succ, List.getElem_toArray, List.getElem_cons_zero, List.getElem_cons_succ]
          refine' wpAnyH_take (i := 9) (v := _) rfl (by kernel_rfl) (by kernel_rfl) (by kernel_rfl) (fun _ _ _ h => h) (Or.inl ⟨by rfl, ?hym28⟩) hS1 ?restm28
          case hym28 => (intro w hSw; (try dsimp only at hSw); go_simp; try with_reducible rfl)
          simp only [Act.put, List.setIfInBounds_toArray, List.set_cons_zero, List.set_cons_succ, List.getElem_toArray, List.getElem_cons_zero, List.getElem_cons_succ]
          refine' wpAnyH_take (i := 11) (v := _) rfl (by kernel_rfl) (by kernel_rfl) (by kernel_rfl) (fun _ _ _ h => h) (Or.inl ⟨by rfl, ?hym29⟩) hS1 ?restm29
          case hym29 => (intro w hSw; (try dsimp only at hSw); go_simp; try with_reducible rfl)
          simp only [Act.put, List.setIfInBounds_toArray, List.set_cons_zero, List.set_cons_succ, List.getElem_toArray, List.getElem_cons_zero, List.getElem_cons_succ]
          refine' wpAnyH_take (i := 12) (v := _) rfl (by kernel_rfl) (by kernel_rfl) (by kernel_rfl) (fun _ _ _ h => h) (Or.inl ⟨by rfl, ?hym30⟩) hS1 ?restm30
          case hym30 => (intro w hSw; (try dsimp only at hSw); go_simp; try with_reducible rfl)
          simp only [Act.put, List.setIfInBounds_toArray, List.set_cons_zero, List.set_cons_succ, List.getElem_toArray, List.getElem_cons_zero, List.getElem_cons_succ]
          refine' wpAnyH_take (i := 13) (v := _) rfl (by kernel_rfl) (by kernel_rfl) (by kernel_rfl) (fun _ _ _ h => h) (Or.inl ⟨by rfl, ?hym31⟩) hS1 ?restm31
          case hym31 => (intro w hSw; (try dsimp only at hSw); go_simp; try with_reducible rfl)
          simp only [Act.put, List.setIfInBounds_toArray, List.set_cons_zero, List.set_cons_succ, List.getElem_toArray, List.getElem_cons_zero, List.getElem_cons_succ]
          refine' wpAnyH_take (i := 14) (v := _) rfl (by kernel_rfl) (by kernel_rfl) (by kernel_rfl) (fun _ _ _ h => h) (Or.inl ⟨by rfl, ?hym32⟩) hS1 ?restm32
          case hym32 => (intro w hSw; (try dsimp only at hSw); go_simp; try with_reducible rfl)
          simp only [Act.put, List.setIfInBounds_toArray, List.set_cons_zero, List.set_cons_succ, List.getElem_toArray, List.getElem_cons_zero, List.getElem_cons_succ]
          refine wpAnyH_ready (rs := [10, 15]) (by kernel_rfl) (by simp) ?_
          refine AllReadyH.cons rfl (fun K hK => ?_) (AllReadyH.cons rfl (fun K hK => ?_) AllReadyH.nil)
          · have hbb := (Below.refl (wr.drew).heap.size (wr.drew)).alloc (Nat.le_refl _) (.cells #[.float .f64 x] 139)
            have HX1 := Lib.hid (HX0.out.trans (hbb.mono HX0.out.size))
            have HB1 := Lib.hid (Blk.new (wr.drew) #[.float .f64 x] 139)
            have HBBHX1 := Lib.hid hbb
            clear hbb
            go_simp
            refine hK.out _ _ (HXC.out _ HX1.out) (fun hS2 => ?_)
            clear hK K
            refine wpAnyH_ready (rs := [15]) (by kernel_rfl) (by simp) ?_
            refine AllReadyH.cons rfl (fun K hK => ?_) AllReadyH.nil
            go_simp
            refine (KC.out _).mono ?_
            rintro e w2 ⟨rfl, rfl⟩
            refine hK.out _ _ (HXC.out _ HX1.out) (fun hS3 => ?_)
            clear hK K
            refine wpAnyH_ready (rs := [16]) (by kernel_rfl) (by simp) ?_
            refine AllReadyH.cons rfl (fun K hK => ?_) AllReadyH.nil
            have hbb := (Below.refl ((wr.drew.alloc (.cells #[.float .f64 x] 139))).heap.size ((wr.drew.alloc (.cells #[.float .f64 x] 139)))).alloc (Nat.le_refl _) (.cells #[.float .f64 c] 139)
            have HX2 := Lib.hid (HX1.out.trans (hbb.mono HX1.out.size))
            have HB2 := Lib.hid (Blk.new ((wr.drew.alloc (.cells #[.float .f64 x] 139))) #[.float .f64 c] 139)
            have HBBHX2 := Lib.hid hbb
            clear hbb
            go_simp
            refine hK.out _ _ (HXC.out _ HX2.out) (fun hS4 => ?_)
            clear hK K
            refine wpAnyH_ready (rs := [17]) (by kernel_rfl) (by simp) ?_
            refine AllReadyH.cons rfl (fun K hK => ?_) AllReadyH.nil
            have k1 := (Blk.new wr #[.float .f64 x] 139).below ((Below.refl _ (wr.alloc (.cells #[.float .f64 x] 139))).alloc (Nat.le_refl _) (.cells #[.float .f64 c] 139))
            have k2 := Blk.new (wr.alloc (.cells #[.float .f64 x] 139)) #[.float .f64 c] 139
            rw [World.size_alloc] at k2
            have HF1 : RF ((wr.alloc (.cells #[.float .f64 x] 139)).alloc (.cells #[.float .f64 c] 139)).drew (some ⟨wr.heap.size, 0, none⟩) _ := rf_one (show Blk ((wr.alloc (.cells #[.float .f64 x] 139)).alloc (.cells #[.float .f64 c] 139)).drew _ _ _ from k1) HXL.out
            have HF2 : RF ((wr.alloc (.cells #[.float .f64 x] 139)).alloc (.cells #[.float .f64 c] 139)).drew (some ⟨wr.heap.size + 1, 0, none⟩) _ := rf_one (show Blk ((wr.alloc (.cells #[.float .f64 x] 139)).alloc (.cells #[.float .f64 c] 139)).drew _ _ _ from k2) HCL.out
            clear k1 k2
            go_simp
            refine (KSX.out _ _ _ _ _ HF1 HF2).mono ?_
            rintro e w5 ⟨rfl, dn, rfl⟩
            have HX5 : Hid (Below w.heap.size w (World.drewN (((wr.alloc (.cells #[.float .f64 x] 139)).alloc (.cells #[.float .f64 c] 139)).drew) dn)) := Lib.hid (HX2.out.trans ⟨rfl, rfl, rfl, Nat.le_refl _, fun _ _ => rfl⟩)
            refine hK.out _ _ (HXC.out _ HX5.out) (fun hS5 => ?_)
            clear hK K
            refine' wpAnyH_take (i := 18) (v := _) rfl (by kernel_rfl) (by kernel_rfl) (by kernel_rfl) (fun _ _ _ h => h) (Or.inl ⟨by rfl, ?hym33⟩) hS5 ?restm33
            case hym33 => (intro w hSw; (try dsimp only at hSw); go_simp; try with_reducible rfl)
            simp only [Act.put, List.setIfInBounds_toArray, List.set_cons_zero, List.set_cons_succ, List.getElem_toArray, List.getElem_cons_zero, List.getElem_cons_succ]
            refine' wpAnyH_take (i := 19) (v := _) rfl (by kernel_rfl) (by kernel_rfl) (by kernel_rfl) (fun _ _ _ h => h) (Or.inl ⟨by rfl, ?hym34⟩) hS5 ?restm34
            case hym34 => (intro w hSw; (try dsimp only at hSw); go_simp; try with_reducible rfl)
            simp only [Act.put, List.setIfInBounds_toArray, List.set_cons_zero, List.set_cons_succ, List.getElem_toArray, List.getElem_cons_zero, List.getElem_cons_succ]
            refine wpAnyH_done (by kernel_rfl) ?_ _
            go_wp2_with fail
            go_ret
            exact ⟨by rw [HF.out]; rfl, HX5.out⟩
          · go_simp
            refine (KC.out _).mono ?_
            rintro e w2 ⟨rfl, rfl⟩
            refine hK.out _ _ (HXC.out _ HX0.out) (fun hS2 => ?_)
            clear hK K
            refine wpAnyH_ready (rs := [10, 16]) (by kernel_rfl) (by simp) ?_
            refine AllReadyH.cons rfl (fun K hK => ?_) (AllReadyH.cons rfl (fun K hK => ?_) AllReadyH.nil)
            · have hbb := (Below.refl (wr.drew).heap.size (wr.drew)).alloc (Nat.le_refl _) (.cells #[.float .f64 x] 139)
              have HX1 := Lib.hid (HX0.out.trans (hbb.mono HX0.out.size))
              have HB1 := Lib.hid (Blk.new (wr.drew) #[.float .f64 x] 139)
              have HBBHX1 := Lib.hid hbb
              clear hbb
              go_simp
              refine hK.out _ _ (HXC.out _ HX1.out) (fun hS3 => ?_)
              clear hK K
              refine wpAnyH_ready (rs := [16]) (by kernel_rfl) (by simp) ?_
              refine AllReadyH.cons rfl (fun K hK => ?_) AllReadyH.nil
              have hbb := (Below.refl ((wr.drew.alloc (.cells #[.float .f64 x] 139))).heap.size ((wr.drew.alloc (.cells #[.float .f64 x] 139)))).alloc (Nat.le_refl _) (.cells #[.float .f64 c] 139)
              have HX2 := Lib.hid (HX1.out.trans (hbb.mono HX1.out.size))
              have HB2 := Lib.hid (Blk.new ((wr.drew.alloc (.cells #[.float .f64 x] 139))) #[.float .f64 c] 139)
              have HBBHX2 := Lib.hid hbb
              clear hbb
              go_simp
              refine hK.out _ _ (HXC.out _ HX2.out) (fun hS4 => ?_)
              clear hK K
              refine wpAnyH_ready (rs := [17]) (by kernel_rfl) (by simp) ?_
              refine AllReadyH.cons rfl (fun K hK => ?_) AllReadyH.nil
              have k1 := (Blk.new wr #[.float .f64 x] 139).below ((Below.refl _ (wr.alloc (.cells #[.float .f64 x] 139))).alloc (Nat.le_refl _) (.cells #[.float .f64 c] 139))
              have k2 := Blk.new (wr.alloc (.cells #[.float .f64 x] 139)) #[.float .f64 c] 139
              rw [World.size_alloc] at k2
              have HF1 : RF ((wr.alloc (.cells #[.float .f64 x] 139)).alloc (.cells #[.float .f64 c] 139)).drew (some ⟨wr.heap.size, 0, none⟩) _ := rf_one (show Blk ((wr.alloc (.cells #[.float .f64 x] 139)).alloc (.cells #[.float .f64 c] 139)).drew _ _ _ from k1) HXL.out
              have HF2 : RF ((wr.alloc (.cells #[.float .f64 x] 139)).alloc (.cells #[.float .f64 c] 139)).drew (some ⟨wr.heap.size + 1, 0, none⟩) _ := rf_one (show Blk ((wr.alloc (.cells #[.float .f64 x] 139)).alloc (.cells #[.float .f64 c] 139)).drew _ _ _ from k2) HCL.out
              clear k1 k2
              go_simp
              refine (KSX.out _ _ _ _ _ HF1 HF2).mono ?_
              rintro e w5 ⟨rfl, dn, rfl⟩
              have HX5 : Hid (Below w.heap.size w (World.drewN (((wr.alloc (.cells #[.float .f64 x] 139)).alloc (.cells #[.float .f64 c] 139)).drew) dn)) := Lib.hid (HX2.out.trans ⟨rfl, rfl, rfl, Nat.le_refl _, fun _ _ => rfl⟩)
              refine hK.out _ _ (HXC.out _ HX5.out) (fun hS5 => ?_)
              clear hK K
              refine' wpAnyH_take (i := 18) (v := _) rfl (by kernel_rfl) (by kernel_rfl) (by kernel_rfl) (fun _ _ _ h => h) (Or.inl ⟨by rfl, ?hym35⟩) hS5 ?restm35
              case hym35 => (intro w hSw; (try dsimp only at hSw); go_simp; try with_reducible rfl)
              simp only [Act.put, List.setIfInBounds_toArray, List.set_cons_zero, List.set_cons_succ, List.getElem_toArray, List.getElem_cons_zero, List.getElem_cons_succ]
              refine' wpAnyH_take (i := 19) (v := _) rfl (by kernel_rfl) (by kernel_rfl) (by kernel_rfl) (fun _ _ _ h => h) (Or.inl ⟨by rfl, ?hym36⟩) hS5 ?restm36
              case hym36 => (intro w hSw; (try dsimp only at hSw); go_simp; try with_reducible rfl)
              simp only [Act.put, List.setIfInBounds_toArray, List.set_cons_zero, List.set_cons_succ, List.getElem_toArray, List.getElem_cons_zero, List.getElem_cons_succ]
              refine wpAnyH_done (by kernel_rfl) ?_ _
              go_wp2_with fail
              go_ret
              exact ⟨by rw [HF.out]; rfl, HX5.out⟩
            · have hbb := (Below.refl (wr.drew).heap.size (wr.drew)).alloc (Nat.le_refl _) (.cells #[.float .f64 c] 139)
              have HX1 := Lib.hid (HX0.out.trans (hbb.mono HX0.out.size))
              have HB2 := Lib.hid (Blk.new (wr.drew) #[.float .f64 c] 139)
              have HBBHX1 := Lib.hid hbb
              clear hbb
              go_simp
              refine hK.out _ _ (HXC.out _ HX1.out) (fun hS3 => ?_)
              clear hK K
              refine wpAnyH_ready (rs := [10]) (by kernel_rfl) (by simp) ?_
              refine AllReadyH.cons rfl (fun K hK => ?_) AllReadyH.nil
              have hbb := (Below.refl ((wr.drew.alloc (.cells #[.float .f64 c] 139))).heap.size ((wr.drew.alloc (.cells #[.float .f64 c] 139)))).alloc (Nat.le_refl _) (.cells #[.float .f64 x] 139)
              have HX2 := Lib.hid (HX1.out.trans (hbb.mono HX1.out.size))
              have HB1 := Lib.hid (Blk.new ((wr.drew.alloc (.cells #[.float .f64 c] 139))) #[.float .f64 x] 139)
              have HBBHX2 := Lib.hid hbb
              clear hbb
              go_simp
              refine hK.out _ _ (HXC.out _ HX2.out) (fun hS4 => ?_)
              clear hK K
              refine wpAnyH_ready (rs := [17]) (by kernel_rfl) (by simp) ?_
              refine AllReadyH.cons rfl (fun K hK => ?_) AllReadyH.nil
              have k1 := (Blk.new wr #[.float .f64 c] 139).below ((Below.refl _ (wr.alloc (.cells #[.float .f64 c] 139))).alloc (Nat.le_refl _) (.cells #[.float .f64 x] 139))
              have k2 := Blk.new (wr.alloc (.cells #[.float .f64 c] 139)) #[.float .f64 x] 139
              rw [World.size_alloc] at k2
              have HF2 : RF ((wr.alloc (.cells #[.float .f64 c] 139)).alloc (.cells #[.float .f64 x] 139)).drew (some ⟨wr.heap.size, 0, none⟩) _ := rf_one (show Blk ((wr.alloc (.cells #[.float .f64 c] 139)).alloc (.cells #[.float .f64 x] 139)).drew _ _ _ from k1) HCL.out
              have HF1 : RF ((wr.alloc (.cells #[.float .f64 c] 139)).alloc (.cells #[.float .f64 x] 139)).drew (some ⟨wr.heap.size + 1, 0, none⟩) _ := rf_one (show Blk ((wr.alloc (.cells #[.float .f64 c] 139)).alloc (.cells #[.float .f64 x] 139)).drew _ _ _ from k2) HXL.out
              clear k1 k2
              go_simp
              refine (KSX.out _ _ _ _ _ HF1 HF2).mono ?_
              rintro e w5 ⟨rfl, dn, rfl⟩
              have HX5 : Hid (Below w.heap.size w (World.drewN (((wr.alloc (.cells #[.float .f64 c] 139)).alloc (.cells #[.float .f64 x] 139)).drew) dn)) := Lib.hid (HX2.out.trans ⟨rfl, rfl, rfl, Nat.le_refl _, fun _ _ => rfl⟩)
              refine hK.out _ _ (HXC.out _ HX5.out) (fun hS5 => ?_)
              clear hK K
              refine' wpAnyH_take (i := 18) (v := _) rfl (by kernel_rfl) (by kernel_rfl) (by kernel_rfl) (fun _ _ _ h => h) (Or.inl ⟨by rfl, ?hym37⟩) hS5 ?restm37
              case hym37 => (intro w hSw; (try dsimp only at hSw); go_simp; try with_reducible rfl)
              simp only [Act.put, List.setIfInBounds_toArray, List.set_cons_zero, List.set_cons_succ, List.getElem_toArray, List.getElem_cons_zero, List.getElem_cons_succ]
              refine' wpAnyH_take (i := 19) (v := _) rfl (by kernel_rfl) (by kernel_rfl) (by kernel_rfl) (fun _ _ _ h => h) (Or.inl ⟨by rfl, ?hym38⟩) hS5 ?restm38
              case hym38 => (intro w hSw; (try dsimp only at hSw); go_simp; try with_reducible rfl)
              simp only [Act.put, List.setIfInBounds_toArray, List.set_cons_zero, List.set_cons_succ, List.getElem_toArray, List.getElem_cons_zero, List.getElem_cons_succ]
              refine wpAnyH_done (by kernel_rfl) ?_ _
              go_wp2_with fail
              go_ret
              exact ⟨by rw [HF.out]; rfl, HX5.out⟩
        have KSX : Hid (∀ A B ca cb w, RF w A [x] → RF w B [c] → Calls Try.prog 64 #[.slice A 1 ca, .slice B 1 cb] w (SaysD (.bool true) w)) := Lib.hid (fun A B ca cb w ha hb => by have := KS.out c A B ca cb w HCL.out ha hb; rw [decide_eq_true (show [x] = [c] by rw [hc])] at this; exact this)
        have HXE := Lib.hid hc
        clear KS hc
        by_cases h0 : i = 0
        · have HO : Hid (okE l i = true) := Lib.hid (by have h := HEX.out; rw [h0] at h ⊢; exact ok_zero h HNA.out (HXE.out.trans HEC.out.symm))
          have d0 : decide ((0 : Int) < (i : Int)) = false := decide_eq_false (by omega)
          have d0' : decide (0 < i) = false := decide_eq_false (by omega)
          clear h0
          go_upto_region 6 with (fail)
          refine wp_region_held_drew (S := (fun W => W.cell? (ad.add i) = some (.float .f64 x))) (by kernel_rfl) ?_ (fun hS0 => ?_)
          · exact HXC.out _ HX0.out
          refine' wpAnyH_take (i := 0) (v := _) rfl (by kernel_rfl) (by kernel_rfl) (by kernel_rfl) (fun _ _ _ h => h) (Or.inl ⟨by rfl, ?hym77⟩) hS0 ?restm77
          case hym77 => (intro w hSw; (try dsimp only at hSw); go_simp; try with_reducible rfl)
          simp only [Act.put, List.setIfInBounds_toArray, List.set_cons_zero, List.set_cons_succ, List.getElem_toArray, List.getElem_cons_zero, List.getElem_cons_succ]
          refine' wpAnyH_take (i := 1) (v := _) rfl (by kernel_rfl) (by kernel_rfl) (by kernel_rfl) (fun _ _ _ h => h) (Or.inl ⟨by rfl, ?hym78⟩) hS0 ?restm78
          case hym78 => (intro w hSw; (try dsimp only at hSw); go_simp; try with_reducible rfl)
          simp only [Act.put, List.setIfInBounds_toArray, List.set_cons_zero, List.set_cons_succ, List.getElem_toArray, List.getElem_cons_zero, List.getElem_cons_succ]
          refine' wpAnyH_take (i := 2) (v := _) rfl (by kernel_rfl) (by kernel_rfl) (by kernel_rfl) (fun _ _ _ h => h) (Or.inl ⟨by rfl, ?hym79⟩) hS0 ?restm79
          case hym79 => (intro w hSw; (try dsimp only at hSw); go_simp; try with_reducible rfl)
          simp only [Act.put, List.setIfInBounds_toArray, List.set_cons_zero, List.set_cons_succ, List.getElem_toArray, List.getElem_cons_zero, List.getElem_cons_succ]
          refine' wpAnyH_take (i := 3) (v := _) rfl (by kernel_rfl) (by kernel_rfl) (by kernel_rfl) (fun _ _ _ h => h) (Or.inl ⟨by rfl, ?hym80⟩) hS0 ?restm80
          case hym80 => (intro w hSw; (try dsimp only at hSw); go_simp; try with_reducible rfl)
          simp only [Act.put, List.setIfInBounds_toArray, List.set_cons_zero, List.set_cons_succ, List.getElem_toArray, List.getElem_cons_zero, List.getElem_cons_succ]
          refine wpAnyH_ready (rs := [4]) (by kernel_rfl) (by simp) ?_
          refine AllReadyH.cons rfl (fun K hK => ?_) AllReadyH.nil
          go_simp
          refine (KM.out _).mono ?_
          rintro e w1 ⟨rfl, rfl⟩
          refine hK.out _ _ (HXC.out _ HX0.out) (fun hS1 => ?_)
          clear hK K
          refine' wpAnyH_take (i := 5) (v := _) rfl (by kernel_rfl) (by kernel_rfl) (by kernel_rfl) (fun _ _ _ h => h) (Or.inl ⟨by rfl, ?hym81⟩) hS1 ?restm81
          case hym81 => (intro w hSw; (try dsimp only at hSw); go_simp; try with_reducible rfl)
          simp only [Act.put, List.setIfInBounds_toArray, List.set_cons_zero, List.set_cons_succ, List.getElem_toArray, List.getElem_cons_zero, List.getElem_cons_succ]
          refine' wpAnyH_take (i := 6) (v := _) rfl (by kernel_rfl) (by kernel_rfl) (by kernel_rfl) (fun _ _ _ h => h) (Or.inl ⟨by rfl, ?hym82⟩) hS1 ?restm82
          case hym82 => (intro w hSw; (try dsimp only at hSw); go_simp; try with_reducible rfl)
          simp only [Act.put, List.setIfInBounds_toArray, List.set_cons_zero, List.set_cons_succ, List.getElem_toArray, List.getElem_cons_zero, List.getElem_cons_succ]
          refine' wpAnyH_take (i := 7) (v := _) rfl (by kernel_rfl) (by kernel_rfl) (by kernel_rfl) (fun _ _ _ h => h) (Or.inl ⟨by rfl, ?hym83⟩) hS1 ?restm83
          case hym83 => (intro w hSw; (try dsimp only at hSw); go_simp; try with_reducible rfl)
          simp only [Act.put, List.setIfInBounds_toArray, List.set_cons_zero, List.set_cons_succ, List.getElem_toArray, List.getElem_cons_zero, List.getElem_cons_succ]
          refine' wpAnyH_take (i := 8) (v := _) rfl (by kernel_rfl) (by kernel_rfl) (by kernel_rfl) (fun _ _ _ h => h) (Or.inl ⟨by rfl, ?hym84⟩) hS1 ?restm84
          case hym84 => (intro w hSw; (try dsimp only at hSw); go_simp; try with_reducible rfl)
          simp only [Act.put, List.setIfInBounds_toArray, List.set_cons_zero, List.set_cons_succ, List.getElem_toArray, List.getElem_cons_zero, List.getElem_cons_succ]
          refine' wpAnyH_take (i := 9) (v := _) rfl (by kernel_rfl) (by kernel_rfl) (by kernel_rfl) (fun _ _ _ h => h) (Or.inl ⟨by rfl, ?hym85⟩) hS1 ?restm85
          case hym85 => (intro w hSw; (try dsimp only at hSw); go_simp; try with_reducible rfl)
          simp only [Act.put, List.setIfInBounds_toArray, List.set_cons_zero, List.set_cons_succ, List.getElem_toArray, List.getElem_cons_zero, List.getElem_cons_succ]
          refine' wpAnyH_take (i := 11) (v := _) rfl (by kernel_rfl) (by kernel_rfl) (by kernel_rfl) (fun _ _ _ h => h) (Or.inl ⟨by rfl, ?hym86⟩) hS1 ?restm86
          case hym86 => (intro w hSw; (try dsimp only at hSw); go_simp; try with_reducible rfl)
          simp only [Act.put, List.setIfInBounds_toArray, List.set_cons_zero, List.set_cons_succ, List.getElem_toArray, List.getElem_cons_zero, List.getElem_cons_succ]
          refine' wpAnyH_take (i := 12) (v := _) rfl (by kernel_rfl) (by kernel_rfl) (by kernel_rfl) (fun _ _ _ h => h) (Or.inl ⟨by rfl, ?hym87⟩) hS1 ?restm87
          case hym87 => (intro w hSw; (try dsimp only at hSw); go_simp; try with_reducible rfl)
          simp only [Act.put, List.setIfInBounds_toArray, List.set_cons_zero, List.set_cons_succ, List.getElem_toArray, List.getElem_cons_zero, List.getElem_cons_succ]
          refine' wpAnyH_take (i := 13) (v := _) rfl (by kernel_rfl) (by kernel_rfl) (by kernel_rfl) (fun _ _ _ h => h) (Or.inl ⟨by rfl, ?hym88⟩) hS1 ?restm88
          case hym88 => (intro w hSw; (try dsimp only at hSw); go_simp; try with_reducible rfl)
          simp only [Act.put, List.setIfInBounds_toArray, List.set_cons_zero, List.set_cons_succ, List.getElem_toArray, List.getElem_cons_zero, List.getElem_cons_succ]
          refine' wpAnyH_take (i := 14) (v := _) rfl (by kernel_rfl) (by kernel_rfl) (by kernel_rfl) (fun _ _ _ h => h) (Or.inl ⟨by rfl, ?hym89⟩) hS1 ?restm89
          case hym89 => (intro w hSw; (try dsimp only at hSw); go_simp; try with_reducible rfl)
          simp only [Act.put, List.setIfInBounds_toArray, List.set_cons_zero, List.set_cons_succ, List.getElem_toArray, List.getElem_cons_zero, List.getElem_cons_succ]
          refine wpAnyH_ready (rs := [10, 15]) (by kernel_rfl) (by simp) ?_
          refine AllReadyH.cons rfl (fun K hK => ?_) (AllReadyH.cons rfl (fun K hK => ?_) AllReadyH.nil)
          · have hbb := (Below.refl (wr.drew).heap.size (wr.drew)).alloc (Nat.le_refl _) (.cells #[.float .f64 x] 139)
            have HX1 := Lib.hid (HX0.out.trans (hbb.mono HX0.out.size))
            have HB1 := Lib.hid (Blk.new (wr.drew) #[.float .f64 x] 139)
            have HBBHX1 := Lib.hid hbb
            clear hbb
            go_simp
            refine hK.out _ _ (HXC.out _ HX1.out) (fun hS2 => ?_)
            clear hK K
            refine wpAnyH_ready (rs := [15]) (by kernel_rfl) (by simp) ?_
            refine AllReadyH.cons rfl (fun K hK => ?_) AllReadyH.nil
            go_simp
            refine (KC.out _).mono ?_
            rintro e w2 ⟨rfl, rfl⟩
            refine hK.out _ _ (HXC.out _ HX1.out) (fun hS3 => ?_)
            clear hK K
            refine wpAnyH_ready (rs := [16]) (by kernel_rfl) (by simp) ?_
            refine AllReadyH.cons rfl (fun K hK => ?_) AllReadyH.nil
            have hbb := (Below.refl ((wr.drew.alloc (.cells #[.float .f64 x] 139))).heap.size ((wr.drew.alloc (.cells #[.float .f64 x] 139)))).alloc (Nat.le_refl _) (.cells #[.float .f64 c] 139)
            have HX2 := Lib.hid (HX1.out.trans (hbb.mono HX1.out.size))
            have HB2 := Lib.hid (Blk.new ((wr.drew.alloc (.cells #[.float .f64 x] 139))) #[.float .f64 c] 139)
            have HBBHX2 := Lib.hid hbb
            clear hbb
            go_simp
            refine hK.out _ _ (HXC.out _ HX2.out) (fun hS4 => ?_)
            clear hK K
            refine wpAnyH_ready (rs := [17]) (by kernel_rfl) (by simp) ?_
            refine AllReadyH.cons rfl (fun K hK => ?_) AllReadyH.nil
            have k1 := (Blk.new wr #[.float .f64 x] 139).below ((Below.refl _ (wr.alloc (.cells #[.float .f64 x] 139))).alloc (Nat.le_refl _) (.cells #[.float .f64 c] 139))
            have k2 := Blk.new (wr.alloc (.cells #[.float .f64 x] 139)) #[.float .f64 c] 139
            rw [World.size_alloc] at k2
            have HF1 : RF ((wr.alloc (.cells #[.float .f64 x] 139)).alloc (.cells #[.float .f64 c] 139)).drew (some ⟨wr.heap.size, 0, none⟩) _ := rf_one (show Blk ((wr.alloc (.cells #[.float .f64 x] 139)).alloc (.cells #[.float .f64 c] 139)).drew _ _ _ from k1) HXL.out
            have HF2 : RF ((wr.alloc (.cells #[.float .f64 x] 139)).alloc (.cells #[.float .f64 c] 139)).drew (some ⟨wr.heap.size + 1, 0, none⟩) _ := rf_one (show Blk ((wr.alloc (.cells #[.float .f64 x] 139)).alloc (.cells #[.float .f64 c] 139)).drew _ _ _ from k2) HCL.out
            clear k1 k2
            go_simp
            refine (KSX.out _ _ _ _ _ HF1 HF2).mono ?_
            rintro e w5 ⟨rfl, dn, rfl⟩
            have HX5 : Hid (Below w.heap.size w (World.drewN (((wr.alloc (.cells #[.float .f64 x] 139)).alloc (.cells #[.float .f64 c] 139)).drew) dn)) := Lib.hid (HX2.out.trans ⟨rfl, rfl, rfl, Nat.le_refl _, fun _ _ => rfl⟩)
            refine hK.out _ _ (HXC.out _ HX5.out) (fun hS5 => ?_)
            clear hK K
            refine' wpAnyH_take (i := 18) (v := _) rfl (by kernel_rfl) (by kernel_rfl) (by kernel_rfl) (fun _ _ _ h => h) (Or.inl ⟨by rfl, ?hym90⟩) hS5 ?restm90
            case hym90 => (intro w hSw; (try dsimp only at hSw); go_simp; try with_reducible rfl)
            simp only [Act.put, List.setIfInBounds_toArray, List.set_cons_zero, List.set_cons_succ, List.getElem_toArray, List.getElem_cons_zero, List.getElem_cons_succ]
            refine' wpAnyH_take (i := 19) (v := _) rfl (by kernel_rfl) (by kernel_rfl) (by kernel_rfl) (fun _ _ _ h => h) (Or.inl ⟨by rfl, ?hym91⟩) hS5 ?restm91
            case hym91 => (intro w hSw; (try dsimp only at hSw); go_simp; try with_reducible rfl)
            simp only [Act.put, List.setIfInBounds_toArray, List.set_cons_zero, List.set_cons_succ, List.getElem_toArray, List.getElem_cons_zero, List.getElem_cons_succ]
            refine wpAnyH_done (by kernel_rfl) ?_ _
            go_wp2_with fail
            go_quiet (fail)
            go_wp2_with fail
            go_roundw
            case rel => exact ⟨i + 1, hlt, by go_num, Lib.hid (fun q hq => by
              rcases Nat.lt_or_ge q i with h | h
              · exact HI.out q h
              · obtain rfl : q = i := by omega
                exact HO.out), Lib.hid (HX5.out.trans ⟨rfl, rfl, rfl, Nat.le_refl _, fun _ _ => rfl⟩)⟩
            case measure => simp [intOf]; omega
          · go_simp
            refine (KC.out _).mono ?_
            rintro e w2 ⟨rfl, rfl⟩
            refine hK.out _ _ (HXC.out _ HX0.out) (fun hS2 => ?_)
            clear hK K
            refine wpAnyH_ready (rs := [10, 16]) (by kernel_rfl) (by simp) ?_
            refine AllReadyH.cons rfl (fun K hK => ?_) (AllReadyH.cons rfl (fun K hK => ?_) AllReadyH.nil)
            · have hbb := (Below.refl (wr.drew).heap.size (wr.drew)).alloc (Nat.le_refl _) (.cells #[.float .f64 x] 139)
              have HX1 := Lib.hid (HX0.out.trans (hbb.mono HX0.out.size))
              have HB1 := Lib.hid (Blk.new (wr.drew) #[.float .f64 x] 139)
              have HBBHX1 := Lib.hid hbb
              clear hbb
              go_simp
              refine hK.out _ _ (HXC.out _ HX1.out) (fun hS3 => ?_)
              clear hK K
              refine wpAnyH_ready (rs := [16]) (by kernel_rfl) (by simp) ?_
              refine AllReadyH.cons rfl (fun K hK => ?_) AllReadyH.nil
              have hbb := (Below.refl ((wr.drew.alloc (.cells #[.float .f64 x] 139))).heap.size ((wr.drew.alloc (.cells #[.float .f64 x] 139)))).alloc (Nat.le_refl _) (.cells #[.float .f64 c] 139)
              have HX2 := Lib.hid (HX1.out.trans (hbb.mono HX1.out.size))
              have HB2 := Lib.hid (Blk.new ((wr.drew.alloc (.cells #[.float .f64 x] 139))) #[.float .f64 c] 139)
              have HBBHX2 := Lib.hid hbb
              clear hbb
              go_simp
              refine hK.out _ _ (HXC.out _ HX2.out) (fun hS4 => ?_)
              clear hK K
              refine wpAnyH_ready (rs := [17]) (by kernel_rfl) (by simp) ?_
              refine AllReadyH.cons rfl (fun K hK => ?_) AllReadyH.nil
              have k1 := (Blk.new wr #[.float .f64 x] 139).below ((Below.refl _ (wr.alloc (.cells #[.float .f64 x] 139))).alloc (Nat.le_refl _) (.cells #[.float .f64 c] 139))
              have k2 := Blk.new (wr.alloc (.cells #[.float .f64 x] 139)) #[.float .f64 c] 139
              rw [World.size_alloc] at k2
              have HF1 : RF ((wr.alloc (.cells #[.float .f64 x] 139)).alloc (.cells #[.float .f64 c] 139)).drew (some ⟨wr.heap.size, 0, none⟩) _ := rf_one (show Blk ((wr.alloc (.cells #[.float .f64 x] 139)).alloc (.cells #[.float .f64 c] 139)).drew _ _ _ from k1) HXL.out
              have HF2 : RF ((wr.alloc (.cells #[.float .f64 x] 139)).alloc (.cells #[.float .f64 c] 139)).drew (some ⟨wr.heap.size + 1, 0, none⟩) _ := rf_one (show Blk ((wr.alloc (.cells #[.float .f64 x] 139)).alloc (.cells #[.float .f64 c] 139)).drew _ _ _ from k2) HCL.out
              clear k1 k2
              go_simp
              refine (KSX.out _ _ _ _ _ HF1 HF2).mono ?_
              rintro e w5 ⟨rfl, dn, rfl⟩
              have HX5 : Hid (Below w.heap.size w (World.drewN (((wr.alloc (.cells #[.float .f64 x] 139)).alloc (.cells #[.float .f64 c] 139)).drew) dn)) := Lib.hid (HX2.out.trans ⟨rfl, rfl, rfl, Nat.le_refl _, fun _ _ => rfl⟩)
              refine hK.out _ _ (HXC.out _ HX5.out) (fun hS5 => ?_)
              clear hK K
              refine' wpAnyH_take (i := 18) (v := _) rfl (by kernel_rfl) (by kernel_rfl) (by kernel_rfl) (fun _ _ _ h => h) (Or.inl ⟨by rfl, ?hym92⟩) hS5 ?restm92
              case hym92 => (intro w hSw; (try dsimp only at hSw); go_simp; try with_reducible rfl)
              simp only [Act.put, List.setIfInBounds_toArray, List.set_cons_zero, List.set_cons_succ, List.getElem_toArray, List.getElem_cons_zero, List.getElem_cons_succ]
              refine' wpAnyH_take (i := 19) (v := _) rfl (by kernel_rfl) (by kernel_rfl) (by kernel_rfl) (fun _ _ _ h => h) (Or.inl ⟨by rfl, ?hym93⟩) hS5 ?restm93
              case hym93 => (intro w hSw; (try dsimp only at hSw); go_simp; try with_reducible rfl)
              simp only [Act.put, List.setIfInBounds_toArray, List.set_cons_zero, List.set_cons_succ, List.getElem_toArray, List.getElem_cons_zero, List.getElem_cons_succ]
              refine wpAnyH_done (by kernel_rfl) ?_ _
              go_wp2_with fail
              go_quiet (fail)
              go_wp2_with fail
              go_roundw
              case rel => exact ⟨i + 1, hlt, by go_num, Lib.hid (fun q hq => by
                rcases Nat.lt_or_ge q i with h | h
                · exact HI.out q h
                · obtain rfl : q = i := by omega
                  exact HO.out), Lib.hid (HX5.out.trans ⟨rfl, rfl, rfl, Nat.le_refl _, fun _ _ => rfl⟩)⟩
              case measure => simp [intOf]; omega
            · have hbb := (Below.refl (wr.drew).heap.size (wr.drew)).alloc (Nat.le_refl _) (.cells #[.float .f64 c] 139)
              have HX1 := Lib.hid (HX0.out.trans (hbb.mono HX0.out.size))
              have HB2 := Lib.hid (Blk.new (wr.drew) #[.float .f64 c] 139)
              have HBBHX1 := Lib.hid hbb
              clear hbb
              go_simp
              refine hK.out _ _ (HXC.out _ HX1.out) (fun hS3 => ?_)
              clear hK K
              refine wpAnyH_ready (rs := [10]) (by kernel_rfl) (by simp) ?_
              refine AllReadyH.cons rfl (fun K hK => ?_) AllReadyH.nil
              have hbb := (Below.refl ((wr.drew.alloc (.cells #[.float .f64 c] 139))).heap.size ((wr.drew.alloc (.cells #[.float .f64 c] 139)))).alloc (Nat.le_refl _) (.cells #[.float .f64 x] 139)
              have HX2 := Lib.hid (HX1.out.trans (hbb.mono HX1.out.size))
              have HB1 := Lib.hid (Blk.new ((wr.drew.alloc (.cells #[.float .f64 c] 139))) #[.float .f64 x] 139)
              have HBBHX2 := Lib.hid hbb
              clear hbb
              go_simp
              refine hK.out _ _ (HXC.out _ HX2.out) (fun hS4 => ?_)
              clear hK K
              refine wpAnyH_ready (rs := [17]) (by kernel_rfl) (by simp) ?_
              refine AllReadyH.cons rfl (fun K hK => ?_) AllReadyH.nil
              have k1 := (Blk.new wr #[.float .f64 c] 139).below ((Below.refl _ (wr.alloc (.cells #[.float .f64 c] 139))).alloc (Nat.le_refl _) (.cells #[.float .f64 x] 139))
              have k2 := Blk.new (wr.alloc (.cells #[.float .f64 c] 139)) #[.float .f64 x] 139
              rw [World.size_alloc] at k2
              have HF2 : RF ((wr.alloc (.cells #[.float .f64 c] 139)).alloc (.cells #[.float .f64 x] 139)).drew (some ⟨wr.heap.size, 0, none⟩) _ := rf_one (show Blk ((wr.alloc (.cells #[.float .f64 c] 139)).alloc (.cells #[.float .f64 x] 139)).drew _ _ _ from k1) HCL.out
              have HF1 : RF ((wr.alloc (.cells #[.float .f64 c] 139)).alloc (.cells #[.float .f64 x] 139)).drew (some ⟨wr.heap.size + 1, 0, none⟩) _ := rf_one (show Blk ((wr.alloc (.cells #[.float .f64 c] 139)).alloc (.cells #[.float .f64 x] 139)).drew _ _ _ from k2) HXL.out
              clear k1 k2
              go_simp
              refine (KSX.out _ _ _ _ _ HF1 HF2).mono ?_
              rintro e w5 ⟨rfl, dn, rfl⟩
              have HX5 : Hid (Below w.heap.size w (World.drewN (((wr.alloc (.cells #[.float .f64 c] 139)).alloc (.cells #[.float .f64 x] 139)).drew) dn)) := Lib.hid (HX2.out.trans ⟨rfl, rfl, rfl, Nat.le_refl _, fun _ _ => rfl⟩)
              refine hK.out _ _ (HXC.out _ HX5.out) (fun hS5 => ?_)
              clear hK K
              refine' wpAnyH_take (i := 18) (v := _) rfl (by kernel_rfl) (by kernel_rfl) (by kernel_rfl) (fun _ _ _ h => h) (Or.inl ⟨by rfl, ?hym94⟩) hS5 ?restm94
              case hym94 => (intro w hSw; (try dsimp only at hSw); go_simp; try with_reducible rfl)
              simp only [Act.put, List.setIfInBounds_toArray, List.set_cons_zero, List.set_cons_succ, List.getElem_toArray, List.getElem_cons_zero, List.getElem_cons_succ]
              refine' wpAnyH_take (i := 19) (v := _) rfl (by kernel_rfl) (by kernel_rfl) (by kernel_rfl) (fun _ _ _ h => h) (Or.inl ⟨by rfl, ?hym95⟩) hS5 ?restm95
              case hym95 => (intro w hSw; (try dsimp only at hSw); go_simp; try with_reducible rfl)
              simp only [Act.put, List.setIfInBounds_toArray, List.set_cons_zero, List.set_cons_succ, List.getElem_toArray, List.getElem_cons_zero, List.getElem_cons_succ]
              refine wpAnyH_done (by kernel_rfl) ?_ _
              go_wp2_with fail
              go_quiet (fail)
              go_wp2_with fail
              go_roundw
              case rel => exact ⟨i + 1, hlt, by go_num, Lib.hid (fun q hq => by
                rcases Nat.lt_or_ge q i with h | h
                · exact HI.out q h
                · obtain rfl : q = i := by omega
                  exact HO.out), Lib.hid (HX5.out.trans ⟨rfl, rfl, rfl, Nat.le_refl _, fun _ _ => rfl⟩)⟩
              case measure => simp [intOf]; omega
        · obtain ⟨j, hj⟩ : ∃ j, j + 1 = i := ⟨i - 1, by omega⟩
          obtain ⟨ad', e', hy0, hyl⟩ := HR.out.at (i := j) (by rw [HLN.out]; omega)
          cases e'
          obtain ⟨y, ey⟩ : ∃ x, l.getD j 0 = x := ⟨_, rfl⟩
          rw [ey] at hy0 hyl
          have HEY := Lib.hid ey
          have HYC := Lib.hid (fun W (hb : Below w.heap.size w W) => (hb.cell (World.block_lt_of_cell? w _ hy0)).trans hy0)
          have KP := Lib.hid (fun w => rfcmp_any y x hyl HXL.out w)
          obtain ⟨p, ep⟩ : ∃ p, cmpF y x = p := ⟨_, rfl⟩
          rw [ep] at KP
          have HEP := Lib.hid ep
          clear ey ep hyl hy0
          have ws : IntKind.i64.wrap ((i : Int) - 1) = (j : Int) := by rw [IntKind.wrap_i64]; omega
          have ws2 : wrap64 ((i : Int) - 1) = (j : Int) := by unfold wrap64; omega
          have d0 : decide ((0 : Int) < (i : Int)) = true := decide_eq_true (by omega)
          have d0' : decide (0 < i) = true := decide_eq_true (by omega)
          have hjn : (j : Int) < n := by omega
          have HJ := Lib.hid hj
          by_cases hp : p < 0
          · have d1 : decide ((0 : Int) ≤ p) = false := decide_eq_false (by omega)
            have HO := Lib.hid (ok_next HJ.out HEX.out HEY.out HNA.out (HXE.out.trans HEC.out.symm) (by rw [HEP.out]; exact hp))
            clear h0 hj hp
            go_upto_region 6 with (fail)
            refine wp_region_held_drew (S := (fun W => W.cell? (ad.add i) = some (.float .f64 x))) (by kernel_rfl) ?_ (fun hS0 => ?_)
            · exact HXC.out _ HX0.out
            refine' wpAnyH_take (i := 0) (v := _) rfl (by kernel_rfl) (by kernel_rfl) (by kernel_rfl) (fun _ _ _ h => h) (Or.inl ⟨by rfl, ?hym39⟩) hS0 ?restm39
            case hym39 => (intro w hSw; (try dsimp only at hSw); go_simp; try with_reducible rfl)
            simp only [Act.put, List.setIfInBounds_toArray, List.set_cons_zero, List.set_cons_succ, List.getElem_toArray, List.getElem_cons_zero, List.getElem_cons_succ]
            refine' wpAnyH_take (i := 1) (v := _) rfl (by kernel_rfl) (by kernel_rfl) (by kernel_rfl) (fun _ _ _ h => h) (Or.inl ⟨by rfl, ?hym40⟩) hS0 ?restm40
            case hym40 => (intro w hSw; (try dsimp only at hSw); go_simp; try with_reducible rfl)
            simp only [Act.put, List.setIfInBounds_toArray, List.set_cons_zero, List.set_cons_succ, List.getElem_toArray, List.getElem_cons_zero, List.getElem_cons_succ]
            refine' wpAnyH_take (i := 2) (v := _) rfl (by kernel_rfl) (by kernel_rfl) (by kernel_rfl) (fun _ _ _ h => h) (Or.inl ⟨by rfl, ?hym41⟩) hS0 ?restm41
            case hym41 => (intro w hSw; (try dsimp only at hSw); go_simp; try with_reducible rfl)
            simp only [Act.put, List.setIfInBounds_toArray, List.set_cons_zero, List.set_cons_succ, List.getElem_toArray, List.getElem_cons_zero, List.getElem_cons_succ]
            refine' wpAnyH_take (i := 3) (v := _) rfl (by kernel_rfl) (by kernel_rfl) (by kernel_rfl) (fun _ _ _ h => h) (Or.inl ⟨by rfl, ?hym42⟩) hS0 ?restm42
            case hym42 => (intro w hSw; (try dsimp only at hSw); go_simp; try with_reducible rfl)
            simp only [Act.put, List.setIfInBounds_toArray, List.set_cons_zero, List.set_cons_succ, List.getElem_toArray, List.getElem_cons_zero, List.getElem_cons_succ]
            refine wpAnyH_ready (rs := [4]) (by kernel_rfl) (by simp) ?_
            refine AllReadyH.cons rfl (fun K hK => ?_) AllReadyH.nil
            go_simp
            refine (KM.out _).mono ?_
            rintro e w1 ⟨rfl, rfl⟩
            refine hK.out _ _ (HXC.out _ HX0.out) (fun hS1 => ?_)
            clear hK K
            refine' wpAnyH_take (i := 5) (v := _) rfl (by kernel_rfl) (by kernel_rfl) (by kernel_rfl) (fun _ _ _ h => h) (Or.inl ⟨by rfl, ?hym43⟩) hS1 ?restm43
            case hym43 => (intro w hSw; (try dsimp only at hSw); go_simp; try with_reducible rfl)
            simp only [Act.put, List.setIfInBounds_toArray, List.set_cons_zero, List.set_cons_succ, List.getElem_toArray, List.getElem_cons_zero, List.getElem_cons_succ]
            refine' wpAnyH_take (i := 6) (v := _) rfl (by kernel_rfl) (by kernel_rfl) (by kernel_rfl) (fun _ _ _ h => h) (Or.inl ⟨by rfl, ?hym44⟩) hS1 ?restm44
            case hym44 => (intro w hSw; (try dsimp only at hSw); go_simp; try with_reducible rfl)
            simp only [Act.put, List.setIfInBounds_toArray, List.set_cons_zero, List.set_cons_succ, List.getElem_toArray, List.getElem_cons_zero, List.getElem_cons_succ]
            refine' wpAnyH_take (i := 7) (v := _) rfl (by kernel_rfl) (by kernel_rfl) (by kernel_rfl) (fun _ _ _ h => h) (Or.inl ⟨by rfl, ?hym45⟩) hS1 ?restm45
            case hym45 => (intro w hSw; (try dsimp only at hSw); go_simp; try with_reducible rfl)
            simp only [Act.put, List.setIfInBounds_toArray, List.set_cons_zero, List.set_cons_succ, List.getElem_toArray, List.getElem_cons_zero, List.getElem_cons_succ]
            refine' wpAnyH_take (i := 8) (v := _) rfl (by kernel_rfl) (by kernel_rfl) (by kernel_rfl) (fun _ _ _ h => h) (Or.inl ⟨by rfl, ?hym46⟩) hS1 ?restm46
            case hym46 => (intro w hSw; (try dsimp only at hSw); go_simp; try with_reducible rfl)
            simp only [Act.put, List.setIfInBounds_toArray, List.set_cons_zero, List.set_cons_succ, List.getElem_toArray, List.getElem_cons_zero, List.getElem_cons_succ]
            refine' wpAnyH_take (i := 9) (v := _) rfl (by kernel_rfl) (by kernel_rfl) (by kernel_rfl) (fun _ _ _ h => h) (Or.inl ⟨by rfl, ?hym47⟩) hS1 ?restm47
            case hym47 => (intro w hSw; (try dsimp only at hSw); go_simp; try with_reducible rfl)
            simp only [Act.put, List.setIfInBounds_toArray, List.set_cons_zero, List.set_cons_succ, List.getElem_toArray, List.getElem_cons_zero, List.getElem_cons_succ]
            refine' wpAnyH_take (i := 11) (v := _) rfl (by kernel_rfl) (by kernel_rfl) (by kernel_rfl) (fun _ _ _ h => h) (Or.inl ⟨by rfl, ?hym48⟩) hS1 ?restm48
            case hym48 => (intro w hSw; (try dsimp only at hSw); go_simp; try with_reducible rfl)
            simp only [Act.put, List.setIfInBounds_toArray, List.set_cons_zero, List.set_cons_succ, List.getElem_toArray, List.getElem_cons_zero, List.getElem_cons_succ]
            refine' wpAnyH_take (i := 12) (v := _) rfl (by kernel_rfl) (by kernel_rfl) (by kernel_rfl) (fun _ _ _ h => h) (Or.inl ⟨by rfl, ?hym49⟩) hS1 ?restm49
            case hym49 => (intro w hSw; (try dsimp only at hSw); go_simp; try with_reducible rfl)
            simp only [Act.put, List.setIfInBounds_toArray, List.set_cons_zero, List.set_cons_succ, List.getElem_toArray, List.getElem_cons_zero, List.getElem_cons_succ]
            refine' wpAnyH_take (i := 13) (v := _) rfl (by kernel_rfl) (by kernel_rfl) (by kernel_rfl) (fun _ _ _ h => h) (Or.inl ⟨by rfl, ?hym50⟩) hS1 ?restm50
            case hym50 => (intro w hSw; (try dsimp only at hSw); go_simp; try with_reducible rfl)
            simp only [Act.put, List.setIfInBounds_toArray, List.set_cons_zero, List.set_cons_succ, List.getElem_toArray, List.getElem_cons_zero, List.getElem_cons_succ]
            refine' wpAnyH_take (i := 14) (v := _) rfl (by kernel_rfl) (by kernel_rfl) (by kernel_rfl) (fun _ _ _ h => h) (Or.inl ⟨by rfl, ?hym51⟩) hS1 ?restm51
            case hym51 => (intro w hSw; (try dsimp only at hSw); go_simp; try with_reducible rfl)
            simp only [Act.put, List.setIfInBounds_toArray, List.set_cons_zero, List.set_cons_succ, List.getElem_toArray, List.getElem_cons_zero, List.getElem_cons_succ]
            refine wpAnyH_ready (rs := [10, 15]) (by kernel_rfl) (by simp) ?_
            refine AllReadyH.cons rfl (fun K hK => ?_) (AllReadyH.cons rfl (fun K hK => ?_) AllReadyH.nil)
            · have hbb := (Below.refl (wr.drew).heap.size (wr.drew)).alloc (Nat.le_refl _) (.cells #[.float .f64 x] 139)
              have HX1 := Lib.hid (HX0.out.trans (hbb.mono HX0.out.size))
              have HB1 := Lib.hid (Blk.new (wr.drew) #[.float .f64 x] 139)
              have HBBHX1 := Lib.hid hbb
              clear hbb
              go_simp
              refine hK.out _ _ (HXC.out _ HX1.out) (fun hS2 => ?_)
              clear hK K
              refine wpAnyH_ready (rs := [15]) (by kernel_rfl) (by simp) ?_
              refine AllReadyH.cons rfl (fun K hK => ?_) AllReadyH.nil
              go_simp
              refine (KC.out _).mono ?_
              rintro e w2 ⟨rfl, rfl⟩
              refine hK.out _ _ (HXC.out _ HX1.out) (fun hS3 => ?_)
              clear hK K
              refine wpAnyH_ready (rs := [16]) (by kernel_rfl) (by simp) ?_
              refine AllReadyH.cons rfl (fun K hK => ?_) AllReadyH.nil
              have hbb := (Below.refl ((wr.drew.alloc (.cells #[.float .f64 x] 139))).heap.size ((wr.drew.alloc (.cells #[.float .f64 x] 139)))).alloc (Nat.le_refl _) (.cells #[.float .f64 c] 139)
              have HX2 := Lib.hid (HX1.out.trans (hbb.mono HX1.out.size))
              have HB2 := Lib.hid (Blk.new ((wr.drew.alloc (.cells #[.float .f64 x] 139))) #[.float .f64 c] 139)
              have HBBHX2 := Lib.hid hbb
              clear hbb
              go_simp
              refine hK.out _ _ (HXC.out _ HX2.out) (fun hS4 => ?_)
              clear hK K
              refine wpAnyH_ready (rs := [17]) (by kernel_rfl) (by simp) ?_
              refine AllReadyH.cons rfl (fun K hK => ?_) AllReadyH.nil
              have k1 := (Blk.new wr #[.float .f64 x] 139).below ((Below.refl _ (wr.alloc (.cells #[.float .f64 x] 139))).alloc (Nat.le_refl _) (.cells #[.float .f64 c] 139))
              have k2 := Blk.new (wr.alloc (.cells #[.float .f64 x] 139)) #[.float .f64 c] 139
              rw [World.size_alloc] at k2
              have HF1 : RF ((wr.alloc (.cells #[.float .f64 x] 139)).alloc (.cells #[.float .f64 c] 139)).drew (some ⟨wr.heap.size, 0, none⟩) _ := rf_one (show Blk ((wr.alloc (.cells #[.float .f64 x] 139)).alloc (.cells #[.float .f64 c] 139)).drew _ _ _ from k1) HXL.out
              have HF2 : RF ((wr.alloc (.cells #[.float .f64 x] 139)).alloc (.cells #[.float .f64 c] 139)).drew (some ⟨wr.heap.size + 1, 0, none⟩) _ := rf_one (show Blk ((wr.alloc (.cells #[.float .f64 x] 139)).alloc (.cells #[.float .f64 c] 139)).drew _ _ _ from k2) HCL.out
              clear k1 k2
              go_simp
              refine (KSX.out _ _ _ _ _ HF1 HF2).mono ?_
              rintro e w5 ⟨rfl, dn, rfl⟩
              have HX5 : Hid (Below w.heap.size w (World.drewN (((wr.alloc (.cells #[.float .f64 x] 139)).alloc (.cells #[.float .f64 c] 139)).drew) dn)) := Lib.hid (HX2.out.trans ⟨rfl, rfl, rfl, Nat.le_refl _, fun _ _ => rfl⟩)
              refine hK.out _ _ (HXC.out _ HX5.out) (fun hS5 => ?_)
              clear hK K
              refine' wpAnyH_take (i := 18) (v := _) rfl (by kernel_rfl) (by kernel_rfl) (by kernel_rfl) (fun _ _ _ h => h) (Or.inl ⟨by rfl, ?hym52⟩) hS5 ?restm52
              case hym52 => (intro w hSw; (try dsimp only at hSw); go_simp; try with_reducible rfl)
              simp only [Act.put, List.setIfInBounds_toArray, List.set_cons_zero, List.set_cons_succ, List.getElem_toArray, List.getElem_cons_zero, List.getElem_cons_succ]
              refine' wpAnyH_take (i := 19) (v := _) rfl (by kernel_rfl) (by kernel_rfl) (by kernel_rfl) (fun _ _ _ h => h) (Or.inl ⟨by rfl, ?hym53⟩) hS5 ?restm53
              case hym53 => (intro w hSw; (try dsimp only at hSw); go_simp; try with_reducible rfl)
              simp only [Act.put, List.setIfInBounds_toArray, List.set_cons_zero, List.set_cons_succ, List.getElem_toArray, List.getElem_cons_zero, List.getElem_cons_succ]
              refine wpAnyH_done (by kernel_rfl) ?_ _
              go_wp2_with fail
              obtain ⟨W5, hW5⟩ : ∃ W5, World.drewN (((wr.alloc (.cells #[.float .f64 x] 139)).alloc (.cells #[.float .f64 c] 139)).drew) dn = W5 := ⟨_, rfl⟩
              rw [hW5] at HX5 ⊢
              clear hW5
              have hx5 := HXC.out _ HX5.out
              have hy5 := HYC.out _ HX5.out
              go_quiet ((go_at_call 182; exact Calls.quiet_of_same (KP.out _)))
              go_wp2_with fail
              go_roundw
              case rel => exact ⟨i + 1, hlt, by go_num, Lib.hid (fun q hq => by
                rcases Nat.lt_or_ge q i with h | h
                · exact HI.out q h
                · obtain rfl : q = i := by omega
                  exact HO.out), Lib.hid (HX5.out.trans ⟨rfl, rfl, rfl, Nat.le_refl _, fun _ _ => rfl⟩)⟩
              case measure => simp [intOf]; omega
            · go_simp
              refine (KC.out _).mono ?_
              rintro e w2 ⟨rfl, rfl⟩
              refine hK.out _ _ (HXC.out _ HX0.out) (fun hS2 => ?_)
              clear hK K
              refine wpAnyH_ready (rs := [10, 16]) (by kernel_rfl) (by simp) ?_
              refine AllReadyH.cons rfl (fun K hK => ?_) (AllReadyH.cons rfl (fun K hK => ?_) AllReadyH.nil)
              · have hbb := (Below.refl (wr.drew).heap.size (wr.drew)).alloc (Nat.le_refl _) (.cells #[.float .f64 x] 139)
                have HX1 := Lib.hid (HX0.out.trans (hbb.mono HX0.out.size))
                have HB1 := Lib.hid (Blk.new (wr.drew) #[.float .f64 x] 139)
                have HBBHX1 := Lib.hid hbb
                clear hbb
                go_simp
                refine hK.out _ _ (HXC.out _ HX1.out) (fun hS3 => ?_)
                clear hK K
                refine wpAnyH_ready (rs := [16]) (by kernel_rfl) (by simp) ?_
                refine AllReadyH.cons rfl (fun K hK => ?_) AllReadyH.nil
                have hbb := (Below.refl ((wr.drew.alloc (.cells #[.float .f64 x] 139))).heap.size ((wr.drew.alloc (.cells #[.float .f64 x] 139)))).alloc (Nat.le_refl _) (.cells #[.float .f64 c] 139)
                have HX2 := Lib.hid (HX1.out.trans (hbb.mono HX1.out.size))
                have HB2 := Lib.hid (Blk.new ((wr.drew.alloc (.cells #[.float .f64 x] 139))) #[.float .f64 c] 139)
                have HBBHX2 := Lib.hid hbb
                clear hbb
                go_simp
                refine hK.out _ _ (HXC.out _ HX2.out) (fun hS4 => ?_)
                clear hK K
                refine wpAnyH_ready (rs := [17]) (by kernel_rfl) (by simp) ?_
                refine AllReadyH.cons rfl (fun K hK => ?_) AllReadyH.nil
                have k1 := (Blk.new wr #[.float .f64 x] 139).below ((Below.refl _ (wr.alloc (.cells #[.float .f64 x] 139))).alloc (Nat.le_refl _) (.cells #[.float .f64 c] 139))
                have k2 := Blk.new (wr.alloc (.cells #[.float .f64 x] 139)) #[.float .f64 c] 139
                rw [World.size_alloc] at k2
                have HF1 : RF ((wr.alloc (.cells #[.float .f64 x] 139)).alloc (.cells #[.float .f64 c] 139)).drew (some ⟨wr.heap.size, 0, none⟩) _ := rf_one (show Blk ((wr.alloc (.cells #[.float .f64 x] 139)).alloc (.cells #[.float .f64 c] 139)).drew _ _ _ from k1) HXL.out
                have HF2 : RF ((wr.alloc (.cells #[.float .f64 x] 139)).alloc (.cells #[.float .f64 c] 139)).drew (some ⟨wr.heap.size + 1, 0, none⟩) _ := rf_one (show Blk ((wr.alloc (.cells #[.float .f64 x] 139)).alloc (.cells #[.float .f64 c] 139)).drew _ _ _ from k2) HCL.out
                clear k1 k2
                go_simp
                refine (KSX.out _ _ _ _ _ HF1 HF2).mono ?_
                rintro e w5 ⟨rfl, dn, rfl⟩
                have HX5 : Hid (Below w.heap.size w (World.drewN (((wr.alloc (.cells #[.float .f64 x] 139)).alloc (.cells #[.float .f64 c] 139)).drew) dn)) := Lib.hid (HX2.out.trans ⟨rfl, rfl, rfl, Nat.le_refl _, fun _ _ => rfl⟩)
                refine hK.out _ _ (HXC.out _ HX5.out) (fun hS5 => ?_)
                clear hK K
                refine' wpAnyH_take (i := 18) (v := _) rfl (by kernel_rfl) (by kernel_rfl) (by kernel_rfl) (fun _ _ _ h => h) (Or.inl ⟨by rfl, ?hym54⟩) hS5 ?restm54
                case hym54 => (intro w hSw; (try dsimp only at hSw); go_simp; try with_reducible rfl)
                simp only [Act.put, List.setIfInBounds_toArray, List.set_cons_zero, List.set_cons_succ, List.getElem_toArray, List.getElem_cons_zero, List.getElem_cons_succ]
                refine' wpAnyH_take (i := 19) (v := _) rfl (by kernel_rfl) (by kernel_rfl) (by kernel_rfl) (fun _ _ _ h => h) (Or.inl ⟨by rfl, ?hym55⟩) hS5 ?restm55
                case hym55 => (intro w hSw; (try dsimp only at hSw); go_simp; try with_reducible rfl)
                simp only [Act.put, List.setIfInBounds_toArray, List.set_cons_zero, List.set_cons_succ, List.getElem_toArray, List.getElem_cons_zero, List.getElem_cons_succ]
                refine wpAnyH_done (by kernel_rfl) ?_ _
                go_wp2_with fail
                obtain ⟨W5, hW5⟩ : ∃ W5, World.drewN (((wr.alloc (.cells #[.float .f64 x] 139)).alloc (.cells #[.float .f64 c] 139)).drew) dn = W5 := ⟨_, rfl⟩
                rw [hW5] at HX5 ⊢
                clear hW5
                have hx5 := HXC.out _ HX5.out
                have hy5 := HYC.out _ HX5.out
                go_quiet ((go_at_call 182; exact Calls.quiet_of_same (KP.out _)))
                go_wp2_with fail
                go_roundw
                case rel => exact ⟨i + 1, hlt, by go_num, Lib.hid (fun q hq => by
                  rcases Nat.lt_or_ge q i with h | h
                  · exact HI.out q h
                  · obtain rfl : q = i := by omega
                    exact HO.out), Lib.hid (HX5.out.trans ⟨rfl, rfl, rfl, Nat.le_refl _, fun _ _ => rfl⟩)⟩
                case measure => simp [intOf]; omega
              · have hbb := (Below.refl (wr.drew).heap.size (wr.drew)).alloc (Nat.le_refl _) (.cells #[.float .f64 c] 139)
                have HX1 := Lib.hid (HX0.out.trans (hbb.mono HX0.out.size))
                have HB2 := Lib.hid (Blk.new (wr.drew) #[.float .f64 c] 139)
                have HBBHX1 := Lib.hid hbb
                clear hbb
                go_simp
                refine hK.out _ _ (HXC.out _ HX1.out) (fun hS3 => ?_)
                clear hK K
                refine wpAnyH_ready (rs := [10]) (by kernel_rfl) (by simp) ?_
                refine AllReadyH.cons rfl (fun K hK => ?_) AllReadyH.nil
                have hbb := (Below.refl ((wr.drew.alloc (.cells #[.float .f64 c] 139))).heap.size ((wr.drew.alloc (.cells #[.float .f64 c] 139)))).alloc (Nat.le_refl _) (.cells #[.float .f64 x] 139)
                have HX2 := Lib.hid (HX1.out.trans (hbb.mono HX1.out.size))
                have HB1 := Lib.hid (Blk.new ((wr.drew.alloc (.cells #[.float .f64 c] 139))) #[.float .f64 x] 139)
                have HBBHX2 := Lib.hid hbb
                clear hbb
                go_simp
                refine hK.out _ _ (HXC.out _ HX2.out) (fun hS4 => ?_)
                clear hK K
                refine wpAnyH_ready (rs := [17]) (by kernel_rfl) (by simp) ?_
                refine AllReadyH.cons rfl (fun K hK => ?_) AllReadyH.nil
                have k1 := (Blk.new wr #[.float .f64 c] 139).below ((Below.refl _ (wr.alloc (.cells #[.float .f64 c] 139))).alloc (Nat.le_refl _) (.cells #[.float .f64 x] 139))
                have k2 := Blk.new (wr.alloc (.cells #[.float .f64 c] 139)) #[.float .f64 x] 139
                rw [World.size_alloc] at k2
                have HF2 : RF ((wr.alloc (.cells #[.float .f64 c] 139)).alloc (.cells #[.float .f64 x] 139)).drew (some ⟨wr.heap.size, 0, none⟩) _ := rf_one (show Blk ((wr.alloc (.cells #[.float .f64 c] 139)).alloc (.cells #[.float .f64 x] 139)).drew _ _ _ from k1) HCL.out
                have HF1 : RF ((wr.alloc (.cells #[.float .f64 c] 139)).alloc (.cells #[.float .f64 x] 139)).drew (some ⟨wr.heap.size + 1, 0, none⟩) _ := rf_one (show Blk ((wr.alloc (.cells #[.float .f64 c] 139)).alloc (.cells #[.float .f64 x] 139)).drew _ _ _ from k2) HXL.out
                clear k1 k2
                go_simp
                refine (KSX.out _ _ _ _ _ HF1 HF2).mono ?_
                rintro e w5 ⟨rfl, dn, rfl⟩
                have HX5 : Hid (Below w.heap.size w (World.drewN (((wr.alloc (.cells #[.float .f64 c] 139)).alloc (.cells #[.float .f64 x] 139)).drew) dn)) := Lib.hid (HX2.out.trans ⟨rfl, rfl, rfl, Nat.le_refl _, fun _ _ => rfl⟩)
                refine hK.out _ _ (HXC.out _ HX5.out) (fun hS5 => ?_)
                clear hK K
                refine' wpAnyH_take (i := 18) (v := _) rfl (by kernel_rfl) (by kernel_rfl) (by kernel_rfl) (fun _ _ _ h => h) (Or.inl ⟨by rfl, ?hym56⟩) hS5 ?restm56
                case hym56 => (intro w hSw; (try dsimp only at hSw); go_simp; try with_reducible rfl)
                simp only [Act.put, List.setIfInBounds_toArray, List.set_cons_zero, List.set_cons_succ, List.getElem_toArray, List.getElem_cons_zero, List.getElem_cons_succ]
                refine' wpAnyH_take (i := 19) (v := _) rfl (by kernel_rfl) (by kernel_rfl) (by kernel_rfl) (fun _ _ _ h => h) (Or.inl ⟨by rfl, ?hym57⟩) hS5 ?restm57
                case hym57 => (intro w hSw; (try dsimp only at hSw); go_simp; try with_reducible rfl)
                simp only [Act.put, List.setIfInBounds_toArray, List.set_cons_zero, List.set_cons_succ, List.getElem_toArray, List.getElem_cons_zero, List.getElem_cons_succ]
                refine wpAnyH_done (by kernel_rfl) ?_ _
                go_wp2_with fail
                obtain ⟨W5, hW5⟩ : ∃ W5, World.drewN (((wr.alloc (.cells #[.float .f64 c] 139)).alloc (.cells #[.float .f64 x] 139)).drew) dn = W5 := ⟨_, rfl⟩
                rw [hW5] at HX5 ⊢
                clear hW5
                have hx5 := HXC.out _ HX5.out
                have hy5 := HYC.out _ HX5.out
                go_quiet ((go_at_call 182; exact Calls.quiet_of_same (KP.out _)))
                go_wp2_with fail
                go_roundw
                case rel => exact ⟨i + 1, hlt, by go_num, Lib.hid (fun q hq => by
                  rcases Nat.lt_or_ge q i with h | h
                  · exact HI.out q h
                  · obtain rfl : q = i := by omega
                    exact HO.out), Lib.hid (HX5.out.trans ⟨rfl, rfl, rfl, Nat.le_refl _, fun _ _ => rfl⟩)⟩
                case measure => simp [intOf]; omega
          · have d1 : decide ((0 : Int) ≤ p) = true := decide_eq_true (by omega)
            have HF := Lib.hid (HN.out i hlt (ok_cmp HJ.out HEX.out HEY.out (by rw [HEP.out]; exact hp)))
            clear h0 hj hp
            go_upto_region 6 with (fail)
            refine wp_region_held_drew (S := (fun W => W.cell? (ad.add i) = some (.float .f64 x))) (by kernel_rfl) ?_ (fun hS0 => ?_)
            · exact HXC.out _ HX0.out
            refine' wpAnyH_take (i := 0) (v := _) rfl (by kernel_rfl) (by kernel_rfl) (by kernel_rfl) (fun _ _ _ h => h) (Or.inl ⟨by rfl, ?hym58⟩) hS0 ?restm58
            case hym58 => (intro w hSw; (try dsimp only at hSw); go_simp; try with_reducible rfl)
            simp only [Act.put, List.setIfInBounds_toArray, List.set_cons_zero, List.set_cons_succ, List.getElem_toArray, List.getElem_cons_zero, List.getElem_cons_succ]
            refine' wpAnyH_take (i := 1) (v := _) rfl (by kernel_rfl) (by kernel_rfl) (by kernel_rfl) (fun _ _ _ h => h) (Or.inl ⟨by rfl, ?hym59⟩) hS0 ?restm59
            case hym59 => (intro w hSw; (try dsimp only at hSw); go_simp; try with_reducible rfl)
            simp only [Act.put, List.setIfInBounds_toArray, List.set_cons_zero, List.set_cons_succ, List.getElem_toArray, List.getElem_cons_zero, List.getElem_cons_succ]
            refine' wpAnyH_take (i := 2) (v := _) rfl (by kernel_rfl) (by kernel_rfl) (by kernel_rfl) (fun _ _ _ h => h) (Or.inl ⟨by rfl, ?hym60⟩) hS0 ?restm60
            case hym60 => (intro w hSw; (try dsimp only at hSw); go_simp; try with_reducible rfl)
            simp only [Act.put, List.setIfInBounds_toArray, List.set_cons_zero, List.set_cons_succ, List.getElem_toArray, List.getElem_cons_zero, List.getElem_cons_succ]
            refine' wpAnyH_take (i := 3) (v := _) rfl (by kernel_rfl) (by kernel_rfl) (by kernel_rfl) (fun _ _ _ h => h) (Or.inl ⟨by rfl, ?hym61⟩) hS0 ?restm61
            case hym61 => (intro w hSw; (try dsimp only at hSw); go_simp; try with_reducible rfl)
            simp only [Act.put, List.setIfInBounds_toArray, List.set_cons_zero, List.set_cons_succ, List.getElem_toArray, List.getElem_cons_zero, List.getElem_cons_succ]
            refine wpAnyH_ready (rs := [4]) (by kernel_rfl) (by simp) ?_
            refine AllReadyH.cons rfl (fun K hK => ?_) AllReadyH.nil
            go_simp
            refine (KM.out _).mono ?_
            rintro e w1 ⟨rfl, rfl⟩
            refine hK.out _ _ (HXC.out _ HX0.out) (fun hS1 => ?_)
            clear hK K
            refine' wpAnyH_take (i := 5) (v := _) rfl (by kernel_rfl) (by kernel_rfl) (by kernel_rfl) (fun _ _ _ h => h) (Or.inl ⟨by rfl, ?hym62⟩) hS1 ?restm62
            case hym62 => (intro w hSw; (try dsimp only at hSw); go_simp; try with_reducible rfl)
            simp only [Act.put, List.setIfInBounds_toArray, List.set_cons_zero, List.set_cons_succ, List.getElem_toArray, List.getElem_cons_zero, List.getElem_cons_succ]
            refine' wpAnyH_take (i := 6) (v := _) rfl (by kernel_rfl) (by kernel_rfl) (by kernel_rfl) (fun _ _ _ h => h) (Or.inl ⟨by rfl, ?hym63⟩) hS1 ?restm63
            case hym63 => (intro w hSw; (try dsimp only at hSw); go_simp; try with_reducible rfl)
            simp only [Act.put, List.setIfInBounds_toArray, List.set_cons_zero, List.set_cons_succ, List.getElem_toArray, List.getElem_cons_zero, List.getElem_cons_succ]
            refine' wpAnyH_take (i := 7) (v := _) rfl (by kernel_rfl) (by kernel_rfl) (by kernel_rfl) (fun _ _ _ h => h) (Or.inl ⟨by rfl, ?hym64⟩) hS1 ?restm64
            case hym64 => (intro w hSw; (try dsimp only at hSw); go_simp; try with_reducible rfl)
            simp only [Act.put, List.setIfInBounds_toArray, List.set_cons_zero, List.set_cons_succ, List.getElem_toArray, List.getElem_cons_zero, List.getElem_cons_succ]
            refine' wpAnyH_take (i := 8) (v := _) rfl (by kernel_rfl) (by kernel_rfl) (by kernel_rfl) (fun _ _ _ h => h) (Or.inl ⟨by rfl, ?hym65⟩) hS1 ?restm65
            case hym65 => (intro w hSw; (try dsimp only at hSw); go_simp; try with_reducible rfl)
            simp only [Act.put, List.setIfInBounds_toArray, List.set_cons_zero, List.set_cons_succ, List.getElem_toArray, List.getElem_cons_zero, List.getElem_cons_succ]
            refine' wpAnyH_take (i := 9) (v := _) rfl (by kernel_rfl) (by kernel_rfl) (by kernel_rfl) (fun _ _ _ h => h) (Or.inl ⟨by rfl, ?hym66⟩) hS1 ?restm66
            case hym66 => (intro w hSw; (try dsimp only at hSw); go_simp; try with_reducible rfl)
            simp only [Act.put, List.setIfInBounds_toArray, List.set_cons_zero, List.set_cons_succ, List.getElem_toArray, List.getElem_cons_zero, List.getElem_cons_succ]
            refine' wpAnyH_take (i := 11) (v := _) rfl (by kernel_rfl) (by kernel_rfl) (by kernel_rfl) (fun _ _ _ h => h) (Or.inl ⟨by rfl, ?hym67⟩) hS1 ?restm67
            case hym67 => (intro w hSw; (try dsimp only at hSw); go_simp; try with_reducible rfl)
            simp only [Act.put, List.setIfInBounds_toArray, List.set_cons_zero, List.set_cons_succ, List.getElem_toArray, List.getElem_cons_zero, List.getElem_cons_succ]
            refine' wpAnyH_take (i := 12) (v := _) rfl (by kernel_rfl) (by kernel_rfl) (by kernel_rfl) (fun _ _ _ h => h) (Or.inl ⟨by rfl, ?hym68⟩) hS1 ?restm68
            case hym68 => (intro w hSw; (try dsimp only at hSw); go_simp; try with_reducible rfl)
            simp only [Act.put, List.setIfInBounds_toArray, List.set_cons_zero, List.set_cons_succ, List.getElem_toArray, List.getElem_cons_zero, List.getElem_cons_succ]
            refine' wpAnyH_take (i := 13) (v := _) rfl (by kernel_rfl) (by kernel_rfl) (by kernel_rfl) (fun _ _ _ h => h) (Or.inl ⟨by rfl, ?hym69⟩) hS1 ?restm69
            case hym69 => (intro w hSw; (try dsimp only at hSw); go_simp; try with_reducible rfl)
            simp only [Act.put, List.setIfInBounds_toArray, List.set_cons_zero, List.set_cons_succ, List.getElem_toArray, List.getElem_cons_zero, List.getElem_cons_succ]
            refine' wpAnyH_take (i := 14) (v := _) rfl (by kernel_rfl) (by kernel_rfl) (by kernel_rfl) (fun _ _ _ h => h) (Or.inl ⟨by rfl, ?hym70⟩) hS1 ?restm70
            case hym70 => (intro w hSw; (try dsimp only at hSw); go_simp; try with_reducible rfl)
            simp only [Act.put, List.setIfInBounds_toArray, List.set_cons_zero, List.set_cons_succ, List.getElem_toArray, List.getElem_cons_zero, List.getElem_cons_succ]
            refine wpAnyH_ready (rs := [10, 15]) (by kernel_rfl) (by simp) ?_
            refine AllReadyH.cons rfl (fun K hK => ?_) (AllReadyH.cons rfl (fun K hK => ?_) AllReadyH.nil)
            · have hbb := (Below.refl (wr.drew).heap.size (wr.drew)).alloc (Nat.le_refl _) (.cells #[.float .f64 x] 139)
              have HX1 := Lib.hid (HX0.out.trans (hbb.mono HX0.out.size))
              have HB1 := Lib.hid (Blk.new (wr.drew) #[.float .f64 x] 139)
              have HBBHX1 := Lib.hid hbb
              clear hbb
              go_simp
              refine hK.out _ _ (HXC.out _ HX1.out) (fun hS2 => ?_)
              clear hK K
              refine wpAnyH_ready (rs := [15]) (by kernel_rfl) (by simp) ?_
              refine AllReadyH.cons rfl (fun K hK => ?_) AllReadyH.nil
              go_simp
              refine (KC.out _).mono ?_
              rintro e w2 ⟨rfl, rfl⟩
              refine hK.out _ _ (HXC.out _ HX1.out) (fun hS3 => ?_)
              clear hK K
              refine wpAnyH_ready (rs := [16]) (by kernel_rfl) (by simp) ?_
              refine AllReadyH.cons rfl (fun K hK => ?_) AllReadyH.nil
              have hbb := (Below.refl ((wr.drew.alloc (.cells #[.float .f64 x] 139))).heap.size ((wr.drew.alloc (.cells #[.float .f64 x] 139)))).alloc (Nat.le_refl _) (.cells #[.float .f64 c] 139)
              have HX2 := Lib.hid (HX1.out.trans (hbb.mono HX1.out.size))
              have HB2 := Lib.hid (Blk.new ((wr.drew.alloc (.cells #[.float .f64 x] 139))) #[.float .f64 c] 139)
              have HBBHX2 := Lib.hid hbb
              clear hbb
              go_simp
              refine hK.out _ _ (HXC.out _ HX2.out) (fun hS4 => ?_)
              clear hK K
              refine wpAnyH_ready (rs := [17]) (by kernel_rfl) (by simp) ?_
              refine AllReadyH.cons rfl (fun K hK => ?_) AllReadyH.nil
              have k1 := (Blk.new wr #[.float .f64 x] 139).below ((Below.refl _ (wr.alloc (.cells #[.float .f64 x] 139))).alloc (Nat.le_refl _) (.cells #[.float .f64 c] 139))
              have k2 := Blk.new (wr.alloc (.cells #[.float .f64 x] 139)) #[.float .f64 c] 139
              rw [World.size_alloc] at k2
              have HF1 : RF ((wr.alloc (.cells #[.float .f64 x] 139)).alloc (.cells #[.float .f64 c] 139)).drew (some ⟨wr.heap.size, 0, none⟩) _ := rf_one (show Blk ((wr.alloc (.cells #[.float .f64 x] 139)).alloc (.cells #[.float .f64 c] 139)).drew _ _ _ from k1) HXL.out
              have HF2 : RF ((wr.alloc (.cells #[.float .f64 x] 139)).alloc (.cells #[.float .f64 c] 139)).drew (some ⟨wr.heap.size + 1, 0, none⟩) _ := rf_one (show Blk ((wr.alloc (.cells #[.float .f64 x] 139)).alloc (.cells #[.float .f64 c] 139)).drew _ _ _ from k2) HCL.out
              clear k1 k2
              go_simp
              refine (KSX.out _ _ _ _ _ HF1 HF2).mono ?_
              rintro e w5 ⟨rfl, dn, rfl⟩
              have HX5 : Hid (Below w.heap.size w (World.drewN (((wr.alloc (.cells #[.float .f64 x] 139)).alloc (.cells #[.float .f64 c] 139)).drew) dn)) := Lib.hid (HX2.out.trans ⟨rfl, rfl, rfl, Nat.le_refl _, fun _ _ => rfl⟩)
              refine hK.out _ _ (HXC.out _ HX5.out) (fun hS5 => ?_)
              clear hK K
              refine' wpAnyH_take (i := 18) (v := _) rfl (by kernel_rfl) (by kernel_rfl) (by kernel_rfl) (fun _ _ _ h => h) (Or.inl ⟨by rfl, ?hym71⟩) hS5 ?restm71
              case hym71 => (intro w hSw; (try dsimp only at hSw); go_simp; try with_reducible rfl)
              simp only [Act.put, List.setIfInBounds_toArray, List.set_cons_zero, List.set_cons_succ, List.getElem_toArray, List.getElem_cons_zero, List.getElem_cons_succ]
              refine' wpAnyH_take (i := 19) (v := _) rfl (by kernel_rfl) (by kernel_rfl) (by kernel_rfl) (fun _ _ _ h => h) (Or.inl ⟨by rfl, ?hym72⟩) hS5 ?restm72
              case hym72 => (intro w hSw; (try dsimp only at hSw); go_simp; try with_reducible rfl)
              simp only [Act.put, List.setIfInBounds_toArray, List.set_cons_zero, List.set_cons_succ, List.getElem_toArray, List.getElem_cons_zero, List.getElem_cons_succ]
              refine wpAnyH_done (by kernel_rfl) ?_ _
              go_wp2_with fail
              obtain ⟨W5, hW5⟩ : ∃ W5, World.drewN (((wr.alloc (.cells #[.float .f64 x] 139)).alloc (.cells #[.float .f64 c] 139)).drew) dn = W5 := ⟨_, rfl⟩
              rw [hW5] at HX5 ⊢
              clear hW5
              have hx5 := HXC.out _ HX5.out
              have hy5 := HYC.out _ HX5.out
              go_quiet ((go_at_call 182; exact Calls.quiet_of_same (KP.out _)))
              go_wp2_with fail
              go_ret
              exact ⟨by rw [HF.out]; rfl, HX5.out.trans ⟨rfl, rfl, rfl, Nat.le_refl _, fun _ _ => rfl⟩⟩
            · go_simp
              refine (KC.out _).mono ?_
              rintro e w2 ⟨rfl, rfl⟩
              refine hK.out _ _ (HXC.out _ HX0.out) (fun hS2 => ?_)
              clear hK K
              refine wpAnyH_ready (rs := [10, 16]) (by kernel_rfl) (by simp) ?_
              refine AllReadyH.cons rfl (fun K hK => ?_) (AllReadyH.cons rfl (fun K hK => ?_) AllReadyH.nil)
              · have hbb := (Below.refl (wr.drew).heap.size (wr.drew)).alloc (Nat.le_refl _) (.cells #[.float .f64 x] 139)
                have HX1 := Lib.hid (HX0.out.trans (hbb.mono HX0.out.size))
                have HB1 := Lib.hid (Blk.new (wr.drew) #[.float .f64 x] 139)
                have HBBHX1 := Lib.hid hbb
                clear hbb
                go_simp
                refine hK.out _ _ (HXC.out _ HX1.out) (fun hS3 => ?_)
                clear hK K
                refine wpAnyH_ready (rs := [16]) (by kernel_rfl) (by simp) ?_
                refine AllReadyH.cons rfl (fun K hK => ?_) AllReadyH.nil
                have hbb := (Below.refl ((wr.drew.alloc (.cells #[.float .f64 x] 139))).heap.size ((wr.drew.alloc (.cells #[.float .f64 x] 139)))).alloc (Nat.le_refl _) (.cells #[.float .f64 c] 139)
                have HX2 := Lib.hid (HX1.out.trans (hbb.mono HX1.out.size))
                have HB2 := Lib.hid (Blk.new ((wr.drew.alloc (.cells #[.float .f64 x] 139))) #[.float .f64 c] 139)
                have HBBHX2 := Lib.hid hbb
                clear hbb
                go_simp
                refine hK.out _ _ (HXC.out _ HX2.out) (fun hS4 => ?_)
                clear hK K
                refine wpAnyH_ready (rs := [17]) (by kernel_rfl) (by simp) ?_
                refine AllReadyH.cons rfl (fun K hK => ?_) AllReadyH.nil
                have k1 := (Blk.new wr #[.float .f64 x] 139).below ((Below.refl _ (wr.alloc (.cells #[.float .f64 x] 139))).alloc (Nat.le_refl _) (.cells #[.float .f64 c] 139))
                have k2 := Blk.new (wr.alloc (.cells #[.float .f64 x] 139)) #[.float .f64 c] 139
                rw [World.size_alloc] at k2
                have HF1 : RF ((wr.alloc (.cells #[.float .f64 x] 139)).alloc (.cells #[.float .f64 c] 139)).drew (some ⟨wr.heap.size, 0, none⟩) _ := rf_one (show Blk ((wr.alloc (.cells #[.float .f64 x] 139)).alloc (.cells #[.float .f64 c] 139)).drew _ _ _ from k1) HXL.out
                have HF2 : RF ((wr.alloc (.cells #[.float .f64 x] 139)).alloc (.cells #[.float .f64 c] 139)).drew (some ⟨wr.heap.size + 1, 0, none⟩) _ := rf_one (show Blk ((wr.alloc (.cells #[.float .f64 x] 139)).alloc (.cells #[.float .f64 c] 139)).drew _ _ _ from k2) HCL.out
                clear k1 k2
                go_simp
                refine (KSX.out _ _ _ _ _ HF1 HF2).mono ?_
                rintro e w5 ⟨rfl, dn, rfl⟩
                have HX5 : Hid (Below w.heap.size w (World.drewN (((wr.alloc (.cells #[.float .f64 x] 139)).alloc (.cells #[.float .f64 c] 139)).drew) dn)) := Lib.hid (HX2.out.trans ⟨rfl, rfl, rfl, Nat.le_refl _, fun _ _ => rfl⟩)
                refine hK.out _ _ (HXC.out _ HX5.out) (fun hS5 => ?_)
                clear hK K
                refine' wpAnyH_take (i := 18) (v := _) rfl (by kernel_rfl) (by kernel_rfl) (by kernel_rfl) (fun _ _ _ h => h) (Or.inl ⟨by rfl, ?hym73⟩) hS5 ?restm73
                case hym73 => (intro w hSw; (try dsimp only at hSw); go_simp; try with_reducible rfl)
                simp only [Act.put, List.setIfInBounds_toArray, List.set_cons_zero, List.set_cons_succ, List.getElem_toArray, List.getElem_cons_zero, List.getElem_cons_succ]
                refine' wpAnyH_take (i := 19) (v := _) rfl (by kernel_rfl) (by kernel_rfl) (by kernel_rfl) (fun _ _ _ h => h) (Or.inl ⟨by rfl, ?hym74⟩) hS5 ?restm74
                case hym74 => (intro w hSw; (try dsimp only at hSw); go_simp; try with_reducible rfl)
                simp only [Act.put, List.setIfInBounds_toArray, List.set_cons_zero, List.set_cons_succ, List.getElem_toArray, List.getElem_cons_zero, List.getElem_cons_succ]
                refine wpAnyH_done (by kernel_rfl) ?_ _
                go_wp2_with fail
                obtain ⟨W5, hW5⟩ : ∃ W5, World.drewN (((wr.alloc (.cells #[.float .f64 x] 139)).alloc (.cells #[.float .f64 c] 139)).drew) dn = W5 := ⟨_, rfl⟩
                rw [hW5] at HX5 ⊢
                clear hW5
                have hx5 := HXC.out _ HX5.out
                have hy5 := HYC.out _ HX5.out
                go_quiet ((go_at_call 182; exact Calls.quiet_of_same (KP.out _)))
                go_wp2_with fail
                go_ret
                exact ⟨by rw [HF.out]; rfl, HX5.out.trans ⟨rfl, rfl, rfl, Nat.le_refl _, fun _ _ => rfl⟩⟩
              · have hbb := (Below.refl (wr.drew).heap.size (wr.drew)).alloc (Nat.le_refl _) (.cells #[.float .f64 c] 139)
                have HX1 := Lib.hid (HX0.out.trans (hbb.mono HX0.out.size))
                have HB2 := Lib.hid (Blk.new (wr.drew) #[.float .f64 c] 139)
                have HBBHX1 := Lib.hid hbb
                clear hbb
                go_simp
                refine hK.out _ _ (HXC.out _ HX1.out) (fun hS3 => ?_)
                clear hK K
                refine wpAnyH_ready (rs := [10]) (by kernel_rfl) (by simp) ?_
                refine AllReadyH.cons rfl (fun K hK => ?_) AllReadyH.nil
                have hbb := (Below.refl ((wr.drew.alloc (.cells #[.float .f64 c] 139))).heap.size ((wr.drew.alloc (.cells #[.float .f64 c] 139)))).alloc (Nat.le_refl _) (.cells #[.float .f64 x] 139)
                have HX2 := Lib.hid (HX1.out.trans (hbb.mono HX1.out.size))
                have HB1 := Lib.hid (Blk.new ((wr.drew.alloc (.cells #[.float .f64 c] 139))) #[.float .f64 x] 139)
                have HBBHX2 := Lib.hid hbb
                clear hbb
                go_simp
                refine hK.out _ _ (HXC.out _ HX2.out) (fun hS4 => ?_)
                clear hK K
                refine wpAnyH_ready (rs := [17]) (by kernel_rfl) (by simp) ?_
                refine AllReadyH.cons rfl (fun K hK => ?_) AllReadyH.nil
                have k1 := (Blk.new wr #[.float .f64 c] 139).below ((Below.refl _ (wr.alloc (.cells #[.float .f64 c] 139))).alloc (Nat.le_refl _) (.cells #[.float .f64 x] 139))
                have k2 := Blk.new (wr.alloc (.cells #[.float .f64 c] 139)) #[.float .f64 x] 139
                rw [World.size_alloc] at k2
                have HF2 : RF ((wr.alloc (.cells #[.float .f64 c] 139)).alloc (.cells #[.float .f64 x] 139)).drew (some ⟨wr.heap.size, 0, none⟩) _ := rf_one (show Blk ((wr.alloc (.cells #[.float .f64 c] 139)).alloc (.cells #[.float .f64 x] 139)).drew _ _ _ from k1) HCL.out
                have HF1 : RF ((wr.alloc (.cells #[.float .f64 c] 139)).alloc (.cells #[.float .f64 x] 139)).drew (some ⟨wr.heap.size + 1, 0, none⟩) _ := rf_one (show Blk ((wr.alloc (.cells #[.float .f64 c] 139)).alloc (.cells #[.float .f64 x] 139)).drew _ _ _ from k2) HXL.out
                clear k1 k2
                go_simp
                refine (KSX.out _ _ _ _ _ HF1 HF2).mono ?_
                rintro e w5 ⟨rfl, dn, rfl⟩
                have HX5 : Hid (Below w.heap.size w (World.drewN (((wr.alloc (.cells #[.float .f64 c] 139)).alloc (.cells #[.float .f64 x] 139)).drew) dn)) := Lib.hid (HX2.out.trans ⟨rfl, rfl, rfl, Nat.le_refl _, fun _ _ => rfl⟩)
                refine hK.out _ _ (HXC.out _ HX5.out) (fun hS5 => ?_)
                clear hK K
                refine' wpAnyH_take (i := 18) (v := _) rfl (by kernel_rfl) (by kernel_rfl) (by kernel_rfl) (fun _ _ _ h => h) (Or.inl ⟨by rfl, ?hym75⟩) hS5 ?restm75
                case hym75 => (intro w hSw; (try dsimp only at hSw); go_simp; try with_reducible rfl)
                simp only [Act.put, List.setIfInBounds_toArray, List.set_cons_zero, List.set_cons_succ, List.getElem_toArray, List.getElem_cons_zero, List.getElem_cons_succ]
                refine' wpAnyH_take (i := 19) (v := _) rfl (by kernel_rfl) (by kernel_rfl) (by kernel_rfl) (fun _ _ _ h => h) (Or.inl ⟨by rfl, ?hym76⟩) hS5 ?restm76
                case hym76 => (intro w hSw; (try dsimp only at hSw); go_simp; try with_reducible rfl)
                simp only [Act.put, List.setIfInBounds_toArray, List.set_cons_zero, List.set_cons_succ, List.getElem_toArray, List.getElem_cons_zero, List.getElem_cons_succ]
                refine wpAnyH_done (by kernel_rfl) ?_ _
                go_wp2_with fail
                obtain ⟨W5, hW5⟩ : ∃ W5, World.drewN (((wr.alloc (.cells #[.float .f64 c] 139)).alloc (.cells #[.float .f64 x] 139)).drew) dn = W5 := ⟨_, rfl⟩
                rw [hW5] at HX5 ⊢
                clear hW5
                have hx5 := HXC.out _ HX5.out
                have hy5 := HYC.out _ HX5.out
                go_quiet ((go_at_call 182; exact Calls.quiet_of_same (KP.out _)))
                go_wp2_with fail
                go_ret
                exact ⟨by rw [HF.out]; rfl, HX5.out.trans ⟨rfl, rfl, rfl, Nat.le_refl _, fun _ _ => rfl⟩⟩
    · obtain rfl : n = i := by omega
      have HF : Hid (R = true) := Lib.hid (by rw [HY.out HI.out]; exact decide_eq_true (by have := HNB.out; omega))
      go_wp2_with fail
      go_ret
      exact ⟨by rw [HF.out]; rfl, HB.out⟩
end Go.Proofs.Ytpekofpiodaadaa.Hb
end

section
/- The walks of ref28.bound and ref28.cuts. -/
namespace Go.Proofs.Ytpekofpiodaadaa.Hb
set_option linter.unusedVariables false
set_option linter.unusedSimpArgs false
open Go.RowKit

theorem bnd_is {kind den : Int} (h : 0 ≤ den ∧ den ≤ 1048576) : bndO kind den = if kind = 1 then den * 4398046511104 else den := by
  unfold bndO
  split
  · rw [wrapI_fst]; unfold wrap64; omega
  · rfl
theorem rbound28_any (kind den : Int) (hd : 0 ≤ den ∧ den ≤ 1048576) (w : World) : Calls Try.prog 75 #[.int .i64 kind, .int .i64 den] w (Says (.int .u64 (bndO kind den)) w) := by
  have hw : IntKind.u64.wrap den = den := by rw [IntKind.wrap_u64]; omega
  have hw2 : IntKind.u64.wrap (den * 4398046511104) = den * 4398046511104 := by rw [IntKind.wrap_u64]; omega
  rw [bnd_is hd]
  by_cases hk : kind = 1
  · have kb : (kind == 1) = true := beq_iff_eq.2 hk
    rw [if_pos hk]
    clear hk
    go_enter Try.func75, Try.ntmps75
    go_wp2_with fail
    go_ret
    exact ⟨rfl, rfl⟩
  · have kb : (kind == 1) = false := beq_eq_false_iff_ne.2 hk
    rw [if_neg hk]
    clear hk
    go_enter Try.func75, Try.ntmps75
    go_wp2_with fail
    go_ret
    exact ⟨rfl, rfl⟩
theorem rcuts28_any (b : Int) (es : List Nat) (A : Option Addr) (cap : Nat) (w : World) (hr : RF w A es) (hl : es.length ≤ 9223372036854775807) :
    Calls Try.prog 76 #[.slice A es.length cap, .int .i64 b] w fun e w' => e = .returned (.bool (cutsE b es)) ∧ Below w.heap.size w w' := by
  have KR := Lib.hid (rright10_any es A cap w hr hl)
  have HC : Hid (cutsE b es = (rightE es && decide ((es.length : Int) < b))) := Lib.hid rfl
  obtain ⟨n, hn⟩ : ∃ n, es.length = n := ⟨_, rfl⟩
  rw [hn] at KR HC ⊢
  obtain ⟨r, hre⟩ : ∃ r, rightE es = r := ⟨_, rfl⟩
  rw [hre] at KR HC
  obtain ⟨C, hC⟩ : ∃ r, cutsE b es = r := ⟨_, rfl⟩
  rw [hC] at HC ⊢
  clear hr hn hre hC hl
  cases r with
  | false =>
    go_enter Try.func76, Try.ntmps76
    go_wp2_with fail
    refine KR.out.mono ?_
    rintro e w1 ⟨rfl, hb⟩
    go_wp2_with fail
    go_ret
    exact ⟨by rw [HC.out]; rfl, hb⟩
  | true =>
    by_cases h : (n : Int) < b
    · have d1 : decide ((n : Int) < b) = true := decide_eq_true h
      have HC2 : Hid (C = true) := Lib.hid (by rw [HC.out, d1]; rfl)
      clear h
      go_enter Try.func76, Try.ntmps76
      go_wp2_with fail
      refine KR.out.mono ?_
      rintro e w1 ⟨rfl, hb⟩
      go_wp2_with fail
      go_ret
      exact ⟨by rw [HC2.out]; rfl, hb⟩
    · have d1 : decide ((n : Int) < b) = false := decide_eq_false h
      have HC2 : Hid (C = false) := Lib.hid (by rw [HC.out, d1]; rfl)
      clear h
      go_enter Try.func76, Try.ntmps76
      go_wp2_with fail
      refine KR.out.mono ?_
      rintro e w1 ⟨rfl, hb⟩
      go_wp2_with fail
      go_ret
      exact ⟨by rw [HC2.out]; rfl, hb⟩
end Go.Proofs.Ytpekofpiodaadaa.Hb
end

section
/- The document's answer on a config. -/
namespace Go.Proofs.Ytpekofpiodaadaa.Hb
set_option linter.unusedVariables false
set_option linter.unusedSimpArgs false
open Go.RowKit

set_option maxRecDepth 100000 in
set_option maxHeartbeats 8000000 in
theorem rcheck_any (k cl b t d l p : Int) (w : World) : Calls Try.prog 74 #[.agg #[.int .i64 k, .int .i64 cl, .int .i64 b, .int .i64 t, .int .i64 d, .int .i64 l, .int .i64 p]] w fun e w' => e = .returned (.int .i64 (checkO k cl b t d l p)) ∧ Below w.heap.size w w' := by
  obtain ⟨R, hR⟩ : ∃ R, checkO k cl b t d l p = R := ⟨_, rfl⟩
  rw [hR]
  have HR := Lib.hid hR
  clear hR
  obtain ⟨K, hK⟩ : ∃ K, K = k := ⟨_, rfl⟩
  obtain ⟨C, hC⟩ : ∃ C, C = cl := ⟨_, rfl⟩
  have HK := Lib.hid hK
  have HC := Lib.hid hC
  have b1 : (k == 0) = decide (K = 0) := by rw [hK, Bool.eq_iff_iff, beq_iff_eq, decide_eq_true_iff]
  have b2 : (k == 1) = decide (K = 1) := by rw [hK, Bool.eq_iff_iff, beq_iff_eq, decide_eq_true_iff]
  have b3 : (k != 0) = !decide (K = 0) := by rw [bne, b1]
  have b4 : (k != 1) = !decide (K = 1) := by rw [bne, b2]
  have b5 : (cl != 0) = !decide (C = 0) := by rw [bne, hC]; congr 1
  have leaf : ∀ x, (checkO K C b t d l p = x) → R = x := fun x e => by rw [← HR.out, ← hK, ← hC]; exact e
  have HL := Lib.hid leaf
  clear leaf hK hC
  by_cases c0 : K = 0
  · have a0 : decide (K = 0) = true := decide_eq_true c0
    have a1 : decide (K = 1) = false := decide_eq_false (by omega)
    have HX := Lib.hid c0
    rw [a0] at b1 b3
    rw [a1] at b2 b4
    simp only [Bool.not_true, Bool.not_false] at b3 b4
    clear a0 a1 c0 b5
    have HY : Hid (cl = C) := Lib.hid HC.out.symm
    go_enter Try.func74, Try.ntmps74
    go_wp2
    all_goals
      go_ret
      refine ⟨ret_i64 (HL.out _ ?_).symm, (Below.refl _ _).alloc (Nat.le_refl _) _⟩
      have e1 := HX.out
      have e2 := HY.out
      unfold checkO lowC stepC
      simp (disch := omega) only [if_pos, if_neg] <;> (split <;> rfl)
  · by_cases c1 : K = 1
    · have a0 : decide (K = 0) = false := decide_eq_false c0
      have a1 : decide (K = 1) = true := decide_eq_true c1
      have HX := Lib.hid c1
      rw [a0] at b1 b3
      rw [a1] at b2 b4
      simp only [Bool.not_true, Bool.not_false] at b3 b4
      have HY : Hid (cl = C) := Lib.hid HC.out.symm
      by_cases c2 : C = 0
      · have a2 : decide (C = 0) = true := decide_eq_true c2
        have HZ := Lib.hid c2
        rw [a2] at b5
        simp only [Bool.not_true] at b5
        have b6 : decide (256 < cl) = false := decide_eq_false (by have := HY.out; omega)
        clear a0 a1 a2 c0 c1 c2
        go_enter Try.func74, Try.ntmps74
        go_wp2
        all_goals
          go_ret
          refine ⟨ret_i64 (HL.out _ ?_).symm, (Below.refl _ _).alloc (Nat.le_refl _) _⟩
          have e1 := HX.out
          have e2 := HY.out
          have e3 := HZ.out
          unfold checkO lowC stepC
          simp (disch := omega) only [if_pos, if_neg] <;> (split <;> rfl)
      · have a2 : decide (C = 0) = false := decide_eq_false c2
        have HZ := Lib.hid c2
        rw [a2] at b5
        simp only [Bool.not_false] at b5
        clear a0 a1 a2 c0 c1 c2
        go_enter Try.func74, Try.ntmps74
        go_wp2
        all_goals
          go_ret
          refine ⟨ret_i64 (HL.out _ ?_).symm, (Below.refl _ _).alloc (Nat.le_refl _) _⟩
          have e1 := HX.out
          have e2 := HY.out
          have e3 := HZ.out
          unfold checkO lowC stepC
          simp (disch := omega) only [if_pos, if_neg] <;> (split <;> rfl)
    · have a0 : decide (K = 0) = false := decide_eq_false c0
      have a1 : decide (K = 1) = false := decide_eq_false c1
      have HX := Lib.hid c0
      have HY := Lib.hid c1
      rw [a0] at b1 b3
      rw [a1] at b2 b4
      simp only [Bool.not_true, Bool.not_false] at b3 b4
      clear a0 a1 c0 c1 b5
      go_enter Try.func74, Try.ntmps74
      go_wp2
      all_goals
        go_ret
        refine ⟨ret_i64 (HL.out _ ?_).symm, (Below.refl _ _).alloc (Nat.le_refl _) _⟩
        have e1 := HX.out
        have e2 := HY.out
        unfold checkO lowC stepC
        simp (disch := omega) only [if_pos, if_neg] <;> (split <;> rfl)
end Go.Proofs.Ytpekofpiodaadaa.Hb
end

section
/- The walks of ref18.May and ref18.one. -/
namespace Go.Proofs.Ytpekofpiodaadaa.Hb
set_option linter.unusedVariables false
set_option linter.unusedSimpArgs false
open Go.RowKit

set_option maxRecDepth 100000 in
set_option maxHeartbeats 1000000 in
theorem rmayT_any (cols bins kind classes : Int) (w : World) : Calls Try.prog 133 #[.int .i64 cols, .int .i64 bins, .int .i64 kind, .int .i64 classes] w fun e w' => e = .returned (.bool (decide (mayS cols bins kind classes))) ∧ w = w' := by
  obtain ⟨R, hR⟩ : ∃ R, decide (mayS cols bins kind classes) = R := ⟨_, rfl⟩
  rw [hR]
  have HR := Lib.hid hR
  clear hR
  obtain ⟨k0, hk0⟩ : ∃ k0, (kind == 0) = k0 := ⟨_, rfl⟩
  obtain ⟨k1, hk1⟩ : ∃ k1, (kind == 1) = k1 := ⟨_, rfl⟩
  have HK0 := Lib.hid hk0
  have HK1 := Lib.hid hk1
  have H10 : Hid (k0 = true → k1 = true → False) := Lib.hid (fun h1 h2 => by rw [h1] at hk0; rw [h2] at hk1; have := beq_iff_eq.1 hk0; have := beq_iff_eq.1 hk1; omega)
  cases k0 <;> cases k1
  all_goals
    go_enter Try.func133, Try.ntmps133
    go_wp2_with fail
    all_goals
      go_ret
      refine ⟨congrArg (fun b => Ending.returned (.bool b)) ?_, rfl⟩
      rw [← HR.out]
      have x0 := HK0.out
      have x1 := HK1.out
      simp only [beq_iff_eq, beq_eq_false_iff_ne] at x0 x1
      unfold mayS
      first
      | (refine (decide_eq_false ?_).symm; omega)
      | (refine (decide_eq_true ?_).symm; omega)
      | (refine decide_eq_decide.2 ?_; omega)
      | (rw [Bool.eq_iff_iff]; simp; omega)

set_option maxRecDepth 100000 in
set_option maxHeartbeats 4000000 in
theorem rone_any (cols bins kind classes : Int) (x : Nd) (hx : x.ok) (w : World) : Calls Try.prog 134 #[ndV x, .int .i64 cols, .int .i64 bins, .int .i64 kind, .int .i64 classes] w fun e w' => e = .returned (.bool (decide (oneP cols bins kind classes x))) ∧ Below w.heap.size w w' := by
  have HS := Lib.hid (fun w => rsize_any x.s hx.2.2.2.2.1 w)
  obtain ⟨R, hR⟩ : ∃ R, decide (oneP cols bins kind classes x) = R := ⟨_, rfl⟩
  rw [hR]
  have HR := Lib.hid hR
  clear hR
  obtain ⟨f, b, l, c, s, k⟩ := x
  simp only [ndV] at HS ⊢
  clear hx
  have hbe : ∀ (w : World) (o : Obj), Below w.heap.size w (w.alloc o) := fun w o => (Below.refl _ _).alloc (Nat.le_refl _) _
  have hbd : ∀ (w : World) (o : Obj) (n : Nat), Below w.heap.size w ((w.alloc o).drewN n) := fun w o n => (hbe w o).trans ⟨rfl, rfl, rfl, Nat.le_refl _, fun _ _ => rfl⟩
  by_cases hf : 0 ≤ f
  · have d1 : decide (0 ≤ f) = true := decide_eq_true hf
    have hfin : Hid (R = decide (c = 0 ∧ s = 0 ∧ k = 0 ∧ 0 ≤ f ∧ f < cols ∧ 0 ≤ b ∧ b < bins)) := Lib.hid (by
      rw [← HR.out]
      refine decide_eq_decide.2 ?_
      unfold oneP
      dsimp only
      rw [if_neg (show ¬ f = -1 by omega)])
    have HF := Lib.hid hf
    clear hf
    go_enter Try.func134, Try.ntmps134
    go_wp2_with fail
    all_goals
      go_ret
      refine ⟨ret_bool ?_, hbe _ _⟩
      rw [hfin.out]
      have hf := HF.out
      first
      | (refine (decide_eq_false ?_).symm; omega)
      | (refine (decide_eq_true ?_).symm; omega)
      | (refine decide_eq_decide.2 ?_; omega)
      | (rw [Bool.eq_iff_iff]; simp; omega)
  have d1 : decide (0 ≤ f) = false := decide_eq_false hf
  by_cases hbad : f ≠ -1 ∨ b ≠ 0 ∨ l ≠ 0
  · have HB := Lib.hid hbad
    have HF := Lib.hid hf
    obtain ⟨x1, hx1⟩ : ∃ x1, (f != -1) = x1 := ⟨_, rfl⟩
    obtain ⟨x2, hx2⟩ : ∃ x2, (b != 0) = x2 := ⟨_, rfl⟩
    obtain ⟨x3, hx3⟩ : ∃ x3, (l != 0) = x3 := ⟨_, rfl⟩
    have hor : (x1 || (x2 || x3)) = true := by
      rw [← hx1, ← hx2, ← hx3]
      simp only [Bool.or_eq_true, bne_iff_ne]
      omega
    clear hf hbad
    have fin : Hid (R = false) := Lib.hid (by
      rw [← HR.out]
      have hf := HF.out
      have hb := HB.out
      refine decide_eq_false ?_
      unfold oneP
      dsimp only
      by_cases e : f = -1
      · rw [if_pos e]
        by_cases e2 : kind = 0
        · rw [if_pos e2]; omega
        · rw [if_neg e2]; omega
      · rw [if_neg e]; omega)
    cases x1 <;> cases x2 <;> cases x3
    all_goals first
    | (cases hor; done)
    | (go_enter Try.func134, Try.ntmps134
       go_wp2_with fail
       go_ret
       exact ⟨ret_bool fin.out.symm, hbe _ _⟩)
  · have e1 : f = -1 := by omega
    have e2 : b = 0 := by omega
    have e3 : l = 0 := by omega
    subst e1 e2 e3
    clear hbad hf d1
    by_cases hk : kind = 0
    · subst hk
      have hfin : Hid (R = decide (s = 0 ∧ k = 0 ∧ 0 ≤ c ∧ c < classes)) := Lib.hid (by
        rw [← HR.out]
        refine decide_eq_decide.2 ?_
        unfold oneP
        dsimp only
        rw [if_pos rfl, if_pos rfl]
        omega)
      go_enter Try.func134, Try.ntmps134
      go_wp2_with fail
      all_goals
        go_ret
        refine ⟨ret_bool ?_, hbe _ _⟩
        rw [hfin.out]
        first
        | (refine (decide_eq_false ?_).symm; omega)
        | (refine (decide_eq_true ?_).symm; omega)
        | (refine decide_eq_decide.2 ?_; omega)
        | (rw [Bool.eq_iff_iff]; simp; omega)
    · have k0 : (kind == 0) = false := beq_eq_false_iff_ne.2 hk
      have HK := Lib.hid hk
      clear hk
      have hfin : Hid (R = decide (c = 0 ∧ 1 ≤ k ∧ k ≤ 1048576 ∧ -(1048576 * k) ≤ s ∧ s ≤ 1048576 * k)) := Lib.hid (by
        rw [← HR.out]
        refine decide_eq_decide.2 ?_
        unfold oneP
        dsimp only
        rw [if_pos rfl, if_neg HK.out]
        omega)
      by_cases hbad : c ≠ 0 ∨ k < 1 ∨ 1048576 < k
      · have fin : Hid (R = false) := Lib.hid (by rw [hfin.out]; exact decide_eq_false (by omega))
        obtain ⟨x1, hx1⟩ : ∃ x1, (c == 0) = x1 := ⟨_, rfl⟩
        obtain ⟨x2, hx2⟩ : ∃ x2, decide (1 ≤ k) = x2 := ⟨_, rfl⟩
        obtain ⟨x3, hx3⟩ : ∃ x3, decide (k ≤ 1048576) = x3 := ⟨_, rfl⟩
        have hor : (x1 && (x2 && x3)) = false := by
          rw [← hx1, ← hx2, ← hx3, Bool.eq_false_iff]
          simp only [ne_eq, Bool.and_eq_true, beq_iff_eq, decide_eq_true_eq]
          omega
        clear hbad
        cases x1 <;> cases x2 <;> cases x3
        all_goals first
        | (cases hor; done)
        | (go_enter Try.func134, Try.ntmps134
           go_wp2_with fail
           go_quiet (fail)
           go_wp2_with fail
           go_ret
           exact ⟨ret_bool fin.out.symm, hbd _ _ _⟩)
      · have e1 : c = 0 := by omega
        subst e1
        have k1 : 1 ≤ k := by omega
        have k2 : k ≤ 1048576 := by omega
        have y1 : decide (1 ≤ k) = true := decide_eq_true k1
        have y2 : decide (k ≤ 1048576) = true := decide_eq_true k2
        have w1 : IntKind.u64.wrap k = k := by simp [IntKind.wrap, IntKind.bits, IntKind.signed]; omega
        have w2 : IntKind.u64.wrap (1048576 * k) = 1048576 * k := by simp [IntKind.wrap, IntKind.bits, IntKind.signed]; omega
        have W1 := Lib.hid w1
        have KB := Lib.hid (And.intro k1 k2)
        clear hbad
        go_enter Try.func134, Try.ntmps134
        go_wp2_with fail
        go_quiet ((go_at_call 77; exact Calls.quiet_of_same ((HS.out _).mono fun _ _ h => ⟨h.1, h.2.symm⟩)))
        go_wp2_with fail
        go_ret
        refine ⟨ret_bool ?_, hbd _ _ _⟩
        rw [hfin.out]
        have := KB.out
        refine decide_eq_decide.2 ?_
        refine ⟨fun h => ⟨trivial, by omega, by omega, by omega, by omega⟩, fun h => by have := h.2.2.2.1; have := h.2.2.2.2; omega⟩
end Go.Proofs.Ytpekofpiodaadaa.Hb
end

section
/- The walks of ref18.parent, ref18.Deep and ref18.Right. -/
namespace Go.Proofs.Ytpekofpiodaadaa.Hb
set_option linter.unusedVariables false
set_option linter.unusedSimpArgs false
open Go.RowKit

theorem par_yes {p : Nat} {n : Nd} {r : List Nd} {k : Nat} (h : 0 ≤ n.f ∧ (n.l = p ∨ n.l + 1 = p)) : parGo p (n :: r) k = k := by rw [parGo, if_pos h]
theorem par_no {p : Nat} {n : Nd} {r : List Nd} {k : Nat} (h : ¬ (0 ≤ n.f ∧ (n.l = p ∨ n.l + 1 = p))) : parGo p (n :: r) k = parGo p r (k + 1) := by rw [parGo, if_neg h]
theorem wrapI_64 (x : Int) : IntKind.i64.wrap x = wrap64 x := by rw [IntKind.wrap_i64]; unfold wrap64; omega
theorem wrap_next {l : Int} (h : in64 l) {p : Nat} (hp : p ≤ 1099511627776) : (wrap64 (l + 1) == (p : Int)) = decide (l + 1 = p) := by
  obtain ⟨h1, h2⟩ := h
  rw [Bool.eq_iff_iff, beq_iff_eq, decide_eq_true_iff, ← wrapI_64, IntKind.wrap_i64]
  omega
set_option maxRecDepth 100000 in
set_option maxHeartbeats 1000000 in
theorem rparent_any (t : List Nd) (A : Option Addr) (cap p : Nat) (w : World) (hr : RN w A t) (hl : t.length ≤ 1099511627776) (hp : p ≤ t.length) :
    Calls Try.prog 135 #[.slice A t.length cap, .int .i64 p] w fun e w' => e = .returned (.int .i64 (parO t p)) ∧ w = w' := by
  obtain ⟨P, hP⟩ : ∃ P, parO t p = P := ⟨_, rfl⟩
  rw [hP]
  have HP : Hid (parGo p ((t.take p).drop 0) 0 = P) := Lib.hid hP
  obtain ⟨n, hn⟩ : ∃ n, t.length = n := ⟨_, rfl⟩
  have HN := Lib.hid hn
  have HR := Lib.hid hr
  rw [hn] at hl hp ⊢
  clear hP hn hr
  go_enter Try.func135, Try.ntmps135
  go_wp2_with fail
  go_loopw [5] (fun iv wr => ∃ k : Nat, k ≤ p ∧ iv = .int .i64 k ∧ Hid (parGo p ((t.take p).drop k) k = P) ∧ Hid (w = wr)) (fun iv _ => p - (intOf iv).toNat)
  case atStart => exact ⟨0, Nat.zero_le _, rfl, HP, Lib.hid rfl⟩
  case round =>
    obtain ⟨k, hk, rfl, HI, HW⟩ := hrel
    by_cases hlt : k < p
    · have hlt' : (k : Int) < p := by omega
      have hkn : k < n := by omega
      have hkn' : (k : Int) < n := by omega
      obtain ⟨ad, rfl, x, hx, hxok, hat⟩ := (HR.out).at (i := k) (by rw [HN.out]; exact hkn)
      rw [HW.out] at hat
      have HDR : Hid ((t.take p).drop k = x :: (t.take p).drop (k + 1)) := Lib.hid (drop_nd (by rw [List.getElem?_take, if_pos hlt]; exact hx))
      obtain ⟨p0, p1, p2, p3, p4, p5⟩ := hat
      obtain ⟨f, b, l, c, s, q⟩ := x
      simp only at p0 p1 p2 p3 p4 p5
      obtain ⟨x0, hx0⟩ : ∃ x0, decide (0 ≤ f) = x0 := ⟨_, rfl⟩
      obtain ⟨x1, hx1⟩ : ∃ x1, (l == (p : Int)) = x1 := ⟨_, rfl⟩
      obtain ⟨x2, hx2⟩ : ∃ x2, (wrap64 (l + 1) == (p : Int)) = x2 := ⟨_, rfl⟩
      have hdec : Hid ((0 ≤ f ∧ (l = p ∨ l + 1 = p)) ↔ (x0 && (x1 || x2)) = true) := Lib.hid (by
        rw [← hx0, ← hx1, ← hx2, wrap_next hxok.2.2.1 (by omega)]
        simp)
      clear hx hxok
      cases x0 <;> cases x1 <;> cases x2
      all_goals
        go_wp2_with fail
        first
        | (go_ret
           refine ⟨ret_i64 ?_, HW.out⟩
           rw [← HI.out, HDR.out, par_yes (hdec.out.2 rfl)])
        | (go_roundw
           case rel => exact ⟨k + 1, hlt, by go_num, Lib.hid (by have := HI.out; rw [HDR.out, par_no (fun h => by have := hdec.out.1 h; simp at this)] at this; exact this), HW⟩
           case measure => simp [intOf]; omega)
    · obtain rfl : k = p := by omega
      have hfin : Hid (P = -1) := Lib.hid (by rw [← HI.out, List.drop_of_length_le (by rw [List.length_take]; omega)]; rfl)
      go_wp2_with fail
      go_ret
      exact ⟨ret_i64 hfin.out.symm, HW.out⟩

theorem refLeft_no {n : Nd} {r : List Nd} {i left : Nat} (h : 0 ≤ n.f) (h2 : n.l ≠ left ∨ left ≤ i) : refLeft (n :: r) i left = none := by rw [refLeft, if_pos h, if_pos h2]
theorem refLeft_two {n : Nd} {r : List Nd} {i left : Nat} (h : 0 ≤ n.f) (h2 : ¬ (n.l ≠ left ∨ left ≤ i)) : refLeft (n :: r) i left = refLeft r (i + 1) (left + 2) := by rw [refLeft, if_pos h, if_neg h2]
theorem refLeft_leaf {n : Nd} {r : List Nd} {i left : Nat} (h : ¬ 0 ≤ n.f) : refLeft (n :: r) i left = refLeft r (i + 1) left := by rw [refLeft, if_neg h]
theorem maxO_snoc (l : List Int) (x : Int) : maxO (l ++ [x]) = if maxO l < x then x else maxO l := by
  unfold maxO
  rw [List.foldl_append]
  show max _ _ = _
  split <;> omega
theorem maxO_le {m : Int} : ∀ (l : List Int) (a : Int), a ≤ m → (∀ x ∈ l, x ≤ m) → l.foldl max a ≤ m
  | [], a, h, _ => h
  | x :: r, a, h, hl => maxO_le r _ (by have := hl x (List.mem_cons_self ..); omega) (fun y hy => hl y (List.mem_cons_of_mem _ hy))
theorem maxO_ge : ∀ (l : List Int) (a : Int), a ≤ l.foldl max a
  | [], a => Int.le_refl _
  | x :: r, a => Int.le_trans (Int.le_max_left a x) (maxO_ge r _)
def deepO (t : List Nd) : Int := if (depGo t.length t 0 [0]).isSome then maxO (depthsO t) else -1
theorem rightT_deep (cols bins kind classes : Int) (t : List Nd) :
    rightT cols bins kind classes t = (decide (mayS cols bins kind classes) && (!decide (t = []) && ((t.all fun n => decide (oneP cols bins kind classes n)) && (decide (0 ≤ deepO t) && decide (deepO t ≤ 32))))) := by
  unfold rightT
  by_cases h1 : mayS cols bins kind classes
  case neg => simp [h1]
  by_cases h2 : t = []
  · subst h2; simp [h1, depthsO]
  by_cases h3 : (t.all fun n => decide (oneP cols bins kind classes n)) = true
  case neg => simp [h1, h3]
  rw [h3]
  have h0 : depthsO t = (depGo t.length t 0 [0]).getD [] := by unfold depthsO; rw [if_neg h2]
  have hg : 0 ≤ maxO (depthsO t) := maxO_ge _ _
  unfold deepO
  cases hd : depGo t.length t 0 [0] with
  | none =>
    rw [hd] at h0
    simp [h0]
  | some ds =>
    rw [hd, Option.getD_some] at h0
    have hl := (dep_front _ _ _ _ hd).2
    have hne : ds ≠ [] := fun e => h2 (List.length_eq_zero_iff.1 (by rw [← hl, e]; rfl))
    rw [h0] at hg ⊢
    simp [h1, h2, hne, hg]
set_option maxRecDepth 100000 in
set_option maxHeartbeats 4000000 in
theorem rdeep_any (t : List Nd) (A : Option Addr) (cap : Nat) (w : World) (hr : RN w A t) (hl : t.length ≤ 1099511627776) (hf : ∀ n ∈ t, -1 ≤ n.f) :
    Calls Try.prog 79 #[.slice A t.length cap] w fun e w' => e = .returned (.int .i64 (deepO t)) ∧ Below w.heap.size w w' := by
  obtain ⟨n, hn⟩ : ∃ n, t.length = n := ⟨_, rfl⟩
  obtain ⟨D, hD⟩ : ∃ D, deepO t = D := ⟨_, rfl⟩
  rw [hD]
  have hiff := dep_ref (L := n) t 0 [0] hf (by rw [hn]; omega)
  simp only [List.length_cons, List.length_nil, Nat.zero_add] at hiff
  have hbad : Hid (refLeft t 0 1 ≠ some n → D = -1) := Lib.hid (fun h => by
    rw [← hD]; unfold deepO
    rw [hn, if_neg (fun h2 => h (hiff.1 h2))])
  have HGOOD : Hid (refLeft t 0 1 = some n → ∃ ds : List Int, ds.length = n ∧ (∀ k : Nat, k < n → 0 ≤ ds.getD k 0 ∧ ds.getD k 0 ≤ (n : Int)) ∧ ds.getD 0 0 = 0 ∧ (∀ p, 0 < p → p < n → ∃ k : Nat, parO t p = k ∧ k < p ∧ ds.getD p 0 = ds.getD k 0 + 1) ∧ D = maxO ds) := Lib.hid (fun h => by
    have h2 := hiff.2 h
    obtain ⟨ds, hds⟩ := Option.isSome_iff_exists.1 h2
    have h3 := dep_of hf (by rw [hn]; exact hds)
    obtain ⟨e1, e2, e3⟩ := h3
    rw [hn] at e1 e3
    have hne : t ≠ [] := fun e => by subst e; simp at hn; subst hn; simp [depGo] at hds
    have hdo : depthsO t = ds := by unfold depthsO; rw [if_neg hne, hn, hds]; rfl
    refine ⟨ds, e1, fun k hk => ?_, e2, e3, ?_⟩
    · have := depths_low t (ds.getD k 0) (by rw [hdo, List.getD_eq_getElem?_getD, List.getElem?_eq_getElem (by omega)]; exact List.getElem_mem _)
      rw [hdo, e1] at this
      exact this
    · rw [← hD]; unfold deepO
      rw [hn, hds, hdo]; rfl)
  have KP := Lib.hid (fun (p : Nat) w hr (hp : p ≤ n) => rparent_any t A cap p w hr hl (by rw [hn]; exact hp))
  have HF : Hid (∀ (k : Nat) (x : Nd), t[k]? = some x → -1 ≤ x.f) := Lib.hid (fun k x h => hf x (List.mem_of_getElem? h))
  have HN := Lib.hid hn
  have HR := Lib.hid hr
  rw [hn] at hl KP ⊢
  obtain ⟨i0, hi0, hz0, hz1, hz2⟩ := info_parts info_int
  clear hn hr hiff hf hD
  go_enter Try.func79, Try.ntmps79
  go_wp2_with fail
  go_loopw [3, 4] (fun lv iv wr => ∃ (k m : Nat), k ≤ n ∧ iv = .int .i64 k ∧ lv = .int .i64 m ∧ m ≤ 1 + 2 * k ∧ Hid (refLeft (t.drop k) k m = refLeft t 0 1) ∧ Hid (w = wr)) (fun _ iv _ => n - (intOf iv).toNat)
  case atStart => exact ⟨0, 1, Nat.zero_le _, rfl, rfl, by omega, Lib.hid rfl, Lib.hid rfl⟩
  case round =>
    obtain ⟨k, m, hk, rfl, rfl, hm, HI, HW⟩ := hrel
    by_cases hlt : k < n
    · have hlt' : (k : Int) < n := by omega
      obtain ⟨ad, rfl, x, hx, hxok, hat⟩ := (HR.out).at (i := k) (by rw [HN.out]; exact hlt)
      rw [HW.out] at hat
      have HDR := Lib.hid (drop_nd hx)
      obtain ⟨p0, p1, p2, p3, p4, p5⟩ := hat
      obtain ⟨f, b, l, c, s, q⟩ := x
      simp only at p0 p1 p2 p3 p4 p5
      clear hx hxok
      by_cases hff : 0 ≤ f
      · have d0 : decide (0 ≤ f) = true := decide_eq_true hff
        have HFF := Lib.hid hff
        clear hff
        by_cases hno : l ≠ m ∨ m ≤ k
        · have hfin : Hid (D = -1) := Lib.hid (hbad.out (by rw [← HI.out, HDR.out, refLeft_no HFF.out hno]; simp))
          by_cases h1 : l = m
          · have e1 : (l != (m : Int)) = false := by simpa using h1
            have e2 : decide ((m : Int) ≤ k) = true := decide_eq_true (by omega)
            have e3 : decide (m ≤ k) = true := decide_eq_true (by omega)
            clear h1 hno
            go_wp2_with fail
            go_ret
            exact ⟨ret_i64 hfin.out.symm, by rw [← HW.out]; exact Below.refl _ _⟩
          · have e1 : (l != (m : Int)) = true := by simpa using h1
            clear h1 hno
            go_wp2_with fail
            go_ret
            exact ⟨ret_i64 hfin.out.symm, by rw [← HW.out]; exact Below.refl _ _⟩
        · have h1 : l = m := by omega
          have e1 : (l != (m : Int)) = false := by simpa using h1
          have e2 : decide ((m : Int) ≤ k) = false := decide_eq_false (by omega)
          have e3 : decide (m ≤ k) = false := decide_eq_false (by omega)
          have HI2 : Hid (refLeft (t.drop (k + 1)) (k + 1) (m + 2) = refLeft t 0 1) := Lib.hid (by have := HI.out; rw [HDR.out, refLeft_two HFF.out hno] at this; exact this)
          clear h1 hno
          go_wp2_with fail
          go_roundw
          case rel => exact ⟨k + 1, m + 2, hlt, by go_num, by go_num, by omega, HI2, HW⟩
          case measure => simp [intOf]; omega
      · have d0 : decide (0 ≤ f) = false := decide_eq_false hff
        have HI2 : Hid (refLeft (t.drop (k + 1)) (k + 1) m = refLeft t 0 1) := Lib.hid (by have := HI.out; rw [HDR.out, refLeft_leaf hff] at this; exact this)
        clear hff
        go_wp2_with fail
        go_roundw
        case rel => exact ⟨k + 1, m, hlt, by go_num, rfl, by omega, HI2, HW⟩
        case measure => simp [intOf]; omega
    · obtain rfl : k = n := by omega
      have hend : Hid (refLeft t 0 1 = some m) := Lib.hid (by rw [← HI.out, List.drop_of_length_le (by rw [HN.out]; exact Nat.le_refl _)]; rfl)
      by_cases hmk : m = k
      case neg =>
        have hfin : Hid (D = -1) := Lib.hid (hbad.out (by rw [hend.out]; simpa using hmk))
        have e1 : ((m : Int) != k) = true := bne_iff_ne.2 (by omega)
        have e2 : (m != k) = true := bne_iff_ne.2 hmk
        clear hmk
        go_wp2_with fail
        go_ret
        exact ⟨ret_i64 hfin.out.symm, by rw [← HW.out]; exact Below.refl _ _⟩
      obtain ⟨ds, hlen, hlow, h00, hpar, hmax⟩ := HGOOD.out (by rw [hend.out, hmk])
      have HL := Lib.hid hlen
      have HLOW := Lib.hid hlow
      have H00 := Lib.hid h00
      have HPAR := Lib.hid hpar
      have HMAX := Lib.hid hmax
      have e1 : ((m : Int) != k) = false := by rw [hmk]; simp
      have e2 : (m != k) = false := by simpa using hmk
      obtain ⟨n, hkn⟩ : ∃ n, n = k := ⟨_, rfl⟩
      clear hlen hlow h00 hpar hmax hmk HI hk hlt
      subst hkn
      obtain ⟨wo, hwo⟩ : ∃ x, x = wr := ⟨_, rfl⟩
      subst hwo
      have HW0 := HW.out
      subst HW0
      go_wp2_with fail
      go_loopw [5, 6, 7] (fun o mv jv wr => ∃ (k : Nat) (a : Option Addr) (c : Nat) (M : Int), k ≤ n ∧ jv = .int .i64 k ∧ o = .slice a k c ∧ mv = .int .i64 M ∧ Hid (maxO (ds.take k) = M) ∧ Hid (wr.ownsRow w.heap.size 3 1 (.slice a k c) k (ints (ds.take k))) ∧ Hid (Below w.heap.size w wr)) (fun _ _ jv _ => n - (intOf jv).toNat)
      case atStart =>
        refine ⟨0, _, _, 0, Nat.zero_le _, rfl, rfl, rfl, Lib.hid rfl, Lib.hid ?_, Lib.hid ((Below.refl _ _).alloc (Nat.le_refl _) _)⟩
        exact World.ownsRow_made w #[] 0 (Nat.le_refl _) (Nat.zero_le _) rfl
      case round =>
        obtain ⟨k, a, c, M, hk, rfl, rfl, rfl, HM, HO, HBe⟩ := hrel
        by_cases hlt : k < n
        · have hlt' : (k : Int) < n := by omega
          obtain ⟨d, hd⟩ : ∃ d, ds.getD k 0 = d := ⟨_, rfl⟩
          have hdb := HLOW.out k hlt
          rw [hd] at hdb
          have HX := Lib.hid hd
          have HDB := Lib.hid hdb
          clear hd hdb
          by_cases hk0 : k = 0
          · have q1 : decide ((0 : Int) < k) = false := decide_eq_false (by omega)
            have q2 : decide (0 < k) = false := decide_eq_false (by omega)
            have hd0 : Hid (d = 0) := Lib.hid (by rw [← HX.out, hk0]; exact H00.out)
            have hm0 : Hid (M = 0) := Lib.hid (by rw [← HM.out, hk0]; rfl)
            have HX : Hid (ds.getD k 0 = 0) := Lib.hid (by rw [HX.out, hd0.out])
            have q3 : decide (M < 0) = false := decide_eq_false (by rw [hm0.out]; omega)
            have MC : Hid (¬ M < 0) := Lib.hid (by rw [hm0.out]; omega)
            have HO1 := HO
            have HBe1 := HBe
            have hl1 : w.heap.size ≤ wr.heap.size := HBe1.out.size
            clear hk0
            obtain ⟨wA, hwA⟩ : ∃ x, x = wr := ⟨_, rfl⟩
            subst hwA
            go_wp2_with (at_builtin; refine wpList_append_lies _ rfl _ _ 24 rfl w.heap.size 3 i0 (.int .i64 0) 1 8 Try.underlying24 hi0 hz0 hz1 hz2 rfl (by decide) _ _ _ rfl (HO1.out.alloc _) ⟨wA.heap.size, 0, none⟩ 1 1 [.int .i64 0] rfl rfl (cell_one_new _ _ _) (by simp [Value.oneCell']) (by decide) (by unfold maxLen; omega) (by omega) (by simp; omega) _ rfl ?_; intro g2 c2 w2 hown2 hg2 hat2 hlt2)
            go_roundw
            case rel =>
              refine ⟨k + 1, _, c2, M, hlt, by go_num, rfl, rfl, Lib.hid ?_, Lib.hid ?_, Lib.hid ?_⟩
              · have e := take_snocI (l := ds) (k := k) (by rw [HL.out]; exact hlt)
                rw [HX.out] at e
                rw [e, maxO_snoc, HM.out, if_neg (by have := MC.out; omega)]
              · rw [take_snocI (by rw [HL.out]; exact hlt), HX.out, ints_snoc]; exact hown2
              · exact (HBe1.out.alloc HBe1.out.size _).grown hg2 (by have := HBe1.out.size; simp; omega) (fun q e => by have := (World.ownsRow.lt HO1.out q e).1; omega)
            case measure => simp [intOf]; omega
          · have q1 : decide ((0 : Int) < k) = true := decide_eq_true (by omega)
            have q2 : decide (0 < k) = true := decide_eq_true (by omega)
            obtain ⟨p, hp1, hp2, hp3⟩ := HPAR.out k (by omega) hlt
            have KC := Lib.hid (KP.out k wr (HR.out.below HBe.out) (by omega))
            rw [hp1] at KC
            obtain ⟨g, c', hv, h1, h2, h3, h4⟩ := own_open HO.out (by omega)
            cases hv
            have hy := HLOW.out p (by omega)
            obtain ⟨y, hyy⟩ : ∃ y, ds.getD p 0 = y := ⟨_, rfl⟩
            rw [hyy] at hy hp3
            have z0 : wr.cell? ⟨g, p, none⟩ = some (.int .i64 y) := h4 p _ (by rw [ints_get (by rw [List.length_take, HL.out]; omega), ← hyy, List.getD_eq_getElem?_getD, List.getD_eq_getElem?_getD, List.getElem?_take, if_pos hp2])
            have HD1 : Hid (y + 1 = d) := Lib.hid (by rw [← HX.out]; exact hp3.symm)
            have hw1 : IntKind.i64.wrap (y + 1) = d := by rw [IntKind.wrap_i64, HD1.out]; have := HDB.out; omega
            have hpk : p < k := hp2
            have hpk' : (p : Int) < k := by omega
            have hp0 : decide ((p : Int) < 0) = false := decide_eq_false (by omega)
            clear hp1 hp2 hp3 hyy hy h1 h2 h3 h4 hk0
            go_wp2_with fail
            refine KC.out.mono ?_
            rintro e w1 ⟨rfl, rfl⟩
            have HO1 := HO
            have HBe1 := HBe
            have hl1 : w.heap.size ≤ wr.heap.size := HBe1.out.size
            obtain ⟨wA, hwA⟩ : ∃ x, x = wr := ⟨_, rfl⟩
            subst hwA
            by_cases hMd : M < d
            · have q3 : decide (M < d) = true := decide_eq_true hMd
              have MC := Lib.hid hMd
              clear hMd
              go_wp2_with (at_builtin; refine wpList_append_lies _ rfl _ _ 24 rfl w.heap.size 3 i0 (.int .i64 0) 1 8 Try.underlying24 hi0 hz0 hz1 hz2 rfl (by decide) _ _ _ rfl (HO1.out.alloc _) ⟨wA.heap.size, 0, none⟩ 1 1 [.int .i64 d] rfl rfl (cell_one_new _ _ _) (by simp [Value.oneCell']) (by decide) (by unfold maxLen; omega) (by omega) (by simp; omega) _ rfl ?_; intro g2 c2 w2 hown2 hg2 hat2 hlt2)
              go_roundw
              case rel =>
                refine ⟨k + 1, _, c2, d, hlt, by go_num, rfl, rfl, Lib.hid ?_, Lib.hid ?_, Lib.hid ?_⟩
                · have e := take_snocI (l := ds) (k := k) (by rw [HL.out]; exact hlt)
                  rw [HX.out] at e
                  rw [e, maxO_snoc, HM.out, if_pos MC.out]
                · rw [take_snocI (by rw [HL.out]; exact hlt), HX.out, ints_snoc]; exact hown2
                · exact (HBe1.out.alloc HBe1.out.size _).grown hg2 (by have := HBe1.out.size; simp; omega) (fun q e => by have := (World.ownsRow.lt HO1.out q e).1; omega)
              case measure => simp [intOf]; omega
            · have q3 : decide (M < d) = false := decide_eq_false hMd
              have MC := Lib.hid hMd
              clear hMd
              go_wp2_with (at_builtin; refine wpList_append_lies _ rfl _ _ 24 rfl w.heap.size 3 i0 (.int .i64 0) 1 8 Try.underlying24 hi0 hz0 hz1 hz2 rfl (by decide) _ _ _ rfl (HO1.out.alloc _) ⟨wA.heap.size, 0, none⟩ 1 1 [.int .i64 d] rfl rfl (cell_one_new _ _ _) (by simp [Value.oneCell']) (by decide) (by unfold maxLen; omega) (by omega) (by simp; omega) _ rfl ?_; intro g2 c2 w2 hown2 hg2 hat2 hlt2)
              go_roundw
              case rel =>
                refine ⟨k + 1, _, c2, M, hlt, by go_num, rfl, rfl, Lib.hid ?_, Lib.hid ?_, Lib.hid ?_⟩
                · have e := take_snocI (l := ds) (k := k) (by rw [HL.out]; exact hlt)
                  rw [HX.out] at e
                  rw [e, maxO_snoc, HM.out, if_neg (by have := MC.out; omega)]
                · rw [take_snocI (by rw [HL.out]; exact hlt), HX.out, ints_snoc]; exact hown2
                · exact (HBe1.out.alloc HBe1.out.size _).grown hg2 (by have := HBe1.out.size; simp; omega) (fun q e => by have := (World.ownsRow.lt HO1.out q e).1; omega)
              case measure => simp [intOf]; omega
        · obtain rfl : n = k := by omega
          have hfin : Hid (D = M) := Lib.hid (by rw [HMAX.out, ← HM.out, List.take_of_length_le (by rw [HL.out]; exact Nat.le_refl _)])
          go_wp2_with fail
          go_ret
          exact ⟨ret_i64 hfin.out.symm, HBe.out⟩
set_option maxRecDepth 100000 in
set_option maxHeartbeats 1000000 in
theorem rtright_any (cols bins kind classes : Int) (t : List Nd) (A : Option Addr) (cap : Nat) (w : World) (hr : RN w A t) (hl : t.length ≤ 1099511627776) :
    Calls Try.prog 78 #[.slice A t.length cap, .int .i64 cols, .int .i64 bins, .int .i64 kind, .int .i64 classes] w fun e w' => e = .returned (.bool (rightT cols bins kind classes t)) ∧ Below w.heap.size w w' := by
  rw [rightT_deep]
  obtain ⟨n, hn⟩ : ∃ n, t.length = n := ⟨_, rfl⟩
  obtain ⟨R0, hR0⟩ : ∃ R0, decide (mayS cols bins kind classes) = R0 := ⟨_, rfl⟩
  have KM := Lib.hid (fun w => rmayT_any cols bins kind classes w)
  have KO := Lib.hid (fun x hx w => rone_any cols bins kind classes x hx w)
  have KD := Lib.hid (fun w hr hf => rdeep_any t A cap w hr hl hf)
  have HF : Hid (∀ (x : Nd), oneP cols bins kind classes x → -1 ≤ x.f) := Lib.hid (fun x h => oneP_f h)
  have hnil : (decide (t = [])) = decide (n = 0) := by rw [← hn]; exact decide_eq_decide.2 List.length_eq_zero_iff.symm
  rw [hn] at hl KD
  rw [hnil, hR0, hn]
  rw [hR0] at KM
  have HN := Lib.hid hn
  have HR := Lib.hid hr
  clear hn hr hnil hR0
  cases R0 with
  | false =>
    go_enter Try.func78, Try.ntmps78
    go_wp2_with fail
    refine (KM.out _).mono ?_
    rintro e w1 ⟨rfl, rfl⟩
    go_wp2_with fail
    go_ret
    exact ⟨ret_bool (by rw [Bool.false_and]), Below.refl _ _⟩
  | true =>
    by_cases h0 : n = 0
    · subst h0
      go_enter Try.func78, Try.ntmps78
      go_wp2_with fail
      refine (KM.out _).mono ?_
      rintro e w1 ⟨rfl, rfl⟩
      go_wp2_with fail
      go_ret
      exact ⟨ret_bool (by simp), Below.refl _ _⟩
    have n0 : (n == 0) = false := beq_eq_false_iff_ne.2 h0
    have n1 : ((n : Int) == 0) = false := beq_eq_false_iff_ne.2 (by omega)
    obtain ⟨R1, hR1⟩ : ∃ R1, (true && (!decide (n = 0) && ((t.all fun n => decide (oneP cols bins kind classes n)) && (decide (0 ≤ deepO t) && decide (deepO t ≤ 32))))) = R1 := ⟨_, rfl⟩
    rw [hR1]
    have HR1 : Hid (R1 = ((t.all fun n => decide (oneP cols bins kind classes n)) && (decide (0 ≤ deepO t) && decide (deepO t ≤ 32)))) := Lib.hid (by rw [← hR1, decide_eq_false h0]; rfl)
    have HN0 := Lib.hid h0
    clear hR1 h0
    go_enter Try.func78, Try.ntmps78
    go_wp2_with fail
    refine (KM.out _).mono ?_
    rintro e w1 ⟨rfl, rfl⟩
    go_wp2_with fail
    go_loopw [11] (fun iv wr => ∃ (k : Nat), k ≤ n ∧ iv = .int .i64 k ∧ Hid (∀ j x, j < k → t[j]? = some x → oneP cols bins kind classes x) ∧ Hid (Below w.heap.size w wr)) (fun iv _ => n - (intOf iv).toNat)
    case atStart => exact ⟨0, Nat.zero_le _, rfl, Lib.hid (fun j x h => by omega), Lib.hid (Below.refl _ _)⟩
    case round =>
      obtain ⟨k, hk, rfl, HI, HB⟩ := hrel
      by_cases hlt : k < n
      · have hlt' : (k : Int) < n := by omega
        obtain ⟨ad, rfl, x, hx, hxok, hat⟩ := (HR.out.below HB.out).at (i := k) (by rw [HN.out]; exact hlt)
        have HX := Lib.hid hx
        obtain ⟨p0, p1, p2, p3, p4, p5⟩ := hat
        have KC := Lib.hid (KO.out x hxok wr)
        obtain ⟨R2, hR2⟩ : ∃ R2, decide (oneP cols bins kind classes x) = R2 := ⟨_, rfl⟩
        rw [hR2] at KC
        have HR2 := Lib.hid hR2
        obtain ⟨f, b, l, c, s, q⟩ := x
        simp only [ndV] at p0 p1 p2 p3 p4 p5 KC
        clear hx hxok hR2
        go_wp2_with fail
        refine KC.out.mono ?_
        rintro e w1 ⟨rfl, hb⟩
        have HB1 := Lib.hid (HB.out.trans (hb.mono HB.out.size))
        clear hb p0 p1 p2 p3 p4 p5
        cases R2 with
        | false =>
          go_wp2_with fail
          go_ret
          refine ⟨ret_bool ?_, HB1.out⟩
          rw [HR1.out]
          have : (t.all fun n => decide (oneP cols bins kind classes n)) = false := by
            rw [Bool.eq_false_iff]
            intro h
            rw [List.all_eq_true] at h
            have := h _ (List.mem_of_getElem? HX.out)
            rw [HR2.out] at this
            cases this
          rw [this, Bool.false_and]
        | true =>
          go_wp2_with fail
          go_roundw
          case rel =>
            refine ⟨k + 1, hlt, by go_num, Lib.hid (fun j x hj hx => ?_), HB1⟩
            by_cases hjk : j = k
            · subst hjk
              rw [HX.out] at hx
              cases hx
              exact decide_eq_true_iff.1 HR2.out
            · exact HI.out j x (by omega) hx
          case measure => simp [intOf]; omega
      · obtain rfl : k = n := by omega
        have hall : Hid (∀ x ∈ t, oneP cols bins kind classes x) := Lib.hid (fun x hx => by
          obtain ⟨j, hj⟩ := List.getElem?_of_mem hx
          exact HI.out j x (by have := (List.getElem?_eq_some_iff.1 hj).1; have := HN.out; omega) hj)
        have KC := Lib.hid (KD.out wr (HR.out.below HB.out) (fun x hx => HF.out x (hall.out x hx)))
        obtain ⟨D, hD⟩ : ∃ D, deepO t = D := ⟨_, rfl⟩
        rw [hD] at KC
        have hfin : Hid (R1 = (decide (0 ≤ D) && decide (D ≤ 32))) := Lib.hid (by
          rw [HR1.out, hD, List.all_eq_true.2 (fun x hx => decide_eq_true (hall.out x hx)), Bool.true_and])
        obtain ⟨d1, hd1⟩ : ∃ d1, decide (0 ≤ D) = d1 := ⟨_, rfl⟩
        obtain ⟨d2, hd2⟩ : ∃ d2, decide (D ≤ 32) = d2 := ⟨_, rfl⟩
        rw [hd1, hd2] at hfin
        clear hD
        cases d1 <;> cases d2
        all_goals
          go_wp2_with fail
          refine KC.out.mono ?_
          rintro e w1 ⟨rfl, hb⟩
          go_wp2_with fail
          go_ret
          exact ⟨ret_bool hfin.out.symm, HB.out.trans (hb.mono HB.out.size)⟩
end Go.Proofs.Ytpekofpiodaadaa.Hb
end

section
/- The walk of ref28.May. -/
namespace Go.Proofs.Ytpekofpiodaadaa.Hb
set_option linter.unusedVariables false
set_option linter.unusedSimpArgs false
open Go.RowKit

theorem dep_deep {cols bins kind classes : Int} {t : List Nd} (h : rightT cols bins kind classes t = true) : depO t = deepO t := by
  obtain ⟨hs, hne, ⟨ds, hd, he⟩, hm, ho⟩ := rightT_is h
  have hD : deepO t = maxO (depthsO t) := by unfold deepO; rw [hd]; rfl
  rw [hD]
  have hx : rightT 1024 256 0 256 t = true ∨ rightT 1024 256 1 0 t = true := by
    unfold mayS at hs
    rcases hs with ⟨c1, c2, b1, b2, ⟨rfl, k1, k2⟩ | ⟨rfl, rfl⟩⟩
    · left
      unfold rightT at h ⊢
      simp only [Bool.and_eq_true, decide_eq_true_eq, List.all_eq_true] at h ⊢
      refine ⟨by unfold mayS; omega, h.2.1, h.2.2.1, fun n hn => ?_⟩
      have := ho n hn
      unfold oneP at this ⊢
      split at this <;> rename_i hf
      · rw [if_pos hf]; simp only [if_true] at this ⊢; omega
      · rw [if_neg hf]; omega
    · right
      unfold rightT at h ⊢
      simp only [Bool.and_eq_true, decide_eq_true_eq, List.all_eq_true] at h ⊢
      refine ⟨by unfold mayS; omega, h.2.1, h.2.2.1, fun n hn => ?_⟩
      have := ho n hn
      unfold oneP at this ⊢
      split at this <;> rename_i hf
      · rw [if_pos hf]
        simp only [show ¬ (1 : Int) = 0 by decide, if_false] at this ⊢
        omega
      · rw [if_neg hf]; omega
  unfold depO
  rcases hx with hx | hx
  · rw [if_pos hx]
  · split
    · rfl
    · first | rfl | rw [if_pos hx]
theorem shk_iff {f : Fst} {x : Int × Int} (hd : 0 ≤ f.den ∧ f.den ≤ 1048576) : shkE f x = decide (x.2 = f.den ∧ (x.1.natAbs : Int) ≤ bndO f.k f.den) := by
  have hb : 0 ≤ bndO f.k f.den ∧ bndO f.k f.den ≤ 4611686018427387904 := by rw [bnd_is hd]; split <;> omega
  unfold shkE
  rw [Bool.eq_iff_iff]
  simp only [Bool.not_eq_true', Bool.or_eq_false_iff, decide_eq_false_iff_not, bne_eq_false_iff_eq, decide_eq_true_eq]
  have hw : IntKind.i64.wrap (-(bndO f.k f.den)) = -(bndO f.k f.den) := by rw [wrapI_fst]; unfold wrap64; omega
  rw [hw]
  omega
/-- What is asked ahead of all. -/
def hdD (f : Fst) : Prop := checkO f.k f.cl f.b f.t f.d f.l f.p = 0 ∧ 1 ≤ f.cols ∧ f.cols ≤ 1024 ∧ (f.edges.length : Int) = f.cols ∧ (f.shake.length : Int) = f.cols ∧ (f.trees.length : Int) = f.t
theorem mayF_iff (f : Fst) : mayF f = true ↔ hdD f ∧ outE f = true ∧ (∀ x ∈ f.edges, cutsE f.b x = true) ∧ (∀ x ∈ f.shake, shkE f x = true) ∧ ∀ t ∈ f.trees, treeE f t = true := by
  unfold mayF headE errsE hdD
  simp only [Bool.and_eq_true, beq_iff_eq, decide_eq_true_eq, List.all_eq_true]
  constructor
  · rintro ⟨⟨h1, ⟨h2, h3, h4, h5⟩, h6, h7, h8⟩, h9, h10⟩
    exact ⟨⟨h1, h2, h3, h4, h8, h5⟩, h6, h9, h7, h10⟩
  · rintro ⟨⟨h1, h2, h3, h4, h8, h5⟩, h6, h9, h7, h10⟩
    exact ⟨⟨h1, ⟨h2, h3, h4, h5⟩, h6, h7, h8⟩, h9, h10⟩
set_option maxRecDepth 100000 in
set_option maxHeartbeats 16000000 in
theorem rmay28_any (f : Fst) (Ae At As : Option Addr) (ce ct cs : Nat) (w : World) (hok : OkF f) (hr : RFo w f Ae At As) (hin : in64 f.num ∧ in64 f.den ∧ ∀ x ∈ f.shake, in64 x.1 ∧ in64 x.2) :
    Calls Try.prog 35 #[.agg (forA f Ae At As ce ct cs)] w fun e w' => e = .returned (.bool (mayF f)) ∧ Below w.heap.size w w' := by
  obtain ⟨R, hR⟩ : ∃ R, mayF f = R := ⟨_, rfl⟩
  have key := mayF_iff f
  rw [hR] at key ⊢
  have HN1 : Hid (¬ hdD f → R = false) := Lib.hid (fun h => by cases R with | false => rfl | true => exact absurd (key.1 rfl).1 h)
  have HN2 : Hid (outE f = false → R = false) := Lib.hid (fun h => by cases R with | false => rfl | true => rw [(key.1 rfl).2.1] at h; cases h)
  have HNE : Hid (∀ x ∈ f.edges, cutsE f.b x = false → R = false) := Lib.hid (fun x hx h => by cases R with | false => rfl | true => rw [(key.1 rfl).2.2.1 x hx] at h; cases h)
  have HNS : Hid (∀ x ∈ f.shake, shkE f x = false → R = false) := Lib.hid (fun x hx h => by cases R with | false => rfl | true => rw [(key.1 rfl).2.2.2.1 x hx] at h; cases h)
  have HNT : Hid (∀ x ∈ f.trees, treeE f x = false → R = false) := Lib.hid (fun x hx h => by cases R with | false => rfl | true => rw [(key.1 rfl).2.2.2.2 x hx] at h; cases h)
  have HYES := Lib.hid key.2
  have HR0 := Lib.hid hr
  have HOK := Lib.hid hok
  have HIN := Lib.hid hin
  unfold hdD at HN1 HYES
  have HOE : Hid (outE f = !(decide (f.den < 0) || (decide (1048576 < f.den) || (decide (f.num < 0) || decide (bndO f.k f.den < f.num))))) := Lib.hid rfl
  have HSHK := Lib.hid (fun (x : Int × Int) (h : 0 ≤ f.den ∧ f.den ≤ 1048576) => shk_iff (f := f) (x := x) h)
  have HTE : Hid (∀ t, treeE f t = (rightT f.cols f.b f.k f.cl t && decide (depO t ≤ f.d))) := Lib.hid (fun t => rfl)
  unfold forA
  obtain ⟨ne, hne⟩ : ∃ n, f.edges.length = n := ⟨_, rfl⟩
  obtain ⟨nt, hnt⟩ : ∃ n, f.trees.length = n := ⟨_, rfl⟩
  obtain ⟨ns, hns⟩ : ∃ n, f.shake.length = n := ⟨_, rfl⟩
  have lne := hok.le
  have lnt := hok.lt
  rw [hne] at lne
  rw [hnt] at lnt
  rw [hne, hnt, hns] at HN1 HYES ⊢
  have HLN := Lib.hid (And.intro hne (And.intro hnt hns))
  clear hne hnt hns hok hr hin hR key
  obtain ⟨k, cl, b, tt, d, l, p, cols, seed, edges, trees, num, den, shake⟩ := f
  simp only at HN1 HN2 HNE HNS HNT HYES HOE HSHK HTE HLN HIN ⊢
  have KCK := Lib.hid (fun w => rcheck_any k cl b tt d l p w)
  have KCU := Lib.hid (fun es A cap w hr hl => rcuts28_any b es A cap w hr hl)
  have KTR := Lib.hid (fun t A cap w hr hl => rtright_any cols b k cl t A cap w hr hl)
  have KDE := Lib.hid (fun t A cap w hr hl hf => rdeep_any t A cap w hr hl hf)
  obtain ⟨ck, hck⟩ : ∃ z, checkO k cl b tt d l p = z := ⟨_, rfl⟩
  rw [hck] at KCK HN1 HYES
  clear hck
  go_enter Try.func35, Try.ntmps35
  go_upto_region 2 with (fail)
  have kF0 := Blk.new w #[.int .i64 k, .int .i64 cl, .int .i64 b, .int .i64 tt, .int .i64 d, .int .i64 l, .int .i64 p, .int .i64 cols, .int .u64 (seed : Int), .slice Ae ne ce, .slice At nt ct, .int .i64 num, .int .i64 den, .slice As ns cs] 59
  have kC := Blk.new (w.alloc (.cells #[.int .i64 k, .int .i64 cl, .int .i64 b, .int .i64 tt, .int .i64 d, .int .i64 l, .int .i64 p, .int .i64 cols, .int .u64 (seed : Int), .slice Ae ne ce, .slice At nt ct, .int .i64 num, .int .i64 den, .slice As ns cs] 59)) #[.int .i64 k, .int .i64 cl, .int .i64 b, .int .i64 tt, .int .i64 d, .int .i64 l, .int .i64 p] 45
  rw [World.size_alloc] at kC
  have bb : Below (w.alloc (.cells #[.int .i64 k, .int .i64 cl, .int .i64 b, .int .i64 tt, .int .i64 d, .int .i64 l, .int .i64 p, .int .i64 cols, .int .u64 (seed : Int), .slice Ae ne ce, .slice At nt ct, .int .i64 num, .int .i64 den, .slice As ns cs] 59)).heap.size (w.alloc (.cells #[.int .i64 k, .int .i64 cl, .int .i64 b, .int .i64 tt, .int .i64 d, .int .i64 l, .int .i64 p, .int .i64 cols, .int .u64 (seed : Int), .slice Ae ne ce, .slice At nt ct, .int .i64 num, .int .i64 den, .slice As ns cs] 59)) ((w.alloc (.cells #[.int .i64 k, .int .i64 cl, .int .i64 b, .int .i64 tt, .int .i64 d, .int .i64 l, .int .i64 p, .int .i64 cols, .int .u64 (seed : Int), .slice Ae ne ce, .slice At nt ct, .int .i64 num, .int .i64 den, .slice As ns cs] 59)).alloc (.cells #[.int .i64 k, .int .i64 cl, .int .i64 b, .int .i64 tt, .int .i64 d, .int .i64 l, .int .i64 p] 45)) := (Below.refl _ _).alloc (Nat.le_refl _) _
  have HBE := Lib.hid (((Below.refl w.heap.size w).alloc (Nat.le_refl _) (.cells #[.int .i64 k, .int .i64 cl, .int .i64 b, .int .i64 tt, .int .i64 d, .int .i64 l, .int .i64 p, .int .i64 cols, .int .u64 (seed : Int), .slice Ae ne ce, .slice At nt ct, .int .i64 num, .int .i64 den, .slice As ns cs] 59)).alloc (by simp) (.cells #[.int .i64 k, .int .i64 cl, .int .i64 b, .int .i64 tt, .int .i64 d, .int .i64 l, .int .i64 p] 45))
  have kF := kF0.below bb
  obtain ⟨W, hW⟩ : ∃ W, (w.alloc (.cells #[.int .i64 k, .int .i64 cl, .int .i64 b, .int .i64 tt, .int .i64 d, .int .i64 l, .int .i64 p, .int .i64 cols, .int .u64 (seed : Int), .slice Ae ne ce, .slice At nt ct, .int .i64 num, .int .i64 den, .slice As ns cs] 59)).alloc (.cells #[.int .i64 k, .int .i64 cl, .int .i64 b, .int .i64 tt, .int .i64 d, .int .i64 l, .int .i64 p] 45) = W := ⟨_, rfl⟩
  rw [hW] at kF kC HBE ⊢
  obtain ⟨g1, hg1⟩ : ∃ z, w.heap.size + 1 = z := ⟨_, rfl⟩
  rw [hg1] at kC ⊢
  have HKF := Lib.hid (fun W' (hb : Below W.heap.size W W') => (kF.below hb).cells14)
  have HKC := Lib.hid (fun W' (hb : Below W.heap.size W W') => (show W'.cell? ⟨g1, 0, none⟩ = some (.int .i64 k) ∧ W'.cell? ⟨g1, 1, none⟩ = some (.int .i64 cl) ∧ W'.cell? ⟨g1, 2, none⟩ = some (.int .i64 b) ∧ W'.cell? ⟨g1, 3, none⟩ = some (.int .i64 tt) ∧ W'.cell? ⟨g1, 4, none⟩ = some (.int .i64 d) ∧ W'.cell? ⟨g1, 5, none⟩ = some (.int .i64 l) ∧ W'.cell? ⟨g1, 6, none⟩ = some (.int .i64 p) from ⟨(kC.below hb).cell 0, (kC.below hb).cell 1, (kC.below hb).cell 2, (kC.below hb).cell 3, (kC.below hb).cell 4, (kC.below hb).cell 5, (kC.below hb).cell 6⟩))
  have HRR := Lib.hid (fun W' (hb : Below W.heap.size W W') => HR0.out.below (HBE.out.trans (hb.mono HBE.out.size)))
  have HX0 := Lib.hid (Below.refl W.heap.size W)
  obtain ⟨c0, c1, c2, c3, c4, c5, c6⟩ := HKC.out _ HX0.out
  clear kF0 kF kC bb hW hg1 HR0
  go_wp2_with fail
  refine (KCK.out _).mono ?_
  rintro e w1 ⟨rfl, hb⟩
  have HX1 := Lib.hid (HX0.out.trans (hb.mono HX0.out.size))
  clear hb c0 c1 c2 c3 c4 c5 c6
  obtain ⟨c0, c1, c2, c3, c4, c5, c6⟩ := HKC.out _ HX1.out
  obtain ⟨q0, q1, q2, q3, q4, q5, q6, q7, q8, q9, q10, q11, q12, q13⟩ := HKF.out _ HX1.out
  by_cases h0 : ck = 0
  rotate_left
  · have HF : Hid (R = false) := Lib.hid (HN1.out (fun h => by omega))
    have e1 : ((ck : Int) == (0 : Int)) = false := beq_eq_false_iff_ne.2 (by omega)
    have e2 : ((ck : Int) != (0 : Int)) = true := bne_iff_ne.2 (by omega)
    go_wp2_with fail
    go_ret
    exact ⟨by rw [HF.out]; rfl, HBE.out.trans (HX1.out.mono HBE.out.size)⟩
  subst h0
  by_cases h1 : cols < 1
  · have HF : Hid (R = false) := Lib.hid (HN1.out (fun h => by omega))
    have d1 : decide (cols < 1) = true := decide_eq_true h1
    go_wp2_with fail
    go_ret
    exact ⟨by rw [HF.out]; rfl, HBE.out.trans (HX1.out.mono HBE.out.size)⟩
  have d1 : decide (cols < 1) = false := decide_eq_false h1
  by_cases h2 : 1024 < cols
  · have HF : Hid (R = false) := Lib.hid (HN1.out (fun h => by omega))
    have d2 : decide (1024 < cols) = true := decide_eq_true h2
    go_wp2_with fail
    go_ret
    exact ⟨by rw [HF.out]; rfl, HBE.out.trans (HX1.out.mono HBE.out.size)⟩
  have d2 : decide (1024 < cols) = false := decide_eq_false h2
  by_cases h3 : (ne : Int) = cols
  rotate_left
  · have HF : Hid (R = false) := Lib.hid (HN1.out (fun h => by omega))
    have e1 : ((ne : Int) == (cols : Int)) = false := beq_eq_false_iff_ne.2 (by omega)
    have e2 : ((ne : Int) != (cols : Int)) = true := bne_iff_ne.2 (by omega)
    go_wp2_with fail
    go_ret
    exact ⟨by rw [HF.out]; rfl, HBE.out.trans (HX1.out.mono HBE.out.size)⟩
  subst h3
  by_cases h4 : ns = ne
  rotate_left
  · have HF : Hid (R = false) := Lib.hid (HN1.out (fun h => by omega))
    have e1 : ((ns : Int) == (ne : Int)) = false := beq_eq_false_iff_ne.2 (by omega)
    have e2 : ((ns : Int) != (ne : Int)) = true := bne_iff_ne.2 (by omega)
    go_wp2_with fail
    go_ret
    exact ⟨by rw [HF.out]; rfl, HBE.out.trans (HX1.out.mono HBE.out.size)⟩
  obtain rfl : ne = ns := h4.symm
  by_cases h5 : (nt : Int) = tt
  rotate_left
  · have HF : Hid (R = false) := Lib.hid (HN1.out (fun h => by omega))
    have e1 : ((nt : Int) == (tt : Int)) = false := beq_eq_false_iff_ne.2 (by omega)
    have e2 : ((nt : Int) != (tt : Int)) = true := bne_iff_ne.2 (by omega)
    go_wp2_with fail
    go_ret
    exact ⟨by rw [HF.out]; rfl, HBE.out.trans (HX1.out.mono HBE.out.size)⟩
  subst h5
  have HH : Hid (outE _ = true → (∀ x ∈ edges, cutsE b x = true) → (∀ x ∈ shake, shkE _ x = true) → (∀ t ∈ trees, treeE _ t = true) → R = true) := Lib.hid (fun a1 a2 a3 a4 => HYES.out ⟨⟨rfl, by omega, by omega, rfl, rfl, rfl⟩, a1, a2, a3, a4⟩)
  have hc1024 : ne ≤ 1024 := by omega
  clear HN1 HYES
  go_wp2_with fail
  clear d1 d2 h1 h2
  obtain ⟨BD, hBD⟩ : ∃ z, bndO k den = z := ⟨_, rfl⟩
  rw [hBD] at HOE HSHK
  have HBD := Lib.hid hBD
  clear hBD
  by_cases o1 : den < 0
  · have a1 : decide (den < 0) = true := decide_eq_true o1
    have HF : Hid (R = false) := Lib.hid (HN2.out (by rw [HOE.out]; simp; omega))
    go_quiet (fail)
    go_wp2_with fail
    go_ret
    refine ⟨by rw [HF.out]; rfl, HBE.out.trans (Below.mono (Below.trans HX1.out ?_) HBE.out.size)⟩
    exact ⟨rfl, rfl, rfl, Nat.le_refl _, fun _ _ => rfl⟩
  have a1 : decide (den < 0) = false := decide_eq_false o1
  by_cases o2 : 1048576 < den
  · have a2 : decide (1048576 < den) = true := decide_eq_true o2
    have HF : Hid (R = false) := Lib.hid (HN2.out (by rw [HOE.out]; simp; omega))
    go_quiet (fail)
    go_wp2_with fail
    go_ret
    refine ⟨by rw [HF.out]; rfl, HBE.out.trans (Below.mono (Below.trans HX1.out ?_) HBE.out.size)⟩
    exact ⟨rfl, rfl, rfl, Nat.le_refl _, fun _ _ => rfl⟩
  have a2 : decide (1048576 < den) = false := decide_eq_false o2
  by_cases o3 : num < 0
  · have a3 : decide (num < 0) = true := decide_eq_true o3
    have HF : Hid (R = false) := Lib.hid (HN2.out (by rw [HOE.out]; simp; omega))
    go_quiet (fail)
    go_wp2_with fail
    go_ret
    refine ⟨by rw [HF.out]; rfl, HBE.out.trans (Below.mono (Below.trans HX1.out ?_) HBE.out.size)⟩
    exact ⟨rfl, rfl, rfl, Nat.le_refl _, fun _ _ => rfl⟩
  have a3 : decide (num < 0) = false := decide_eq_false o3
  have KBD := Lib.hid (fun w => rbound28_any k den (by omega) w)
  rw [HBD.out] at KBD
  have hnw : IntKind.u64.wrap num = num := by have := HIN.out.1; unfold in64 at this; rw [IntKind.wrap_u64]; omega
  by_cases o4 : BD < num
  · have a4 : decide (BD < num) = true := decide_eq_true o4
    have HF : Hid (R = false) := Lib.hid (HN2.out (by rw [HOE.out]; simp; omega))
    go_quiet ((go_at_call 75; exact Calls.quiet_of_same (KBD.out _)))
    go_wp2_with fail
    go_ret
    refine ⟨by rw [HF.out]; rfl, HBE.out.trans (Below.mono (Below.trans HX1.out ?_) HBE.out.size)⟩
    exact ⟨rfl, rfl, rfl, Nat.le_refl _, fun _ _ => rfl⟩
  have a4 : decide (BD < num) = false := decide_eq_false o4
  have HOT : Hid (outE _ = true) := Lib.hid (by rw [HOE.out]; simp; omega)
  go_quiet ((go_at_call 75; exact Calls.quiet_of_same (KBD.out _)))
  go_wp2_with fail
  have HX2 : Hid (Below W.heap.size W (World.drewN w1 nq)) := Lib.hid (HX1.out.trans ⟨rfl, rfl, rfl, Nat.le_refl _, fun _ _ => rfl⟩)
  have HDN := Lib.hid (show 0 ≤ den ∧ den ≤ 1048576 by omega)
  clear a1 a2 a3 a4 o1 o2 o3 o4 hnw q0 q1 q2 q3 q4 q5 q6 q7 q8 q9 q10 q11 q12 q13 c0 c1 c2 c3 c4 c5 c6
  go_loopw [4] (fun iv wr => ∃ j : Nat, j ≤ ne ∧ iv = .int .i64 j ∧ Hid ((∀ (i : Nat) x, i < j → edges[i]? = some x → cutsE b x = true) ∧ (∀ (i : Nat) x, i < j → shake[i]? = some x → x.2 = den ∧ (x.1.natAbs : Int) ≤ BD)) ∧ Hid (Below W.heap.size W wr)) (fun iv _ => ne - (intOf iv).toNat)
  case atStart => exact ⟨0, Nat.zero_le _, rfl, Lib.hid ⟨fun i x h => by omega, fun i x h => by omega⟩, HX2⟩
  case round =>
    obtain ⟨j, hj, rfl, HI, HX⟩ := hrel
    have q7 := (HKF.out _ HX.out).2.2.2.2.2.2.2.1
    by_cases hlt : j < ne
    · have hlt' : (j : Int) < ne := by omega
      obtain ⟨ade, rfl, es, Be, cap, h1, h2, _, _, h5⟩ := (HRR.out _ HX.out).re.at (i := j) (by have := HLN.out.1; simp only; omega)
      obtain ⟨ads, rfl, ⟨xn, xd⟩, g1', i1, i2, g2, g3⟩ := (HRR.out _ HX.out).rs.at (i := j) (by have := HLN.out.2.2; simp only; omega)
      simp only at h1 g1' i1 i2 g2 g3
      have HE1 := Lib.hid h1
      have HG1 := Lib.hid g1'
      have hlen := HOK.out.ee es (List.mem_of_getElem? h1)
      have HRF := Lib.hid (fun W' (hb : Below wr.heap.size wr W') => h5.below hb)
      have KCX := Lib.hid (fun W' hb => KCU.out es Be cap W' (HRF.out W' hb) (by omega))
      obtain ⟨m, hm⟩ : ∃ n, es.length = n := ⟨_, rfl⟩
      rw [hm] at h2 KCX
      obtain ⟨cu, hcu⟩ : ∃ z, cutsE b es = z := ⟨_, rfl⟩
      rw [hcu] at KCX
      have HCU := Lib.hid hcu
      have HSX := Lib.hid (HSHK.out (xn, xd) HDN.out)
      simp only at HSX
      have KSZ := Lib.hid (fun w => rsize_any xn (by unfold in64 at i1; unfold inR; omega) w)
      obtain ⟨na, hna⟩ : ∃ z, xn.natAbs = z := ⟨_, rfl⟩
      have hna' := hna
      rw [hna] at KSZ HSX
      have HALL := Lib.hid (fun W' hb => (HKF.out W' hb).elim fun x0 h => h.elim fun x1 h => h.elim fun x2 h => h.elim fun x3 h => h.elim fun x4 h => h.elim fun x5 h => h.elim fun x6 h => h.elim fun x7 h => h.elim fun x8 h => h.elim fun x9 h => h.elim fun x10 h => h.elim fun x11 h => h.elim fun x12 x13 => (HKC.out W' hb).elim fun y0 h => h.elim fun y1 h => h.elim fun y2 h => h.elim fun y3 h => h.elim fun y4 h => h.elim fun y5 y6 => And.intro x0 (And.intro x1 (And.intro x2 (And.intro x3 (And.intro x4 (And.intro x5 (And.intro x6 (And.intro x7 (And.intro x8 (And.intro x9 (And.intro x10 (And.intro x11 (And.intro x12 (And.intro x13 (And.intro y0 (And.intro y1 (And.intro y2 (And.intro y3 (And.intro y4 (And.intro y5 y6))))))))))))))))))))
      have HSS : Hid (∀ W', Below wr.heap.size wr W' → (fun W => W.cell? (ade.add j) = some (.slice Be m cap) ∧ W.cell? (ads.add (j * 2)) = some (.int .i64 xn) ∧ W.cell? ⟨(ads.add (j * 2)).block, (ads.add (j * 2)).off + 1, none⟩ = some (.int .i64 xd) ∧ W.cell? ⟨w.heap.size, 0, none⟩ = some (.int .i64 k) ∧ W.cell? ⟨w.heap.size, 1, none⟩ = some (.int .i64 cl) ∧ W.cell? ⟨w.heap.size, 2, none⟩ = some (.int .i64 b) ∧ W.cell? ⟨w.heap.size, 3, none⟩ = some (.int .i64 (nt : Int)) ∧ W.cell? ⟨w.heap.size, 4, none⟩ = some (.int .i64 d) ∧ W.cell? ⟨w.heap.size, 5, none⟩ = some (.int .i64 l) ∧ W.cell? ⟨w.heap.size, 6, none⟩ = some (.int .i64 p) ∧ W.cell? ⟨w.heap.size, 7, none⟩ = some (.int .i64 (ne : Int)) ∧ W.cell? ⟨w.heap.size, 8, none⟩ = some (.int .u64 (seed : Int)) ∧ W.cell? ⟨w.heap.size, 9, none⟩ = some (.slice (some ade) ne ce) ∧ W.cell? ⟨w.heap.size, 10, none⟩ = some (.slice At nt ct) ∧ W.cell? ⟨w.heap.size, 11, none⟩ = some (.int .i64 num) ∧ W.cell? ⟨w.heap.size, 12, none⟩ = some (.int .i64 den) ∧ W.cell? ⟨w.heap.size, 13, none⟩ = some (.slice (some ads) ne cs) ∧ W.cell? ⟨g1, 0, none⟩ = some (.int .i64 k) ∧ W.cell? ⟨g1, 1, none⟩ = some (.int .i64 cl) ∧ W.cell? ⟨g1, 2, none⟩ = some (.int .i64 b) ∧ W.cell? ⟨g1, 3, none⟩ = some (.int .i64 (nt : Int)) ∧ W.cell? ⟨g1, 4, none⟩ = some (.int .i64 d) ∧ W.cell? ⟨g1, 5, none⟩ = some (.int .i64 l) ∧ W.cell? ⟨g1, 6, none⟩ = some (.int .i64 p)) W') := Lib.hid (fun W' hb => ⟨(hb.cell (World.block_lt_of_cell? wr _ h2)).trans h2, (hb.cell (World.block_lt_of_cell? wr _ g2)).trans g2, (hb.cell (World.block_lt_of_cell? wr _ g3)).trans g3, HALL.out W' (HX.out.trans (hb.mono HX.out.size))⟩)
      have HY0 := Lib.hid ((Below.refl wr.heap.size wr).drew)
      clear h1 g1' h5 hm hcu hna i2 HALL
      go_upto_region 9 with (fail)
      refine wp_region_held_drew (S := (fun W => W.cell? (ade.add j) = some (.slice Be m cap) ∧ W.cell? (ads.add (j * 2)) = some (.int .i64 xn) ∧ W.cell? ⟨(ads.add (j * 2)).block, (ads.add (j * 2)).off + 1, none⟩ = some (.int .i64 xd) ∧ W.cell? ⟨w.heap.size, 0, none⟩ = some (.int .i64 k) ∧ W.cell? ⟨w.heap.size, 1, none⟩ = some (.int .i64 cl) ∧ W.cell? ⟨w.heap.size, 2, none⟩ = some (.int .i64 b) ∧ W.cell? ⟨w.heap.size, 3, none⟩ = some (.int .i64 (nt : Int)) ∧ W.cell? ⟨w.heap.size, 4, none⟩ = some (.int .i64 d) ∧ W.cell? ⟨w.heap.size, 5, none⟩ = some (.int .i64 l) ∧ W.cell? ⟨w.heap.size, 6, none⟩ = some (.int .i64 p) ∧ W.cell? ⟨w.heap.size, 7, none⟩ = some (.int .i64 (ne : Int)) ∧ W.cell? ⟨w.heap.size, 8, none⟩ = some (.int .u64 (seed : Int)) ∧ W.cell? ⟨w.heap.size, 9, none⟩ = some (.slice (some ade) ne ce) ∧ W.cell? ⟨w.heap.size, 10, none⟩ = some (.slice At nt ct) ∧ W.cell? ⟨w.heap.size, 11, none⟩ = some (.int .i64 num) ∧ W.cell? ⟨w.heap.size, 12, none⟩ = some (.int .i64 den) ∧ W.cell? ⟨w.heap.size, 13, none⟩ = some (.slice (some ads) ne cs) ∧ W.cell? ⟨g1, 0, none⟩ = some (.int .i64 k) ∧ W.cell? ⟨g1, 1, none⟩ = some (.int .i64 cl) ∧ W.cell? ⟨g1, 2, none⟩ = some (.int .i64 b) ∧ W.cell? ⟨g1, 3, none⟩ = some (.int .i64 (nt : Int)) ∧ W.cell? ⟨g1, 4, none⟩ = some (.int .i64 d) ∧ W.cell? ⟨g1, 5, none⟩ = some (.int .i64 l) ∧ W.cell? ⟨g1, 6, none⟩ = some (.int .i64 p))) (by kernel_rfl) ?_ (fun hS0 => ?_)
      · exact HSS.out _ HY0.out
      clear h2 g2 g3 q7
      refine' wpAnyH_take (i := 0) (v := _) rfl (by kernel_rfl) (by kernel_rfl) (by kernel_rfl) (fun _ _ _ h => h) (Or.inl ⟨by rfl, ?hym1⟩) hS0 ?restm1
      case hym1 => (intro w hSw; (try dsimp only at hSw); go_simp; try with_reducible rfl)
      simp only [Act.put, List.setIfInBounds_toArray, List.set_cons_zero, List.set_cons_succ, List.getElem_toArray, List.getElem_cons_zero, List.getElem_cons_succ]
      refine' wpAnyH_take (i := 1) (v := _) rfl (by kernel_rfl) (by kernel_rfl) (by kernel_rfl) (fun _ _ _ h => h) (Or.inl ⟨by rfl, ?hym2⟩) hS0 ?restm2
      case hym2 => (intro w hSw; (try dsimp only at hSw); go_simp; try with_reducible rfl)
      simp only [Act.put, List.setIfInBounds_toArray, List.set_cons_zero, List.set_cons_succ, List.getElem_toArray, List.getElem_cons_zero, List.getElem_cons_succ]
      refine' wpAnyH_take (i := 2) (v := _) rfl (by kernel_rfl) (by kernel_rfl) (by kernel_rfl) (fun _ _ _ h => h) (Or.inl ⟨by rfl, ?hym3⟩) hS0 ?restm3
      case hym3 => (intro w hSw; (try dsimp only at hSw); go_simp; try with_reducible rfl)
      simp only [Act.put, List.setIfInBounds_toArray, List.set_cons_zero, List.set_cons_succ, List.getElem_toArray, List.getElem_cons_zero, List.getElem_cons_succ]
      refine' wpAnyH_take (i := 3) (v := _) rfl (by kernel_rfl) (by kernel_rfl) (by kernel_rfl) (fun _ _ _ h => h) (Or.inl ⟨by rfl, ?hym4⟩) hS0 ?restm4
      case hym4 => (intro w hSw; (try dsimp only at hSw); go_simp; try with_reducible rfl)
      simp only [Act.put, List.setIfInBounds_toArray, List.set_cons_zero, List.set_cons_succ, List.getElem_toArray, List.getElem_cons_zero, List.getElem_cons_succ]
      refine' wpAnyH_take (i := 4) (v := _) rfl (by kernel_rfl) (by kernel_rfl) (by kernel_rfl) (fun _ _ _ h => h) (Or.inl ⟨by rfl, ?hym5⟩) hS0 ?restm5
      case hym5 => (intro w hSw; (try dsimp only at hSw); go_simp; try with_reducible rfl)
      simp only [Act.put, List.setIfInBounds_toArray, List.set_cons_zero, List.set_cons_succ, List.getElem_toArray, List.getElem_cons_zero, List.getElem_cons_succ]
      refine' wpAnyH_take (i := 5) (v := _) rfl (by kernel_rfl) (by kernel_rfl) (by kernel_rfl) (fun _ _ _ h => h) (Or.inl ⟨by rfl, ?hym6⟩) hS0 ?restm6
      case hym6 => (intro w hSw; (try dsimp only at hSw); go_simp; try with_reducible rfl)
      simp only [Act.put, List.setIfInBounds_toArray, List.set_cons_zero, List.set_cons_succ, List.getElem_toArray, List.getElem_cons_zero, List.getElem_cons_succ]
      refine' wpAnyH_take (i := 6) (v := _) rfl (by kernel_rfl) (by kernel_rfl) (by kernel_rfl) (fun _ _ _ h => h) (Or.inl ⟨by rfl, ?hym7⟩) hS0 ?restm7
      case hym7 => (intro w hSw; (try dsimp only at hSw); go_simp; try with_reducible rfl)
      simp only [Act.put, List.setIfInBounds_toArray, List.set_cons_zero, List.set_cons_succ, List.getElem_toArray, List.getElem_cons_zero, List.getElem_cons_succ]
      refine wpAnyH_ready (rs := [7]) (by kernel_rfl) (by simp) ?_
      refine AllReadyH.cons rfl (fun K hK => ?_) AllReadyH.nil
      go_simp
      refine (KCX.out _ HY0.out).mono ?_
      rintro e wq1 ⟨rfl, hb⟩
      have HY1 := Lib.hid (HY0.out.trans (hb.mono HY0.out.size))
      clear hb
      refine hK.out _ _ (HSS.out _ HY1.out) (fun hS1 => ?_)
      clear hK K
      refine' wpAnyH_take (i := 8) (v := _) rfl (by kernel_rfl) (by kernel_rfl) (by kernel_rfl) (fun _ _ _ h => h) (Or.inl ⟨by rfl, ?hym8⟩) hS1 ?restm8
      case hym8 => (intro w hSw; (try dsimp only at hSw); go_simp; try with_reducible rfl)
      simp only [Act.put, List.setIfInBounds_toArray, List.set_cons_zero, List.set_cons_succ, List.getElem_toArray, List.getElem_cons_zero, List.getElem_cons_succ]
      cases cu with
      | false =>
        refine' wpAnyH_take (i := 9) (v := _) rfl (by kernel_rfl) (by kernel_rfl) (by kernel_rfl) (fun _ _ _ h => h) (Or.inl ⟨by rfl, ?hym9⟩) hS1 ?restm9
        case hym9 => (intro w hSw; (try dsimp only at hSw); go_simp; try with_reducible rfl)
        simp only [Act.put, List.setIfInBounds_toArray, List.set_cons_zero, List.set_cons_succ, List.getElem_toArray, List.getElem_cons_zero, List.getElem_cons_succ]
        refine' wpAnyH_take (i := 10) (v := _) rfl (by kernel_rfl) (by kernel_rfl) (by kernel_rfl) (fun _ _ _ h => h) (Or.inr ⟨by rfl, rfl⟩) hS1 ?restm10
        simp only [Act.put, List.setIfInBounds_toArray, List.set_cons_zero, List.set_cons_succ, List.getElem_toArray, List.getElem_cons_zero, List.getElem_cons_succ]
        refine' wpAnyH_take (i := 11) (v := _) rfl (by kernel_rfl) (by kernel_rfl) (by kernel_rfl) (fun _ _ _ h => h) (Or.inr ⟨by rfl, rfl⟩) hS1 ?restm11
        simp only [Act.put, List.setIfInBounds_toArray, List.set_cons_zero, List.set_cons_succ, List.getElem_toArray, List.getElem_cons_zero, List.getElem_cons_succ]
        refine' wpAnyH_take (i := 12) (v := _) rfl (by kernel_rfl) (by kernel_rfl) (by kernel_rfl) (fun _ _ _ h => h) (Or.inr ⟨by rfl, rfl⟩) hS1 ?restm12
        simp only [Act.put, List.setIfInBounds_toArray, List.set_cons_zero, List.set_cons_succ, List.getElem_toArray, List.getElem_cons_zero, List.getElem_cons_succ]
        refine' wpAnyH_take (i := 13) (v := _) rfl (by kernel_rfl) (by kernel_rfl) (by kernel_rfl) (fun _ _ _ h => h) (Or.inr ⟨by rfl, rfl⟩) hS1 ?restm13
        simp only [Act.put, List.setIfInBounds_toArray, List.set_cons_zero, List.set_cons_succ, List.getElem_toArray, List.getElem_cons_zero, List.getElem_cons_succ]
        refine' wpAnyH_take (i := 14) (v := _) rfl (by kernel_rfl) (by kernel_rfl) (by kernel_rfl) (fun _ _ _ h => h) (Or.inr ⟨by rfl, rfl⟩) hS1 ?restm14
        simp only [Act.put, List.setIfInBounds_toArray, List.set_cons_zero, List.set_cons_succ, List.getElem_toArray, List.getElem_cons_zero, List.getElem_cons_succ]
        refine' wpAnyH_take (i := 15) (v := _) rfl (by kernel_rfl) (by kernel_rfl) (by kernel_rfl) (fun _ _ _ h => h) (Or.inr ⟨by rfl, rfl⟩) hS1 ?restm15
        simp only [Act.put, List.setIfInBounds_toArray, List.set_cons_zero, List.set_cons_succ, List.getElem_toArray, List.getElem_cons_zero, List.getElem_cons_succ]
        refine' wpAnyH_take (i := 16) (v := _) rfl (by kernel_rfl) (by kernel_rfl) (by kernel_rfl) (fun _ _ _ h => h) (Or.inr ⟨by rfl, rfl⟩) hS1 ?restm16
        simp only [Act.put, List.setIfInBounds_toArray, List.set_cons_zero, List.set_cons_succ, List.getElem_toArray, List.getElem_cons_zero, List.getElem_cons_succ]
        refine' wpAnyH_take (i := 17) (v := _) rfl (by kernel_rfl) (by kernel_rfl) (by kernel_rfl) (fun _ _ _ h => h) (Or.inr ⟨by rfl, rfl⟩) hS1 ?restm17
        simp only [Act.put, List.setIfInBounds_toArray, List.set_cons_zero, List.set_cons_succ, List.getElem_toArray, List.getElem_cons_zero, List.getElem_cons_succ]
        refine' wpAnyH_take (i := 18) (v := _) rfl (by kernel_rfl) (by kernel_rfl) (by kernel_rfl) (fun _ _ _ h => h) (Or.inr ⟨by rfl, rfl⟩) hS1 ?restm18
        simp only [Act.put, List.setIfInBounds_toArray, List.set_cons_zero, List.set_cons_succ, List.getElem_toArray, List.getElem_cons_zero, List.getElem_cons_succ]
        refine' wpAnyH_take (i := 19) (v := _) rfl (by kernel_rfl) (by kernel_rfl) (by kernel_rfl) (fun _ _ _ h => h) (Or.inr ⟨by rfl, rfl⟩) hS1 ?restm19
        simp only [Act.put, List.setIfInBounds_toArray, List.set_cons_zero, List.set_cons_succ, List.getElem_toArray, List.getElem_cons_zero, List.getElem_cons_succ]
        refine' wpAnyH_take (i := 20) (v := _) rfl (by kernel_rfl) (by kernel_rfl) (by kernel_rfl) (fun _ _ _ h => h) (Or.inl ⟨by rfl, ?hym20⟩) hS1 ?restm20
        case hym20 => (intro w hSw; (try dsimp only at hSw); go_simp; try with_reducible rfl)
        simp only [Act.put, List.setIfInBounds_toArray, List.set_cons_zero, List.set_cons_succ, List.getElem_toArray, List.getElem_cons_zero, List.getElem_cons_succ]
        refine' wpAnyH_take (i := 21) (v := _) rfl (by kernel_rfl) (by kernel_rfl) (by kernel_rfl) (fun _ _ _ h => h) (Or.inl ⟨by rfl, ?hym21⟩) hS1 ?restm21
        case hym21 => (intro w hSw; (try dsimp only at hSw); go_simp; try with_reducible rfl)
        simp only [Act.put, List.setIfInBounds_toArray, List.set_cons_zero, List.set_cons_succ, List.getElem_toArray, List.getElem_cons_zero, List.getElem_cons_succ]
        refine' wpAnyH_take (i := 22) (v := _) rfl (by kernel_rfl) (by kernel_rfl) (by kernel_rfl) (fun _ _ _ h => h) (Or.inr ⟨by rfl, rfl⟩) hS1 ?restm22
        simp only [Act.put, List.setIfInBounds_toArray, List.set_cons_zero, List.set_cons_succ, List.getElem_toArray, List.getElem_cons_zero, List.getElem_cons_succ]
        refine' wpAnyH_take (i := 23) (v := _) rfl (by kernel_rfl) (by kernel_rfl) (by kernel_rfl) (fun _ _ _ h => h) (Or.inr ⟨by rfl, rfl⟩) hS1 ?restm23
        simp only [Act.put, List.setIfInBounds_toArray, List.set_cons_zero, List.set_cons_succ, List.getElem_toArray, List.getElem_cons_zero, List.getElem_cons_succ]
        refine' wpAnyH_take (i := 24) (v := _) rfl (by kernel_rfl) (by kernel_rfl) (by kernel_rfl) (fun _ _ _ h => h) (Or.inr ⟨by rfl, rfl⟩) hS1 ?restm24
        simp only [Act.put, List.setIfInBounds_toArray, List.set_cons_zero, List.set_cons_succ, List.getElem_toArray, List.getElem_cons_zero, List.getElem_cons_succ]
        refine' wpAnyH_take (i := 25) (v := _) rfl (by kernel_rfl) (by kernel_rfl) (by kernel_rfl) (fun _ _ _ h => h) (Or.inr ⟨by rfl, rfl⟩) hS1 ?restm25
        simp only [Act.put, List.setIfInBounds_toArray, List.set_cons_zero, List.set_cons_succ, List.getElem_toArray, List.getElem_cons_zero, List.getElem_cons_succ]
        refine' wpAnyH_take (i := 26) (v := _) rfl (by kernel_rfl) (by kernel_rfl) (by kernel_rfl) (fun _ _ _ h => h) (Or.inr ⟨by rfl, rfl⟩) hS1 ?restm26
        simp only [Act.put, List.setIfInBounds_toArray, List.set_cons_zero, List.set_cons_succ, List.getElem_toArray, List.getElem_cons_zero, List.getElem_cons_succ]
        refine' wpAnyH_take (i := 27) (v := _) rfl (by kernel_rfl) (by kernel_rfl) (by kernel_rfl) (fun _ _ _ h => h) (Or.inr ⟨by rfl, rfl⟩) hS1 ?restm27
        simp only [Act.put, List.setIfInBounds_toArray, List.set_cons_zero, List.set_cons_succ, List.getElem_toArray, List.getElem_cons_zero, List.getElem_cons_succ]
        refine' wpAnyH_take (i := 28) (v := _) rfl (by kernel_rfl) (by kernel_rfl) (by kernel_rfl) (fun _ _ _ h => h) (Or.inr ⟨by rfl, rfl⟩) hS1 ?restm28
        simp only [Act.put, List.setIfInBounds_toArray, List.set_cons_zero, List.set_cons_succ, List.getElem_toArray, List.getElem_cons_zero, List.getElem_cons_succ]
        refine' wpAnyH_take (i := 29) (v := _) rfl (by kernel_rfl) (by kernel_rfl) (by kernel_rfl) (fun _ _ _ h => h) (Or.inr ⟨by rfl, rfl⟩) hS1 ?restm29
        simp only [Act.put, List.setIfInBounds_toArray, List.set_cons_zero, List.set_cons_succ, List.getElem_toArray, List.getElem_cons_zero, List.getElem_cons_succ]
        refine' wpAnyH_take (i := 30) (v := _) rfl (by kernel_rfl) (by kernel_rfl) (by kernel_rfl) (fun _ _ _ h => h) (Or.inr ⟨by rfl, rfl⟩) hS1 ?restm30
        simp only [Act.put, List.setIfInBounds_toArray, List.set_cons_zero, List.set_cons_succ, List.getElem_toArray, List.getElem_cons_zero, List.getElem_cons_succ]
        refine' wpAnyH_take (i := 31) (v := _) rfl (by kernel_rfl) (by kernel_rfl) (by kernel_rfl) (fun _ _ _ h => h) (Or.inr ⟨by rfl, rfl⟩) hS1 ?restm31
        simp only [Act.put, List.setIfInBounds_toArray, List.set_cons_zero, List.set_cons_succ, List.getElem_toArray, List.getElem_cons_zero, List.getElem_cons_succ]
        refine' wpAnyH_take (i := 32) (v := _) rfl (by kernel_rfl) (by kernel_rfl) (by kernel_rfl) (fun _ _ _ h => h) (Or.inr ⟨by rfl, rfl⟩) hS1 ?restm32
        simp only [Act.put, List.setIfInBounds_toArray, List.set_cons_zero, List.set_cons_succ, List.getElem_toArray, List.getElem_cons_zero, List.getElem_cons_succ]
        refine' wpAnyH_take (i := 33) (v := _) rfl (by kernel_rfl) (by kernel_rfl) (by kernel_rfl) (fun _ _ _ h => h) (Or.inr ⟨by rfl, rfl⟩) hS1 ?restm33
        simp only [Act.put, List.setIfInBounds_toArray, List.set_cons_zero, List.set_cons_succ, List.getElem_toArray, List.getElem_cons_zero, List.getElem_cons_succ]
        refine' wpAnyH_take (i := 34) (v := _) rfl (by kernel_rfl) (by kernel_rfl) (by kernel_rfl) (fun _ _ _ h => h) (Or.inr ⟨by rfl, rfl⟩) hS1 ?restm34
        simp only [Act.put, List.setIfInBounds_toArray, List.set_cons_zero, List.set_cons_succ, List.getElem_toArray, List.getElem_cons_zero, List.getElem_cons_succ]
        refine' wpAnyH_take (i := 35) (v := _) rfl (by kernel_rfl) (by kernel_rfl) (by kernel_rfl) (fun _ _ _ h => h) (Or.inr ⟨by rfl, rfl⟩) hS1 ?restm35
        simp only [Act.put, List.setIfInBounds_toArray, List.set_cons_zero, List.set_cons_succ, List.getElem_toArray, List.getElem_cons_zero, List.getElem_cons_succ]
        refine' wpAnyH_take (i := 36) (v := _) rfl (by kernel_rfl) (by kernel_rfl) (by kernel_rfl) (fun _ _ _ h => h) (Or.inl ⟨by rfl, ?hym36⟩) hS1 ?restm36
        case hym36 => (intro w hSw; (try dsimp only at hSw); go_simp; try with_reducible rfl)
        simp only [Act.put, List.setIfInBounds_toArray, List.set_cons_zero, List.set_cons_succ, List.getElem_toArray, List.getElem_cons_zero, List.getElem_cons_succ]
        have HF := Lib.hid (HNE.out es (List.mem_of_getElem? HE1.out) HCU.out)
        refine wpAnyH_done (by kernel_rfl) ?_ _
        go_wp2_with fail
        go_ret
        exact ⟨by rw [HF.out]; rfl, HBE.out.trans ((HX.out.trans (HY1.out.mono HX.out.size)).mono HBE.out.size)⟩
      | true =>
        refine' wpAnyH_take (i := 9) (v := _) rfl (by kernel_rfl) (by kernel_rfl) (by kernel_rfl) (fun _ _ _ h => h) (Or.inl ⟨by rfl, ?hym37⟩) hS1 ?restm37
        case hym37 => (intro w hSw; (try dsimp only at hSw); go_simp; try with_reducible rfl)
        simp only [Act.put, List.setIfInBounds_toArray, List.set_cons_zero, List.set_cons_succ, List.getElem_toArray, List.getElem_cons_zero, List.getElem_cons_succ]
        refine' wpAnyH_take (i := 10) (v := _) rfl (by kernel_rfl) (by kernel_rfl) (by kernel_rfl) (fun _ _ _ h => h) (Or.inl ⟨by rfl, ?hym38⟩) hS1 ?restm38
        case hym38 => (intro w hSw; (try dsimp only at hSw); go_simp; try with_reducible rfl)
        simp only [Act.put, List.setIfInBounds_toArray, List.set_cons_zero, List.set_cons_succ, List.getElem_toArray, List.getElem_cons_zero, List.getElem_cons_succ]
        refine' wpAnyH_take (i := 11) (v := _) rfl (by kernel_rfl) (by kernel_rfl) (by kernel_rfl) (fun _ _ _ h => h) (Or.inl ⟨by rfl, ?hym39⟩) hS1 ?restm39
        case hym39 => (intro w hSw; (try dsimp only at hSw); go_simp; try with_reducible rfl)
        simp only [Act.put, List.setIfInBounds_toArray, List.set_cons_zero, List.set_cons_succ, List.getElem_toArray, List.getElem_cons_zero, List.getElem_cons_succ]
        refine' wpAnyH_take (i := 12) (v := _) rfl (by kernel_rfl) (by kernel_rfl) (by kernel_rfl) (fun _ _ _ h => h) (Or.inl ⟨by rfl, ?hym40⟩) hS1 ?restm40
        case hym40 => (intro w hSw; (try dsimp only at hSw); go_simp; try with_reducible rfl)
        simp only [Act.put, List.setIfInBounds_toArray, List.set_cons_zero, List.set_cons_succ, List.getElem_toArray, List.getElem_cons_zero, List.getElem_cons_succ]
        refine' wpAnyH_take (i := 13) (v := _) rfl (by kernel_rfl) (by kernel_rfl) (by kernel_rfl) (fun _ _ _ h => h) (Or.inl ⟨by rfl, ?hym41⟩) hS1 ?restm41
        case hym41 => (intro w hSw; (try dsimp only at hSw); go_simp; try with_reducible rfl)
        simp only [Act.put, List.setIfInBounds_toArray, List.set_cons_zero, List.set_cons_succ, List.getElem_toArray, List.getElem_cons_zero, List.getElem_cons_succ]
        refine' wpAnyH_take (i := 14) (v := _) rfl (by kernel_rfl) (by kernel_rfl) (by kernel_rfl) (fun _ _ _ h => h) (Or.inl ⟨by rfl, ?hym42⟩) hS1 ?restm42
        case hym42 => (intro w hSw; (try dsimp only at hSw); go_simp; try with_reducible rfl)
        simp only [Act.put, List.setIfInBounds_toArray, List.set_cons_zero, List.set_cons_succ, List.getElem_toArray, List.getElem_cons_zero, List.getElem_cons_succ]
        refine' wpAnyH_take (i := 15) (v := _) rfl (by kernel_rfl) (by kernel_rfl) (by kernel_rfl) (fun _ _ _ h => h) (Or.inl ⟨by rfl, ?hym43⟩) hS1 ?restm43
        case hym43 => (intro w hSw; (try dsimp only at hSw); go_simp; try with_reducible rfl)
        simp only [Act.put, List.setIfInBounds_toArray, List.set_cons_zero, List.set_cons_succ, List.getElem_toArray, List.getElem_cons_zero, List.getElem_cons_succ]
        refine' wpAnyH_take (i := 16) (v := _) rfl (by kernel_rfl) (by kernel_rfl) (by kernel_rfl) (fun _ _ _ h => h) (Or.inl ⟨by rfl, ?hym44⟩) hS1 ?restm44
        case hym44 => (intro w hSw; (try dsimp only at hSw); go_simp; try with_reducible rfl)
        simp only [Act.put, List.setIfInBounds_toArray, List.set_cons_zero, List.set_cons_succ, List.getElem_toArray, List.getElem_cons_zero, List.getElem_cons_succ]
        refine' wpAnyH_take (i := 17) (v := _) rfl (by kernel_rfl) (by kernel_rfl) (by kernel_rfl) (fun _ _ _ h => h) (Or.inl ⟨by rfl, ?hym45⟩) hS1 ?restm45
        case hym45 => (intro w hSw; (try dsimp only at hSw); go_simp; try with_reducible rfl)
        simp only [Act.put, List.setIfInBounds_toArray, List.set_cons_zero, List.set_cons_succ, List.getElem_toArray, List.getElem_cons_zero, List.getElem_cons_succ]
        refine' wpAnyH_take (i := 18) (v := _) rfl (by kernel_rfl) (by kernel_rfl) (by kernel_rfl) (fun _ _ _ h => h) (Or.inl ⟨by rfl, ?hym46⟩) hS1 ?restm46
        case hym46 => (intro w hSw; (try dsimp only at hSw); go_simp; try with_reducible rfl)
        simp only [Act.put, List.setIfInBounds_toArray, List.set_cons_zero, List.set_cons_succ, List.getElem_toArray, List.getElem_cons_zero, List.getElem_cons_succ]
        by_cases hd : xd = den
        rotate_left
        · have e1 : (xd == den) = false := beq_eq_false_iff_ne.2 hd
          have e2 : (xd != den) = true := bne_iff_ne.2 hd
          have HF : Hid (R = false) := Lib.hid (HNS.out (xn, xd) (List.mem_of_getElem? HG1.out) (by rw [HSX.out]; exact decide_eq_false (fun h => hd h.1)))
          refine' wpAnyH_take (i := 19) (v := _) rfl (by kernel_rfl) (by kernel_rfl) (by kernel_rfl) (fun _ _ _ h => h) (Or.inl ⟨by rfl, ?hym47⟩) hS1 ?restm47
          case hym47 => (intro w hSw; (try dsimp only at hSw); go_simp; try with_reducible rfl)
          simp only [Act.put, List.setIfInBounds_toArray, List.set_cons_zero, List.set_cons_succ, List.getElem_toArray, List.getElem_cons_zero, List.getElem_cons_succ]
          refine' wpAnyH_take (i := 20) (v := _) rfl (by kernel_rfl) (by kernel_rfl) (by kernel_rfl) (fun _ _ _ h => h) (Or.inl ⟨by rfl, ?hym48⟩) hS1 ?restm48
          case hym48 => (intro w hSw; (try dsimp only at hSw); go_simp; try with_reducible rfl)
          simp only [Act.put, List.setIfInBounds_toArray, List.set_cons_zero, List.set_cons_succ, List.getElem_toArray, List.getElem_cons_zero, List.getElem_cons_succ]
          refine' wpAnyH_take (i := 21) (v := _) rfl (by kernel_rfl) (by kernel_rfl) (by kernel_rfl) (fun _ _ _ h => h) (Or.inl ⟨by rfl, ?hym49⟩) hS1 ?restm49
          case hym49 => (intro w hSw; (try dsimp only at hSw); go_simp; try with_reducible rfl)
          simp only [Act.put, List.setIfInBounds_toArray, List.set_cons_zero, List.set_cons_succ, List.getElem_toArray, List.getElem_cons_zero, List.getElem_cons_succ]
          refine' wpAnyH_take (i := 22) (v := _) rfl (by kernel_rfl) (by kernel_rfl) (by kernel_rfl) (fun _ _ _ h => h) (Or.inr ⟨by rfl, rfl⟩) hS1 ?restm50
          simp only [Act.put, List.setIfInBounds_toArray, List.set_cons_zero, List.set_cons_succ, List.getElem_toArray, List.getElem_cons_zero, List.getElem_cons_succ]
          refine' wpAnyH_take (i := 23) (v := _) rfl (by kernel_rfl) (by kernel_rfl) (by kernel_rfl) (fun _ _ _ h => h) (Or.inr ⟨by rfl, rfl⟩) hS1 ?restm51
          simp only [Act.put, List.setIfInBounds_toArray, List.set_cons_zero, List.set_cons_succ, List.getElem_toArray, List.getElem_cons_zero, List.getElem_cons_succ]
          refine' wpAnyH_take (i := 24) (v := _) rfl (by kernel_rfl) (by kernel_rfl) (by kernel_rfl) (fun _ _ _ h => h) (Or.inr ⟨by rfl, rfl⟩) hS1 ?restm52
          simp only [Act.put, List.setIfInBounds_toArray, List.set_cons_zero, List.set_cons_succ, List.getElem_toArray, List.getElem_cons_zero, List.getElem_cons_succ]
          refine' wpAnyH_take (i := 25) (v := _) rfl (by kernel_rfl) (by kernel_rfl) (by kernel_rfl) (fun _ _ _ h => h) (Or.inr ⟨by rfl, rfl⟩) hS1 ?restm53
          simp only [Act.put, List.setIfInBounds_toArray, List.set_cons_zero, List.set_cons_succ, List.getElem_toArray, List.getElem_cons_zero, List.getElem_cons_succ]
          refine' wpAnyH_take (i := 26) (v := _) rfl (by kernel_rfl) (by kernel_rfl) (by kernel_rfl) (fun _ _ _ h => h) (Or.inr ⟨by rfl, rfl⟩) hS1 ?restm54
          simp only [Act.put, List.setIfInBounds_toArray, List.set_cons_zero, List.set_cons_succ, List.getElem_toArray, List.getElem_cons_zero, List.getElem_cons_succ]
          refine' wpAnyH_take (i := 27) (v := _) rfl (by kernel_rfl) (by kernel_rfl) (by kernel_rfl) (fun _ _ _ h => h) (Or.inr ⟨by rfl, rfl⟩) hS1 ?restm55
          simp only [Act.put, List.setIfInBounds_toArray, List.set_cons_zero, List.set_cons_succ, List.getElem_toArray, List.getElem_cons_zero, List.getElem_cons_succ]
          refine' wpAnyH_take (i := 28) (v := _) rfl (by kernel_rfl) (by kernel_rfl) (by kernel_rfl) (fun _ _ _ h => h) (Or.inr ⟨by rfl, rfl⟩) hS1 ?restm56
          simp only [Act.put, List.setIfInBounds_toArray, List.set_cons_zero, List.set_cons_succ, List.getElem_toArray, List.getElem_cons_zero, List.getElem_cons_succ]
          refine' wpAnyH_take (i := 29) (v := _) rfl (by kernel_rfl) (by kernel_rfl) (by kernel_rfl) (fun _ _ _ h => h) (Or.inr ⟨by rfl, rfl⟩) hS1 ?restm57
          simp only [Act.put, List.setIfInBounds_toArray, List.set_cons_zero, List.set_cons_succ, List.getElem_toArray, List.getElem_cons_zero, List.getElem_cons_succ]
          refine' wpAnyH_take (i := 30) (v := _) rfl (by kernel_rfl) (by kernel_rfl) (by kernel_rfl) (fun _ _ _ h => h) (Or.inr ⟨by rfl, rfl⟩) hS1 ?restm58
          simp only [Act.put, List.setIfInBounds_toArray, List.set_cons_zero, List.set_cons_succ, List.getElem_toArray, List.getElem_cons_zero, List.getElem_cons_succ]
          refine' wpAnyH_take (i := 31) (v := _) rfl (by kernel_rfl) (by kernel_rfl) (by kernel_rfl) (fun _ _ _ h => h) (Or.inr ⟨by rfl, rfl⟩) hS1 ?restm59
          simp only [Act.put, List.setIfInBounds_toArray, List.set_cons_zero, List.set_cons_succ, List.getElem_toArray, List.getElem_cons_zero, List.getElem_cons_succ]
          refine' wpAnyH_take (i := 32) (v := _) rfl (by kernel_rfl) (by kernel_rfl) (by kernel_rfl) (fun _ _ _ h => h) (Or.inr ⟨by rfl, rfl⟩) hS1 ?restm60
          simp only [Act.put, List.setIfInBounds_toArray, List.set_cons_zero, List.set_cons_succ, List.getElem_toArray, List.getElem_cons_zero, List.getElem_cons_succ]
          refine' wpAnyH_take (i := 33) (v := _) rfl (by kernel_rfl) (by kernel_rfl) (by kernel_rfl) (fun _ _ _ h => h) (Or.inr ⟨by rfl, rfl⟩) hS1 ?restm61
          simp only [Act.put, List.setIfInBounds_toArray, List.set_cons_zero, List.set_cons_succ, List.getElem_toArray, List.getElem_cons_zero, List.getElem_cons_succ]
          refine' wpAnyH_take (i := 34) (v := _) rfl (by kernel_rfl) (by kernel_rfl) (by kernel_rfl) (fun _ _ _ h => h) (Or.inr ⟨by rfl, rfl⟩) hS1 ?restm62
          simp only [Act.put, List.setIfInBounds_toArray, List.set_cons_zero, List.set_cons_succ, List.getElem_toArray, List.getElem_cons_zero, List.getElem_cons_succ]
          refine' wpAnyH_take (i := 35) (v := _) rfl (by kernel_rfl) (by kernel_rfl) (by kernel_rfl) (fun _ _ _ h => h) (Or.inr ⟨by rfl, rfl⟩) hS1 ?restm63
          simp only [Act.put, List.setIfInBounds_toArray, List.set_cons_zero, List.set_cons_succ, List.getElem_toArray, List.getElem_cons_zero, List.getElem_cons_succ]
          refine' wpAnyH_take (i := 36) (v := _) rfl (by kernel_rfl) (by kernel_rfl) (by kernel_rfl) (fun _ _ _ h => h) (Or.inl ⟨by rfl, ?hym64⟩) hS1 ?restm64
          case hym64 => (intro w hSw; (try dsimp only at hSw); go_simp; try with_reducible rfl)
          simp only [Act.put, List.setIfInBounds_toArray, List.set_cons_zero, List.set_cons_succ, List.getElem_toArray, List.getElem_cons_zero, List.getElem_cons_succ]
          clear hd
          refine wpAnyH_done (by kernel_rfl) ?_ _
          go_wp2_with fail
          go_ret
          exact ⟨by rw [HF.out]; rfl, HBE.out.trans ((HX.out.trans (HY1.out.mono HX.out.size)).mono HBE.out.size)⟩
        subst hd
        refine' wpAnyH_take (i := 19) (v := _) rfl (by kernel_rfl) (by kernel_rfl) (by kernel_rfl) (fun _ _ _ h => h) (Or.inl ⟨by rfl, ?hym65⟩) hS1 ?restm65
        case hym65 => (intro w hSw; (try dsimp only at hSw); go_simp; try with_reducible rfl)
        simp only [Act.put, List.setIfInBounds_toArray, List.set_cons_zero, List.set_cons_succ, List.getElem_toArray, List.getElem_cons_zero, List.getElem_cons_succ]
        refine' wpAnyH_take (i := 20) (v := _) rfl (by kernel_rfl) (by kernel_rfl) (by kernel_rfl) (fun _ _ _ h => h) (Or.inl ⟨by rfl, ?hym66⟩) hS1 ?restm66
        case hym66 => (intro w hSw; (try dsimp only at hSw); go_simp; try with_reducible rfl)
        simp only [Act.put, List.setIfInBounds_toArray, List.set_cons_zero, List.set_cons_succ, List.getElem_toArray, List.getElem_cons_zero, List.getElem_cons_succ]
        refine' wpAnyH_take (i := 21) (v := _) rfl (by kernel_rfl) (by kernel_rfl) (by kernel_rfl) (fun _ _ _ h => h) (Or.inl ⟨by rfl, ?hym67⟩) hS1 ?restm67
        case hym67 => (intro w hSw; (try dsimp only at hSw); go_simp; try with_reducible rfl)
        simp only [Act.put, List.setIfInBounds_toArray, List.set_cons_zero, List.set_cons_succ, List.getElem_toArray, List.getElem_cons_zero, List.getElem_cons_succ]
        refine' wpAnyH_take (i := 22) (v := _) rfl (by kernel_rfl) (by kernel_rfl) (by kernel_rfl) (fun _ _ _ h => h) (Or.inl ⟨by rfl, ?hym68⟩) hS1 ?restm68
        case hym68 => (intro w hSw; (try dsimp only at hSw); go_simp; try with_reducible rfl)
        simp only [Act.put, List.setIfInBounds_toArray, List.set_cons_zero, List.set_cons_succ, List.getElem_toArray, List.getElem_cons_zero, List.getElem_cons_succ]
        refine' wpAnyH_take (i := 23) (v := _) rfl (by kernel_rfl) (by kernel_rfl) (by kernel_rfl) (fun _ _ _ h => h) (Or.inl ⟨by rfl, ?hym69⟩) hS1 ?restm69
        case hym69 => (intro w hSw; (try dsimp only at hSw); go_simp; try with_reducible rfl)
        simp only [Act.put, List.setIfInBounds_toArray, List.set_cons_zero, List.set_cons_succ, List.getElem_toArray, List.getElem_cons_zero, List.getElem_cons_succ]
        refine' wpAnyH_take (i := 24) (v := _) rfl (by kernel_rfl) (by kernel_rfl) (by kernel_rfl) (fun _ _ _ h => h) (Or.inl ⟨by rfl, ?hym70⟩) hS1 ?restm70
        case hym70 => (intro w hSw; (try dsimp only at hSw); go_simp; try with_reducible rfl)
        simp only [Act.put, List.setIfInBounds_toArray, List.set_cons_zero, List.set_cons_succ, List.getElem_toArray, List.getElem_cons_zero, List.getElem_cons_succ]
        refine' wpAnyH_take (i := 25) (v := _) rfl (by kernel_rfl) (by kernel_rfl) (by kernel_rfl) (fun _ _ _ h => h) (Or.inl ⟨by rfl, ?hym71⟩) hS1 ?restm71
        case hym71 => (intro w hSw; (try dsimp only at hSw); go_simp; try with_reducible rfl)
        simp only [Act.put, List.setIfInBounds_toArray, List.set_cons_zero, List.set_cons_succ, List.getElem_toArray, List.getElem_cons_zero, List.getElem_cons_succ]
        refine' wpAnyH_take (i := 26) (v := _) rfl (by kernel_rfl) (by kernel_rfl) (by kernel_rfl) (fun _ _ _ h => h) (Or.inl ⟨by rfl, ?hym72⟩) hS1 ?restm72
        case hym72 => (intro w hSw; (try dsimp only at hSw); go_simp; try with_reducible rfl)
        simp only [Act.put, List.setIfInBounds_toArray, List.set_cons_zero, List.set_cons_succ, List.getElem_toArray, List.getElem_cons_zero, List.getElem_cons_succ]
        refine' wpAnyH_take (i := 27) (v := _) rfl (by kernel_rfl) (by kernel_rfl) (by kernel_rfl) (fun _ _ _ h => h) (Or.inl ⟨by rfl, ?hym73⟩) hS1 ?restm73
        case hym73 => (intro w hSw; (try dsimp only at hSw); go_simp; try with_reducible rfl)
        simp only [Act.put, List.setIfInBounds_toArray, List.set_cons_zero, List.set_cons_succ, List.getElem_toArray, List.getElem_cons_zero, List.getElem_cons_succ]
        refine' wpAnyH_take (i := 29) (v := _) rfl (by kernel_rfl) (by kernel_rfl) (by kernel_rfl) (fun _ _ _ h => h) (Or.inl ⟨by rfl, ?hym74⟩) hS1 ?restm74
        case hym74 => (intro w hSw; (try dsimp only at hSw); go_simp; try with_reducible rfl)
        simp only [Act.put, List.setIfInBounds_toArray, List.set_cons_zero, List.set_cons_succ, List.getElem_toArray, List.getElem_cons_zero, List.getElem_cons_succ]
        refine' wpAnyH_take (i := 30) (v := _) rfl (by kernel_rfl) (by kernel_rfl) (by kernel_rfl) (fun _ _ _ h => h) (Or.inl ⟨by rfl, ?hym75⟩) hS1 ?restm75
        case hym75 => (intro w hSw; (try dsimp only at hSw); go_simp; try with_reducible rfl)
        simp only [Act.put, List.setIfInBounds_toArray, List.set_cons_zero, List.set_cons_succ, List.getElem_toArray, List.getElem_cons_zero, List.getElem_cons_succ]
        refine' wpAnyH_take (i := 31) (v := _) rfl (by kernel_rfl) (by kernel_rfl) (by kernel_rfl) (fun _ _ _ h => h) (Or.inl ⟨by rfl, ?hym76⟩) hS1 ?restm76
        case hym76 => (intro w hSw; (try dsimp only at hSw); go_simp; try with_reducible rfl)
        simp only [Act.put, List.setIfInBounds_toArray, List.set_cons_zero, List.set_cons_succ, List.getElem_toArray, List.getElem_cons_zero, List.getElem_cons_succ]
        refine' wpAnyH_take (i := 32) (v := _) rfl (by kernel_rfl) (by kernel_rfl) (by kernel_rfl) (fun _ _ _ h => h) (Or.inl ⟨by rfl, ?hym77⟩) hS1 ?restm77
        case hym77 => (intro w hSw; (try dsimp only at hSw); go_simp; try with_reducible rfl)
        simp only [Act.put, List.setIfInBounds_toArray, List.set_cons_zero, List.set_cons_succ, List.getElem_toArray, List.getElem_cons_zero, List.getElem_cons_succ]
        refine' wpAnyH_take (i := 33) (v := _) rfl (by kernel_rfl) (by kernel_rfl) (by kernel_rfl) (fun _ _ _ h => h) (Or.inl ⟨by rfl, ?hym78⟩) hS1 ?restm78
        case hym78 => (intro w hSw; (try dsimp only at hSw); go_simp; try with_reducible rfl)
        simp only [Act.put, List.setIfInBounds_toArray, List.set_cons_zero, List.set_cons_succ, List.getElem_toArray, List.getElem_cons_zero, List.getElem_cons_succ]
        refine wpAnyH_ready (rs := [28]) (by kernel_rfl) (by simp) ?_
        refine AllReadyH.cons rfl (fun K hK => ?_) AllReadyH.nil
        go_simp
        refine (KSZ.out _).mono ?_
        rintro e wq2 ⟨rfl, rfl⟩
        refine hK.out _ _ (HSS.out _ HY1.out) (fun hS2 => ?_)
        clear hK K
        refine wpAnyH_ready (rs := [34]) (by kernel_rfl) (by simp) ?_
        refine AllReadyH.cons rfl (fun K hK => ?_) AllReadyH.nil
        go_simp
        refine (KBD.out _).mono ?_
        rintro e wq3 ⟨rfl, rfl⟩
        refine hK.out _ _ (HSS.out _ HY1.out) (fun hS3 => ?_)
        clear hK K
        by_cases hb : BD < (na : Int)
        · have a4 : decide (BD < (na : Int)) = true := decide_eq_true hb
          have HF : Hid (R = false) := Lib.hid (HNS.out (xn, xd) (List.mem_of_getElem? HG1.out) (by rw [HSX.out]; exact decide_eq_false (fun h => by have := h.2; omega)))
          refine' wpAnyH_take (i := 35) (v := _) rfl (by kernel_rfl) (by kernel_rfl) (by kernel_rfl) (fun _ _ _ h => h) (Or.inl ⟨by rfl, ?hym79⟩) hS3 ?restm79
          case hym79 => (intro w hSw; (try dsimp only at hSw); go_simp; try with_reducible rfl)
          simp only [Act.put, List.setIfInBounds_toArray, List.set_cons_zero, List.set_cons_succ, List.getElem_toArray, List.getElem_cons_zero, List.getElem_cons_succ]
          refine' wpAnyH_take (i := 36) (v := _) rfl (by kernel_rfl) (by kernel_rfl) (by kernel_rfl) (fun _ _ _ h => h) (Or.inl ⟨by rfl, ?hym80⟩) hS3 ?restm80
          case hym80 => (intro w hSw; (try dsimp only at hSw); go_simp; try with_reducible rfl)
          simp only [Act.put, List.setIfInBounds_toArray, List.set_cons_zero, List.set_cons_succ, List.getElem_toArray, List.getElem_cons_zero, List.getElem_cons_succ]
          clear hb
          refine wpAnyH_done (by kernel_rfl) ?_ _
          go_wp2_with fail
          go_ret
          exact ⟨by rw [HF.out]; rfl, HBE.out.trans ((HX.out.trans (HY1.out.mono HX.out.size)).mono HBE.out.size)⟩
        have a4 : decide (BD < (na : Int)) = false := decide_eq_false hb
        refine' wpAnyH_take (i := 35) (v := _) rfl (by kernel_rfl) (by kernel_rfl) (by kernel_rfl) (fun _ _ _ h => h) (Or.inl ⟨by rfl, ?hym81⟩) hS3 ?restm81
        case hym81 => (intro w hSw; (try dsimp only at hSw); go_simp; try with_reducible rfl)
        simp only [Act.put, List.setIfInBounds_toArray, List.set_cons_zero, List.set_cons_succ, List.getElem_toArray, List.getElem_cons_zero, List.getElem_cons_succ]
        refine' wpAnyH_take (i := 36) (v := _) rfl (by kernel_rfl) (by kernel_rfl) (by kernel_rfl) (fun _ _ _ h => h) (Or.inl ⟨by rfl, ?hym82⟩) hS3 ?restm82
        case hym82 => (intro w hSw; (try dsimp only at hSw); go_simp; try with_reducible rfl)
        simp only [Act.put, List.setIfInBounds_toArray, List.set_cons_zero, List.set_cons_succ, List.getElem_toArray, List.getElem_cons_zero, List.getElem_cons_succ]
        refine wpAnyH_done (by kernel_rfl) ?_ _
        go_wp2_with fail
        go_roundw
        case rel => exact ⟨j + 1, hlt, by go_num, Lib.hid ⟨fun i x hi hx => by
          by_cases e : i = j
          · rw [e, HE1.out] at hx; cases hx; exact HCU.out
          · exact HI.out.1 i x (by omega) hx, fun i x hi hx => by
          by_cases e : i = j
          · rw [e, HG1.out] at hx; cases hx; exact ⟨rfl, by rw [hna']; omega⟩
          · exact HI.out.2 i x (by omega) hx⟩, Lib.hid (HX.out.trans (HY1.out.mono HX.out.size))⟩
        case measure => simp [intOf]; omega
    · obtain rfl : ne = j := by omega
      have HEA : Hid (∀ x ∈ edges, cutsE b x = true) := Lib.hid (fun x hx => by
        obtain ⟨i, hi, rfl⟩ := List.getElem_of_mem hx
        exact HI.out.1 i _ (by have := HLN.out.1; (try simp only at this); omega) (List.getElem?_eq_getElem hi))
      have HSA : Hid (∀ x ∈ shake, shkE _ x = true) := Lib.hid (fun x hx => by
        obtain ⟨i, hi, rfl⟩ := List.getElem_of_mem hx
        rw [HSHK.out _ HDN.out]
        exact decide_eq_true (HI.out.2 i _ (by have := HLN.out.2.2; (try simp only at this); omega) (List.getElem?_eq_getElem hi)))
      have HX2 := HX
      clear HI
      have q10 := (HKF.out _ HX.out).2.2.2.2.2.2.2.2.2.2.1
      go_wp2_with fail
      clear q7 q10
      go_loopw [5] (fun iv wr => ∃ j : Nat, j ≤ nt ∧ iv = .int .i64 j ∧ Hid (∀ (i : Nat) x, i < j → trees[i]? = some x → treeE _ x = true) ∧ Hid (Below W.heap.size W wr)) (fun iv _ => nt - (intOf iv).toNat)
      case atStart => exact ⟨0, Nat.zero_le _, rfl, Lib.hid (fun i x h => by omega), HX2⟩
      case round =>
        obtain ⟨j, hj, rfl, HI, HX⟩ := hrel
        have q10 := (HKF.out _ HX.out).2.2.2.2.2.2.2.2.2.2.1
        by_cases hlt : j < nt
        · have hlt' : (j : Int) < nt := by omega
          obtain ⟨adt, rfl, t, Bt, cap, h1, h2, _, _, h5⟩ := (HRR.out _ HX.out).rt.at (i := j) (by have := HLN.out.2.1; simp only; omega)
          simp only at h1
          have HE1 := Lib.hid h1
          have hlen := HOK.out.tt t (List.mem_of_getElem? h1)
          have HRN := Lib.hid (fun W' (hb : Below wr.heap.size wr W') => h5.below hb)
          have KTX := Lib.hid (fun W' hb => KTR.out t Bt cap W' (HRN.out W' hb) (by omega))
          have KDX := Lib.hid (fun W' hb hf => KDE.out t Bt cap W' (HRN.out W' hb) (by omega) hf)
          obtain ⟨m, hm⟩ : ∃ n, t.length = n := ⟨_, rfl⟩
          rw [hm] at h2 KTX KDX
          have HTT := Lib.hid (HTE.out t)
          have HDD := Lib.hid (fun h => dep_deep (cols := (ne : Int)) (bins := b) (kind := k) (classes := cl) (t := t) h)
          obtain ⟨rt, hrt⟩ : ∃ z, rightT (ne : Int) b k cl t = z := ⟨_, rfl⟩
          have HRT := Lib.hid hrt
          rw [hrt] at KTX HTT
          obtain ⟨dd, hdd⟩ : ∃ z, deepO t = z := ⟨_, rfl⟩
          rw [hdd] at KDX HDD
          have HALL := Lib.hid (fun W' hb => (HKF.out W' hb).elim fun x0 h => h.elim fun x1 h => h.elim fun x2 h => h.elim fun x3 h => h.elim fun x4 h => h.elim fun x5 h => h.elim fun x6 h => h.elim fun x7 h => h.elim fun x8 h => h.elim fun x9 h => h.elim fun x10 h => h.elim fun x11 h => h.elim fun x12 x13 => (HKC.out W' hb).elim fun y0 h => h.elim fun y1 h => h.elim fun y2 h => h.elim fun y3 h => h.elim fun y4 h => h.elim fun y5 y6 => And.intro x0 (And.intro x1 (And.intro x2 (And.intro x3 (And.intro x4 (And.intro x5 (And.intro x6 (And.intro x7 (And.intro x8 (And.intro x9 (And.intro x10 (And.intro x11 (And.intro x12 (And.intro x13 (And.intro y0 (And.intro y1 (And.intro y2 (And.intro y3 (And.intro y4 (And.intro y5 y6))))))))))))))))))))
          have HSS : Hid (∀ W', Below wr.heap.size wr W' → (fun W => W.cell? (adt.add j) = some (.slice Bt m cap) ∧ W.cell? ⟨w.heap.size, 0, none⟩ = some (.int .i64 k) ∧ W.cell? ⟨w.heap.size, 1, none⟩ = some (.int .i64 cl) ∧ W.cell? ⟨w.heap.size, 2, none⟩ = some (.int .i64 b) ∧ W.cell? ⟨w.heap.size, 3, none⟩ = some (.int .i64 (nt : Int)) ∧ W.cell? ⟨w.heap.size, 4, none⟩ = some (.int .i64 d) ∧ W.cell? ⟨w.heap.size, 5, none⟩ = some (.int .i64 l) ∧ W.cell? ⟨w.heap.size, 6, none⟩ = some (.int .i64 p) ∧ W.cell? ⟨w.heap.size, 7, none⟩ = some (.int .i64 (ne : Int)) ∧ W.cell? ⟨w.heap.size, 8, none⟩ = some (.int .u64 (seed : Int)) ∧ W.cell? ⟨w.heap.size, 9, none⟩ = some (.slice Ae ne ce) ∧ W.cell? ⟨w.heap.size, 10, none⟩ = some (.slice (some adt) nt ct) ∧ W.cell? ⟨w.heap.size, 11, none⟩ = some (.int .i64 num) ∧ W.cell? ⟨w.heap.size, 12, none⟩ = some (.int .i64 den) ∧ W.cell? ⟨w.heap.size, 13, none⟩ = some (.slice As ne cs) ∧ W.cell? ⟨g1, 0, none⟩ = some (.int .i64 k) ∧ W.cell? ⟨g1, 1, none⟩ = some (.int .i64 cl) ∧ W.cell? ⟨g1, 2, none⟩ = some (.int .i64 b) ∧ W.cell? ⟨g1, 3, none⟩ = some (.int .i64 (nt : Int)) ∧ W.cell? ⟨g1, 4, none⟩ = some (.int .i64 d) ∧ W.cell? ⟨g1, 5, none⟩ = some (.int .i64 l) ∧ W.cell? ⟨g1, 6, none⟩ = some (.int .i64 p)) W') := Lib.hid (fun W' hb => ⟨(hb.cell (World.block_lt_of_cell? wr _ h2)).trans h2, HALL.out W' (HX.out.trans (hb.mono HX.out.size))⟩)
          have HY0 := Lib.hid ((Below.refl wr.heap.size wr).drew)
          clear h1 h5 hm hrt hdd HALL
          go_upto_region 14 with (fail)
          refine wp_region_held_drew (S := (fun W => W.cell? (adt.add j) = some (.slice Bt m cap) ∧ W.cell? ⟨w.heap.size, 0, none⟩ = some (.int .i64 k) ∧ W.cell? ⟨w.heap.size, 1, none⟩ = some (.int .i64 cl) ∧ W.cell? ⟨w.heap.size, 2, none⟩ = some (.int .i64 b) ∧ W.cell? ⟨w.heap.size, 3, none⟩ = some (.int .i64 (nt : Int)) ∧ W.cell? ⟨w.heap.size, 4, none⟩ = some (.int .i64 d) ∧ W.cell? ⟨w.heap.size, 5, none⟩ = some (.int .i64 l) ∧ W.cell? ⟨w.heap.size, 6, none⟩ = some (.int .i64 p) ∧ W.cell? ⟨w.heap.size, 7, none⟩ = some (.int .i64 (ne : Int)) ∧ W.cell? ⟨w.heap.size, 8, none⟩ = some (.int .u64 (seed : Int)) ∧ W.cell? ⟨w.heap.size, 9, none⟩ = some (.slice Ae ne ce) ∧ W.cell? ⟨w.heap.size, 10, none⟩ = some (.slice (some adt) nt ct) ∧ W.cell? ⟨w.heap.size, 11, none⟩ = some (.int .i64 num) ∧ W.cell? ⟨w.heap.size, 12, none⟩ = some (.int .i64 den) ∧ W.cell? ⟨w.heap.size, 13, none⟩ = some (.slice As ne cs) ∧ W.cell? ⟨g1, 0, none⟩ = some (.int .i64 k) ∧ W.cell? ⟨g1, 1, none⟩ = some (.int .i64 cl) ∧ W.cell? ⟨g1, 2, none⟩ = some (.int .i64 b) ∧ W.cell? ⟨g1, 3, none⟩ = some (.int .i64 (nt : Int)) ∧ W.cell? ⟨g1, 4, none⟩ = some (.int .i64 d) ∧ W.cell? ⟨g1, 5, none⟩ = some (.int .i64 l) ∧ W.cell? ⟨g1, 6, none⟩ = some (.int .i64 p))) (by kernel_rfl) ?_ (fun hS0 => ?_)
          · exact HSS.out _ HY0.out
          clear h2 q10
          refine' wpAnyH_take (i := 0) (v := _) rfl (by kernel_rfl) (by kernel_rfl) (by kernel_rfl) (fun _ _ _ h => h) (Or.inl ⟨by rfl, ?hym83⟩) hS0 ?restm83
          case hym83 => (intro w hSw; (try dsimp only at hSw); go_simp; try with_reducible rfl)
          simp only [Act.put, List.setIfInBounds_toArray, List.set_cons_zero, List.set_cons_succ, List.getElem_toArray, List.getElem_cons_zero, List.getElem_cons_succ]
          refine' wpAnyH_take (i := 1) (v := _) rfl (by kernel_rfl) (by kernel_rfl) (by kernel_rfl) (fun _ _ _ h => h) (Or.inl ⟨by rfl, ?hym84⟩) hS0 ?restm84
          case hym84 => (intro w hSw; (try dsimp only at hSw); go_simp; try with_reducible rfl)
          simp only [Act.put, List.setIfInBounds_toArray, List.set_cons_zero, List.set_cons_succ, List.getElem_toArray, List.getElem_cons_zero, List.getElem_cons_succ]
          refine' wpAnyH_take (i := 2) (v := _) rfl (by kernel_rfl) (by kernel_rfl) (by kernel_rfl) (fun _ _ _ h => h) (Or.inl ⟨by rfl, ?hym85⟩) hS0 ?restm85
          case hym85 => (intro w hSw; (try dsimp only at hSw); go_simp; try with_reducible rfl)
          simp only [Act.put, List.setIfInBounds_toArray, List.set_cons_zero, List.set_cons_succ, List.getElem_toArray, List.getElem_cons_zero, List.getElem_cons_succ]
          refine' wpAnyH_take (i := 3) (v := _) rfl (by kernel_rfl) (by kernel_rfl) (by kernel_rfl) (fun _ _ _ h => h) (Or.inl ⟨by rfl, ?hym86⟩) hS0 ?restm86
          case hym86 => (intro w hSw; (try dsimp only at hSw); go_simp; try with_reducible rfl)
          simp only [Act.put, List.setIfInBounds_toArray, List.set_cons_zero, List.set_cons_succ, List.getElem_toArray, List.getElem_cons_zero, List.getElem_cons_succ]
          refine' wpAnyH_take (i := 4) (v := _) rfl (by kernel_rfl) (by kernel_rfl) (by kernel_rfl) (fun _ _ _ h => h) (Or.inl ⟨by rfl, ?hym87⟩) hS0 ?restm87
          case hym87 => (intro w hSw; (try dsimp only at hSw); go_simp; try with_reducible rfl)
          simp only [Act.put, List.setIfInBounds_toArray, List.set_cons_zero, List.set_cons_succ, List.getElem_toArray, List.getElem_cons_zero, List.getElem_cons_succ]
          refine' wpAnyH_take (i := 5) (v := _) rfl (by kernel_rfl) (by kernel_rfl) (by kernel_rfl) (fun _ _ _ h => h) (Or.inl ⟨by rfl, ?hym88⟩) hS0 ?restm88
          case hym88 => (intro w hSw; (try dsimp only at hSw); go_simp; try with_reducible rfl)
          simp only [Act.put, List.setIfInBounds_toArray, List.set_cons_zero, List.set_cons_succ, List.getElem_toArray, List.getElem_cons_zero, List.getElem_cons_succ]
          refine' wpAnyH_take (i := 6) (v := _) rfl (by kernel_rfl) (by kernel_rfl) (by kernel_rfl) (fun _ _ _ h => h) (Or.inl ⟨by rfl, ?hym89⟩) hS0 ?restm89
          case hym89 => (intro w hSw; (try dsimp only at hSw); go_simp; try with_reducible rfl)
          simp only [Act.put, List.setIfInBounds_toArray, List.set_cons_zero, List.set_cons_succ, List.getElem_toArray, List.getElem_cons_zero, List.getElem_cons_succ]
          refine' wpAnyH_take (i := 7) (v := _) rfl (by kernel_rfl) (by kernel_rfl) (by kernel_rfl) (fun _ _ _ h => h) (Or.inl ⟨by rfl, ?hym90⟩) hS0 ?restm90
          case hym90 => (intro w hSw; (try dsimp only at hSw); go_simp; try with_reducible rfl)
          simp only [Act.put, List.setIfInBounds_toArray, List.set_cons_zero, List.set_cons_succ, List.getElem_toArray, List.getElem_cons_zero, List.getElem_cons_succ]
          refine' wpAnyH_take (i := 8) (v := _) rfl (by kernel_rfl) (by kernel_rfl) (by kernel_rfl) (fun _ _ _ h => h) (Or.inl ⟨by rfl, ?hym91⟩) hS0 ?restm91
          case hym91 => (intro w hSw; (try dsimp only at hSw); go_simp; try with_reducible rfl)
          simp only [Act.put, List.setIfInBounds_toArray, List.set_cons_zero, List.set_cons_succ, List.getElem_toArray, List.getElem_cons_zero, List.getElem_cons_succ]
          refine' wpAnyH_take (i := 9) (v := _) rfl (by kernel_rfl) (by kernel_rfl) (by kernel_rfl) (fun _ _ _ h => h) (Or.inl ⟨by rfl, ?hym92⟩) hS0 ?restm92
          case hym92 => (intro w hSw; (try dsimp only at hSw); go_simp; try with_reducible rfl)
          simp only [Act.put, List.setIfInBounds_toArray, List.set_cons_zero, List.set_cons_succ, List.getElem_toArray, List.getElem_cons_zero, List.getElem_cons_succ]
          refine' wpAnyH_take (i := 10) (v := _) rfl (by kernel_rfl) (by kernel_rfl) (by kernel_rfl) (fun _ _ _ h => h) (Or.inl ⟨by rfl, ?hym93⟩) hS0 ?restm93
          case hym93 => (intro w hSw; (try dsimp only at hSw); go_simp; try with_reducible rfl)
          simp only [Act.put, List.setIfInBounds_toArray, List.set_cons_zero, List.set_cons_succ, List.getElem_toArray, List.getElem_cons_zero, List.getElem_cons_succ]
          refine' wpAnyH_take (i := 11) (v := _) rfl (by kernel_rfl) (by kernel_rfl) (by kernel_rfl) (fun _ _ _ h => h) (Or.inl ⟨by rfl, ?hym94⟩) hS0 ?restm94
          case hym94 => (intro w hSw; (try dsimp only at hSw); go_simp; try with_reducible rfl)
          simp only [Act.put, List.setIfInBounds_toArray, List.set_cons_zero, List.set_cons_succ, List.getElem_toArray, List.getElem_cons_zero, List.getElem_cons_succ]
          refine' wpAnyH_take (i := 12) (v := _) rfl (by kernel_rfl) (by kernel_rfl) (by kernel_rfl) (fun _ _ _ h => h) (Or.inl ⟨by rfl, ?hym95⟩) hS0 ?restm95
          case hym95 => (intro w hSw; (try dsimp only at hSw); go_simp; try with_reducible rfl)
          simp only [Act.put, List.setIfInBounds_toArray, List.set_cons_zero, List.set_cons_succ, List.getElem_toArray, List.getElem_cons_zero, List.getElem_cons_succ]
          refine wpAnyH_ready (rs := [13]) (by kernel_rfl) (by simp) ?_
          refine AllReadyH.cons rfl (fun K hK => ?_) AllReadyH.nil
          go_simp
          refine (KTX.out _ HY0.out).mono ?_
          rintro e wq1 ⟨rfl, hb⟩
          have HY1 := Lib.hid (HY0.out.trans (hb.mono HY0.out.size))
          clear hb
          refine hK.out _ _ (HSS.out _ HY1.out) (fun hS1 => ?_)
          clear hK K
          refine' wpAnyH_take (i := 14) (v := _) rfl (by kernel_rfl) (by kernel_rfl) (by kernel_rfl) (fun _ _ _ h => h) (Or.inl ⟨by rfl, ?hym96⟩) hS1 ?restm96
          case hym96 => (intro w hSw; (try dsimp only at hSw); go_simp; try with_reducible rfl)
          simp only [Act.put, List.setIfInBounds_toArray, List.set_cons_zero, List.set_cons_succ, List.getElem_toArray, List.getElem_cons_zero, List.getElem_cons_succ]
          refine' wpAnyH_take (i := 15) (v := _) rfl (by kernel_rfl) (by kernel_rfl) (by kernel_rfl) (fun _ _ _ h => h) (Or.inl ⟨by rfl, ?hym97⟩) hS1 ?restm97
          case hym97 => (intro w hSw; (try dsimp only at hSw); go_simp; try with_reducible rfl)
          simp only [Act.put, List.setIfInBounds_toArray, List.set_cons_zero, List.set_cons_succ, List.getElem_toArray, List.getElem_cons_zero, List.getElem_cons_succ]
          cases rt with
          | false =>
            refine' wpAnyH_take (i := 16) (v := _) rfl (by kernel_rfl) (by kernel_rfl) (by kernel_rfl) (fun _ _ _ h => h) (Or.inr ⟨by rfl, rfl⟩) hS1 ?restm98
            simp only [Act.put, List.setIfInBounds_toArray, List.set_cons_zero, List.set_cons_succ, List.getElem_toArray, List.getElem_cons_zero, List.getElem_cons_succ]
            refine' wpAnyH_take (i := 17) (v := _) rfl (by kernel_rfl) (by kernel_rfl) (by kernel_rfl) (fun _ _ _ h => h) (Or.inr ⟨by rfl, rfl⟩) hS1 ?restm99
            simp only [Act.put, List.setIfInBounds_toArray, List.set_cons_zero, List.set_cons_succ, List.getElem_toArray, List.getElem_cons_zero, List.getElem_cons_succ]
            refine' wpAnyH_take (i := 18) (v := _) rfl (by kernel_rfl) (by kernel_rfl) (by kernel_rfl) (fun _ _ _ h => h) (Or.inr ⟨by rfl, rfl⟩) hS1 ?restm100
            simp only [Act.put, List.setIfInBounds_toArray, List.set_cons_zero, List.set_cons_succ, List.getElem_toArray, List.getElem_cons_zero, List.getElem_cons_succ]
            refine' wpAnyH_take (i := 19) (v := _) rfl (by kernel_rfl) (by kernel_rfl) (by kernel_rfl) (fun _ _ _ h => h) (Or.inr ⟨by rfl, rfl⟩) hS1 ?restm101
            simp only [Act.put, List.setIfInBounds_toArray, List.set_cons_zero, List.set_cons_succ, List.getElem_toArray, List.getElem_cons_zero, List.getElem_cons_succ]
            refine' wpAnyH_take (i := 20) (v := _) rfl (by kernel_rfl) (by kernel_rfl) (by kernel_rfl) (fun _ _ _ h => h) (Or.inr ⟨by rfl, rfl⟩) hS1 ?restm102
            simp only [Act.put, List.setIfInBounds_toArray, List.set_cons_zero, List.set_cons_succ, List.getElem_toArray, List.getElem_cons_zero, List.getElem_cons_succ]
            refine' wpAnyH_take (i := 21) (v := _) rfl (by kernel_rfl) (by kernel_rfl) (by kernel_rfl) (fun _ _ _ h => h) (Or.inr ⟨by rfl, rfl⟩) hS1 ?restm103
            simp only [Act.put, List.setIfInBounds_toArray, List.set_cons_zero, List.set_cons_succ, List.getElem_toArray, List.getElem_cons_zero, List.getElem_cons_succ]
            refine' wpAnyH_take (i := 22) (v := _) rfl (by kernel_rfl) (by kernel_rfl) (by kernel_rfl) (fun _ _ _ h => h) (Or.inr ⟨by rfl, rfl⟩) hS1 ?restm104
            simp only [Act.put, List.setIfInBounds_toArray, List.set_cons_zero, List.set_cons_succ, List.getElem_toArray, List.getElem_cons_zero, List.getElem_cons_succ]
            refine' wpAnyH_take (i := 23) (v := _) rfl (by kernel_rfl) (by kernel_rfl) (by kernel_rfl) (fun _ _ _ h => h) (Or.inr ⟨by rfl, rfl⟩) hS1 ?restm105
            simp only [Act.put, List.setIfInBounds_toArray, List.set_cons_zero, List.set_cons_succ, List.getElem_toArray, List.getElem_cons_zero, List.getElem_cons_succ]
            refine' wpAnyH_take (i := 24) (v := _) rfl (by kernel_rfl) (by kernel_rfl) (by kernel_rfl) (fun _ _ _ h => h) (Or.inr ⟨by rfl, rfl⟩) hS1 ?restm106
            simp only [Act.put, List.setIfInBounds_toArray, List.set_cons_zero, List.set_cons_succ, List.getElem_toArray, List.getElem_cons_zero, List.getElem_cons_succ]
            refine' wpAnyH_take (i := 25) (v := _) rfl (by kernel_rfl) (by kernel_rfl) (by kernel_rfl) (fun _ _ _ h => h) (Or.inl ⟨by rfl, ?hym107⟩) hS1 ?restm107
            case hym107 => (intro w hSw; (try dsimp only at hSw); go_simp; try with_reducible rfl)
            simp only [Act.put, List.setIfInBounds_toArray, List.set_cons_zero, List.set_cons_succ, List.getElem_toArray, List.getElem_cons_zero, List.getElem_cons_succ]
            have HF := Lib.hid (HNT.out t (List.mem_of_getElem? HE1.out) (by rw [HTT.out]; rfl))
            refine wpAnyH_done (by kernel_rfl) ?_ _
            go_wp2_with fail
            go_ret
            exact ⟨by rw [HF.out]; rfl, HBE.out.trans ((HX.out.trans (HY1.out.mono HX.out.size)).mono HBE.out.size)⟩
          | true =>
            have hdo := HDD.out HRT.out
            have hfn : ∀ n ∈ t, -1 ≤ n.f := fun n hn => by
              have := (rightT_is HRT.out).2.2.2.2 n hn
              unfold oneP at this
              split at this <;> omega
            refine' wpAnyH_take (i := 16) (v := _) rfl (by kernel_rfl) (by kernel_rfl) (by kernel_rfl) (fun _ _ _ h => h) (Or.inl ⟨by rfl, ?hym108⟩) hS1 ?restm108
            case hym108 => (intro w hSw; (try dsimp only at hSw); go_simp; try with_reducible rfl)
            simp only [Act.put, List.setIfInBounds_toArray, List.set_cons_zero, List.set_cons_succ, List.getElem_toArray, List.getElem_cons_zero, List.getElem_cons_succ]
            refine' wpAnyH_take (i := 17) (v := _) rfl (by kernel_rfl) (by kernel_rfl) (by kernel_rfl) (fun _ _ _ h => h) (Or.inl ⟨by rfl, ?hym109⟩) hS1 ?restm109
            case hym109 => (intro w hSw; (try dsimp only at hSw); go_simp; try with_reducible rfl)
            simp only [Act.put, List.setIfInBounds_toArray, List.set_cons_zero, List.set_cons_succ, List.getElem_toArray, List.getElem_cons_zero, List.getElem_cons_succ]
            refine' wpAnyH_take (i := 18) (v := _) rfl (by kernel_rfl) (by kernel_rfl) (by kernel_rfl) (fun _ _ _ h => h) (Or.inl ⟨by rfl, ?hym110⟩) hS1 ?restm110
            case hym110 => (intro w hSw; (try dsimp only at hSw); go_simp; try with_reducible rfl)
            simp only [Act.put, List.setIfInBounds_toArray, List.set_cons_zero, List.set_cons_succ, List.getElem_toArray, List.getElem_cons_zero, List.getElem_cons_succ]
            refine' wpAnyH_take (i := 19) (v := _) rfl (by kernel_rfl) (by kernel_rfl) (by kernel_rfl) (fun _ _ _ h => h) (Or.inl ⟨by rfl, ?hym111⟩) hS1 ?restm111
            case hym111 => (intro w hSw; (try dsimp only at hSw); go_simp; try with_reducible rfl)
            simp only [Act.put, List.setIfInBounds_toArray, List.set_cons_zero, List.set_cons_succ, List.getElem_toArray, List.getElem_cons_zero, List.getElem_cons_succ]
            refine' wpAnyH_take (i := 20) (v := _) rfl (by kernel_rfl) (by kernel_rfl) (by kernel_rfl) (fun _ _ _ h => h) (Or.inl ⟨by rfl, ?hym112⟩) hS1 ?restm112
            case hym112 => (intro w hSw; (try dsimp only at hSw); go_simp; try with_reducible rfl)
            simp only [Act.put, List.setIfInBounds_toArray, List.set_cons_zero, List.set_cons_succ, List.getElem_toArray, List.getElem_cons_zero, List.getElem_cons_succ]
            refine' wpAnyH_take (i := 22) (v := _) rfl (by kernel_rfl) (by kernel_rfl) (by kernel_rfl) (fun _ _ _ h => h) (Or.inl ⟨by rfl, ?hym113⟩) hS1 ?restm113
            case hym113 => (intro w hSw; (try dsimp only at hSw); go_simp; try with_reducible rfl)
            simp only [Act.put, List.setIfInBounds_toArray, List.set_cons_zero, List.set_cons_succ, List.getElem_toArray, List.getElem_cons_zero, List.getElem_cons_succ]
            refine' wpAnyH_take (i := 23) (v := _) rfl (by kernel_rfl) (by kernel_rfl) (by kernel_rfl) (fun _ _ _ h => h) (Or.inl ⟨by rfl, ?hym114⟩) hS1 ?restm114
            case hym114 => (intro w hSw; (try dsimp only at hSw); go_simp; try with_reducible rfl)
            simp only [Act.put, List.setIfInBounds_toArray, List.set_cons_zero, List.set_cons_succ, List.getElem_toArray, List.getElem_cons_zero, List.getElem_cons_succ]
            refine wpAnyH_ready (rs := [21]) (by kernel_rfl) (by simp) ?_
            refine AllReadyH.cons rfl (fun K hK => ?_) AllReadyH.nil
            go_simp
            refine (KDX.out _ HY1.out hfn).mono ?_
            rintro e wq2 ⟨rfl, hb⟩
            have HY2 := Lib.hid (HY1.out.trans (hb.mono HY1.out.size))
            clear hb
            refine hK.out _ _ (HSS.out _ HY2.out) (fun hS2 => ?_)
            clear hK K
            by_cases hd : d < dd
            · have a4 : decide (d < dd) = true := decide_eq_true hd
              have HF : Hid (R = false) := Lib.hid (HNT.out t (List.mem_of_getElem? HE1.out) (by rw [HTT.out, hdo, decide_eq_false (by omega)]; rfl))
              refine' wpAnyH_take (i := 24) (v := _) rfl (by kernel_rfl) (by kernel_rfl) (by kernel_rfl) (fun _ _ _ h => h) (Or.inl ⟨by rfl, ?hym115⟩) hS2 ?restm115
              case hym115 => (intro w hSw; (try dsimp only at hSw); go_simp; try with_reducible rfl)
              simp only [Act.put, List.setIfInBounds_toArray, List.set_cons_zero, List.set_cons_succ, List.getElem_toArray, List.getElem_cons_zero, List.getElem_cons_succ]
              refine' wpAnyH_take (i := 25) (v := _) rfl (by kernel_rfl) (by kernel_rfl) (by kernel_rfl) (fun _ _ _ h => h) (Or.inl ⟨by rfl, ?hym116⟩) hS2 ?restm116
              case hym116 => (intro w hSw; (try dsimp only at hSw); go_simp; try with_reducible rfl)
              simp only [Act.put, List.setIfInBounds_toArray, List.set_cons_zero, List.set_cons_succ, List.getElem_toArray, List.getElem_cons_zero, List.getElem_cons_succ]
              clear hd
              refine wpAnyH_done (by kernel_rfl) ?_ _
              go_wp2_with fail
              go_ret
              exact ⟨by rw [HF.out]; rfl, HBE.out.trans ((HX.out.trans (HY2.out.mono HX.out.size)).mono HBE.out.size)⟩
            have a4 : decide (d < dd) = false := decide_eq_false hd
            have HO2 : Hid (treeE _ t = true) := Lib.hid (by rw [HTT.out, hdo, decide_eq_true (by omega)]; rfl)
            refine' wpAnyH_take (i := 24) (v := _) rfl (by kernel_rfl) (by kernel_rfl) (by kernel_rfl) (fun _ _ _ h => h) (Or.inl ⟨by rfl, ?hym117⟩) hS2 ?restm117
            case hym117 => (intro w hSw; (try dsimp only at hSw); go_simp; try with_reducible rfl)
            simp only [Act.put, List.setIfInBounds_toArray, List.set_cons_zero, List.set_cons_succ, List.getElem_toArray, List.getElem_cons_zero, List.getElem_cons_succ]
            refine' wpAnyH_take (i := 25) (v := _) rfl (by kernel_rfl) (by kernel_rfl) (by kernel_rfl) (fun _ _ _ h => h) (Or.inl ⟨by rfl, ?hym118⟩) hS2 ?restm118
            case hym118 => (intro w hSw; (try dsimp only at hSw); go_simp; try with_reducible rfl)
            simp only [Act.put, List.setIfInBounds_toArray, List.set_cons_zero, List.set_cons_succ, List.getElem_toArray, List.getElem_cons_zero, List.getElem_cons_succ]
            refine wpAnyH_done (by kernel_rfl) ?_ _
            go_wp2_with fail
            go_roundw
            case rel => exact ⟨j + 1, hlt, by go_num, Lib.hid (fun i x hi hx => by
              by_cases e : i = j
              · rw [e, HE1.out] at hx; cases hx; exact HO2.out
              · exact HI.out i x (by omega) hx), Lib.hid (HX.out.trans (HY2.out.mono HX.out.size))⟩
            case measure => simp [intOf]; omega
        · obtain rfl : nt = j := by omega
          have HTA : Hid (∀ x ∈ trees, treeE _ x = true) := Lib.hid (fun x hx => by
            obtain ⟨i, hi, rfl⟩ := List.getElem_of_mem hx
            exact HI.out i _ (by have := HLN.out.2.1; (try simp only at this); omega) (List.getElem?_eq_getElem hi))
          have HF := Lib.hid (HH.out HOT.out HEA.out HSA.out HTA.out)
          go_wp2_with fail
          go_ret
          exact ⟨by rw [HF.out]; rfl, HBE.out.trans (HX.out.mono HBE.out.size)⟩
end Go.Proofs.Ytpekofpiodaadaa.Hb
end

section
/- The walk of ref07.Put: a number's bytes as a text. -/
namespace Go.Proofs.Ytpekofpiodaadaa.Hb
set_option linter.unusedVariables false
set_option linter.unusedSimpArgs false
open Go.RowKit

def strB (l : List Nat) : ByteArray := ⟨(l.map UInt8.ofNat).toArray⟩
theorem rcount7_any (k : Nat) (hk : k ≤ 8) (w : World) : Calls Try.prog 127 #[.int .i64 (k : Int)] w (Says (.int .i64 (k : Int)) w) := by
  have d1 : decide ((k : Int) < 0) = false := decide_eq_false (by omega)
  have d2 : decide ((8 : Int) < (k : Int)) = false := decide_eq_false (by omega)
  have d3 : decide (8 < k) = false := decide_eq_false (by omega)
  go_enter Try.func127, Try.ntmps127
  go_wp2_with fail
  go_ret
  exact ⟨rfl, rfl⟩
theorem add_strB (l m : List Nat) (w : World) (hl : l.length ≤ 8388608) (hm : m.length ≤ 8388608) : (Op.stringOp .add (strB l) (strB m)).run Try.prog w = .ok (.string (strB (l ++ m))) w := by
  unfold strB
  rw [List.map_append]
  exact run_string_add_lists w _ _ (by rw [List.length_map]; omega) (by rw [List.length_map]; omega)
set_option maxRecDepth 100000 in
set_option maxHeartbeats 4000000 in
theorem rput7_any (x k : Nat) (hk : k ≤ 8) (hx : x < 18446744073709551616) (w : World) : Calls Try.prog 67 #[.int .u64 (x : Int), .int .i64 (k : Int)] w fun e w' => e = .returned (.string (strB (beN x k))) ∧ Below w.heap.size w w' := by
  have KC := Lib.hid (fun w => rcount7_any k hk w)
  go_enter Try.func67, Try.ntmps67
  go_wp2_with fail
  go_loopw [0, 5, 6] (fun nv sv iv wr => ∃ i : Nat, i ≤ k ∧ iv = .int .i64 i ∧ nv = .int .u64 ((x / 256 ^ i : Nat) : Int) ∧ sv = .string (strB (beN x i)) ∧ Hid (Below w.heap.size w wr)) (fun _ _ iv _ => k - (intOf iv).toNat)
  case atStart => exact ⟨0, Nat.zero_le _, rfl, by simp, rfl, Lib.hid (Below.refl _ _)⟩
  case round =>
    obtain ⟨i, hi, rfl, rfl, rfl, HB⟩ := hrel
    by_cases hlt : i < k
    · have hlt' : (i : Int) < k := by omega
      have HD : Hid (x / 256 ^ (i + 1) = x / 256 ^ i / 256) := Lib.hid (by rw [Nat.pow_succ, Nat.div_div_eq_div_mul])
      have HS : Hid (beN x (i + 1) = [x / 256 ^ i % 256] ++ beN x i) := Lib.hid rfl
      have hq : x / 256 ^ i < 18446744073709551616 := Nat.lt_of_le_of_lt (Nat.div_le_self _ _) hx
      have hsl : (beN x i).length ≤ 8 := by rw [be_len]; omega
      obtain ⟨q, eq⟩ : ∃ q, x / 256 ^ i = q := ⟨_, rfl⟩
      obtain ⟨s, es⟩ : ∃ s, beN x i = s := ⟨_, rfl⟩
      rw [eq] at HD HS hq ⊢
      rw [es] at HS hsl ⊢
      obtain ⟨y, ey⟩ : ∃ y, q % 256 = y := ⟨_, rfl⟩
      rw [ey] at HS
      have hy : y < 256 := by omega
      have hrem : (q : Int).tmod 256 = (y : Int) := by rw [Int.tmod_eq_emod_of_nonneg (by omega)]; omega
      have hdiv : (q : Int).tdiv 256 = ((q / 256 : Nat) : Int) := by rw [Int.tdiv_eq_ediv_of_nonneg (by omega)]; rfl
      have hw8 : IntKind.u8.wrap (y : Int) = (y : Int) := by rw [IntKind.wrap_u8]; omega
      have hcv : (convert 54 9 (.slice (some ⟨wr.heap.size, 0, none⟩) 1 1)).run Try.prog (wr.alloc (.cells #[.int .u8 (y : Int)] 5)) = .ok (.string (strB [y])) (wr.alloc (.cells #[.int .u8 (y : Int)] 5)) :=
        conv_str [y] _ 1 _ (rowAt_one rfl ⟨rfl, hy⟩ (blk_list (Blk.new wr #[.int .u8 (y : Int)] 5))) (by simp)
      have hadd := fun w => add_strB [y] s w (by simp) (by omega)
      have hsz := HB.out.size
      clear eq es ey
      go_wp2_with (refine KC.out _ |>.mono ?_; rintro e w1 ⟨rfl, rfl⟩)
      go_roundw
      case rel => exact ⟨i + 1, hlt, by go_num, by rw [HD.out]; first | rfl | simp, by rw [HS.out]; rfl, Lib.hid (HB.out.alloc hsz _)⟩
      case measure => simp [intOf]; omega
    · obtain rfl : k = i := by omega
      go_wp2_with (refine KC.out _ |>.mono ?_; rintro e w1 ⟨rfl, rfl⟩)
      go_ret
      exact ⟨rfl, HB.out⟩
end Go.Proofs.Ytpekofpiodaadaa.Hb
end

section
/- The walk of ref08.Put. -/
namespace Go.Proofs.Ytpekofpiodaadaa.Hb
set_option linter.unusedVariables false
set_option linter.unusedSimpArgs false
open Go.RowKit

theorem add_strN (l m : List Nat) (hl : l.length ≤ 8388608) (hm : m.length ≤ 8388608) : ∀ w, (Op.stringOp .add (strB l) (strB m)).run Try.prog w = .ok (.string (strB (l ++ m))) w := fun w => add_strB l m w hl hm
theorem rput7c {x k : Nat} {X K : Int} (hX : (x : Int) = X) (hK : (k : Int) = K) (hk : k ≤ 8) (hx : x < 18446744073709551616) (w : World) : Calls Try.prog 67 #[.int .u64 X, .int .i64 K] w fun e w' => e = .returned (.string (strB (beN x k))) ∧ Below w.heap.size w w' := by
  subst hX hK
  exact rput7_any x k hk hx w
theorem wrap_nat {x : Nat} (h : x < 18446744073709551616) : IntKind.u64.wrap (x : Int) = (x : Int) := by rw [IntKind.wrap_u64]; omega
theorem u64N_ofN {x : Nat} (h : x < 18446744073709551616) : u64N (x : Int) = x := by unfold u64N; omega
set_option maxRecDepth 100000 in
set_option maxHeartbeats 8000000 in
theorem rput8_any (k cl b t d l p : Int) (h : checkO k cl b t d l p = 0) (w : World) :
    Calls Try.prog 66 #[.agg #[.int .i64 k, .int .i64 cl, .int .i64 b, .int .i64 t, .int .i64 d, .int .i64 l, .int .i64 p]] w fun e w' => e = .returned (.string (strB (cfgB k cl b t d l p))) ∧ Below w.heap.size w w' := by
  obtain ⟨⟨k0, k1⟩, ⟨cl0, cl1⟩, ⟨b0, b1⟩, ⟨t0, t1⟩, ⟨d0, d1⟩, ⟨l0, l1⟩, ⟨p0, p1⟩⟩ := chk_is h
  have KCK := Lib.hid (fun w => rcheck_any k cl b t d l p w)
  rw [h] at KCK
  clear h
  obtain ⟨x0, rfl⟩ : ∃ n : Nat, k = n := ⟨k.toNat, by omega⟩
  obtain ⟨x1, rfl⟩ : ∃ n : Nat, cl = n := ⟨cl.toNat, by omega⟩
  obtain ⟨x2, rfl⟩ : ∃ n : Nat, b = n := ⟨b.toNat, by omega⟩
  obtain ⟨x3, rfl⟩ : ∃ n : Nat, t = n := ⟨t.toNat, by omega⟩
  obtain ⟨x4, rfl⟩ : ∃ n : Nat, d = n := ⟨d.toNat, by omega⟩
  obtain ⟨x5, rfl⟩ : ∃ n : Nat, l = n := ⟨l.toNat, by omega⟩
  obtain ⟨x6, rfl⟩ : ∃ n : Nat, p = n := ⟨p.toNat, by omega⟩
  have hw0 : IntKind.u64.wrap (x0 : Int) = (x0 : Int) := wrap_nat (by omega)
  have K0 := Lib.hid (fun w => rput7c (x := x0) (k := 1) (X := (x0 : Int)) (K := 1) rfl rfl (by omega) (by omega) w)
  have hw1 : IntKind.u64.wrap (x1 : Int) = (x1 : Int) := wrap_nat (by omega)
  have K1 := Lib.hid (fun w => rput7c (x := x1) (k := 2) (X := (x1 : Int)) (K := 2) rfl rfl (by omega) (by omega) w)
  have hw2 : IntKind.u64.wrap (x2 : Int) = (x2 : Int) := wrap_nat (by omega)
  have K2 := Lib.hid (fun w => rput7c (x := x2) (k := 2) (X := (x2 : Int)) (K := 2) rfl rfl (by omega) (by omega) w)
  have hw3 : IntKind.u64.wrap (x3 : Int) = (x3 : Int) := wrap_nat (by omega)
  have K3 := Lib.hid (fun w => rput7c (x := x3) (k := 2) (X := (x3 : Int)) (K := 2) rfl rfl (by omega) (by omega) w)
  have hw4 : IntKind.u64.wrap (x4 : Int) = (x4 : Int) := wrap_nat (by omega)
  have K4 := Lib.hid (fun w => rput7c (x := x4) (k := 1) (X := (x4 : Int)) (K := 1) rfl rfl (by omega) (by omega) w)
  have hw5 : IntKind.u64.wrap (x5 : Int) = (x5 : Int) := wrap_nat (by omega)
  have K5 := Lib.hid (fun w => rput7c (x := x5) (k := 4) (X := (x5 : Int)) (K := 4) rfl rfl (by omega) (by omega) w)
  have hw6 : IntKind.u64.wrap (x6 : Int) = (x6 : Int) := wrap_nat (by omega)
  have K6 := Lib.hid (fun w => rput7c (x := x6) (k := 2) (X := (x6 : Int)) (K := 2) rfl rfl (by omega) (by omega) w)
  have HC : Hid (cfgB x0 x1 x2 x3 x4 x5 x6 = ((((((beN x0 1 ++ beN x1 2) ++ beN x2 2) ++ beN x3 2) ++ beN x4 1) ++ beN x5 4) ++ beN x6 2)) := Lib.hid (by
    simp only [cfgB, cfgL, fldB, List.flatMap_cons, List.flatMap_nil, List.append_nil, List.append_assoc]
    rw [u64N_ofN (show x0 < 18446744073709551616 by omega), u64N_ofN (show x1 < 18446744073709551616 by omega), u64N_ofN (show x2 < 18446744073709551616 by omega), u64N_ofN (show x3 < 18446744073709551616 by omega), u64N_ofN (show x4 < 18446744073709551616 by omega), u64N_ofN (show x5 < 18446744073709551616 by omega), u64N_ofN (show x6 < 18446744073709551616 by omega)])
  obtain ⟨C, hC⟩ : ∃ C, cfgB x0 x1 x2 x3 x4 x5 x6 = C := ⟨_, rfl⟩
  rw [hC] at HC ⊢
  clear hC
  obtain ⟨L0, hL0⟩ : ∃ L, beN x0 1 = L := ⟨_, rfl⟩
  have n0 : L0.length = 1 := by rw [← hL0, be_len]
  rw [hL0] at K0 HC
  obtain ⟨L1, hL1⟩ : ∃ L, beN x1 2 = L := ⟨_, rfl⟩
  have n1 : L1.length = 2 := by rw [← hL1, be_len]
  rw [hL1] at K1 HC
  obtain ⟨L2, hL2⟩ : ∃ L, beN x2 2 = L := ⟨_, rfl⟩
  have n2 : L2.length = 2 := by rw [← hL2, be_len]
  rw [hL2] at K2 HC
  obtain ⟨L3, hL3⟩ : ∃ L, beN x3 2 = L := ⟨_, rfl⟩
  have n3 : L3.length = 2 := by rw [← hL3, be_len]
  rw [hL3] at K3 HC
  obtain ⟨L4, hL4⟩ : ∃ L, beN x4 1 = L := ⟨_, rfl⟩
  have n4 : L4.length = 1 := by rw [← hL4, be_len]
  rw [hL4] at K4 HC
  obtain ⟨L5, hL5⟩ : ∃ L, beN x5 4 = L := ⟨_, rfl⟩
  have n5 : L5.length = 4 := by rw [← hL5, be_len]
  rw [hL5] at K5 HC
  obtain ⟨L6, hL6⟩ : ∃ L, beN x6 2 = L := ⟨_, rfl⟩
  have n6 : L6.length = 2 := by rw [← hL6, be_len]
  rw [hL6] at K6 HC
  have a1 := add_strN L0 L1 (by omega) (by omega)
  obtain ⟨F1, hF1⟩ : ∃ F, L0 ++ L1 = F := ⟨_, rfl⟩
  have m1 : F1.length ≤ 16 := by rw [← hF1, List.length_append]; omega
  rw [hF1] at a1 HC
  have a2 := add_strN F1 L2 (by omega) (by omega)
  obtain ⟨F2, hF2⟩ : ∃ F, F1 ++ L2 = F := ⟨_, rfl⟩
  have m2 : F2.length ≤ 24 := by rw [← hF2, List.length_append]; omega
  rw [hF2] at a2 HC
  have a3 := add_strN F2 L3 (by omega) (by omega)
  obtain ⟨F3, hF3⟩ : ∃ F, F2 ++ L3 = F := ⟨_, rfl⟩
  have m3 : F3.length ≤ 32 := by rw [← hF3, List.length_append]; omega
  rw [hF3] at a3 HC
  have a4 := add_strN F3 L4 (by omega) (by omega)
  obtain ⟨F4, hF4⟩ : ∃ F, F3 ++ L4 = F := ⟨_, rfl⟩
  have m4 : F4.length ≤ 40 := by rw [← hF4, List.length_append]; omega
  rw [hF4] at a4 HC
  have a5 := add_strN F4 L5 (by omega) (by omega)
  obtain ⟨F5, hF5⟩ : ∃ F, F4 ++ L5 = F := ⟨_, rfl⟩
  have m5 : F5.length ≤ 48 := by rw [← hF5, List.length_append]; omega
  rw [hF5] at a5 HC
  have a6 := add_strN F5 L6 (by omega) (by omega)
  obtain ⟨F6, hF6⟩ : ∃ F, F5 ++ L6 = F := ⟨_, rfl⟩
  have m6 : F6.length ≤ 56 := by rw [← hF6, List.length_append]; omega
  rw [hF6] at a6 HC
  clear hL0 n0 hL1 n1 hL2 n2 hL3 n3 hL4 n4 hL5 n5 hL6 n6 hF1 m1 hF2 m2 hF3 m3 hF4 m4 hF5 m5 hF6 m6 k0 k1 cl0 cl1 b0 b1 t0 t1 d0 d1 l0 l1 p0 p1
  go_enter Try.func66, Try.ntmps66
  go_upto_region 1 with (fail)
  have kC := Blk.new w #[.int .i64 (x0 : Int), .int .i64 (x1 : Int), .int .i64 (x2 : Int), .int .i64 (x3 : Int), .int .i64 (x4 : Int), .int .i64 (x5 : Int), .int .i64 (x6 : Int)] 45
  have HBE := Lib.hid ((Below.refl w.heap.size w).alloc (Nat.le_refl _) (.cells #[.int .i64 (x0 : Int), .int .i64 (x1 : Int), .int .i64 (x2 : Int), .int .i64 (x3 : Int), .int .i64 (x4 : Int), .int .i64 (x5 : Int), .int .i64 (x6 : Int)] 45))
  obtain ⟨W, hW⟩ : ∃ W, w.alloc (.cells #[.int .i64 (x0 : Int), .int .i64 (x1 : Int), .int .i64 (x2 : Int), .int .i64 (x3 : Int), .int .i64 (x4 : Int), .int .i64 (x5 : Int), .int .i64 (x6 : Int)] 45) = W := ⟨_, rfl⟩
  rw [hW] at kC HBE ⊢
  have HKC := Lib.hid (fun W' (hb : Below W.heap.size W W') => (show W'.cell? ⟨w.heap.size, 0, none⟩ = some (.int .i64 (x0 : Int)) ∧ W'.cell? ⟨w.heap.size, 1, none⟩ = some (.int .i64 (x1 : Int)) ∧ W'.cell? ⟨w.heap.size, 2, none⟩ = some (.int .i64 (x2 : Int)) ∧ W'.cell? ⟨w.heap.size, 3, none⟩ = some (.int .i64 (x3 : Int)) ∧ W'.cell? ⟨w.heap.size, 4, none⟩ = some (.int .i64 (x4 : Int)) ∧ W'.cell? ⟨w.heap.size, 5, none⟩ = some (.int .i64 (x5 : Int)) ∧ W'.cell? ⟨w.heap.size, 6, none⟩ = some (.int .i64 (x6 : Int)) from ⟨(kC.below hb).cell 0, (kC.below hb).cell 1, (kC.below hb).cell 2, (kC.below hb).cell 3, (kC.below hb).cell 4, (kC.below hb).cell 5, (kC.below hb).cell 6⟩))
  have HX0 := Lib.hid (Below.refl W.heap.size W)
  obtain ⟨c0, c1, c2, c3, c4, c5, c6⟩ := HKC.out _ HX0.out
  clear hW kC
  go_wp2_with fail
  refine (KCK.out _).mono ?_
  rintro e w1 ⟨rfl, hb⟩
  have HX1 := Lib.hid (HX0.out.trans (hb.mono HX0.out.size))
  clear hb c0 c1 c2 c3 c4 c5 c6
  go_upto_region 3 with (fail)
  have HY0 := Lib.hid (HX1.out.trans ((Below.refl w1.heap.size w1).drew.mono HX1.out.size))
  have HSS := HKC
  refine wp_region_held_drew (S := (fun W' => W'.cell? ⟨w.heap.size, 0, none⟩ = some (.int .i64 (x0 : Int)) ∧ W'.cell? ⟨w.heap.size, 1, none⟩ = some (.int .i64 (x1 : Int)) ∧ W'.cell? ⟨w.heap.size, 2, none⟩ = some (.int .i64 (x2 : Int)) ∧ W'.cell? ⟨w.heap.size, 3, none⟩ = some (.int .i64 (x3 : Int)) ∧ W'.cell? ⟨w.heap.size, 4, none⟩ = some (.int .i64 (x4 : Int)) ∧ W'.cell? ⟨w.heap.size, 5, none⟩ = some (.int .i64 (x5 : Int)) ∧ W'.cell? ⟨w.heap.size, 6, none⟩ = some (.int .i64 (x6 : Int)))) (by kernel_rfl) ?_ (fun hS0 => ?_)
  · exact HSS.out _ HY0.out
  refine' wpAnyH_take (i := 0) (v := _) rfl (by kernel_rfl) (by kernel_rfl) (by kernel_rfl) (fun _ _ _ h => h) (Or.inl ⟨by rfl, ?hym1⟩) hS0 ?restm1
  case hym1 => (intro w hSw; (try dsimp only at hSw); go_simp; try with_reducible rfl)
  simp only [Act.put, List.setIfInBounds_toArray, List.set_cons_zero, List.set_cons_succ, List.getElem_toArray, List.getElem_cons_zero, List.getElem_cons_succ]
  refine' wpAnyH_take (i := 1) (v := _) rfl (by kernel_rfl) (by kernel_rfl) (by kernel_rfl) (fun _ _ _ h => h) (Or.inl ⟨by rfl, ?hym2⟩) hS0 ?restm2
  case hym2 => (intro w hSw; (try dsimp only at hSw); go_simp; try with_reducible rfl)
  simp only [Act.put, List.setIfInBounds_toArray, List.set_cons_zero, List.set_cons_succ, List.getElem_toArray, List.getElem_cons_zero, List.getElem_cons_succ]
  refine' wpAnyH_take (i := 2) (v := _) rfl (by kernel_rfl) (by kernel_rfl) (by kernel_rfl) (fun _ _ _ h => h) (Or.inl ⟨by rfl, ?hym3⟩) hS0 ?restm3
  case hym3 => (intro w hSw; (try dsimp only at hSw); go_simp; try with_reducible rfl)
  simp only [Act.put, List.setIfInBounds_toArray, List.set_cons_zero, List.set_cons_succ, List.getElem_toArray, List.getElem_cons_zero, List.getElem_cons_succ]
  refine' wpAnyH_take (i := 4) (v := _) rfl (by kernel_rfl) (by kernel_rfl) (by kernel_rfl) (fun _ _ _ h => h) (Or.inl ⟨by rfl, ?hym4⟩) hS0 ?restm4
  case hym4 => (intro w hSw; (try dsimp only at hSw); go_simp; try with_reducible rfl)
  simp only [Act.put, List.setIfInBounds_toArray, List.set_cons_zero, List.set_cons_succ, List.getElem_toArray, List.getElem_cons_zero, List.getElem_cons_succ]
  refine' wpAnyH_take (i := 5) (v := _) rfl (by kernel_rfl) (by kernel_rfl) (by kernel_rfl) (fun _ _ _ h => h) (Or.inl ⟨by rfl, ?hym5⟩) hS0 ?restm5
  case hym5 => (intro w hSw; (try dsimp only at hSw); go_simp; try with_reducible rfl)
  simp only [Act.put, List.setIfInBounds_toArray, List.set_cons_zero, List.set_cons_succ, List.getElem_toArray, List.getElem_cons_zero, List.getElem_cons_succ]
  refine' wpAnyH_take (i := 6) (v := _) rfl (by kernel_rfl) (by kernel_rfl) (by kernel_rfl) (fun _ _ _ h => h) (Or.inl ⟨by rfl, ?hym6⟩) hS0 ?restm6
  case hym6 => (intro w hSw; (try dsimp only at hSw); go_simp; try with_reducible rfl)
  simp only [Act.put, List.setIfInBounds_toArray, List.set_cons_zero, List.set_cons_succ, List.getElem_toArray, List.getElem_cons_zero, List.getElem_cons_succ]
  refine' wpAnyH_take (i := 9) (v := _) rfl (by kernel_rfl) (by kernel_rfl) (by kernel_rfl) (fun _ _ _ h => h) (Or.inl ⟨by rfl, ?hym7⟩) hS0 ?restm7
  case hym7 => (intro w hSw; (try dsimp only at hSw); go_simp; try with_reducible rfl)
  simp only [Act.put, List.setIfInBounds_toArray, List.set_cons_zero, List.set_cons_succ, List.getElem_toArray, List.getElem_cons_zero, List.getElem_cons_succ]
  refine' wpAnyH_take (i := 10) (v := _) rfl (by kernel_rfl) (by kernel_rfl) (by kernel_rfl) (fun _ _ _ h => h) (Or.inl ⟨by rfl, ?hym8⟩) hS0 ?restm8
  case hym8 => (intro w hSw; (try dsimp only at hSw); go_simp; try with_reducible rfl)
  simp only [Act.put, List.setIfInBounds_toArray, List.set_cons_zero, List.set_cons_succ, List.getElem_toArray, List.getElem_cons_zero, List.getElem_cons_succ]
  refine' wpAnyH_take (i := 11) (v := _) rfl (by kernel_rfl) (by kernel_rfl) (by kernel_rfl) (fun _ _ _ h => h) (Or.inl ⟨by rfl, ?hym9⟩) hS0 ?restm9
  case hym9 => (intro w hSw; (try dsimp only at hSw); go_simp; try with_reducible rfl)
  simp only [Act.put, List.setIfInBounds_toArray, List.set_cons_zero, List.set_cons_succ, List.getElem_toArray, List.getElem_cons_zero, List.getElem_cons_succ]
  refine' wpAnyH_take (i := 14) (v := _) rfl (by kernel_rfl) (by kernel_rfl) (by kernel_rfl) (fun _ _ _ h => h) (Or.inl ⟨by rfl, ?hym10⟩) hS0 ?restm10
  case hym10 => (intro w hSw; (try dsimp only at hSw); go_simp; try with_reducible rfl)
  simp only [Act.put, List.setIfInBounds_toArray, List.set_cons_zero, List.set_cons_succ, List.getElem_toArray, List.getElem_cons_zero, List.getElem_cons_succ]
  refine' wpAnyH_take (i := 15) (v := _) rfl (by kernel_rfl) (by kernel_rfl) (by kernel_rfl) (fun _ _ _ h => h) (Or.inl ⟨by rfl, ?hym11⟩) hS0 ?restm11
  case hym11 => (intro w hSw; (try dsimp only at hSw); go_simp; try with_reducible rfl)
  simp only [Act.put, List.setIfInBounds_toArray, List.set_cons_zero, List.set_cons_succ, List.getElem_toArray, List.getElem_cons_zero, List.getElem_cons_succ]
  refine' wpAnyH_take (i := 16) (v := _) rfl (by kernel_rfl) (by kernel_rfl) (by kernel_rfl) (fun _ _ _ h => h) (Or.inl ⟨by rfl, ?hym12⟩) hS0 ?restm12
  case hym12 => (intro w hSw; (try dsimp only at hSw); go_simp; try with_reducible rfl)
  simp only [Act.put, List.setIfInBounds_toArray, List.set_cons_zero, List.set_cons_succ, List.getElem_toArray, List.getElem_cons_zero, List.getElem_cons_succ]
  refine' wpAnyH_take (i := 19) (v := _) rfl (by kernel_rfl) (by kernel_rfl) (by kernel_rfl) (fun _ _ _ h => h) (Or.inl ⟨by rfl, ?hym13⟩) hS0 ?restm13
  case hym13 => (intro w hSw; (try dsimp only at hSw); go_simp; try with_reducible rfl)
  simp only [Act.put, List.setIfInBounds_toArray, List.set_cons_zero, List.set_cons_succ, List.getElem_toArray, List.getElem_cons_zero, List.getElem_cons_succ]
  refine' wpAnyH_take (i := 20) (v := _) rfl (by kernel_rfl) (by kernel_rfl) (by kernel_rfl) (fun _ _ _ h => h) (Or.inl ⟨by rfl, ?hym14⟩) hS0 ?restm14
  case hym14 => (intro w hSw; (try dsimp only at hSw); go_simp; try with_reducible rfl)
  simp only [Act.put, List.setIfInBounds_toArray, List.set_cons_zero, List.set_cons_succ, List.getElem_toArray, List.getElem_cons_zero, List.getElem_cons_succ]
  refine' wpAnyH_take (i := 21) (v := _) rfl (by kernel_rfl) (by kernel_rfl) (by kernel_rfl) (fun _ _ _ h => h) (Or.inl ⟨by rfl, ?hym15⟩) hS0 ?restm15
  case hym15 => (intro w hSw; (try dsimp only at hSw); go_simp; try with_reducible rfl)
  simp only [Act.put, List.setIfInBounds_toArray, List.set_cons_zero, List.set_cons_succ, List.getElem_toArray, List.getElem_cons_zero, List.getElem_cons_succ]
  refine' wpAnyH_take (i := 24) (v := _) rfl (by kernel_rfl) (by kernel_rfl) (by kernel_rfl) (fun _ _ _ h => h) (Or.inl ⟨by rfl, ?hym16⟩) hS0 ?restm16
  case hym16 => (intro w hSw; (try dsimp only at hSw); go_simp; try with_reducible rfl)
  simp only [Act.put, List.setIfInBounds_toArray, List.set_cons_zero, List.set_cons_succ, List.getElem_toArray, List.getElem_cons_zero, List.getElem_cons_succ]
  refine' wpAnyH_take (i := 25) (v := _) rfl (by kernel_rfl) (by kernel_rfl) (by kernel_rfl) (fun _ _ _ h => h) (Or.inl ⟨by rfl, ?hym17⟩) hS0 ?restm17
  case hym17 => (intro w hSw; (try dsimp only at hSw); go_simp; try with_reducible rfl)
  simp only [Act.put, List.setIfInBounds_toArray, List.set_cons_zero, List.set_cons_succ, List.getElem_toArray, List.getElem_cons_zero, List.getElem_cons_succ]
  refine' wpAnyH_take (i := 26) (v := _) rfl (by kernel_rfl) (by kernel_rfl) (by kernel_rfl) (fun _ _ _ h => h) (Or.inl ⟨by rfl, ?hym18⟩) hS0 ?restm18
  case hym18 => (intro w hSw; (try dsimp only at hSw); go_simp; try with_reducible rfl)
  simp only [Act.put, List.setIfInBounds_toArray, List.set_cons_zero, List.set_cons_succ, List.getElem_toArray, List.getElem_cons_zero, List.getElem_cons_succ]
  refine' wpAnyH_take (i := 29) (v := _) rfl (by kernel_rfl) (by kernel_rfl) (by kernel_rfl) (fun _ _ _ h => h) (Or.inl ⟨by rfl, ?hym19⟩) hS0 ?restm19
  case hym19 => (intro w hSw; (try dsimp only at hSw); go_simp; try with_reducible rfl)
  simp only [Act.put, List.setIfInBounds_toArray, List.set_cons_zero, List.set_cons_succ, List.getElem_toArray, List.getElem_cons_zero, List.getElem_cons_succ]
  refine' wpAnyH_take (i := 30) (v := _) rfl (by kernel_rfl) (by kernel_rfl) (by kernel_rfl) (fun _ _ _ h => h) (Or.inl ⟨by rfl, ?hym20⟩) hS0 ?restm20
  case hym20 => (intro w hSw; (try dsimp only at hSw); go_simp; try with_reducible rfl)
  simp only [Act.put, List.setIfInBounds_toArray, List.set_cons_zero, List.set_cons_succ, List.getElem_toArray, List.getElem_cons_zero, List.getElem_cons_succ]
  refine' wpAnyH_take (i := 31) (v := _) rfl (by kernel_rfl) (by kernel_rfl) (by kernel_rfl) (fun _ _ _ h => h) (Or.inl ⟨by rfl, ?hym21⟩) hS0 ?restm21
  case hym21 => (intro w hSw; (try dsimp only at hSw); go_simp; try with_reducible rfl)
  simp only [Act.put, List.setIfInBounds_toArray, List.set_cons_zero, List.set_cons_succ, List.getElem_toArray, List.getElem_cons_zero, List.getElem_cons_succ]
  refine wpAnyH_ready (rs := [3]) (by kernel_rfl) (by simp) ?_
  refine AllReadyH.cons rfl (fun K hK => ?_) AllReadyH.nil
  go_simp
  refine (K0.out _).mono ?_
  rintro e wq1 ⟨rfl, hb⟩
  have HY1 := Lib.hid (HY0.out.trans (hb.mono HY0.out.size))
  clear hb
  refine hK.out _ _ (HSS.out _ HY1.out) (fun hS1 => ?_)
  clear hK K
  refine wpAnyH_ready (rs := [7]) (by kernel_rfl) (by simp) ?_
  refine AllReadyH.cons rfl (fun K hK => ?_) AllReadyH.nil
  go_simp
  refine (K1.out _).mono ?_
  rintro e wq2 ⟨rfl, hb⟩
  have HY2 := Lib.hid (HY1.out.trans (hb.mono HY1.out.size))
  clear hb
  refine hK.out _ _ (HSS.out _ HY2.out) (fun hS2 => ?_)
  clear hK K
  refine' wpAnyH_take (i := 8) (v := _) rfl (by kernel_rfl) (by kernel_rfl) (by kernel_rfl) (fun _ _ _ h => h) (Or.inl ⟨by rfl, ?hym22⟩) hS2 ?restm22
  case hym22 => (intro w hSw; (try dsimp only at hSw); go_simp; try with_reducible rfl)
  simp only [Act.put, List.setIfInBounds_toArray, List.set_cons_zero, List.set_cons_succ, List.getElem_toArray, List.getElem_cons_zero, List.getElem_cons_succ]
  refine wpAnyH_ready (rs := [12]) (by kernel_rfl) (by simp) ?_
  refine AllReadyH.cons rfl (fun K hK => ?_) AllReadyH.nil
  go_simp
  refine (K2.out _).mono ?_
  rintro e wq3 ⟨rfl, hb⟩
  have HY3 := Lib.hid (HY2.out.trans (hb.mono HY2.out.size))
  clear hb
  refine hK.out _ _ (HSS.out _ HY3.out) (fun hS3 => ?_)
  clear hK K
  refine' wpAnyH_take (i := 13) (v := _) rfl (by kernel_rfl) (by kernel_rfl) (by kernel_rfl) (fun _ _ _ h => h) (Or.inl ⟨by rfl, ?hym23⟩) hS3 ?restm23
  case hym23 => (intro w hSw; (try dsimp only at hSw); go_simp; try with_reducible rfl)
  simp only [Act.put, List.setIfInBounds_toArray, List.set_cons_zero, List.set_cons_succ, List.getElem_toArray, List.getElem_cons_zero, List.getElem_cons_succ]
  refine wpAnyH_ready (rs := [17]) (by kernel_rfl) (by simp) ?_
  refine AllReadyH.cons rfl (fun K hK => ?_) AllReadyH.nil
  go_simp
  refine (K3.out _).mono ?_
  rintro e wq4 ⟨rfl, hb⟩
  have HY4 := Lib.hid (HY3.out.trans (hb.mono HY3.out.size))
  clear hb
  refine hK.out _ _ (HSS.out _ HY4.out) (fun hS4 => ?_)
  clear hK K
  refine' wpAnyH_take (i := 18) (v := _) rfl (by kernel_rfl) (by kernel_rfl) (by kernel_rfl) (fun _ _ _ h => h) (Or.inl ⟨by rfl, ?hym24⟩) hS4 ?restm24
  case hym24 => (intro w hSw; (try dsimp only at hSw); go_simp; try with_reducible rfl)
  simp only [Act.put, List.setIfInBounds_toArray, List.set_cons_zero, List.set_cons_succ, List.getElem_toArray, List.getElem_cons_zero, List.getElem_cons_succ]
  refine wpAnyH_ready (rs := [22]) (by kernel_rfl) (by simp) ?_
  refine AllReadyH.cons rfl (fun K hK => ?_) AllReadyH.nil
  go_simp
  refine (K4.out _).mono ?_
  rintro e wq5 ⟨rfl, hb⟩
  have HY5 := Lib.hid (HY4.out.trans (hb.mono HY4.out.size))
  clear hb
  refine hK.out _ _ (HSS.out _ HY5.out) (fun hS5 => ?_)
  clear hK K
  refine' wpAnyH_take (i := 23) (v := _) rfl (by kernel_rfl) (by kernel_rfl) (by kernel_rfl) (fun _ _ _ h => h) (Or.inl ⟨by rfl, ?hym25⟩) hS5 ?restm25
  case hym25 => (intro w hSw; (try dsimp only at hSw); go_simp; try with_reducible rfl)
  simp only [Act.put, List.setIfInBounds_toArray, List.set_cons_zero, List.set_cons_succ, List.getElem_toArray, List.getElem_cons_zero, List.getElem_cons_succ]
  refine wpAnyH_ready (rs := [27]) (by kernel_rfl) (by simp) ?_
  refine AllReadyH.cons rfl (fun K hK => ?_) AllReadyH.nil
  go_simp
  refine (K5.out _).mono ?_
  rintro e wq6 ⟨rfl, hb⟩
  have HY6 := Lib.hid (HY5.out.trans (hb.mono HY5.out.size))
  clear hb
  refine hK.out _ _ (HSS.out _ HY6.out) (fun hS6 => ?_)
  clear hK K
  refine' wpAnyH_take (i := 28) (v := _) rfl (by kernel_rfl) (by kernel_rfl) (by kernel_rfl) (fun _ _ _ h => h) (Or.inl ⟨by rfl, ?hym26⟩) hS6 ?restm26
  case hym26 => (intro w hSw; (try dsimp only at hSw); go_simp; try with_reducible rfl)
  simp only [Act.put, List.setIfInBounds_toArray, List.set_cons_zero, List.set_cons_succ, List.getElem_toArray, List.getElem_cons_zero, List.getElem_cons_succ]
  refine wpAnyH_ready (rs := [32]) (by kernel_rfl) (by simp) ?_
  refine AllReadyH.cons rfl (fun K hK => ?_) AllReadyH.nil
  go_simp
  refine (K6.out _).mono ?_
  rintro e wq7 ⟨rfl, hb⟩
  have HY7 := Lib.hid (HY6.out.trans (hb.mono HY6.out.size))
  clear hb
  refine hK.out _ _ (HSS.out _ HY7.out) (fun hS7 => ?_)
  clear hK K
  refine' wpAnyH_take (i := 33) (v := _) rfl (by kernel_rfl) (by kernel_rfl) (by kernel_rfl) (fun _ _ _ h => h) (Or.inl ⟨by rfl, ?hym27⟩) hS7 ?restm27
  case hym27 => (intro w hSw; (try dsimp only at hSw); go_simp; try with_reducible rfl)
  simp only [Act.put, List.setIfInBounds_toArray, List.set_cons_zero, List.set_cons_succ, List.getElem_toArray, List.getElem_cons_zero, List.getElem_cons_succ]
  refine' wpAnyH_take (i := 34) (v := _) rfl (by kernel_rfl) (by kernel_rfl) (by kernel_rfl) (fun _ _ _ h => h) (Or.inl ⟨by rfl, ?hym28⟩) hS7 ?restm28
  case hym28 => (intro w hSw; (try dsimp only at hSw); go_simp; try with_reducible rfl)
  simp only [Act.put, List.setIfInBounds_toArray, List.set_cons_zero, List.set_cons_succ, List.getElem_toArray, List.getElem_cons_zero, List.getElem_cons_succ]
  refine wpAnyH_done (by kernel_rfl) ?_ _
  go_wp2_with fail
  go_ret
  exact ⟨by rw [HC.out]; rfl, HBE.out.trans (HY7.out.mono HBE.out.size)⟩
end Go.Proofs.Ytpekofpiodaadaa.Hb
end

section
/- The walk of ref18.Put. -/
namespace Go.Proofs.Ytpekofpiodaadaa.Hb
set_option linter.unusedVariables false
set_option linter.unusedSimpArgs false
open Go.RowKit

theorem be_one (x : Nat) : beN x 1 = [x % 256] := by simp [beN]
set_option maxRecDepth 100000 in
set_option maxHeartbeats 8000000 in
theorem rput18_any (cols bins kind classes : Int) (t : List Nd) (A : Option Addr) (cap : Nat) (w : World) (hr : RN w A t) (hl : t.length ≤ 600000) (hright : rightT cols bins kind classes t = true) :
    Calls Try.prog 69 #[.slice A t.length cap, .int .i64 cols, .int .i64 bins, .int .i64 kind, .int .i64 classes] w fun e w' => e = .returned (.string (strB (treeB kind t))) ∧ Below w.heap.size w w' := by
  have KT := Lib.hid (fun w hr => rtright_any cols bins kind classes t A cap w hr (by omega))
  rw [hright] at KT
  obtain ⟨⟨_, _, hb2, hb256, hkc⟩, _, _, _, hone⟩ := rightT_is hright
  have HONE := Lib.hid hone
  have HTB : Hid (treeB kind t = beN t.length 4 ++ t.flatMap (ndB kind)) := Lib.hid rfl
  obtain ⟨m, hm⟩ : ∃ m, t.length = m := ⟨_, rfl⟩
  have HM := Lib.hid hm
  rw [hm] at KT HTB hl ⊢
  have KL4 := Lib.hid (fun w => rput7c (x := m) (k := 4) (X := (m : Int)) (K := 4) rfl rfl (by omega) (by omega) w)
  obtain ⟨L4, hL4⟩ : ∃ L, beN m 4 = L := ⟨_, rfl⟩
  have HL4 : Hid (L4.length = 4) := Lib.hid (by rw [← hL4, be_len])
  rw [hL4] at KL4 HTB
  have K1 := Lib.hid (fun w => rput7c (x := 1) (k := 1) (X := 1) (K := 1) rfl rfl (by omega) (by omega) w)
  have K0 := Lib.hid (fun w => rput7c (x := 0) (k := 1) (X := 0) (K := 1) rfl rfl (by omega) (by omega) w)
  have hw1 : IntKind.u64.wrap (m : Int) = (m : Int) := wrap_nat (by omega)
  have hw2 : (m : Int) % 18446744073709551616 = (m : Int) := by omega
  have HRN := Lib.hid hr
  clear hr hm hright hone hL4
  go_enter Try.func69, Try.ntmps69
  go_wp2_with fail
  refine (KT.out _ HRN.out).mono ?_
  rintro e w1 ⟨rfl, hb1⟩
  have HB1 := Lib.hid hb1
  clear hb1
  go_wp2_with fail
  refine (KL4.out _).mono ?_
  rintro e w2 ⟨rfl, hb⟩
  have HB2 := Lib.hid (HB1.out.trans (hb.mono HB1.out.size))
  clear hb hw1 hw2
  go_wp2_with fail
  go_loopw [11, 12] (fun sv iv wr => ∃ i : Nat, i ≤ m ∧ iv = .int .i64 i ∧ sv = .string (strB (L4 ++ (t.take i).flatMap (ndB kind))) ∧ Hid (Below w.heap.size w wr)) (fun _ iv _ => m - (intOf iv).toNat)
  case atStart => exact ⟨0, Nat.zero_le _, rfl, by simp, Lib.hid HB2.out⟩
  case round =>
    obtain ⟨i, hi, rfl, rfl, HB⟩ := hrel
    by_cases hlt : i < m
    · have hlt' : (i : Int) < m := by omega
      obtain ⟨ad, rfl, x, hx, hxok, hat⟩ := (HRN.out.below HB.out).at (i := i) (by rw [HM.out]; exact hlt)
      have hone := HONE.out x (List.mem_of_getElem? hx)
      have HFL := Lib.hid (flat_snoc (kind := kind) hx)
      have HL0 := Lib.hid (fun h hk => ndB_leaf0 (kind := kind) (n := x) h hk)
      have HL1 := Lib.hid (fun h hk => ndB_leaf1 (kind := kind) (n := x) h hk)
      have HSP := Lib.hid (fun h => ndB_split (kind := kind) (n := x) h)
      have hnb : (L4 ++ (t.take i).flatMap (ndB kind)).length ≤ 4 + 13 * m := by
        have h2 := flat_len (t := t.take i) (kind := kind)
        have h3 : (t.take i).length ≤ i := List.length_take_le _ _
        rw [List.length_append, HL4.out]
        omega
      obtain ⟨p0, p1, p2, p3, p4, p5⟩ := hat
      obtain ⟨f, b, ll, cx, sx, q⟩ := x
      unfold oneP at hone
      simp only at p0 p1 p2 p3 p4 p5 hone HL0 HL1 HSP
      obtain ⟨S, hS⟩ : ∃ S, L4 ++ (t.take i).flatMap (ndB kind) = S := ⟨_, rfl⟩
      have HSE : Hid (L4 ++ (t.take (i + 1)).flatMap (ndB kind) = S ++ ndB kind ⟨f, b, ll, cx, sx, q⟩) := Lib.hid (by rw [HFL.out, ← List.append_assoc, hS])
      rw [hS] at hnb ⊢
      have hsl : S.length ≤ 8000000 := by omega
      clear hS hnb hx hxok
      have hsz := HB.out.size
      by_cases hf : f = -1
      · rw [if_pos hf] at hone
        have d0 : decide ((0 : Int) ≤ f) = false := decide_eq_false (by omega)
        have a1 := add_strN S (beN 0 1) (by omega) (by rw [be_len]; omega)
        by_cases hk : kind = 0
        · rw [if_pos hk] at hone
          have kb : (kind == 0) = true := beq_iff_eq.2 hk
          obtain ⟨xc, rfl⟩ : ∃ n : Nat, cx = n := ⟨cx.toNat, by omega⟩
          have hnc : xc < 18446744073709551616 := by omega
          have hwc : IntKind.u64.wrap (xc : Int) = (xc : Int) := wrap_nat (by omega)
          have KF := Lib.hid (fun w => rput7c (x := xc) (k := 1) (X := (xc : Int)) (K := 1) rfl rfl (by omega) (by omega) w)
          have HE := Lib.hid (HL0.out hf hk)
          rw [u64N_ofN hnc] at HE
          have a2 := add_strN (S ++ beN 0 1) (beN xc 1) (by rw [List.length_append, be_len]; omega) (by rw [be_len]; omega)
          have HQ : Hid (S ++ ndB kind ⟨f, b, ll, (xc : Int), sx, q⟩ = (S ++ beN 0 1) ++ beN xc 1) := Lib.hid (by rw [HE.out, be_one 0, be_one xc]; simp)
          obtain ⟨T0, hT0⟩ : ∃ T, S ++ beN 0 1 = T := ⟨_, rfl⟩
          rw [hT0] at HQ a1 a2
          obtain ⟨T1, hT1⟩ : ∃ T, T0 ++ beN xc 1 = T := ⟨_, rfl⟩
          rw [hT1] at HQ a2
          clear hT0 hT1
          clear hone hf hk hnc hsl
          go_upto_region 8 with (fail)
          have kN := Blk.new wr #[.int .i64 f, .int .i64 b, .int .i64 ll, .int .i64 (xc : Int), .int .i64 sx, .int .i64 q] 90
          have HBE := Lib.hid ((Below.refl wr.heap.size wr).alloc (Nat.le_refl _) (.cells #[.int .i64 f, .int .i64 b, .int .i64 ll, .int .i64 (xc : Int), .int .i64 sx, .int .i64 q] 90))
          obtain ⟨W, hW⟩ : ∃ W, wr.alloc (.cells #[.int .i64 f, .int .i64 b, .int .i64 ll, .int .i64 (xc : Int), .int .i64 sx, .int .i64 q] 90) = W := ⟨_, rfl⟩
          rw [hW] at kN HBE ⊢
          have HKC := Lib.hid (fun W' (hb : Below W.heap.size W W') => (show W'.cell? ⟨wr.heap.size, 0, none⟩ = some (.int .i64 f) ∧ W'.cell? ⟨wr.heap.size, 1, none⟩ = some (.int .i64 b) ∧ W'.cell? ⟨wr.heap.size, 3, none⟩ = some (.int .i64 (xc : Int)) ∧ W'.cell? ⟨wr.heap.size, 4, none⟩ = some (.int .i64 sx) ∧ W'.cell? ⟨wr.heap.size, 5, none⟩ = some (.int .i64 q) from ⟨(kN.below hb).cell 0, (kN.below hb).cell 1, (kN.below hb).cell 3, (kN.below hb).cell 4, (kN.below hb).cell 5⟩))
          have HX0 := Lib.hid (Below.refl W.heap.size W)
          have HBW := Lib.hid (HB.out.trans (HBE.out.mono hsz))
          have HLW := Lib.hid (Nat.le_trans hsz HBE.out.size)
          obtain ⟨c0, c1, c3, c4, c5⟩ := HKC.out _ HX0.out
          clear hW kN p0 p1 p2 p3 p4 p5
          go_wp2_with fail
          refine (K0.out _).mono ?_
          rintro e wa ⟨rfl, hb⟩
          have HY1 := Lib.hid (HX0.out.trans (hb.mono HX0.out.size))
          clear hb c0 c1 c3 c4 c5
          obtain ⟨c0, c1, c3, c4, c5⟩ := HKC.out _ HY1.out
          go_wp2_with fail
          refine (KF.out _).mono ?_
          rintro e wb ⟨rfl, hb⟩
          have HY2 := Lib.hid (HY1.out.trans (hb.mono HY1.out.size))
          clear hb
          go_wp2_with fail
          go_roundw
          case rel => exact ⟨i + 1, hlt, by go_num, by rw [HSE.out, HQ.out], Lib.hid (HBW.out.trans (HY2.out.mono HLW.out))⟩
          case measure => simp [intOf]; omega
        · rw [if_neg hk] at hone
          have kb : (kind == 0) = false := beq_eq_false_iff_ne.2 hk
          obtain ⟨xq, rfl⟩ : ∃ n : Nat, q = n := ⟨q.toNat, by omega⟩
          have hnq : xq < 18446744073709551616 := by omega
          have hwq : IntKind.u64.wrap (xq : Int) = (xq : Int) := wrap_nat (by omega)
          have hws := u64N_wrap sx
          have KF := Lib.hid (fun w => rput7c (x := u64N sx) (k := 8) (X := (u64N sx : Int)) (K := 8) rfl rfl (by omega) (u64N_lt sx) w)
          have KB := Lib.hid (fun w => rput7c (x := xq) (k := 4) (X := (xq : Int)) (K := 4) rfl rfl (by omega) (by omega) w)
          have HE := Lib.hid (HL1.out hf hk)
          rw [u64N_ofN hnq] at HE
          obtain ⟨us, hus⟩ : ∃ u, u64N sx = u := ⟨_, rfl⟩
          rw [hus] at hws KF HE
          have a2 := add_strN (S ++ beN 0 1) (beN us 8) (by rw [List.length_append, be_len]; omega) (by rw [be_len]; omega)
          have a3 := add_strN ((S ++ beN 0 1) ++ beN us 8) (beN xq 4) (by simp only [List.length_append, be_len]; omega) (by rw [be_len]; omega)
          have HQ : Hid (S ++ ndB kind ⟨f, b, ll, cx, sx, (xq : Int)⟩ = ((S ++ beN 0 1) ++ beN us 8) ++ beN xq 4) := Lib.hid (by rw [HE.out, be_one 0]; simp)
          obtain ⟨T0, hT0⟩ : ∃ T, S ++ beN 0 1 = T := ⟨_, rfl⟩
          rw [hT0] at HQ a1 a2 a3
          obtain ⟨T1, hT1⟩ : ∃ T, T0 ++ beN us 8 = T := ⟨_, rfl⟩
          rw [hT1] at HQ a2 a3
          obtain ⟨T2, hT2⟩ : ∃ T, T1 ++ beN xq 4 = T := ⟨_, rfl⟩
          rw [hT2] at HQ a3
          clear hT0 hT1 hT2
          clear hone hf hk hnq hus hsl
          go_upto_region 8 with (fail)
          have kN := Blk.new wr #[.int .i64 f, .int .i64 b, .int .i64 ll, .int .i64 cx, .int .i64 sx, .int .i64 (xq : Int)] 90
          have HBE := Lib.hid ((Below.refl wr.heap.size wr).alloc (Nat.le_refl _) (.cells #[.int .i64 f, .int .i64 b, .int .i64 ll, .int .i64 cx, .int .i64 sx, .int .i64 (xq : Int)] 90))
          obtain ⟨W, hW⟩ : ∃ W, wr.alloc (.cells #[.int .i64 f, .int .i64 b, .int .i64 ll, .int .i64 cx, .int .i64 sx, .int .i64 (xq : Int)] 90) = W := ⟨_, rfl⟩
          rw [hW] at kN HBE ⊢
          have HKC := Lib.hid (fun W' (hb : Below W.heap.size W W') => (show W'.cell? ⟨wr.heap.size, 0, none⟩ = some (.int .i64 f) ∧ W'.cell? ⟨wr.heap.size, 1, none⟩ = some (.int .i64 b) ∧ W'.cell? ⟨wr.heap.size, 3, none⟩ = some (.int .i64 cx) ∧ W'.cell? ⟨wr.heap.size, 4, none⟩ = some (.int .i64 sx) ∧ W'.cell? ⟨wr.heap.size, 5, none⟩ = some (.int .i64 (xq : Int)) from ⟨(kN.below hb).cell 0, (kN.below hb).cell 1, (kN.below hb).cell 3, (kN.below hb).cell 4, (kN.below hb).cell 5⟩))
          have HX0 := Lib.hid (Below.refl W.heap.size W)
          have HBW := Lib.hid (HB.out.trans (HBE.out.mono hsz))
          have HLW := Lib.hid (Nat.le_trans hsz HBE.out.size)
          obtain ⟨c0, c1, c3, c4, c5⟩ := HKC.out _ HX0.out
          clear hW kN p0 p1 p2 p3 p4 p5
          go_wp2_with fail
          refine (K0.out _).mono ?_
          rintro e wa ⟨rfl, hb⟩
          have HZ1 := Lib.hid (HX0.out.trans (hb.mono HX0.out.size))
          clear hb c0 c1 c3 c4 c5
          go_upto_region 13 with (fail)
          have HSS := HKC
          have HY0 := Lib.hid (HZ1.out.trans ((Below.refl wa.heap.size wa).drew.mono HZ1.out.size))
          refine wp_region_held_drew (S := (fun W' => W'.cell? ⟨wr.heap.size, 0, none⟩ = some (.int .i64 f) ∧ W'.cell? ⟨wr.heap.size, 1, none⟩ = some (.int .i64 b) ∧ W'.cell? ⟨wr.heap.size, 3, none⟩ = some (.int .i64 cx) ∧ W'.cell? ⟨wr.heap.size, 4, none⟩ = some (.int .i64 sx) ∧ W'.cell? ⟨wr.heap.size, 5, none⟩ = some (.int .i64 (xq : Int)))) (by kernel_rfl) ?_ (fun hS0 => ?_)
          · exact HSS.out _ HY0.out
          refine' wpAnyH_take (i := 0) (v := _) rfl (by kernel_rfl) (by kernel_rfl) (by kernel_rfl) (fun _ _ _ h => h) (Or.inl ⟨by rfl, ?hym12⟩) hS0 ?restm12
          case hym12 => (intro w hSw; (try dsimp only at hSw); go_simp; try with_reducible rfl)
          simp only [Act.put, List.setIfInBounds_toArray, List.set_cons_zero, List.set_cons_succ, List.getElem_toArray, List.getElem_cons_zero, List.getElem_cons_succ]
          refine' wpAnyH_take (i := 1) (v := _) rfl (by kernel_rfl) (by kernel_rfl) (by kernel_rfl) (fun _ _ _ h => h) (Or.inl ⟨by rfl, ?hym13⟩) hS0 ?restm13
          case hym13 => (intro w hSw; (try dsimp only at hSw); go_simp; try with_reducible rfl)
          simp only [Act.put, List.setIfInBounds_toArray, List.set_cons_zero, List.set_cons_succ, List.getElem_toArray, List.getElem_cons_zero, List.getElem_cons_succ]
          refine' wpAnyH_take (i := 2) (v := _) rfl (by kernel_rfl) (by kernel_rfl) (by kernel_rfl) (fun _ _ _ h => h) (Or.inl ⟨by rfl, ?hym14⟩) hS0 ?restm14
          case hym14 => (intro w hSw; (try dsimp only at hSw); go_simp; try with_reducible rfl)
          simp only [Act.put, List.setIfInBounds_toArray, List.set_cons_zero, List.set_cons_succ, List.getElem_toArray, List.getElem_cons_zero, List.getElem_cons_succ]
          refine' wpAnyH_take (i := 3) (v := _) rfl (by kernel_rfl) (by kernel_rfl) (by kernel_rfl) (fun _ _ _ h => h) (Or.inl ⟨by rfl, ?hym15⟩) hS0 ?restm15
          case hym15 => (intro w hSw; (try dsimp only at hSw); go_simp; try with_reducible rfl)
          simp only [Act.put, List.setIfInBounds_toArray, List.set_cons_zero, List.set_cons_succ, List.getElem_toArray, List.getElem_cons_zero, List.getElem_cons_succ]
          refine' wpAnyH_take (i := 6) (v := _) rfl (by kernel_rfl) (by kernel_rfl) (by kernel_rfl) (fun _ _ _ h => h) (Or.inl ⟨by rfl, ?hym16⟩) hS0 ?restm16
          case hym16 => (intro w hSw; (try dsimp only at hSw); go_simp; try with_reducible rfl)
          simp only [Act.put, List.setIfInBounds_toArray, List.set_cons_zero, List.set_cons_succ, List.getElem_toArray, List.getElem_cons_zero, List.getElem_cons_succ]
          refine' wpAnyH_take (i := 7) (v := _) rfl (by kernel_rfl) (by kernel_rfl) (by kernel_rfl) (fun _ _ _ h => h) (Or.inl ⟨by rfl, ?hym17⟩) hS0 ?restm17
          case hym17 => (intro w hSw; (try dsimp only at hSw); go_simp; try with_reducible rfl)
          simp only [Act.put, List.setIfInBounds_toArray, List.set_cons_zero, List.set_cons_succ, List.getElem_toArray, List.getElem_cons_zero, List.getElem_cons_succ]
          refine' wpAnyH_take (i := 8) (v := _) rfl (by kernel_rfl) (by kernel_rfl) (by kernel_rfl) (fun _ _ _ h => h) (Or.inl ⟨by rfl, ?hym18⟩) hS0 ?restm18
          case hym18 => (intro w hSw; (try dsimp only at hSw); go_simp; try with_reducible rfl)
          simp only [Act.put, List.setIfInBounds_toArray, List.set_cons_zero, List.set_cons_succ, List.getElem_toArray, List.getElem_cons_zero, List.getElem_cons_succ]
          refine wpAnyH_ready (rs := [4]) (by kernel_rfl) (by simp) ?_
          refine AllReadyH.cons rfl (fun K hK => ?_) AllReadyH.nil
          go_simp
          refine (KF.out _).mono ?_
          rintro e wq1 ⟨rfl, hb⟩
          have HY1 := Lib.hid (HY0.out.trans (hb.mono HY0.out.size))
          clear hb
          refine hK.out _ _ (HSS.out _ HY1.out) (fun hS1 => ?_)
          clear hK K
          refine' wpAnyH_take (i := 5) (v := _) rfl (by kernel_rfl) (by kernel_rfl) (by kernel_rfl) (fun _ _ _ h => h) (Or.inl ⟨by rfl, ?hym19⟩) hS1 ?restm19
          case hym19 => (intro w hSw; (try dsimp only at hSw); go_simp; try with_reducible rfl)
          simp only [Act.put, List.setIfInBounds_toArray, List.set_cons_zero, List.set_cons_succ, List.getElem_toArray, List.getElem_cons_zero, List.getElem_cons_succ]
          refine wpAnyH_ready (rs := [9]) (by kernel_rfl) (by simp) ?_
          refine AllReadyH.cons rfl (fun K hK => ?_) AllReadyH.nil
          go_simp
          refine (KB.out _).mono ?_
          rintro e wq2 ⟨rfl, hb⟩
          have HY2 := Lib.hid (HY1.out.trans (hb.mono HY1.out.size))
          clear hb
          refine hK.out _ _ (HSS.out _ HY2.out) (fun hS2 => ?_)
          clear hK K
          refine' wpAnyH_take (i := 10) (v := _) rfl (by kernel_rfl) (by kernel_rfl) (by kernel_rfl) (fun _ _ _ h => h) (Or.inl ⟨by rfl, ?hym20⟩) hS2 ?restm20
          case hym20 => (intro w hSw; (try dsimp only at hSw); go_simp; try with_reducible rfl)
          simp only [Act.put, List.setIfInBounds_toArray, List.set_cons_zero, List.set_cons_succ, List.getElem_toArray, List.getElem_cons_zero, List.getElem_cons_succ]
          refine' wpAnyH_take (i := 11) (v := _) rfl (by kernel_rfl) (by kernel_rfl) (by kernel_rfl) (fun _ _ _ h => h) (Or.inl ⟨by rfl, ?hym21⟩) hS2 ?restm21
          case hym21 => (intro w hSw; (try dsimp only at hSw); go_simp; try with_reducible rfl)
          simp only [Act.put, List.setIfInBounds_toArray, List.set_cons_zero, List.set_cons_succ, List.getElem_toArray, List.getElem_cons_zero, List.getElem_cons_succ]
          refine wpAnyH_done (by kernel_rfl) ?_ _
          go_wp2_with fail
          go_roundw
          case rel => exact ⟨i + 1, hlt, by go_num, by rw [HSE.out, HQ.out], Lib.hid (HBW.out.trans (HY2.out.mono HLW.out))⟩
          case measure => simp [intOf]; omega
      · rw [if_neg hf] at hone
        obtain ⟨xf, rfl⟩ : ∃ n : Nat, f = n := ⟨f.toNat, by omega⟩
        obtain ⟨xb, rfl⟩ : ∃ n : Nat, b = n := ⟨b.toNat, by omega⟩
        have hnf : xf < 18446744073709551616 ∧ xb < 18446744073709551616 := by omega
        have d0 : decide ((0 : Int) ≤ (xf : Int)) = true := decide_eq_true (by omega)
        have hwf : IntKind.u64.wrap (xf : Int) = (xf : Int) := wrap_nat (by omega)
        have hwb : IntKind.u64.wrap (xb : Int) = (xb : Int) := wrap_nat (by omega)
        have KF := Lib.hid (fun w => rput7c (x := xf) (k := 2) (X := (xf : Int)) (K := 2) rfl rfl (by omega) (by omega) w)
        have KB := Lib.hid (fun w => rput7c (x := xb) (k := 2) (X := (xb : Int)) (K := 2) rfl rfl (by omega) (by omega) w)
        have HE := Lib.hid (HSP.out hf)
        rw [u64N_ofN hnf.1, u64N_ofN hnf.2] at HE
        have a1 := add_strN S (beN 1 1) (by omega) (by rw [be_len]; omega)
        have a2 := add_strN (S ++ beN 1 1) (beN xf 2) (by rw [List.length_append, be_len]; omega) (by rw [be_len]; omega)
        have a3 := add_strN ((S ++ beN 1 1) ++ beN xf 2) (beN xb 2) (by simp only [List.length_append, be_len]; omega) (by rw [be_len]; omega)
        have HQ : Hid (S ++ ndB kind ⟨(xf : Int), (xb : Int), ll, cx, sx, q⟩ = ((S ++ beN 1 1) ++ beN xf 2) ++ beN xb 2) := Lib.hid (by rw [HE.out, be_one 1]; simp)
        obtain ⟨T0, hT0⟩ : ∃ T, S ++ beN 1 1 = T := ⟨_, rfl⟩
        rw [hT0] at HQ a1 a2 a3
        obtain ⟨T1, hT1⟩ : ∃ T, T0 ++ beN xf 2 = T := ⟨_, rfl⟩
        rw [hT1] at HQ a2 a3
        obtain ⟨T2, hT2⟩ : ∃ T, T1 ++ beN xb 2 = T := ⟨_, rfl⟩
        rw [hT2] at HQ a3
        clear hT0 hT1 hT2
        clear hone hf hnf hsl
        go_upto_region 8 with (fail)
        have kN := Blk.new wr #[.int .i64 (xf : Int), .int .i64 (xb : Int), .int .i64 ll, .int .i64 cx, .int .i64 sx, .int .i64 q] 90
        have HBE := Lib.hid ((Below.refl wr.heap.size wr).alloc (Nat.le_refl _) (.cells #[.int .i64 (xf : Int), .int .i64 (xb : Int), .int .i64 ll, .int .i64 cx, .int .i64 sx, .int .i64 q] 90))
        obtain ⟨W, hW⟩ : ∃ W, wr.alloc (.cells #[.int .i64 (xf : Int), .int .i64 (xb : Int), .int .i64 ll, .int .i64 cx, .int .i64 sx, .int .i64 q] 90) = W := ⟨_, rfl⟩
        rw [hW] at kN HBE ⊢
        have HKC := Lib.hid (fun W' (hb : Below W.heap.size W W') => (show W'.cell? ⟨wr.heap.size, 0, none⟩ = some (.int .i64 (xf : Int)) ∧ W'.cell? ⟨wr.heap.size, 1, none⟩ = some (.int .i64 (xb : Int)) ∧ W'.cell? ⟨wr.heap.size, 3, none⟩ = some (.int .i64 cx) ∧ W'.cell? ⟨wr.heap.size, 4, none⟩ = some (.int .i64 sx) ∧ W'.cell? ⟨wr.heap.size, 5, none⟩ = some (.int .i64 q) from ⟨(kN.below hb).cell 0, (kN.below hb).cell 1, (kN.below hb).cell 3, (kN.below hb).cell 4, (kN.below hb).cell 5⟩))
        have HX0 := Lib.hid (Below.refl W.heap.size W)
        have HBW := Lib.hid (HB.out.trans (HBE.out.mono hsz))
        have HLW := Lib.hid (Nat.le_trans hsz HBE.out.size)
        obtain ⟨c0, c1, c3, c4, c5⟩ := HKC.out _ HX0.out
        clear hW kN p0 p1 p2 p3 p4 p5
        go_upto_region 9 with (fail)
        clear c0 c1 c3 c4 c5
        have HSS := HKC
        have HY0 := Lib.hid ((Below.refl W.heap.size W).drew)
        refine wp_region_held_drew (S := (fun W' => W'.cell? ⟨wr.heap.size, 0, none⟩ = some (.int .i64 (xf : Int)) ∧ W'.cell? ⟨wr.heap.size, 1, none⟩ = some (.int .i64 (xb : Int)) ∧ W'.cell? ⟨wr.heap.size, 3, none⟩ = some (.int .i64 cx) ∧ W'.cell? ⟨wr.heap.size, 4, none⟩ = some (.int .i64 sx) ∧ W'.cell? ⟨wr.heap.size, 5, none⟩ = some (.int .i64 q))) (by kernel_rfl) ?_ (fun hS0 => ?_)
        · exact HSS.out _ HY0.out
        refine' wpAnyH_take (i := 0) (v := _) rfl (by kernel_rfl) (by kernel_rfl) (by kernel_rfl) (fun _ _ _ h => h) (Or.inl ⟨by rfl, ?hym1⟩) hS0 ?restm1
        case hym1 => (intro w hSw; (try dsimp only at hSw); go_simp; try with_reducible rfl)
        simp only [Act.put, List.setIfInBounds_toArray, List.set_cons_zero, List.set_cons_succ, List.getElem_toArray, List.getElem_cons_zero, List.getElem_cons_succ]
        refine' wpAnyH_take (i := 3) (v := _) rfl (by kernel_rfl) (by kernel_rfl) (by kernel_rfl) (fun _ _ _ h => h) (Or.inl ⟨by rfl, ?hym2⟩) hS0 ?restm2
        case hym2 => (intro w hSw; (try dsimp only at hSw); go_simp; try with_reducible rfl)
        simp only [Act.put, List.setIfInBounds_toArray, List.set_cons_zero, List.set_cons_succ, List.getElem_toArray, List.getElem_cons_zero, List.getElem_cons_succ]
        refine' wpAnyH_take (i := 4) (v := _) rfl (by kernel_rfl) (by kernel_rfl) (by kernel_rfl) (fun _ _ _ h => h) (Or.inl ⟨by rfl, ?hym3⟩) hS0 ?restm3
        case hym3 => (intro w hSw; (try dsimp only at hSw); go_simp; try with_reducible rfl)
        simp only [Act.put, List.setIfInBounds_toArray, List.set_cons_zero, List.set_cons_succ, List.getElem_toArray, List.getElem_cons_zero, List.getElem_cons_succ]
        refine' wpAnyH_take (i := 5) (v := _) rfl (by kernel_rfl) (by kernel_rfl) (by kernel_rfl) (fun _ _ _ h => h) (Or.inl ⟨by rfl, ?hym4⟩) hS0 ?restm4
        case hym4 => (intro w hSw; (try dsimp only at hSw); go_simp; try with_reducible rfl)
        simp only [Act.put, List.setIfInBounds_toArray, List.set_cons_zero, List.set_cons_succ, List.getElem_toArray, List.getElem_cons_zero, List.getElem_cons_succ]
        refine' wpAnyH_take (i := 8) (v := _) rfl (by kernel_rfl) (by kernel_rfl) (by kernel_rfl) (fun _ _ _ h => h) (Or.inl ⟨by rfl, ?hym5⟩) hS0 ?restm5
        case hym5 => (intro w hSw; (try dsimp only at hSw); go_simp; try with_reducible rfl)
        simp only [Act.put, List.setIfInBounds_toArray, List.set_cons_zero, List.set_cons_succ, List.getElem_toArray, List.getElem_cons_zero, List.getElem_cons_succ]
        refine' wpAnyH_take (i := 9) (v := _) rfl (by kernel_rfl) (by kernel_rfl) (by kernel_rfl) (fun _ _ _ h => h) (Or.inl ⟨by rfl, ?hym6⟩) hS0 ?restm6
        case hym6 => (intro w hSw; (try dsimp only at hSw); go_simp; try with_reducible rfl)
        simp only [Act.put, List.setIfInBounds_toArray, List.set_cons_zero, List.set_cons_succ, List.getElem_toArray, List.getElem_cons_zero, List.getElem_cons_succ]
        refine' wpAnyH_take (i := 10) (v := _) rfl (by kernel_rfl) (by kernel_rfl) (by kernel_rfl) (fun _ _ _ h => h) (Or.inl ⟨by rfl, ?hym7⟩) hS0 ?restm7
        case hym7 => (intro w hSw; (try dsimp only at hSw); go_simp; try with_reducible rfl)
        simp only [Act.put, List.setIfInBounds_toArray, List.set_cons_zero, List.set_cons_succ, List.getElem_toArray, List.getElem_cons_zero, List.getElem_cons_succ]
        refine wpAnyH_ready (rs := [1]) (by kernel_rfl) (by simp) ?_
        refine AllReadyH.cons rfl (fun K hK => ?_) AllReadyH.nil
        go_simp
        refine (K1.out _).mono ?_
        rintro e wq1 ⟨rfl, hb⟩
        have HY1 := Lib.hid (HY0.out.trans (hb.mono HY0.out.size))
        clear hb
        refine hK.out _ _ (HSS.out _ HY1.out) (fun hS1 => ?_)
        clear hK K
        refine' wpAnyH_take (i := 2) (v := _) rfl (by kernel_rfl) (by kernel_rfl) (by kernel_rfl) (fun _ _ _ h => h) (Or.inl ⟨by rfl, ?hym8⟩) hS1 ?restm8
        case hym8 => (intro w hSw; (try dsimp only at hSw); go_simp; try with_reducible rfl)
        simp only [Act.put, List.setIfInBounds_toArray, List.set_cons_zero, List.set_cons_succ, List.getElem_toArray, List.getElem_cons_zero, List.getElem_cons_succ]
        refine wpAnyH_ready (rs := [6]) (by kernel_rfl) (by simp) ?_
        refine AllReadyH.cons rfl (fun K hK => ?_) AllReadyH.nil
        go_simp
        refine (KF.out _).mono ?_
        rintro e wq2 ⟨rfl, hb⟩
        have HY2 := Lib.hid (HY1.out.trans (hb.mono HY1.out.size))
        clear hb
        refine hK.out _ _ (HSS.out _ HY2.out) (fun hS2 => ?_)
        clear hK K
        refine' wpAnyH_take (i := 7) (v := _) rfl (by kernel_rfl) (by kernel_rfl) (by kernel_rfl) (fun _ _ _ h => h) (Or.inl ⟨by rfl, ?hym9⟩) hS2 ?restm9
        case hym9 => (intro w hSw; (try dsimp only at hSw); go_simp; try with_reducible rfl)
        simp only [Act.put, List.setIfInBounds_toArray, List.set_cons_zero, List.set_cons_succ, List.getElem_toArray, List.getElem_cons_zero, List.getElem_cons_succ]
        refine wpAnyH_ready (rs := [11]) (by kernel_rfl) (by simp) ?_
        refine AllReadyH.cons rfl (fun K hK => ?_) AllReadyH.nil
        go_simp
        refine (KB.out _).mono ?_
        rintro e wq3 ⟨rfl, hb⟩
        have HY3 := Lib.hid (HY2.out.trans (hb.mono HY2.out.size))
        clear hb
        refine hK.out _ _ (HSS.out _ HY3.out) (fun hS3 => ?_)
        clear hK K
        refine' wpAnyH_take (i := 12) (v := _) rfl (by kernel_rfl) (by kernel_rfl) (by kernel_rfl) (fun _ _ _ h => h) (Or.inl ⟨by rfl, ?hym10⟩) hS3 ?restm10
        case hym10 => (intro w hSw; (try dsimp only at hSw); go_simp; try with_reducible rfl)
        simp only [Act.put, List.setIfInBounds_toArray, List.set_cons_zero, List.set_cons_succ, List.getElem_toArray, List.getElem_cons_zero, List.getElem_cons_succ]
        refine' wpAnyH_take (i := 13) (v := _) rfl (by kernel_rfl) (by kernel_rfl) (by kernel_rfl) (fun _ _ _ h => h) (Or.inl ⟨by rfl, ?hym11⟩) hS3 ?restm11
        case hym11 => (intro w hSw; (try dsimp only at hSw); go_simp; try with_reducible rfl)
        simp only [Act.put, List.setIfInBounds_toArray, List.set_cons_zero, List.set_cons_succ, List.getElem_toArray, List.getElem_cons_zero, List.getElem_cons_succ]
        refine wpAnyH_done (by kernel_rfl) ?_ _
        go_wp2_with fail
        go_roundw
        case rel => exact ⟨i + 1, hlt, by go_num, by rw [HSE.out, HQ.out], Lib.hid (HBW.out.trans (HY3.out.mono HLW.out))⟩
        case measure => simp [intOf]; omega
    · obtain rfl : m = i := by omega
      have he : t.take m = t := List.take_of_length_le (by rw [HM.out]; omega)
      rw [he]
      go_wp2_with fail
      go_ret
      exact ⟨by rw [HTB.out]; rfl, HB.out⟩
end Go.Proofs.Ytpekofpiodaadaa.Hb
end

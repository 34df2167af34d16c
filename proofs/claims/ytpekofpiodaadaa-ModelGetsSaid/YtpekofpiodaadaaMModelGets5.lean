/- Texts joined: the walks and the plain laws that the claim ModelGets rests on. -/
import Derived.Test.YtpekofpiodaadaaMModelGets4
import Derived.Test.YtpekofpiodaadaaMModelGets3
import Derived.Defers
import Derived.Recover
import Derived.Laws.Pointers
section
/- The walk of ref10.Right. -/
namespace Go.Proofs.Ytpekofpiodaadaa.Hb
set_option linter.unusedVariables false
set_option linter.unusedSimpArgs false
open Go.RowKit

theorem rf_one {w : World} {g x : Nat} (h : Blk w g #[.float .f64 x] 139) (hx : x < 18446744073709551616) : RF w (some ⟨g, 0, none⟩) [x] := rowAt_one rfl ⟨rfl, hx⟩ (blk_list h)
theorem right_big {l : List Nat} (h : 255 < l.length) : rightE l = false := by
  unfold rightE
  rw [decide_eq_false (show ¬ l.length < 256 by omega), Bool.and_false]
set_option maxRecDepth 100000 in
set_option maxHeartbeats 8000000 in
theorem rright10_any (l : List Nat) (A : Option Addr) (cap : Nat) (w : World) (hr : RF w A l) (hl : l.length ≤ 9223372036854775807) :
    Calls Try.prog 132 #[.slice A l.length cap] w fun e w' => e = .returned (.bool (rightE l)) ∧ Below w.heap.size w w' := by
  have HN : Hid (∀ i, i < l.length → okE l i = false → rightE l = false) := Lib.hid (fun i hi h => right_no hi h)
  have HY : Hid ((∀ i, i < l.length → okE l i = true) → rightE l = decide (l.length < 256)) := Lib.hid right_yes
  have HBG := Lib.hid (fun h => right_big (l := l) h)
  obtain ⟨R, hR⟩ : ∃ R, rightE l = R := ⟨_, rfl⟩
  rw [hR] at HN HY HBG ⊢
  obtain ⟨n, hn⟩ : ∃ n, l.length = n := ⟨_, rfl⟩
  have HLN := Lib.hid hn
  rw [hn] at HN HY hl HBG ⊢
  have HR := Lib.hid hr
  clear hR hn hr
  by_cases hbig : 255 < n
  · have d1 : decide (255 < n) = true := decide_eq_true hbig
    have d1' : decide ((255 : Int) < n) = true := decide_eq_true (by omega)
    have HF := Lib.hid (HBG.out hbig)
    go_enter Try.func132, Try.ntmps132
    go_wp2_with fail
    go_ret
    exact ⟨by rw [HF.out]; rfl, Below.refl _ _⟩
  have d1 : decide (255 < n) = false := decide_eq_false hbig
  have d1' : decide ((255 : Int) < n) = false := decide_eq_false (by omega)
  have HNB := Lib.hid hbig
  clear hbig
  go_enter Try.func132, Try.ntmps132
  go_wp2_with fail
  clear d1 d1'
  go_loopw [3] (fun iv wr => ∃ i : Nat, i ≤ n ∧ iv = .int .i64 i ∧ Hid (∀ j, j < i → okE l j = true) ∧ Hid (Below w.heap.size w wr)) (fun iv _ => n - (intOf iv).toNat)
  case atStart => exact ⟨0, Nat.zero_le _, rfl, Lib.hid (fun j hj => by omega), Lib.hid (Below.refl _ _)⟩
  case round =>
    obtain ⟨i, hi, rfl, HI, HB⟩ := hrel
    by_cases hlt : i < n
    · have hlt' : (i : Int) < n := by omega
      obtain ⟨ad, rfl, hx0, hxl⟩ := HR.out.at (i := i) (by rw [HLN.out]; exact hlt)
      obtain ⟨x, ex⟩ : ∃ x, l.getD i 0 = x := ⟨_, rfl⟩
      rw [ex] at hx0 hxl
      have HXC := Lib.hid (fun W (hb : Below w.heap.size w W) => (hb.cell (World.block_lt_of_cell? w _ hx0)).trans hx0)
      have HEX := Lib.hid ex
      have KM := Lib.hid (fun w => rmissing_any x w)
      have KC := Lib.hid (fun w => rclean_any x w)
      have KS := Lib.hid (fun c A B ca cb w (h1 : c < 18446744073709551616) ha hb => rsame06_any [x] [c] A B ca cb w ha hb (by simp) (by simp))
      have HCL := Lib.hid (clean_lt hxl)
      obtain ⟨c, ec⟩ : ∃ c, cleanF x = c := ⟨_, rfl⟩
      have HEC := Lib.hid ec
      rw [ec] at KC HCL
      have HXL := Lib.hid hxl
      clear ex ec hx0 hxl
      have hx := HXC.out wr HB.out
      have HX0 := Lib.hid (HB.out.trans ((Below.refl wr.heap.size wr).drew.mono HB.out.size))
      cases hna : nanF x with
      | true =>
        rw [hna] at KM
        have HF := Lib.hid (HN.out i hlt (ok_nan HEX.out hna))
        clear hna
        go_upto_region 6 with (fail)
        refine wp_region_held_drew (S := (fun W => W.cell? (ad.add i) = some (.float .f64 x))) (by kernel_rfl) ?_ (fun hS0 => ?_)
        · exact HXC.out _ HX0.out
        refine' wpAnyH_take (i := 0) (v := _) rfl (by kernel_rfl) (by kernel_rfl) (by kernel_rfl) (fun _ _ _ h => h) (Or.inl ⟨by rfl, ?hym1⟩) hS0 ?restm1
        case hym1 => (intro w hSw; (try dsimp only at hSw); go_simp; try with_reducible rfl)
        simp only [Act.put, List.setIfInBounds_toArray, List.set_cons_zero, List.set_cons_succ, List.getElem_toArray, List.getElem_cons_zero, List.getElem_cons_succ]
        refine' wpAnyH_take (i := 1) (v := _) rfl (by kernel_rfl) (by kernel_rfl) (by kernel_rfl) (fun _ _ _ h => h) (Or.inl ⟨by rfl, ?hym2⟩) hS0 ?restm2
        case hym2 => (intro w hSw; (try dsimp only at hSw); go_simp; try with_reducible rfl)
        simp only [Act.put, List.setIfInBounds_toArray, List.set_cons_zero, List.set_cons_succ, List.getElem_toArray, List.getElem_cons_zero, List.getElem_cons_succ]
        refine' wpAnyH_take (i := 2) (v := _) rfl (by kernel_rfl) (by kernel_rfl) (by kernel_rfl) (fun _ _ _ h => h) (Or.inl ⟨by rfl, ?hym3⟩) hS0 ?restm3
        case hym3 => (intro w hSw; (try dsimp only at hSw); go_simp; try with_reducible rfl)
        simp only [Act.put, List.setIfInBounds_toArray, List.set_cons_zero, List.set_cons_succ, List.getElem_toArray, List.getElem_cons_zero, List.getElem_cons_succ]
        refine' wpAnyH_take (i := 3) (v := _) rfl (by kernel_rfl) (by kernel_rfl) (by kernel_rfl) (fun _ _ _ h => h) (Or.inl ⟨by rfl, ?hym4⟩) hS0 ?restm4
        case hym4 => (intro w hSw; (try dsimp only at hSw); go_simp; try with_reducible rfl)
        simp only [Act.put, List.setIfInBounds_toArray, List.set_cons_zero, List.set_cons_succ, List.getElem_toArray, List.getElem_cons_zero, List.getElem_cons_succ]
        refine wpAnyH_ready (rs := [4]) (by kernel_rfl) (by simp) ?_
        refine AllReadyH.cons rfl (fun K hK => ?_) AllReadyH.nil
        go_simp
        refine (KM.out _).mono ?_
        rintro e w1 ⟨rfl, rfl⟩
        refine hK.out _ _ (HXC.out _ HX0.out) (fun hS1 => ?_)
        clear hK K
        refine' wpAnyH_take (i := 5) (v := _) rfl (by kernel_rfl) (by kernel_rfl) (by kernel_rfl) (fun _ _ _ h => h) (Or.inl ⟨by rfl, ?hym5⟩) hS1 ?restm5
        case hym5 => (intro w hSw; (try dsimp only at hSw); go_simp; try with_reducible rfl)
        simp only [Act.put, List.setIfInBounds_toArray, List.set_cons_zero, List.set_cons_succ, List.getElem_toArray, List.getElem_cons_zero, List.getElem_cons_succ]
        refine' wpAnyH_take (i := 6) (v := _) rfl (by kernel_rfl) (by kernel_rfl) (by kernel_rfl) (fun _ _ _ h => h) (Or.inr ⟨by rfl, rfl⟩) hS1 ?restm6
        simp only [Act.put, List.setIfInBounds_toArray, List.set_cons_zero, List.set_cons_succ, List.getElem_toArray, List.getElem_cons_zero, List.getElem_cons_succ]
        refine' wpAnyH_take (i := 7) (v := _) rfl (by kernel_rfl) (by kernel_rfl) (by kernel_rfl) (fun _ _ _ h => h) (Or.inr ⟨by rfl, rfl⟩) hS1 ?restm7
        simp only [Act.put, List.setIfInBounds_toArray, List.set_cons_zero, List.set_cons_succ, List.getElem_toArray, List.getElem_cons_zero, List.getElem_cons_succ]
        refine' wpAnyH_take (i := 8) (v := _) rfl (by kernel_rfl) (by kernel_rfl) (by kernel_rfl) (fun _ _ _ h => h) (Or.inr ⟨by rfl, rfl⟩) hS1 ?restm8
        simp only [Act.put, List.setIfInBounds_toArray, List.set_cons_zero, List.set_cons_succ, List.getElem_toArray, List.getElem_cons_zero, List.getElem_cons_succ]
        refine' wpAnyH_take (i := 9) (v := _) rfl (by kernel_rfl) (by kernel_rfl) (by kernel_rfl) (fun _ _ _ h => h) (Or.inr ⟨by rfl, rfl⟩) hS1 ?restm9
        simp only [Act.put, List.setIfInBounds_toArray, List.set_cons_zero, List.set_cons_succ, List.getElem_toArray, List.getElem_cons_zero, List.getElem_cons_succ]
        refine' wpAnyH_take (i := 10) (v := _) rfl (by kernel_rfl) (by kernel_rfl) (by kernel_rfl) (fun _ _ _ h => h) (Or.inr ⟨by rfl, rfl⟩) hS1 ?restm10
        simp only [Act.put, List.setIfInBounds_toArray, List.set_cons_zero, List.set_cons_succ, List.getElem_toArray, List.getElem_cons_zero, List.getElem_cons_succ]
        refine' wpAnyH_take (i := 11) (v := _) rfl (by kernel_rfl) (by kernel_rfl) (by kernel_rfl) (fun _ _ _ h => h) (Or.inr ⟨by rfl, rfl⟩) hS1 ?restm11
        simp only [Act.put, List.setIfInBounds_toArray, List.set_cons_zero, List.set_cons_succ, List.getElem_toArray, List.getElem_cons_zero, List.getElem_cons_succ]
        refine' wpAnyH_take (i := 12) (v := _) rfl (by kernel_rfl) (by kernel_rfl) (by kernel_rfl) (fun _ _ _ h => h) (Or.inr ⟨by rfl, rfl⟩) hS1 ?restm12
        simp only [Act.put, List.setIfInBounds_toArray, List.set_cons_zero, List.set_cons_succ, List.getElem_toArray, List.getElem_cons_zero, List.getElem_cons_succ]
        refine' wpAnyH_take (i := 13) (v := _) rfl (by kernel_rfl) (by kernel_rfl) (by kernel_rfl) (fun _ _ _ h => h) (Or.inr ⟨by rfl, rfl⟩) hS1 ?restm13
        simp only [Act.put, List.setIfInBounds_toArray, List.set_cons_zero, List.set_cons_succ, List.getElem_toArray, List.getElem_cons_zero, List.getElem_cons_succ]
        refine' wpAnyH_take (i := 14) (v := _) rfl (by kernel_rfl) (by kernel_rfl) (by kernel_rfl) (fun _ _ _ h => h) (Or.inr ⟨by rfl, rfl⟩) hS1 ?restm14
        simp only [Act.put, List.setIfInBounds_toArray, List.set_cons_zero, List.set_cons_succ, List.getElem_toArray, List.getElem_cons_zero, List.getElem_cons_succ]
        refine' wpAnyH_take (i := 15) (v := _) rfl (by kernel_rfl) (by kernel_rfl) (by kernel_rfl) (fun _ _ _ h => h) (Or.inr ⟨by rfl, rfl⟩) hS1 ?restm15
        simp only [Act.put, List.setIfInBounds_toArray, List.set_cons_zero, List.set_cons_succ, List.getElem_toArray, List.getElem_cons_zero, List.getElem_cons_succ]
        refine' wpAnyH_take (i := 16) (v := _) rfl (by kernel_rfl) (by kernel_rfl) (by kernel_rfl) (fun _ _ _ h => h) (Or.inr ⟨by rfl, rfl⟩) hS1 ?restm16
        simp only [Act.put, List.setIfInBounds_toArray, List.set_cons_zero, List.set_cons_succ, List.getElem_toArray, List.getElem_cons_zero, List.getElem_cons_succ]
        refine' wpAnyH_take (i := 17) (v := _) rfl (by kernel_rfl) (by kernel_rfl) (by kernel_rfl) (fun _ _ _ h => h) (Or.inr ⟨by rfl, rfl⟩) hS1 ?restm17
        simp only [Act.put, List.setIfInBounds_toArray, List.set_cons_zero, List.set_cons_succ, List.getElem_toArray, List.getElem_cons_zero, List.getElem_cons_succ]
        refine' wpAnyH_take (i := 18) (v := _) rfl (by kernel_rfl) (by kernel_rfl) (by kernel_rfl) (fun _ _ _ h => h) (Or.inr ⟨by rfl, rfl⟩) hS1 ?restm18
        simp only [Act.put, List.setIfInBounds_toArray, List.set_cons_zero, List.set_cons_succ, List.getElem_toArray, List.getElem_cons_zero, List.getElem_cons_succ]
        refine' wpAnyH_take (i := 19) (v := _) rfl (by kernel_rfl) (by kernel_rfl) (by kernel_rfl) (fun _ _ _ h => h) (Or.inl ⟨by rfl, ?hym19⟩) hS1 ?restm19
        case hym19 => (intro w hSw; (try dsimp only at hSw); go_simp; try with_reducible rfl)
        simp only [Act.put, List.setIfInBounds_toArray, List.set_cons_zero, List.set_cons_succ, List.getElem_toArray, List.getElem_cons_zero, List.getElem_cons_succ]
        refine wpAnyH_done (by kernel_rfl) ?_ _
        go_wp2_with fail
        go_ret
        exact ⟨by rw [HF.out]; rfl, HX0.out⟩
      | false =>
        rw [hna] at KM
        have HNA := Lib.hid hna
        clear hna
        by_cases hc : x = c
        rotate_left
        · have HF := Lib.hid (HN.out i hlt (ok_unclean HEX.out (by rw [HEC.out]; exact hc)))
          have KSX : Hid (∀ A B ca cb w, RF w A [x] → RF w B [c] → Calls Try.prog 64 #[.slice A 1 ca, .slice B 1 cb] w (SaysD (.bool false) w)) := Lib.hid (fun A B ca cb w ha hb => by have := KS.out c A B ca cb w HCL.out ha hb; rw [decide_eq_false (show ¬ [x] = [c] by simpa using hc)] at this; exact this)
          clear KS hc
          go_upto_region 6 with (fail)
          refine wp_region_held_drew (S := (fun W => W.cell? (ad.add i) = some (.float .f64 x))) (by kernel_rfl) ?_ (fun hS0 => ?_)
          · exact HXC.out _ HX0.out
          refine' wpAnyH_take (i := 0) (v := _) rfl (by kernel_rfl) (by kernel_rfl) (by kernel_rfl) (fun _ _ _ h => h) (Or.inl ⟨by rfl, ?hym20⟩) hS0 ?restm20
          case hym20 => (intro w hSw; (try dsimp only at hSw); go_simp; try with_reducible rfl)
          simp only [Act.put, List.setIfInBounds_toArray, List.set_cons_zero, List.set_cons_succ, List.getElem_toArray, List.getElem_cons_zero, List.getElem_cons_succ]
          refine' wpAnyH_take (i := 1) (v := _) rfl (by kernel_rfl) (by kernel_rfl) (by kernel_rfl) (fun _ _ _ h => h) (Or.inl ⟨by rfl, ?hym21⟩) hS0 ?restm21
          case hym21 => (intro w hSw; (try dsimp only at hSw); go_simp; try with_reducible rfl)
          simp only [Act.put, List.setIfInBounds_toArray, List.set_cons_zero, List.set_cons_succ, List.getElem_toArray, List.getElem_cons_zero, List.getElem_cons_succ]
          refine' wpAnyH_take (i := 2) (v := _) rfl (by kernel_rfl) (by kernel_rfl) (by kernel_rfl) (fun _ _ _ h => h) (Or.inl ⟨by rfl, ?hym22⟩) hS0 ?restm22
          case hym22 => (intro w hSw; (try dsimp only at hSw); go_simp; try with_reducible rfl)
          simp only [Act.put, List.setIfInBounds_toArray, List.set_cons_zero, List.set_cons_succ, List.getElem_toArray, List.getElem_cons_zero, List.getElem_cons_succ]
          refine' wpAnyH_take (i := 3) (v := _) rfl (by kernel_rfl) (by kernel_rfl) (by kernel_rfl) (fun _ _ _ h => h) (Or.inl ⟨by rfl, ?hym23⟩) hS0 ?restm23
          case hym23 => (intro w hSw; (try dsimp only at hSw); go_simp; try with_reducible rfl)
          simp only [Act.put, List.setIfInBounds_toArray, List.set_cons_zero, List.set_cons_succ, List.getElem_toArray, List.getElem_cons_zero, List.getElem_cons_succ]
          refine wpAnyH_ready (rs := [4]) (by kernel_rfl) (by simp) ?_
          refine AllReadyH.cons rfl (fun K hK => ?_) AllReadyH.nil
          go_simp
          refine (KM.out _).mono ?_
          rintro e w1 ⟨rfl, rfl⟩
          refine hK.out _ _ (HXC.out _ HX0.out) (fun hS1 => ?_)
          clear hK K
          refine' wpAnyH_take (i := 5) (v := _) rfl (by kernel_rfl) (by kernel_rfl) (by kernel_rfl) (fun _ _ _ h => h) (Or.inl ⟨by rfl, ?hym24⟩) hS1 ?restm24
          case hym24 => (intro w hSw; (try dsimp only at hSw); go_simp; try with_reducible rfl)
          simp only [Act.put, List.setIfInBounds_toArray, List.set_cons_zero, List.set_cons_succ, List.getElem_toArray, List.getElem_cons_zero, List.getElem_cons_succ]
          refine' wpAnyH_take (i := 6) (v := _) rfl (by kernel_rfl) (by kernel_rfl) (by kernel_rfl) (fun _ _ _ h => h) (Or.inl ⟨by rfl, ?hym25⟩) hS1 ?restm25
          case hym25 => (intro w hSw; (try dsimp only at hSw); go_simp; try with_reducible rfl)
          simp only [Act.put, List.setIfInBounds_toArray, List.set_cons_zero, List.set_cons_succ, List.getElem_toArray, List.getElem_cons_zero, List.getElem_cons_succ]
          refine' wpAnyH_take (i := 7) (v := _) rfl (by kernel_rfl) (by kernel_rfl) (by kernel_rfl) (fun _ _ _ h => h) (Or.inl ⟨by rfl, ?hym26⟩) hS1 ?restm26
          case hym26 => (intro w hSw; (try dsimp only at hSw); go_simp; try with_reducible rfl)
          simp only [Act.put, List.setIfInBounds_toArray, List.set_cons_zero, List.set_cons_succ, List.getElem_toArray, List.getElem_cons_zero, List.getElem_cons_succ]
          refine' wpAnyH_take (i := 8) (v := _) rfl (by kernel_rfl) (by kernel_rfl) (by kernel_rfl) (fun _ _ _ h => h) (Or.inl ⟨by rfl, ?hym27⟩) hS1 ?restm27
          case hym27 => (intro w hSw; (try dsimp only at hSw); go_simp; try with_reducible rfl)
          simp only [Act.put, List.setIfInBounds_toArray, List.set_cons_zero, List.set_cons_succ, List.getElem_toArray, List.getElem_cons_zero, List.getElem_cons_succ]
          refine' wpAnyH_take (i := 9) (v := _) rfl (by kernel_rfl) (by kernel_rfl) (by kernel_rfl) (fun _ _ _ h => h) (Or.inl ⟨by rfl, ?hym28⟩) hS1 ?restm28
          case hym28 => (intro w hSw; (try dsimp only at hSw); go_simp; try with_reducible rfl)
          simp only [Act.put, List.setIfInBounds_toArray, List.set_cons_zero, List.set_cons_succ, List.getElem_toArray, List.getElem_cons_zero, List.getElem_cons_succ]
          refine' wpAnyH_take (i := 11) (v := _) rfl (by kernel_rfl) (by kernel_rfl) (by kernel_rfl) (fun _ _ _ h => h) (Or.inl ⟨by rfl, ?hym29⟩) hS1 ?restm29
          case hym29 => (intro w hSw; (try dsimp only at hSw); go_simp; try with_reducible rfl)
          simp only [Act.put, List.setIfInBounds_toArray, List.set_cons_zero, List.set_cons_succ, List.getElem_toArray, List.getElem_cons_zero, List.getElem_cons_succ]
          refine' wpAnyH_take (i := 12) (v := _) rfl (by kernel_rfl) (by kernel_rfl) (by kernel_rfl) (fun _ _ _ h => h) (Or.inl ⟨by rfl, ?hym30⟩) hS1 ?restm30
          case hym30 => (intro w hSw; (try dsimp only at hSw); go_simp; try with_reducible rfl)
          simp only [Act.put, List.setIfInBounds_toArray, List.set_cons_zero, List.set_cons_succ, List.getElem_toArray, List.getElem_cons_zero, List.getElem_cons_succ]
          refine' wpAnyH_take (i := 13) (v := _) rfl (by kernel_rfl) (by kernel_rfl) (by kernel_rfl) (fun _ _ _ h => h) (Or.inl ⟨by rfl, ?hym31⟩) hS1 ?restm31
          case hym31 => (intro w hSw; (try dsimp only at hSw); go_simp; try with_reducible rfl)
          simp only [Act.put, List.setIfInBounds_toArray, List.set_cons_zero, List.set_cons_succ, List.getElem_toArray, List.getElem_cons_zero, List.getElem_cons_succ]
          refine' wpAnyH_take (i := 14) (v := _) rfl (by kernel_rfl) (by kernel_rfl) (by kernel_rfl) (fun _ _ _ h => h) (Or.inl ⟨by rfl, ?hym32⟩) hS1 ?restm32
          case hym32 => (intro w hSw; (try dsimp only at hSw); go_simp; try with_reducible rfl)
          simp only [Act.put, List.setIfInBounds_toArray, List.set_cons_zero, List.set_cons_succ, List.getElem_toArray, List.getElem_cons_zero, List.getElem_cons_succ]
          refine wpAnyH_ready (rs := [10, 15]) (by kernel_rfl) (by simp) ?_
          refine AllReadyH.cons rfl (fun K hK => ?_) (AllReadyH.cons rfl (fun K hK => ?_) AllReadyH.nil)
          · have hbb := (Below.refl (wr.drew).heap.size (wr.drew)).alloc (Nat.le_refl _) (.cells #[.float .f64 x] 139)
            have HX1 := Lib.hid (HX0.out.trans (hbb.mono HX0.out.size))
            have HB1 := Lib.hid (Blk.new (wr.drew) #[.float .f64 x] 139)
            have HBBHX1 := Lib.hid hbb
            clear hbb
            go_simp
            refine hK.out _ _ (HXC.out _ HX1.out) (fun hS2 => ?_)
            clear hK K
            refine wpAnyH_ready (rs := [15]) (by kernel_rfl) (by simp) ?_
            refine AllReadyH.cons rfl (fun K hK => ?_) AllReadyH.nil
            go_simp
            refine (KC.out _).mono ?_
            rintro e w2 ⟨rfl, rfl⟩
            refine hK.out _ _ (HXC.out _ HX1.out) (fun hS3 => ?_)
            clear hK K
            refine wpAnyH_ready (rs := [16]) (by kernel_rfl) (by simp) ?_
            refine AllReadyH.cons rfl (fun K hK => ?_) AllReadyH.nil
            have hbb := (Below.refl ((wr.drew.alloc (.cells #[.float .f64 x] 139))).heap.size ((wr.drew.alloc (.cells #[.float .f64 x] 139)))).alloc (Nat.le_refl _) (.cells #[.float .f64 c] 139)
            have HX2 := Lib.hid (HX1.out.trans (hbb.mono HX1.out.size))
            have HB2 := Lib.hid (Blk.new ((wr.drew.alloc (.cells #[.float .f64 x] 139))) #[.float .f64 c] 139)
            have HBBHX2 := Lib.hid hbb
            clear hbb
            go_simp
            refine hK.out _ _ (HXC.out _ HX2.out) (fun hS4 => ?_)
            clear hK K
            refine wpAnyH_ready (rs := [17]) (by kernel_rfl) (by simp) ?_
            refine AllReadyH.cons rfl (fun K hK => ?_) AllReadyH.nil
            have k1 := (Blk.new wr #[.float .f64 x] 139).below ((Below.refl _ (wr.alloc (.cells #[.float .f64 x] 139))).alloc (Nat.le_refl _) (.cells #[.float .f64 c] 139))
            have k2 := Blk.new (wr.alloc (.cells #[.float .f64 x] 139)) #[.float .f64 c] 139
            rw [World.size_alloc] at k2
            have HF1 : RF ((wr.alloc (.cells #[.float .f64 x] 139)).alloc (.cells #[.float .f64 c] 139)).drew (some ⟨wr.heap.size, 0, none⟩) _ := rf_one (show Blk ((wr.alloc (.cells #[.float .f64 x] 139)).alloc (.cells #[.float .f64 c] 139)).drew _ _ _ from k1) HXL.out
            have HF2 : RF ((wr.alloc (.cells #[.float .f64 x] 139)).alloc (.cells #[.float .f64 c] 139)).drew (some ⟨wr.heap.size + 1, 0, none⟩) _ := rf_one (show Blk ((wr.alloc (.cells #[.float .f64 x] 139)).alloc (.cells #[.float .f64 c] 139)).drew _ _ _ from k2) HCL.out
            clear k1 k2
            go_simp
            refine (KSX.out _ _ _ _ _ HF1 HF2).mono ?_
            rintro e w5 ⟨rfl, dn, rfl⟩
            have HX5 : Hid (Below w.heap.size w (World.drewN (((wr.alloc (.cells #[.float .f64 x] 139)).alloc (.cells #[.float .f64 c] 139)).drew) dn)) := Lib.hid (HX2.out.trans ⟨rfl, rfl, rfl, Nat.le_refl _, fun _ _ => rfl⟩)
            refine hK.out _ _ (HXC.out _ HX5.out) (fun hS5 => ?_)
            clear hK K
            refine' wpAnyH_take (i := 18) (v := _) rfl (by kernel_rfl) (by kernel_rfl) (by kernel_rfl) (fun _ _ _ h => h) (Or.inl ⟨by rfl, ?hym33⟩) hS5 ?restm33
            case hym33 => (intro w hSw; (try dsimp only at hSw); go_simp; try with_reducible rfl)
            simp only [Act.put, List.setIfInBounds_toArray, List.set_cons_zero, List.set_cons_succ, List.getElem_toArray, List.getElem_cons_zero, List.getElem_cons_succ]
            refine' wpAnyH_take (i := 19) (v := _) rfl (by kernel_rfl) (by kernel_rfl) (by kernel_rfl) (fun _ _ _ h => h) (Or.inl ⟨by rfl, ?hym34⟩) hS5 ?restm34
            case hym34 => (intro w hSw; (try dsimp only at hSw); go_simp; try with_reducible rfl)
            simp only [Act.put, List.setIfInBounds_toArray, List.set_cons_zero, List.set_cons_succ, List.getElem_toArray, List.getElem_cons_zero, List.getElem_cons_succ]
            refine wpAnyH_done (by kernel_rfl) ?_ _
            go_wp2_with fail
            go_ret
            exact ⟨by rw [HF.out]; rfl, HX5.out⟩
          · go_simp
            refine (KC.out _).mono ?_
            rintro e w2 ⟨rfl, rfl⟩
            refine hK.out _ _ (HXC.out _ HX0.out) (fun hS2 => ?_)
            clear hK K
            refine wpAnyH_ready (rs := [10, 16]) (by kernel_rfl) (by simp) ?_
            refine AllReadyH.cons rfl (fun K hK => ?_) (AllReadyH.cons rfl (fun K hK => ?_) AllReadyH.nil)
            · have hbb := (Below.refl (wr.drew).heap.size (wr.drew)).alloc (Nat.le_refl _) (.cells #[.float .f64 x] 139)
              have HX1 := Lib.hid (HX0.out.trans (hbb.mono HX0.out.size))
              have HB1 := Lib.hid (Blk.new (wr.drew) #[.float .f64 x] 139)
              have HBBHX1 := Lib.hid hbb
              clear hbb
              go_simp
              refine hK.out _ _ (HXC.out _ HX1.out) (fun hS3 => ?_)
              clear hK K
              refine wpAnyH_ready (rs := [16]) (by kernel_rfl) (by simp) ?_
              refine AllReadyH.cons rfl (fun K hK => ?_) AllReadyH.nil
              have hbb := (Below.refl ((wr.drew.alloc (.cells #[.float .f64 x] 139))).heap.size ((wr.drew.alloc (.cells #[.float .f64 x] 139)))).alloc (Nat.le_refl _) (.cells #[.float .f64 c] 139)
              have HX2 := Lib.hid (HX1.out.trans (hbb.mono HX1.out.size))
              have HB2 := Lib.hid (Blk.new ((wr.drew.alloc (.cells #[.float .f64 x] 139))) #[.float .f64 c] 139)
              have HBBHX2 := Lib.hid hbb
              clear hbb
              go_simp
              refine hK.out _ _ (HXC.out _ HX2.out) (fun hS4 => ?_)
              clear hK K
              refine wpAnyH_ready (rs := [17]) (by kernel_rfl) (by simp) ?_
              refine AllReadyH.cons rfl (fun K hK => ?_) AllReadyH.nil
              have k1 := (Blk.new wr #[.float .f64 x] 139).below ((Below.refl _ (wr.alloc (.cells #[.float .f64 x] 139))).alloc (Nat.le_refl _) (.cells #[.float .f64 c] 139))
              have k2 := Blk.new (wr.alloc (.cells #[.float .f64 x] 139)) #[.float .f64 c] 139
              rw [World.size_alloc] at k2
              have HF1 : RF ((wr.alloc (.cells #[.float .f64 x] 139)).alloc (.cells #[.float .f64 c] 139)).drew (some ⟨wr.heap.size, 0, none⟩) _ := rf_one (show Blk ((wr.alloc (.cells #[.float .f64 x] 139)).alloc (.cells #[.float .f64 c] 139)).drew _ _ _ from k1) HXL.out
              have HF2 : RF ((wr.alloc (.cells #[.float .f64 x] 139)).alloc (.cells #[.float .f64 c] 139)).drew (some ⟨wr.heap.size + 1, 0, none⟩) _ := rf_one (show Blk ((wr.alloc (.cells #[.float .f64 x] 139)).alloc (.cells #[.float .f64 c] 139)).drew _ _ _ from k2) HCL.out
              clear k1 k2
              go_simp
              refine (KSX.out _ _ _ _ _ HF1 HF2).mono ?_
              rintro e w5 ⟨rfl, dn, rfl⟩
              have HX5 : Hid (Below w.heap.size w (World.drewN (((wr.alloc (.cells #[.float .f64 x] 139)).alloc (.cells #[.float .f64 c] 139)).drew) dn)) := Lib.hid (HX2.out.trans ⟨rfl, rfl, rfl, Nat.le_refl _, fun _ _ => rfl⟩)
              refine hK.out _ _ (HXC.out _ HX5.out) (fun hS5 => ?_)
              clear hK K
              refine' wpAnyH_take (i := 18) (v := _) rfl (by kernel_rfl) (by kernel_rfl) (by kernel_rfl) (fun _ _ _ h => h) (Or.inl ⟨by rfl, ?hym35⟩) hS5 ?restm35
              case hym35 => (intro w hSw; (try dsimp only at hSw); go_simp; try with_reducible rfl)
              simp only [Act.put, List.setIfInBounds_toArray, List.set_cons_zero, List.set_cons_succ, List.getElem_toArray, List.getElem_cons_zero, List.getElem_cons_succ]
              refine' wpAnyH_take (i := 19) (v := _) rfl (by kernel_rfl) (by kernel_rfl) (by kernel_rfl) (fun _ _ _ h => h) (Or.inl ⟨by rfl, ?hym36⟩) hS5 ?restm36
              case hym36 => (intro w hSw; (try dsimp only at hSw); go_simp; try with_reducible rfl)
              simp only [Act.put, List.setIfInBounds_toArray, List.set_cons_zero, List.set_cons_succ, List.getElem_toArray, List.getElem_cons_zero, List.getElem_cons_succ]
              refine wpAnyH_done (by kernel_rfl) ?_ _
              go_wp2_with fail
              go_ret
              exact ⟨by rw [HF.out]; rfl, HX5.out⟩
            · have hbb := (Below.refl (wr.drew).heap.size (wr.drew)).alloc (Nat.le_refl _) (.cells #[.float .f64 c] 139)
              have HX1 := Lib.hid (HX0.out.trans (hbb.mono HX0.out.size))
              have HB2 := Lib.hid (Blk.new (wr.drew) #[.float .f64 c] 139)
              have HBBHX1 := Lib.hid hbb
              clear hbb
              go_simp
              refine hK.out _ _ (HXC.out _ HX1.out) (fun hS3 => ?_)
              clear hK K
              refine wpAnyH_ready (rs := [10]) (by kernel_rfl) (by simp) ?_
              refine AllReadyH.cons rfl (fun K hK => ?_) AllReadyH.nil
              have hbb := (Below.refl ((wr.drew.alloc (.cells #[.float .f64 c] 139))).heap.size ((wr.drew.alloc (.cells #[.float .f64 c] 139)))).alloc (Nat.le_refl _) (.cells #[.float .f64 x] 139)
              have HX2 := Lib.hid (HX1.out.trans (hbb.mono HX1.out.size))
              have HB1 := Lib.hid (Blk.new ((wr.drew.alloc (.cells #[.float .f64 c] 139))) #[.float .f64 x] 139)
              have HBBHX2 := Lib.hid hbb
              clear hbb
              go_simp
              refine hK.out _ _ (HXC.out _ HX2.out) (fun hS4 => ?_)
              clear hK K
              refine wpAnyH_ready (rs := [17]) (by kernel_rfl) (by simp) ?_
              refine AllReadyH.cons rfl (fun K hK => ?_) AllReadyH.nil
              have k1 := (Blk.new wr #[.float .f64 c] 139).below ((Below.refl _ (wr.alloc (.cells #[.float .f64 c] 139))).alloc (Nat.le_refl _) (.cells #[.float .f64 x] 139))
              have k2 := Blk.new (wr.alloc (.cells #[.float .f64 c] 139)) #[.float .f64 x] 139
              rw [World.size_alloc] at k2
              have HF2 : RF ((wr.alloc (.cells #[.float .f64 c] 139)).alloc (.cells #[.float .f64 x] 139)).drew (some ⟨wr.heap.size, 0, none⟩) _ := rf_one (show Blk ((wr.alloc (.cells #[.float .f64 c] 139)).alloc (.cells #[.float .f64 x] 139)).drew _ _ _ from k1) HCL.out
              have HF1 : RF ((wr.alloc (.cells #[.float .f64 c] 139)).alloc (.cells #[.float .f64 x] 139)).drew (some ⟨wr.heap.size + 1, 0, none⟩) _ := rf_one (show Blk ((wr.alloc (.cells #[.float .f64 c] 139)).alloc (.cells #[.float .f64 x] 139)).drew _ _ _ from k2) HXL.out
              clear k1 k2
              go_simp
              refine (KSX.out _ _ _ _ _ HF1 HF2).mono ?_
              rintro e w5 ⟨rfl, dn, rfl⟩
              have HX5 : Hid (Below w.heap.size w (World.drewN (((wr.alloc (.cells #[.float .f64 c] 139)).alloc (.cells #[.float .f64 x] 139)).drew) dn)) := Lib.hid (HX2.out.trans ⟨rfl, rfl, rfl, Nat.le_refl _, fun _ _ => rfl⟩)
              refine hK.out _ _ (HXC.out _ HX5.out) (fun hS5 => ?_)
              clear hK K
              refine' wpAnyH_take (i := 18) (v := _) rfl (by kernel_rfl) (by kernel_rfl) (by kernel_rfl) (fun _ _ _ h => h) (Or.inl ⟨by rfl, ?hym37⟩) hS5 ?restm37
              case hym37 => (intro w hSw; (try dsimp only at hSw); go_simp; try with_reducible rfl)
              simp only [Act.put, List.setIfInBounds_toArray, List.set_cons_zero, List.set_cons_succ, List.getElem_toArray, List.getElem_cons_zero, List.getElem_cons_succ]
              refine' wpAnyH_take (i := 19) (v := _) rfl (by kernel_rfl) (by kernel_rfl) (by kernel_rfl) (fun _ _ _ h => h) (Or.inl ⟨by rfl, ?hym38⟩) hS5 ?restm38
              case hym38 => (intro w hSw; (try dsimp only at hSw); go_simp; try with_reducible rfl)
              simp only [Act.put, List.setIfInBounds_toArray, List.set_cons_zero, List.set_cons_succ, List.getElem_toArray, List.getElem_cons_zero, List.getElem_cons_succ]
              refine wpAnyH_done (by kernel_rfl) ?_ _
              go_wp2_with fail
              go_ret
              exact ⟨by rw [HF.out]; rfl, HX5.out⟩
        have KSX : Hid (∀ A B ca cb w, RF w A [x] → RF w B [c] → Calls Try.prog 64 #[.slice A 1 ca, .slice B 1 cb] w (SaysD (.bool true) w)) := Lib.hid (fun A B ca cb w ha hb => by have := KS.out c A B ca cb w HCL.out ha hb; rw [decide_eq_true (show [x] = [c] by rw [hc])] at this; exact this)
        have HXE := Lib.hid hc
        clear KS hc
        by_cases h0 : i = 0
        · have HO : Hid (okE l i = true) := Lib.hid (by have h := HEX.out; rw [h0] at h ⊢; exact ok_zero h HNA.out (HXE.out.trans HEC.out.symm))
          have d0 : decide ((0 : Int) < (i : Int)) = false := decide_eq_false (by omega)
          have d0' : decide (0 < i) = false := decide_eq_false (by omega)
          clear h0
          go_upto_region 6 with (fail)
          refine wp_region_held_drew (S := (fun W => W.cell? (ad.add i) = some (.float .f64 x))) (by kernel_rfl) ?_ (fun hS0 => ?_)
          · exact HXC.out _ HX0.out
          refine' wpAnyH_take (i := 0) (v := _) rfl (by kernel_rfl) (by kernel_rfl) (by kernel_rfl) (fun _ _ _ h => h) (Or.inl ⟨by rfl, ?hym77⟩) hS0 ?restm77
          case hym77 => (intro w hSw; (try dsimp only at hSw); go_simp; try with_reducible rfl)
          simp only [Act.put, List.setIfInBounds_toArray, List.set_cons_zero, List.set_cons_succ, List.getElem_toArray, List.getElem_cons_zero, List.getElem_cons_succ]
          refine' wpAnyH_take (i := 1) (v := _) rfl (by kernel_rfl) (by kernel_rfl) (by kernel_rfl) (fun _ _ _ h => h) (Or.inl ⟨by rfl, ?hym78⟩) hS0 ?restm78
          case hym78 => (intro w hSw; (try dsimp only at hSw); go_simp; try with_reducible rfl)
          simp only [Act.put, List.setIfInBounds_toArray, List.set_cons_zero, List.set_cons_succ, List.getElem_toArray, List.getElem_cons_zero, List.getElem_cons_succ]
          refine' wpAnyH_take (i := 2) (v := _) rfl (by kernel_rfl) (by kernel_rfl) (by kernel_rfl) (fun _ _ _ h => h) (Or.inl ⟨by rfl, ?hym79⟩) hS0 ?restm79
          case hym79 => (intro w hSw; (try dsimp only at hSw); go_simp; try with_reducible rfl)
          simp only [Act.put, List.setIfInBounds_toArray, List.set_cons_zero, List.set_cons_succ, List.getElem_toArray, List.getElem_cons_zero, List.getElem_cons_succ]
          refine' wpAnyH_take (i := 3) (v := _) rfl (by kernel_rfl) (by kernel_rfl) (by kernel_rfl) (fun _ _ _ h => h) (Or.inl ⟨by rfl, ?hym80⟩) hS0 ?restm80
          case hym80 => (intro w hSw; (try dsimp only at hSw); go_simp; try with_reducible rfl)
          simp only [Act.put, List.setIfInBounds_toArray, List.set_cons_zero, List.set_cons_succ, List.getElem_toArray, List.getElem_cons_zero, List.getElem_cons_succ]
          refine wpAnyH_ready (rs := [4]) (by kernel_rfl) (by simp) ?_
          refine AllReadyH.cons rfl (fun K hK => ?_) AllReadyH.nil
          go_simp
          refine (KM.out _).mono ?_
          rintro e w1 ⟨rfl, rfl⟩
          refine hK.out _ _ (HXC.out _ HX0.out) (fun hS1 => ?_)
          clear hK K
          refine' wpAnyH_take (i := 5) (v := _) rfl (by kernel_rfl) (by kernel_rfl) (by kernel_rfl) (fun _ _ _ h => h) (Or.inl ⟨by rfl, ?hym81⟩) hS1 ?restm81
          case hym81 => (intro w hSw; (try dsimp only at hSw); go_simp; try with_reducible rfl)
          simp only [Act.put, List.setIfInBounds_toArray, List.set_cons_zero, List.set_cons_succ, List.getElem_toArray, List.getElem_cons_zero, List.getElem_cons_succ]
          refine' wpAnyH_take (i := 6) (v := _) rfl (by kernel_rfl) (by kernel_rfl) (by kernel_rfl) (fun _ _ _ h => h) (Or.inl ⟨by rfl, ?hym82⟩) hS1 ?restm82
          case hym82 => (intro w hSw; (try dsimp only at hSw); go_simp; try with_reducible rfl)
          simp only [Act.put, List.setIfInBounds_toArray, List.set_cons_zero, List.set_cons_succ, List.getElem_toArray, List.getElem_cons_zero, List.getElem_cons_succ]
          refine' wpAnyH_take (i := 7) (v := _) rfl (by kernel_rfl) (by kernel_rfl) (by kernel_rfl) (fun _ _ _ h => h) (Or.inl ⟨by rfl, ?hym83⟩) hS1 ?restm83
          case hym83 => (intro w hSw; (try dsimp only at hSw); go_simp; try with_reducible rfl)
          simp only [Act.put, List.setIfInBounds_toArray, List.set_cons_zero, List.set_cons_succ, List.getElem_toArray, List.getElem_cons_zero, List.getElem_cons_succ]
          refine' wpAnyH_take (i := 8) (v := _) rfl (by kernel_rfl) (by kernel_rfl) (by kernel_rfl) (fun _ _ _ h => h) (Or.inl ⟨by rfl, ?hym84⟩) hS1 ?restm84
          case hym84 => (intro w hSw; (try dsimp only at hSw); go_simp; try with_reducible rfl)
          simp only [Act.put, List.setIfInBounds_toArray, List.set_cons_zero, List.set_cons_succ, List.getElem_toArray, List.getElem_cons_zero, List.getElem_cons_succ]
          refine' wpAnyH_take (i := 9) (v := _) rfl (by kernel_rfl) (by kernel_rfl) (by kernel_rfl) (fun _ _ _ h => h) (Or.inl ⟨by rfl, ?hym85⟩) hS1 ?restm85
          case hym85 => (intro w hSw; (try dsimp only at hSw); go_simp; try with_reducible rfl)
          simp only [Act.put, List.setIfInBounds_toArray, List.set_cons_zero, List.set_cons_succ, List.getElem_toArray, List.getElem_cons_zero, List.getElem_cons_succ]
          refine' wpAnyH_take (i := 11) (v := _) rfl (by kernel_rfl) (by kernel_rfl) (by kernel_rfl) (fun _ _ _ h => h) (Or.inl ⟨by rfl, ?hym86⟩) hS1 ?restm86
          case hym86 => (intro w hSw; (try dsimp only at hSw); go_simp; try with_reducible rfl)
          simp only [Act.put, List.setIfInBounds_toArray, List.set_cons_zero, List.set_cons_succ, List.getElem_toArray, List.getElem_cons_zero, List.getElem_cons_succ]
          refine' wpAnyH_take (i := 12) (v := _) rfl (by kernel_rfl) (by kernel_rfl) (by kernel_rfl) (fun _ _ _ h => h) (Or.inl ⟨by rfl, ?hym87⟩) hS1 ?restm87
          case hym87 => (intro w hSw; (try dsimp only at hSw); go_simp; try with_reducible rfl)
          simp only [Act.put, List.setIfInBounds_toArray, List.set_cons_zero, List.set_cons_succ, List.getElem_toArray, List.getElem_cons_zero, List.getElem_cons_succ]
          refine' wpAnyH_take (i := 13) (v := _) rfl (by kernel_rfl) (by kernel_rfl) (by kernel_rfl) (fun _ _ _ h => h) (Or.inl ⟨by rfl, ?hym88⟩) hS1 ?restm88
          case hym88 => (intro w hSw; (try dsimp only at hSw); go_simp; try with_reducible rfl)
          simp only [Act.put, List.setIfInBounds_toArray, List.set_cons_zero, List.set_cons_succ, List.getElem_toArray, List.getElem_cons_zero, List.getElem_cons_succ]
          refine' wpAnyH_take (i := 14) (v := _) rfl (by kernel_rfl) (by kernel_rfl) (by kernel_rfl) (fun _ _ _ h => h) (Or.inl ⟨by rfl, ?hym89⟩) hS1 ?restm89
          case hym89 => (intro w hSw; (try dsimp only at hSw); go_simp; try with_reducible rfl)
          simp only [Act.put, List.setIfInBounds_toArray, List.set_cons_zero, List.set_cons_succ, List.getElem_toArray, List.getElem_cons_zero, List.getElem_cons_succ]
          refine wpAnyH_ready (rs := [10, 15]) (by kernel_rfl) (by simp) ?_
          refine AllReadyH.cons rfl (fun K hK => ?_) (AllReadyH.cons rfl (fun K hK => ?_) AllReadyH.nil)
          · have hbb := (Below.refl (wr.drew).heap.size (wr.drew)).alloc (Nat.le_refl _) (.cells #[.float .f64 x] 139)
            have HX1 := Lib.hid (HX0.out.trans (hbb.mono HX0.out.size))
            have HB1 := Lib.hid (Blk.new (wr.drew) #[.float .f64 x] 139)
            have HBBHX1 := Lib.hid hbb
            clear hbb
            go_simp
            refine hK.out _ _ (HXC.out _ HX1.out) (fun hS2 => ?_)
            clear hK K
            refine wpAnyH_ready (rs := [15]) (by kernel_rfl) (by simp) ?_
            refine AllReadyH.cons rfl (fun K hK => ?_) AllReadyH.nil
            go_simp
            refine (KC.out _).mono ?_
            rintro e w2 ⟨rfl, rfl⟩
            refine hK.out _ _ (HXC.out _ HX1.out) (fun hS3 => ?_)
            clear hK K
            refine wpAnyH_ready (rs := [16]) (by kernel_rfl) (by simp) ?_
            refine AllReadyH.cons rfl (fun K hK => ?_) AllReadyH.nil
            have hbb := (Below.refl ((wr.drew.alloc (.cells #[.float .f64 x] 139))).heap.size ((wr.drew.alloc (.cells #[.float .f64 x] 139)))).alloc (Nat.le_refl _) (.cells #[.float .f64 c] 139)
            have HX2 := Lib.hid (HX1.out.trans (hbb.mono HX1.out.size))
            have HB2 := Lib.hid (Blk.new ((wr.drew.alloc (.cells #[.float .f64 x] 139))) #[.float .f64 c] 139)
            have HBBHX2 := Lib.hid hbb
            clear hbb
            go_simp
            refine hK.out _ _ (HXC.out _ HX2.out) (fun hS4 => ?_)
            clear hK K
            refine wpAnyH_ready (rs := [17]) (by kernel_rfl) (by simp) ?_
            refine AllReadyH.cons rfl (fun K hK => ?_) AllReadyH.nil
            have k1 := (Blk.new wr #[.float .f64 x] 139).below ((Below.refl _ (wr.alloc (.cells #[.float .f64 x] 139))).alloc (Nat.le_refl _) (.cells #[.float .f64 c] 139))
            have k2 := Blk.new (wr.alloc (.cells #[.float .f64 x] 139)) #[.float .f64 c] 139
            rw [World.size_alloc] at k2
            have HF1 : RF ((wr.alloc (.cells #[.float .f64 x] 139)).alloc (.cells #[.float .f64 c] 139)).drew (some ⟨wr.heap.size, 0, none⟩) _ := rf_one (show Blk ((wr.alloc (.cells #[.float .f64 x] 139)).alloc (.cells #[.float .f64 c] 139)).drew _ _ _ from k1) HXL.out
            have HF2 : RF ((wr.alloc (.cells #[.float .f64 x] 139)).alloc (.cells #[.float .f64 c] 139)).drew (some ⟨wr.heap.size + 1, 0, none⟩) _ := rf_one (show Blk ((wr.alloc (.cells #[.float .f64 x] 139)).alloc (.cells #[.float .f64 c] 139)).drew _ _ _ from k2) HCL.out
            clear k1 k2
            go_simp
            refine (KSX.out _ _ _ _ _ HF1 HF2).mono ?_
            rintro e w5 ⟨rfl, dn, rfl⟩
            have HX5 : Hid (Below w.heap.size w (World.drewN (((wr.alloc (.cells #[.float .f64 x] 139)).alloc (.cells #[.float .f64 c] 139)).drew) dn)) := Lib.hid (HX2.out.trans ⟨rfl, rfl, rfl, Nat.le_refl _, fun _ _ => rfl⟩)
            refine hK.out _ _ (HXC.out _ HX5.out) (fun hS5 => ?_)
            clear hK K
            refine' wpAnyH_take (i := 18) (v := _) rfl (by kernel_rfl) (by kernel_rfl) (by kernel_rfl) (fun _ _ _ h => h) (Or.inl ⟨by rfl, ?hym90⟩) hS5 ?restm90
            case hym90 => (intro w hSw; (try dsimp only at hSw); go_simp; try with_reducible rfl)
            simp only [Act.put, List.setIfInBounds_toArray, List.set_cons_zero, List.set_cons_succ, List.getElem_toArray, List.getElem_cons_zero, List.getElem_cons_succ]
            refine' wpAnyH_take (i := 19) (v := _) rfl (by kernel_rfl) (by kernel_rfl) (by kernel_rfl) (fun _ _ _ h => h) (Or.inl ⟨by rfl, ?hym91⟩) hS5 ?restm91
            case hym91 => (intro w hSw; (try dsimp only at hSw); go_simp; try with_reducible rfl)
            simp only [Act.put, List.setIfInBounds_toArray, List.set_cons_zero, List.set_cons_succ, List.getElem_toArray, List.getElem_cons_zero, List.getElem_cons_succ]
            refine wpAnyH_done (by kernel_rfl) ?_ _
            go_wp2_with fail
            go_quiet (fail)
            go_wp2_with fail
            go_roundw
            case rel => exact ⟨i + 1, hlt, by go_num, Lib.hid (fun q hq => by
              rcases Nat.lt_or_ge q i with h | h
              · exact HI.out q h
              · obtain rfl : q = i := by omega
                exact HO.out), Lib.hid (HX5.out.trans ⟨rfl, rfl, rfl, Nat.le_refl _, fun _ _ => rfl⟩)⟩
            case measure => simp [intOf]; omega
          · go_simp
            refine (KC.out _).mono ?_
            rintro e w2 ⟨rfl, rfl⟩
            refine hK.out _ _ (HXC.out _ HX0.out) (fun hS2 => ?_)
            clear hK K
            refine wpAnyH_ready (rs := [10, 16]) (by kernel_rfl) (by simp) ?_
            refine AllReadyH.cons rfl (fun K hK => ?_) (AllReadyH.cons rfl (fun K hK => ?_) AllReadyH.nil)
            · have hbb := (Below.refl (wr.drew).heap.size (wr.drew)).alloc (Nat.le_refl _) (.cells #[.float .f64 x] 139)
              have HX1 := Lib.hid (HX0.out.trans (hbb.mono HX0.out.size))
              have HB1 := Lib.hid (Blk.new (wr.drew) #[.float .f64 x] 139)
              have HBBHX1 := Lib.hid hbb
              clear hbb
              go_simp
              refine hK.out _ _ (HXC.out _ HX1.out) (fun hS3 => ?_)
              clear hK K
              refine wpAnyH_ready (rs := [16]) (by kernel_rfl) (by simp) ?_
              refine AllReadyH.cons rfl (fun K hK => ?_) AllReadyH.nil
              have hbb := (Below.refl ((wr.drew.alloc (.cells #[.float .f64 x] 139))).heap.size ((wr.drew.alloc (.cells #[.float .f64 x] 139)))).alloc (Nat.le_refl _) (.cells #[.float .f64 c] 139)
              have HX2 := Lib.hid (HX1.out.trans (hbb.mono HX1.out.size))
              have HB2 := Lib.hid (Blk.new ((wr.drew.alloc (.cells #[.float .f64 x] 139))) #[.float .f64 c] 139)
              have HBBHX2 := Lib.hid hbb
              clear hbb
              go_simp
              refine hK.out _ _ (HXC.out _ HX2.out) (fun hS4 => ?_)
              clear hK K
              refine wpAnyH_ready (rs := [17]) (by kernel_rfl) (by simp) ?_
              refine AllReadyH.cons rfl (fun K hK => ?_) AllReadyH.nil
              have k1 := (Blk.new wr #[.float .f64 x] 139).below ((Below.refl _ (wr.alloc (.cells #[.float .f64 x] 139))).alloc (Nat.le_refl _) (.cells #[.float .f64 c] 139))
              have k2 := Blk.new (wr.alloc (.cells #[.float .f64 x] 139)) #[.float .f64 c] 139
              rw [World.size_alloc] at k2
              have HF1 : RF ((wr.alloc (.cells #[.float .f64 x] 139)).alloc (.cells #[.float .f64 c] 139)).drew (some ⟨wr.heap.size, 0, none⟩) _ := rf_one (show Blk ((wr.alloc (.cells #[.float .f64 x] 139)).alloc (.cells #[.float .f64 c] 139)).drew _ _ _ from k1) HXL.out
              have HF2 : RF ((wr.alloc (.cells #[.float .f64 x] 139)).alloc (.cells #[.float .f64 c] 139)).drew (some ⟨wr.heap.size + 1, 0, none⟩) _ := rf_one (show Blk ((wr.alloc (.cells #[.float .f64 x] 139)).alloc (.cells #[.float .f64 c] 139)).drew _ _ _ from k2) HCL.out
              clear k1 k2
              go_simp
              refine (KSX.out _ _ _ _ _ HF1 HF2).mono ?_
              rintro e w5 ⟨rfl, dn, rfl⟩
              have HX5 : Hid (Below w.heap.size w (World.drewN (((wr.alloc (.cells #[.float .f64 x] 139)).alloc (.cells #[.float .f64 c] 139)).drew) dn)) := Lib.hid (HX2.out.trans ⟨rfl, rfl, rfl, Nat.le_refl _, fun _ _ => rfl⟩)
              refine hK.out _ _ (HXC.out _ HX5.out) (fun hS5 => ?_)
              clear hK K
              refine' wpAnyH_take (i := 18) (v := _) rfl (by kernel_rfl) (by kernel_rfl) (by kernel_rfl) (fun _ _ _ h => h) (Or.inl ⟨by rfl, ?hym92⟩) hS5 ?restm92
              case hym92 => (intro w hSw; (try dsimp only at hSw); go_simp; try with_reducible rfl)
              simp only [Act.put, List.setIfInBounds_toArray, List.set_cons_zero, List.set_cons_succ, List.getElem_toArray, List.getElem_cons_zero, List.getElem_cons_succ]
              refine' wpAnyH_take (i := 19) (v := _) rfl (by kernel_rfl) (by kernel_rfl) (by kernel_rfl) (fun _ _ _ h => h) (Or.inl ⟨by rfl, ?hym93⟩) hS5 ?restm93
              case hym93 => (intro w hSw; (try dsimp only at hSw); go_simp; try with_reducible rfl)
              simp only [Act.put, List.setIfInBounds_toArray, List.set_cons_zero, List.set_cons_succ, List.getElem_toArray, List.getElem_cons_zero, List.getElem_cons_succ]
              refine wpAnyH_done (by kernel_rfl) ?_ _
              go_wp2_with fail
              go_quiet (fail)
              go_wp2_with fail
              go_roundw
              case rel => exact ⟨i + 1, hlt, by go_num, Lib.hid (fun q hq => by
                rcases Nat.lt_or_ge q i with h | h
                · exact HI.out q h
                · obtain rfl : q = i := by omega
                  exact HO.out), Lib.hid (HX5.out.trans ⟨rfl, rfl, rfl, Nat.le_refl _, fun _ _ => rfl⟩)⟩
              case measure => simp [intOf]; omega
            · have hbb := (Below.refl (wr.drew).heap.size (wr.drew)).alloc (Nat.le_refl _) (.cells #[.float .f64 c] 139)
              have HX1 := Lib.hid (HX0.out.trans (hbb.mono HX0.out.size))
              have HB2 := Lib.hid (Blk.new (wr.drew) #[.float .f64 c] 139)
              have HBBHX1 := Lib.hid hbb
              clear hbb
              go_simp
              refine hK.out _ _ (HXC.out _ HX1.out) (fun hS3 => ?_)
              clear hK K
              refine wpAnyH_ready (rs := [10]) (by kernel_rfl) (by simp) ?_
              refine AllReadyH.cons rfl (fun K hK => ?_) AllReadyH.nil
              have hbb := (Below.refl ((wr.drew.alloc (.cells #[.float .f64 c] 139))).heap.size ((wr.drew.alloc (.cells #[.float .f64 c] 139)))).alloc (Nat.le_refl _) (.cells #[.float .f64 x] 139)
              have HX2 := Lib.hid (HX1.out.trans (hbb.mono HX1.out.size))
              have HB1 := Lib.hid (Blk.new ((wr.drew.alloc (.cells #[.float .f64 c] 139))) #[.float .f64 x] 139)
              have HBBHX2 := Lib.hid hbb
              clear hbb
              go_simp
              refine hK.out _ _ (HXC.out _ HX2.out) (fun hS4 => ?_)
              clear hK K
              refine wpAnyH_ready (rs := [17]) (by kernel_rfl) (by simp) ?_
              refine AllReadyH.cons rfl (fun K hK => ?_) AllReadyH.nil
              have k1 := (Blk.new wr #[.float .f64 c] 139).below ((Below.refl _ (wr.alloc (.cells #[.float .f64 c] 139))).alloc (Nat.le_refl _) (.cells #[.float .f64 x] 139))
              have k2 := Blk.new (wr.alloc (.cells #[.float .f64 c] 139)) #[.float .f64 x] 139
              rw [World.size_alloc] at k2
              have HF2 : RF ((wr.alloc (.cells #[.float .f64 c] 139)).alloc (.cells #[.float .f64 x] 139)).drew (some ⟨wr.heap.size, 0, none⟩) _ := rf_one (show Blk ((wr.alloc (.cells #[.float .f64 c] 139)).alloc (.cells #[.float .f64 x] 139)).drew _ _ _ from k1) HCL.out
              have HF1 : RF ((wr.alloc (.cells #[.float .f64 c] 139)).alloc (.cells #[.float .f64 x] 139)).drew (some ⟨wr.heap.size + 1, 0, none⟩) _ := rf_one (show Blk ((wr.alloc (.cells #[.float .f64 c] 139)).alloc (.cells #[.float .f64 x] 139)).drew _ _ _ from k2) HXL.out
              clear k1 k2
              go_simp
              refine (KSX.out _ _ _ _ _ HF1 HF2).mono ?_
              rintro e w5 ⟨rfl, dn, rfl⟩
              have HX5 : Hid (Below w.heap.size w (World.drewN (((wr.alloc (.cells #[.float .f64 c] 139)).alloc (.cells #[.float .f64 x] 139)).drew) dn)) := Lib.hid (HX2.out.trans ⟨rfl, rfl, rfl, Nat.le_refl _, fun _ _ => rfl⟩)
              refine hK.out _ _ (HXC.out _ HX5.out) (fun hS5 => ?_)
              clear hK K
              refine' wpAnyH_take (i := 18) (v := _) rfl (by kernel_rfl) (by kernel_rfl) (by kernel_rfl) (fun _ _ _ h => h) (Or.inl ⟨by rfl, ?hym94⟩) hS5 ?restm94
              case hym94 => (intro w hSw; (try dsimp only at hSw); go_simp; try with_reducible rfl)
              simp only [Act.put, List.setIfInBounds_toArray, List.set_cons_zero, List.set_cons_succ, List.getElem_toArray, List.getElem_cons_zero, List.getElem_cons_succ]
              refine' wpAnyH_take (i := 19) (v := _) rfl (by kernel_rfl) (by kernel_rfl) (by kernel_rfl) (fun _ _ _ h => h) (Or.inl ⟨by rfl, ?hym95⟩) hS5 ?restm95
              case hym95 => (intro w hSw; (try dsimp only at hSw); go_simp; try with_reducible rfl)
              simp only [Act.put, List.setIfInBounds_toArray, List.set_cons_zero, List.set_cons_succ, List.getElem_toArray, List.getElem_cons_zero, List.getElem_cons_succ]
              refine wpAnyH_done (by kernel_rfl) ?_ _
              go_wp2_with fail
              go_quiet (fail)
              go_wp2_with fail
              go_roundw
              case rel => exact ⟨i + 1, hlt, by go_num, Lib.hid (fun q hq => by
                rcases Nat.lt_or_ge q i with h | h
                · exact HI.out q h
                · obtain rfl : q = i := by omega
                  exact HO.out), Lib.hid (HX5.out.trans ⟨rfl, rfl, rfl, Nat.le_refl _, fun _ _ => rfl⟩)⟩
              case measure => simp [intOf]; omega
        · obtain ⟨j, hj⟩ : ∃ j, j + 1 = i := ⟨i - 1, by omega⟩
          obtain ⟨ad', e', hy0, hyl⟩ := HR.out.at (i := j) (by rw [HLN.out]; omega)
          cases e'
          obtain ⟨y, ey⟩ : ∃ x, l.getD j 0 = x := ⟨_, rfl⟩
          rw [ey] at hy0 hyl
          have HEY := Lib.hid ey
          have HYC := Lib.hid (fun W (hb : Below w.heap.size w W) => (hb.cell (World.block_lt_of_cell? w _ hy0)).trans hy0)
          have KP := Lib.hid (fun w => rfcmp_any y x hyl HXL.out w)
          obtain ⟨p, ep⟩ : ∃ p, cmpF y x = p := ⟨_, rfl⟩
          rw [ep] at KP
          have HEP := Lib.hid ep
          clear ey ep hyl hy0
          have ws : IntKind.i64.wrap ((i : Int) - 1) = (j : Int) := by rw [IntKind.wrap_i64]; omega
          have ws2 : wrap64 ((i : Int) - 1) = (j : Int) := by unfold wrap64; omega
          have d0 : decide ((0 : Int) < (i : Int)) = true := decide_eq_true (by omega)
          have d0' : decide (0 < i) = true := decide_eq_true (by omega)
          have hjn : (j : Int) < n := by omega
          have HJ := Lib.hid hj
          by_cases hp : p < 0
          · have d1 : decide ((0 : Int) ≤ p) = false := decide_eq_false (by omega)
            have HO := Lib.hid (ok_next HJ.out HEX.out HEY.out HNA.out (HXE.out.trans HEC.out.symm) (by rw [HEP.out]; exact hp))
            clear h0 hj hp
            go_upto_region 6 with (fail)
            refine wp_region_held_drew (S := (fun W => W.cell? (ad.add i) = some (.float .f64 x))) (by kernel_rfl) ?_ (fun hS0 => ?_)
            · exact HXC.out _ HX0.out
            refine' wpAnyH_take (i := 0) (v := _) rfl (by kernel_rfl) (by kernel_rfl) (by kernel_rfl) (fun _ _ _ h => h) (Or.inl ⟨by rfl, ?hym39⟩) hS0 ?restm39
            case hym39 => (intro w hSw; (try dsimp only at hSw); go_simp; try with_reducible rfl)
            simp only [Act.put, List.setIfInBounds_toArray, List.set_cons_zero, List.set_cons_succ, List.getElem_toArray, List.getElem_cons_zero, List.getElem_cons_succ]
            refine' wpAnyH_take (i := 1) (v := _) rfl (by kernel_rfl) (by kernel_rfl) (by kernel_rfl) (fun _ _ _ h => h) (Or.inl ⟨by rfl, ?hym40⟩) hS0 ?restm40
            case hym40 => (intro w hSw; (try dsimp only at hSw); go_simp; try with_reducible rfl)
            simp only [Act.put, List.setIfInBounds_toArray, List.set_cons_zero, List.set_cons_succ, List.getElem_toArray, List.getElem_cons_zero, List.getElem_cons_succ]
            refine' wpAnyH_take (i := 2) (v := _) rfl (by kernel_rfl) (by kernel_rfl) (by kernel_rfl) (fun _ _ _ h => h) (Or.inl ⟨by rfl, ?hym41⟩) hS0 ?restm41
            case hym41 => (intro w hSw; (try dsimp only at hSw); go_simp; try with_reducible rfl)
            simp only [Act.put, List.setIfInBounds_toArray, List.set_cons_zero, List.set_cons_succ, List.getElem_toArray, List.getElem_cons_zero, List.getElem_cons_succ]
            refine' wpAnyH_take (i := 3) (v := _) rfl (by kernel_rfl) (by kernel_rfl) (by kernel_rfl) (fun _ _ _ h => h) (Or.inl ⟨by rfl, ?hym42⟩) hS0 ?restm42
            case hym42 => (intro w hSw; (try dsimp only at hSw); go_simp; try with_reducible rfl)
            simp only [Act.put, List.setIfInBounds_toArray, List.set_cons_zero, List.set_cons_succ, List.getElem_toArray, List.getElem_cons_zero, List.getElem_cons_succ]
            refine wpAnyH_ready (rs := [4]) (by kernel_rfl) (by simp) ?_
            refine AllReadyH.cons rfl (fun K hK => ?_) AllReadyH.nil
            go_simp
            refine (KM.out _).mono ?_
            rintro e w1 ⟨rfl, rfl⟩
            refine hK.out _ _ (HXC.out _ HX0.out) (fun hS1 => ?_)
            clear hK K
            refine' wpAnyH_take (i := 5) (v := _) rfl (by kernel_rfl) (by kernel_rfl) (by kernel_rfl) (fun _ _ _ h => h) (Or.inl ⟨by rfl, ?hym43⟩) hS1 ?restm43
            case hym43 => (intro w hSw; (try dsimp only at hSw); go_simp; try with_reducible rfl)
            simp only [Act.put, List.setIfInBounds_toArray, List.set_cons_zero, List.set_cons_succ, List.getElem_toArray, List.getElem_cons_zero, List.getElem_cons_succ]
            refine' wpAnyH_take (i := 6) (v := _) rfl (by kernel_rfl) (by kernel_rfl) (by kernel_rfl) (fun _ _ _ h => h) (Or.inl ⟨by rfl, ?hym44⟩) hS1 ?restm44
            case hym44 => (intro w hSw; (try dsimp only at hSw); go_simp; try with_reducible rfl)
            simp only [Act.put, List.setIfInBounds_toArray, List.set_cons_zero, List.set_cons_succ, List.getElem_toArray, List.getElem_cons_zero, List.getElem_cons_succ]
            refine' wpAnyH_take (i := 7) (v := _) rfl (by kernel_rfl) (by kernel_rfl) (by kernel_rfl) (fun _ _ _ h => h) (Or.inl ⟨by rfl, ?hym45⟩) hS1 ?restm45
            case hym45 => (intro w hSw; (try dsimp only at hSw); go_simp; try with_reducible rfl)
            simp only [Act.put, List.setIfInBounds_toArray, List.set_cons_zero, List.set_cons_succ, List.getElem_toArray, List.getElem_cons_zero, List.getElem_cons_succ]
            refine' wpAnyH_take (i := 8) (v := _) rfl (by kernel_rfl) (by kernel_rfl) (by kernel_rfl) (fun _ _ _ h => h) (Or.inl ⟨by rfl, ?hym46⟩) hS1 ?restm46
            case hym46 => (intro w hSw; (try dsimp only at hSw); go_simp; try with_reducible rfl)
            simp only [Act.put, List.setIfInBounds_toArray, List.set_cons_zero, List.set_cons_succ, List.getElem_toArray, List.getElem_cons_zero, List.getElem_cons_succ]
            refine' wpAnyH_take (i := 9) (v := _) rfl (by kernel_rfl) (by kernel_rfl) (by kernel_rfl) (fun _ _ _ h => h) (Or.inl ⟨by rfl, ?hym47⟩) hS1 ?restm47
            case hym47 => (intro w hSw; (try dsimp only at hSw); go_simp; try with_reducible rfl)
            simp only [Act.put, List.setIfInBounds_toArray, List.set_cons_zero, List.set_cons_succ, List.getElem_toArray, List.getElem_cons_zero, List.getElem_cons_succ]
            refine' wpAnyH_take (i := 11) (v := _) rfl (by kernel_rfl) (by kernel_rfl) (by kernel_rfl) (fun _ _ _ h => h) (Or.inl ⟨by rfl, ?hym48⟩) hS1 ?restm48
            case hym48 => (intro w hSw; (try dsimp only at hSw); go_simp; try with_reducible rfl)
            simp only [Act.put, List.setIfInBounds_toArray, List.set_cons_zero, List.set_cons_succ, List.getElem_toArray, List.getElem_cons_zero, List.getElem_cons_succ]
            refine' wpAnyH_take (i := 12) (v := _) rfl (by kernel_rfl) (by kernel_rfl) (by kernel_rfl) (fun _ _ _ h => h) (Or.inl ⟨by rfl, ?hym49⟩) hS1 ?restm49
            case hym49 => (intro w hSw; (try dsimp only at hSw); go_simp; try with_reducible rfl)
            simp only [Act.put, List.setIfInBounds_toArray, List.set_cons_zero, List.set_cons_succ, List.getElem_toArray, List.getElem_cons_zero, List.getElem_cons_succ]
            refine' wpAnyH_take (i := 13) (v := _) rfl (by kernel_rfl) (by kernel_rfl) (by kernel_rfl) (fun _ _ _ h => h) (Or.inl ⟨by rfl, ?hym50⟩) hS1 ?restm50
            case hym50 => (intro w hSw; (try dsimp only at hSw); go_simp; try with_reducible rfl)
            simp only [Act.put, List.setIfInBounds_toArray, List.set_cons_zero, List.set_cons_succ, List.getElem_toArray, List.getElem_cons_zero, List.getElem_cons_succ]
            refine' wpAnyH_take (i := 14) (v := _) rfl (by kernel_rfl) (by kernel_rfl) (by kernel_rfl) (fun _ _ _ h => h) (Or.inl ⟨by rfl, ?hym51⟩) hS1 ?restm51
            case hym51 => (intro w hSw; (try dsimp only at hSw); go_simp; try with_reducible rfl)
            simp only [Act.put, List.setIfInBounds_toArray, List.set_cons_zero, List.set_cons_succ, List.getElem_toArray, List.getElem_cons_zero, List.getElem_cons_succ]
            refine wpAnyH_ready (rs := [10, 15]) (by kernel_rfl) (by simp) ?_
            refine AllReadyH.cons rfl (fun K hK => ?_) (AllReadyH.cons rfl (fun K hK => ?_) AllReadyH.nil)
            · have hbb := (Below.refl (wr.drew).heap.size (wr.drew)).alloc (Nat.le_refl _) (.cells #[.float .f64 x] 139)
              have HX1 := Lib.hid (HX0.out.trans (hbb.mono HX0.out.size))
              have HB1 := Lib.hid (Blk.new (wr.drew) #[.float .f64 x] 139)
              have HBBHX1 := Lib.hid hbb
              clear hbb
              go_simp
              refine hK.out _ _ (HXC.out _ HX1.out) (fun hS2 => ?_)
              clear hK K
              refine wpAnyH_ready (rs := [15]) (by kernel_rfl) (by simp) ?_
              refine AllReadyH.cons rfl (fun K hK => ?_) AllReadyH.nil
              go_simp
              refine (KC.out _).mono ?_
              rintro e w2 ⟨rfl, rfl⟩
              refine hK.out _ _ (HXC.out _ HX1.out) (fun hS3 => ?_)
              clear hK K
              refine wpAnyH_ready (rs := [16]) (by kernel_rfl) (by simp) ?_
              refine AllReadyH.cons rfl (fun K hK => ?_) AllReadyH.nil
              have hbb := (Below.refl ((wr.drew.alloc (.cells #[.float .f64 x] 139))).heap.size ((wr.drew.alloc (.cells #[.float .f64 x] 139)))).alloc (Nat.le_refl _) (.cells #[.float .f64 c] 139)
              have HX2 := Lib.hid (HX1.out.trans (hbb.mono HX1.out.size))
              have HB2 := Lib.hid (Blk.new ((wr.drew.alloc (.cells #[.float .f64 x] 139))) #[.float .f64 c] 139)
              have HBBHX2 := Lib.hid hbb
              clear hbb
              go_simp
              refine hK.out _ _ (HXC.out _ HX2.out) (fun hS4 => ?_)
              clear hK K
              refine wpAnyH_ready (rs := [17]) (by kernel_rfl) (by simp) ?_
              refine AllReadyH.cons rfl (fun K hK => ?_) AllReadyH.nil
              have k1 := (Blk.new wr #[.float .f64 x] 139).below ((Below.refl _ (wr.alloc (.cells #[.float .f64 x] 139))).alloc (Nat.le_refl _) (.cells #[.float .f64 c] 139))
              have k2 := Blk.new (wr.alloc (.cells #[.float .f64 x] 139)) #[.float .f64 c] 139
              rw [World.size_alloc] at k2
              have HF1 : RF ((wr.alloc (.cells #[.float .f64 x] 139)).alloc (.cells #[.float .f64 c] 139)).drew (some ⟨wr.heap.size, 0, none⟩) _ := rf_one (show Blk ((wr.alloc (.cells #[.float .f64 x] 139)).alloc (.cells #[.float .f64 c] 139)).drew _ _ _ from k1) HXL.out
              have HF2 : RF ((wr.alloc (.cells #[.float .f64 x] 139)).alloc (.cells #[.float .f64 c] 139)).drew (some ⟨wr.heap.size + 1, 0, none⟩) _ := rf_one (show Blk ((wr.alloc (.cells #[.float .f64 x] 139)).alloc (.cells #[.float .f64 c] 139)).drew _ _ _ from k2) HCL.out
              clear k1 k2
              go_simp
              refine (KSX.out _ _ _ _ _ HF1 HF2).mono ?_
              rintro e w5 ⟨rfl, dn, rfl⟩
              have HX5 : Hid (Below w.heap.size w (World.drewN (((wr.alloc (.cells #[.float .f64 x] 139)).alloc (.cells #[.float .f64 c] 139)).drew) dn)) := Lib.hid (HX2.out.trans ⟨rfl, rfl, rfl, Nat.le_refl _, fun _ _ => rfl⟩)
              refine hK.out _ _ (HXC.out _ HX5.out) (fun hS5 => ?_)
              clear hK K
              refine' wpAnyH_take (i := 18) (v := _) rfl (by kernel_rfl) (by kernel_rfl) (by kernel_rfl) (fun _ _ _ h => h) (Or.inl ⟨by rfl, ?hym52⟩) hS5 ?restm52
              case hym52 => (intro w hSw; (try dsimp only at hSw); go_simp; try with_reducible rfl)
              simp only [Act.put, List.setIfInBounds_toArray, List.set_cons_zero, List.set_cons_succ, List.getElem_toArray, List.getElem_cons_zero, List.getElem_cons_succ]
              refine' wpAnyH_take (i := 19) (v := _) rfl (by kernel_rfl) (by kernel_rfl) (by kernel_rfl) (fun _ _ _ h => h) (Or.inl ⟨by rfl, ?hym53⟩) hS5 ?restm53
              case hym53 => (intro w hSw; (try dsimp only at hSw); go_simp; try with_reducible rfl)
              simp only [Act.put, List.setIfInBounds_toArray, List.set_cons_zero, List.set_cons_succ, List.getElem_toArray, List.getElem_cons_zero, List.getElem_cons_succ]
              refine wpAnyH_done (by kernel_rfl) ?_ _
              go_wp2_with fail
              obtain ⟨W5, hW5⟩ : ∃ W5, World.drewN (((wr.alloc (.cells #[.float .f64 x] 139)).alloc (.cells #[.float .f64 c] 139)).drew) dn = W5 := ⟨_, rfl⟩
              rw [hW5] at HX5 ⊢
              clear hW5
              have hx5 := HXC.out _ HX5.out
              have hy5 := HYC.out _ HX5.out
              go_quiet ((go_at_call 182; exact Calls.quiet_of_same (KP.out _)))
              go_wp2_with fail
              go_roundw
              case rel => exact ⟨i + 1, hlt, by go_num, Lib.hid (fun q hq => by
                rcases Nat.lt_or_ge q i with h | h
                · exact HI.out q h
                · obtain rfl : q = i := by omega
                  exact HO.out), Lib.hid (HX5.out.trans ⟨rfl, rfl, rfl, Nat.le_refl _, fun _ _ => rfl⟩)⟩
              case measure => simp [intOf]; omega
            · go_simp
              refine (KC.out _).mono ?_
              rintro e w2 ⟨rfl, rfl⟩
              refine hK.out _ _ (HXC.out _ HX0.out) (fun hS2 => ?_)
              clear hK K
              refine wpAnyH_ready (rs := [10, 16]) (by kernel_rfl) (by simp) ?_
              refine AllReadyH.cons rfl (fun K hK => ?_) (AllReadyH.cons rfl (fun K hK => ?_) AllReadyH.nil)
              · have hbb := (Below.refl (wr.drew).heap.size (wr.drew)).alloc (Nat.le_refl _) (.cells #[.float .f64 x] 139)
                have HX1 := Lib.hid (HX0.out.trans (hbb.mono HX0.out.size))
                have HB1 := Lib.hid (Blk.new (wr.drew) #[.float .f64 x] 139)
                have HBBHX1 := Lib.hid hbb
                clear hbb
                go_simp
                refine hK.out _ _ (HXC.out _ HX1.out) (fun hS3 => ?_)
                clear hK K
                refine wpAnyH_ready (rs := [16]) (by kernel_rfl) (by simp) ?_
                refine AllReadyH.cons rfl (fun K hK => ?_) AllReadyH.nil
                have hbb := (Below.refl ((wr.drew.alloc (.cells #[.float .f64 x] 139))).heap.size ((wr.drew.alloc (.cells #[.float .f64 x] 139)))).alloc (Nat.le_refl _) (.cells #[.float .f64 c] 139)
                have HX2 := Lib.hid (HX1.out.trans (hbb.mono HX1.out.size))
                have HB2 := Lib.hid (Blk.new ((wr.drew.alloc (.cells #[.float .f64 x] 139))) #[.float .f64 c] 139)
                have HBBHX2 := Lib.hid hbb
                clear hbb
                go_simp
                refine hK.out _ _ (HXC.out _ HX2.out) (fun hS4 => ?_)
                clear hK K
                refine wpAnyH_ready (rs := [17]) (by kernel_rfl) (by simp) ?_
                refine AllReadyH.cons rfl (fun K hK => ?_) AllReadyH.nil
                have k1 := (Blk.new wr #[.float .f64 x] 139).below ((Below.refl _ (wr.alloc (.cells #[.float .f64 x] 139))).alloc (Nat.le_refl _) (.cells #[.float .f64 c] 139))
                have k2 := Blk.new (wr.alloc (.cells #[.float .f64 x] 139)) #[.float .f64 c] 139
                rw [World.size_alloc] at k2
                have HF1 : RF ((wr.alloc (.cells #[.float .f64 x] 139)).alloc (.cells #[.float .f64 c] 139)).drew (some ⟨wr.heap.size, 0, none⟩) _ := rf_one (show Blk ((wr.alloc (.cells #[.float .f64 x] 139)).alloc (.cells #[.float .f64 c] 139)).drew _ _ _ from k1) HXL.out
                have HF2 : RF ((wr.alloc (.cells #[.float .f64 x] 139)).alloc (.cells #[.float .f64 c] 139)).drew (some ⟨wr.heap.size + 1, 0, none⟩) _ := rf_one (show Blk ((wr.alloc (.cells #[.float .f64 x] 139)).alloc (.cells #[.float .f64 c] 139)).drew _ _ _ from k2) HCL.out
                clear k1 k2
                go_simp
                refine (KSX.out _ _ _ _ _ HF1 HF2).mono ?_
                rintro e w5 ⟨rfl, dn, rfl⟩
                have HX5 : Hid (Below w.heap.size w (World.drewN (((wr.alloc (.cells #[.float .f64 x] 139)).alloc (.cells #[.float .f64 c] 139)).drew) dn)) := Lib.hid (HX2.out.trans ⟨rfl, rfl, rfl, Nat.le_refl _, fun _ _ => rfl⟩)
                refine hK.out _ _ (HXC.out _ HX5.out) (fun hS5 => ?_)
                clear hK K
                refine' wpAnyH_take (i := 18) (v := _) rfl (by kernel_rfl) (by kernel_rfl) (by kernel_rfl) (fun _ _ _ h => h) (Or.inl ⟨by rfl, ?hym54⟩) hS5 ?restm54
                case hym54 => (intro w hSw; (try dsimp only at hSw); go_simp; try with_reducible rfl)
                simp only [Act.put, List.setIfInBounds_toArray, List.set_cons_zero, List.set_cons_succ, List.getElem_toArray, List.getElem_cons_zero, List.getElem_cons_succ]
                refine' wpAnyH_take (i := 19) (v := _) rfl (by kernel_rfl) (by kernel_rfl) (by kernel_rfl) (fun _ _ _ h => h) (Or.inl ⟨by rfl, ?hym55⟩) hS5 ?restm55
                case hym55 => (intro w hSw; (try dsimp only at hSw); go_simp; try with_reducible rfl)
                simp only [Act.put, List.setIfInBounds_toArray, List.set_cons_zero, List.set_cons_succ, List.getElem_toArray, List.getElem_cons_zero, List.getElem_cons_succ]
                refine wpAnyH_done (by kernel_rfl) ?_ _
                go_wp2_with fail
                obtain ⟨W5, hW5⟩ : ∃ W5, World.drewN (((wr.alloc (.cells #[.float .f64 x] 139)).alloc (.cells #[.float .f64 c] 139)).drew) dn = W5 := ⟨_, rfl⟩
                rw [hW5] at HX5 ⊢
                clear hW5
                have hx5 := HXC.out _ HX5.out
                have hy5 := HYC.out _ HX5.out
                go_quiet ((go_at_call 182; exact Calls.quiet_of_same (KP.out _)))
                go_wp2_with fail
                go_roundw
                case rel => exact ⟨i + 1, hlt, by go_num, Lib.hid (fun q hq => by
                  rcases Nat.lt_or_ge q i with h | h
                  · exact HI.out q h
                  · obtain rfl : q = i := by omega
                    exact HO.out), Lib.hid (HX5.out.trans ⟨rfl, rfl, rfl, Nat.le_refl _, fun _ _ => rfl⟩)⟩
                case measure => simp [intOf]; omega
              · have hbb := (Below.refl (wr.drew).heap.size (wr.drew)).alloc (Nat.le_refl _) (.cells #[.float .f64 c] 139)
                have HX1 := Lib.hid (HX0.out.trans (hbb.mono HX0.out.size))
                have HB2 := Lib.hid (Blk.new (wr.drew) #[.float .f64 c] 139)
                have HBBHX1 := Lib.hid hbb
                clear hbb
                go_simp
                refine hK.out _ _ (HXC.out _ HX1.out) (fun hS3 => ?_)
                clear hK K
                refine wpAnyH_ready (rs := [10]) (by kernel_rfl) (by simp) ?_
                refine AllReadyH.cons rfl (fun K hK => ?_) AllReadyH.nil
                have hbb := (Below.refl ((wr.drew.alloc (.cells #[.float .f64 c] 139))).heap.size ((wr.drew.alloc (.cells #[.float .f64 c] 139)))).alloc (Nat.le_refl _) (.cells #[.float .f64 x] 139)
                have HX2 := Lib.hid (HX1.out.trans (hbb.mono HX1.out.size))
                have HB1 := Lib.hid (Blk.new ((wr.drew.alloc (.cells #[.float .f64 c] 139))) #[.float .f64 x] 139)
                have HBBHX2 := Lib.hid hbb
                clear hbb
                go_simp
                refine hK.out _ _ (HXC.out _ HX2.out) (fun hS4 => ?_)
                clear hK K
                refine wpAnyH_ready (rs := [17]) (by kernel_rfl) (by simp) ?_
                refine AllReadyH.cons rfl (fun K hK => ?_) AllReadyH.nil
                have k1 := (Blk.new wr #[.float .f64 c] 139).below ((Below.refl _ (wr.alloc (.cells #[.float .f64 c] 139))).alloc (Nat.le_refl _) (.cells #[.float .f64 x] 139))
                have k2 := Blk.new (wr.alloc (.cells #[.float .f64 c] 139)) #[.float .f64 x] 139
                rw [World.size_alloc] at k2
                have HF2 : RF ((wr.alloc (.cells #[.float .f64 c] 139)).alloc (.cells #[.float .f64 x] 139)).drew (some ⟨wr.heap.size, 0, none⟩) _ := rf_one (show Blk ((wr.alloc (.cells #[.float .f64 c] 139)).alloc (.cells #[.float .f64 x] 139)).drew _ _ _ from k1) HCL.out
                have HF1 : RF ((wr.alloc (.cells #[.float .f64 c] 139)).alloc (.cells #[.float .f64 x] 139)).drew (some ⟨wr.heap.size + 1, 0, none⟩) _ := rf_one (show Blk ((wr.alloc (.cells #[.float .f64 c] 139)).alloc (.cells #[.float .f64 x] 139)).drew _ _ _ from k2) HXL.out
                clear k1 k2
                go_simp
                refine (KSX.out _ _ _ _ _ HF1 HF2).mono ?_
                rintro e w5 ⟨rfl, dn, rfl⟩
                have HX5 : Hid (Below w.heap.size w (World.drewN (((wr.alloc (.cells #[.float .f64 c] 139)).alloc (.cells #[.float .f64 x] 139)).drew) dn)) := Lib.hid (HX2.out.trans ⟨rfl, rfl, rfl, Nat.le_refl _, fun _ _ => rfl⟩)
                refine hK.out _ _ (HXC.out _ HX5.out) (fun hS5 => ?_)
                clear hK K
                refine' wpAnyH_take (i := 18) (v := _) rfl (by kernel_rfl) (by kernel_rfl) (by kernel_rfl) (fun _ _ _ h => h) (Or.inl ⟨by rfl, ?hym56⟩) hS5 ?restm56
                case hym56 => (intro w hSw; (try dsimp only at hSw); go_simp; try with_reducible rfl)
                simp only [Act.put, List.setIfInBounds_toArray, List.set_cons_zero, List.set_cons_succ, List.getElem_toArray, List.getElem_cons_zero, List.getElem_cons_succ]
                refine' wpAnyH_take (i := 19) (v := _) rfl (by kernel_rfl) (by kernel_rfl) (by kernel_rfl) (fun _ _ _ h => h) (Or.inl ⟨by rfl, ?hym57⟩) hS5 ?restm57
                case hym57 => (intro w hSw; (try dsimp only at hSw); go_simp; try with_reducible rfl)
                simp only [Act.put, List.setIfInBounds_toArray, List.set_cons_zero, List.set_cons_succ, List.getElem_toArray, List.getElem_cons_zero, List.getElem_cons_succ]
                refine wpAnyH_done (by kernel_rfl) ?_ _
                go_wp2_with fail
                obtain ⟨W5, hW5⟩ : ∃ W5, World.drewN (((wr.alloc (.cells #[.float .f64 c] 139)).alloc (.cells #[.float .f64 x] 139)).drew) dn = W5 := ⟨_, rfl⟩
                rw [hW5] at HX5 ⊢
                clear hW5
                have hx5 := HXC.out _ HX5.out
                have hy5 := HYC.out _ HX5.out
                go_quiet ((go_at_call 182; exact Calls.quiet_of_same (KP.out _)))
                go_wp2_with fail
                go_roundw
                case rel => exact ⟨i + 1, hlt, by go_num, Lib.hid (fun q hq => by
                  rcases Nat.lt_or_ge q i with h | h
                  · exact HI.out q h
                  · obtain rfl : q = i := by omega
                    exact HO.out), Lib.hid (HX5.out.trans ⟨rfl, rfl, rfl, Nat.le_refl _, fun _ _ => rfl⟩)⟩
                case measure => simp [intOf]; omega
          · have d1 : decide ((0 : Int) ≤ p) = true := decide_eq_true (by omega)
            have HF := Lib.hid (HN.out i hlt (ok_cmp HJ.out HEX.out HEY.out (by rw [HEP.out]; exact hp)))
            clear h0 hj hp
            go_upto_region 6 with (fail)
            refine wp_region_held_drew (S := (fun W => W.cell? (ad.add i) = some (.float .f64 x))) (by kernel_rfl) ?_ (fun hS0 => ?_)
            · exact HXC.out _ HX0.out
            refine' wpAnyH_take (i := 0) (v := _) rfl (by kernel_rfl) (by kernel_rfl) (by kernel_rfl) (fun _ _ _ h => h) (Or.inl ⟨by rfl, ?hym58⟩) hS0 ?restm58
            case hym58 => (intro w hSw; (try dsimp only at hSw); go_simp; try with_reducible rfl)
            simp only [Act.put, List.setIfInBounds_toArray, List.set_cons_zero, List.set_cons_succ, List.getElem_toArray, List.getElem_cons_zero, List.getElem_cons_succ]
            refine' wpAnyH_take (i := 1) (v := _) rfl (by kernel_rfl) (by kernel_rfl) (by kernel_rfl) (fun _ _ _ h => h) (Or.inl ⟨by rfl, ?hym59⟩) hS0 ?restm59
            case hym59 => (intro w hSw; (try dsimp only at hSw); go_simp; try with_reducible rfl)
            simp only [Act.put, List.setIfInBounds_toArray, List.set_cons_zero, List.set_cons_succ, List.getElem_toArray, List.getElem_cons_zero, List.getElem_cons_succ]
            refine' wpAnyH_take (i := 2) (v := _) rfl (by kernel_rfl) (by kernel_rfl) (by kernel_rfl) (fun _ _ _ h => h) (Or.inl ⟨by rfl, ?hym60⟩) hS0 ?restm60
            case hym60 => (intro w hSw; (try dsimp only at hSw); go_simp; try with_reducible rfl)
            simp only [Act.put, List.setIfInBounds_toArray, List.set_cons_zero, List.set_cons_succ, List.getElem_toArray, List.getElem_cons_zero, List.getElem_cons_succ]
            refine' wpAnyH_take (i := 3) (v := _) rfl (by kernel_rfl) (by kernel_rfl) (by kernel_rfl) (fun _ _ _ h => h) (Or.inl ⟨by rfl, ?hym61⟩) hS0 ?restm61
            case hym61 => (intro w hSw; (try dsimp only at hSw); go_simp; try with_reducible rfl)
            simp only [Act.put, List.setIfInBounds_toArray, List.set_cons_zero, List.set_cons_succ, List.getElem_toArray, List.getElem_cons_zero, List.getElem_cons_succ]
            refine wpAnyH_ready (rs := [4]) (by kernel_rfl) (by simp) ?_
            refine AllReadyH.cons rfl (fun K hK => ?_) AllReadyH.nil
            go_simp
            refine (KM.out _).mono ?_
            rintro e w1 ⟨rfl, rfl⟩
            refine hK.out _ _ (HXC.out _ HX0.out) (fun hS1 => ?_)
            clear hK K
            refine' wpAnyH_take (i := 5) (v := _) rfl (by kernel_rfl) (by kernel_rfl) (by kernel_rfl) (fun _ _ _ h => h) (Or.inl ⟨by rfl, ?hym62⟩) hS1 ?restm62
            case hym62 => (intro w hSw; (try dsimp only at hSw); go_simp; try with_reducible rfl)
            simp only [Act.put, List.setIfInBounds_toArray, List.set_cons_zero, List.set_cons_succ, List.getElem_toArray, List.getElem_cons_zero, List.getElem_cons_succ]
            refine' wpAnyH_take (i := 6) (v := _) rfl (by kernel_rfl) (by kernel_rfl) (by kernel_rfl) (fun _ _ _ h => h) (Or.inl ⟨by rfl, ?hym63⟩) hS1 ?restm63
            case hym63 => (intro w hSw; (try dsimp only at hSw); go_simp; try with_reducible rfl)
            simp only [Act.put, List.setIfInBounds_toArray, List.set_cons_zero, List.set_cons_succ, List.getElem_toArray, List.getElem_cons_zero, List.getElem_cons_succ]
            refine' wpAnyH_take (i := 7) (v := _) rfl (by kernel_rfl) (by kernel_rfl) (by kernel_rfl) (fun _ _ _ h => h) (Or.inl ⟨by rfl, ?hym64⟩) hS1 ?restm64
            case hym64 => (intro w hSw; (try dsimp only at hSw); go_simp; try with_reducible rfl)
            simp only [Act.put, List.setIfInBounds_toArray, List.set_cons_zero, List.set_cons_succ, List.getElem_toArray, List.getElem_cons_zero, List.getElem_cons_succ]
            refine' wpAnyH_take (i := 8) (v := _) rfl (by kernel_rfl) (by kernel_rfl) (by kernel_rfl) (fun _ _ _ h => h) (Or.inl ⟨by rfl, ?hym65⟩) hS1 ?restm65
            case hym65 => (intro w hSw; (try dsimp only at hSw); go_simp; try with_reducible rfl)
            simp only [Act.put, List.setIfInBounds_toArray, List.set_cons_zero, List.set_cons_succ, List.getElem_toArray, List.getElem_cons_zero, List.getElem_cons_succ]
            refine' wpAnyH_take (i := 9) (v := _) rfl (by kernel_rfl) (by kernel_rfl) (by kernel_rfl) (fun _ _ _ h => h) (Or.inl ⟨by rfl, ?hym66⟩) hS1 ?restm66
            case hym66 => (intro w hSw; (try dsimp only at hSw); go_simp; try with_reducible rfl)
            simp only [Act.put, List.setIfInBounds_toArray, List.set_cons_zero, List.set_cons_succ, List.getElem_toArray, List.getElem_cons_zero, List.getElem_cons_succ]
            refine' wpAnyH_take (i := 11) (v := _) rfl (by kernel_rfl) (by kernel_rfl) (by kernel_rfl) (fun _ _ _ h => h) (Or.inl ⟨by rfl, ?hym67⟩) hS1 ?restm67
            case hym67 => (intro w hSw; (try dsimp only at hSw); go_simp; try with_reducible rfl)
            simp only [Act.put, List.setIfInBounds_toArray, List.set_cons_zero, List.set_cons_succ, List.getElem_toArray, List.getElem_cons_zero, List.getElem_cons_succ]
            refine' wpAnyH_take (i := 12) (v := _) rfl (by kernel_rfl) (by kernel_rfl) (by kernel_rfl) (fun _ _ _ h => h) (Or.inl ⟨by rfl, ?hym68⟩) hS1 ?restm68
            case hym68 => (intro w hSw; (try dsimp only at hSw); go_simp; try with_reducible rfl)
            simp only [Act.put, List.setIfInBounds_toArray, List.set_cons_zero, List.set_cons_succ, List.getElem_toArray, List.getElem_cons_zero, List.getElem_cons_succ]
            refine' wpAnyH_take (i := 13) (v := _) rfl (by kernel_rfl) (by kernel_rfl) (by kernel_rfl) (fun _ _ _ h => h) (Or.inl ⟨by rfl, ?hym69⟩) hS1 ?restm69
            case hym69 => (intro w hSw; (try dsimp only at hSw); go_simp; try with_reducible rfl)
            simp only [Act.put, List.setIfInBounds_toArray, List.set_cons_zero, List.set_cons_succ, List.getElem_toArray, List.getElem_cons_zero, List.getElem_cons_succ]
            refine' wpAnyH_take (i := 14) (v := _) rfl (by kernel_rfl) (by kernel_rfl) (by kernel_rfl) (fun _ _ _ h => h) (Or.inl ⟨by rfl, ?hym70⟩) hS1 ?restm70
            case hym70 => (intro w hSw; (try dsimp only at hSw); go_simp; try with_reducible rfl)
            simp only [Act.put, List.setIfInBounds_toArray, List.set_cons_zero, List.set_cons_succ, List.getElem_toArray, List.getElem_cons_zero, List.getElem_cons_succ]
            refine wpAnyH_ready (rs := [10, 15]) (by kernel_rfl) (by simp) ?_
            refine AllReadyH.cons rfl (fun K hK => ?_) (AllReadyH.cons rfl (fun K hK => ?_) AllReadyH.nil)
            · have hbb := (Below.refl (wr.drew).heap.size (wr.drew)).alloc (Nat.le_refl _) (.cells #[.float .f64 x] 139)
              have HX1 := Lib.hid (HX0.out.trans (hbb.mono HX0.out.size))
              have HB1 := Lib.hid (Blk.new (wr.drew) #[.float .f64 x] 139)
              have HBBHX1 := Lib.hid hbb
              clear hbb
              go_simp
              refine hK.out _ _ (HXC.out _ HX1.out) (fun hS2 => ?_)
              clear hK K
              refine wpAnyH_ready (rs := [15]) (by kernel_rfl) (by simp) ?_
              refine AllReadyH.cons rfl (fun K hK => ?_) AllReadyH.nil
              go_simp
              refine (KC.out _).mono ?_
              rintro e w2 ⟨rfl, rfl⟩
              refine hK.out _ _ (HXC.out _ HX1.out) (fun hS3 => ?_)
              clear hK K
              refine wpAnyH_ready (rs := [16]) (by kernel_rfl) (by simp) ?_
              refine AllReadyH.cons rfl (fun K hK => ?_) AllReadyH.nil
              have hbb := (Below.refl ((wr.drew.alloc (.cells #[.float .f64 x] 139))).heap.size ((wr.drew.alloc (.cells #[.float .f64 x] 139)))).alloc (Nat.le_refl _) (.cells #[.float .f64 c] 139)
              have HX2 := Lib.hid (HX1.out.trans (hbb.mono HX1.out.size))
              have HB2 := Lib.hid (Blk.new ((wr.drew.alloc (.cells #[.float .f64 x] 139))) #[.float .f64 c] 139)
              have HBBHX2 := Lib.hid hbb
              clear hbb
              go_simp
              refine hK.out _ _ (HXC.out _ HX2.out) (fun hS4 => ?_)
              clear hK K
              refine wpAnyH_ready (rs := [17]) (by kernel_rfl) (by simp) ?_
              refine AllReadyH.cons rfl (fun K hK => ?_) AllReadyH.nil
              have k1 := (Blk.new wr #[.float .f64 x] 139).below ((Below.refl _ (wr.alloc (.cells #[.float .f64 x] 139))).alloc (Nat.le_refl _) (.cells #[.float .f64 c] 139))
              have k2 := Blk.new (wr.alloc (.cells #[.float .f64 x] 139)) #[.float .f64 c] 139
              rw [World.size_alloc] at k2
              have HF1 : RF ((wr.alloc (.cells #[.float .f64 x] 139)).alloc (.cells #[.float .f64 c] 139)).drew (some ⟨wr.heap.size, 0, none⟩) _ := rf_one (show Blk ((wr.alloc (.cells #[.float .f64 x] 139)).alloc (.cells #[.float .f64 c] 139)).drew _ _ _ from k1) HXL.out
              have HF2 : RF ((wr.alloc (.cells #[.float .f64 x] 139)).alloc (.cells #[.float .f64 c] 139)).drew (some ⟨wr.heap.size + 1, 0, none⟩) _ := rf_one (show Blk ((wr.alloc (.cells #[.float .f64 x] 139)).alloc (.cells #[.float .f64 c] 139)).drew _ _ _ from k2) HCL.out
              clear k1 k2
              go_simp
              refine (KSX.out _ _ _ _ _ HF1 HF2).mono ?_
              rintro e w5 ⟨rfl, dn, rfl⟩
              have HX5 : Hid (Below w.heap.size w (World.drewN (((wr.alloc (.cells #[.float .f64 x] 139)).alloc (.cells #[.float .f64 c] 139)).drew) dn)) := Lib.hid (HX2.out.trans ⟨rfl, rfl, rfl, Nat.le_refl _, fun _ _ => rfl⟩)
              refine hK.out _ _ (HXC.out _ HX5.out) (fun hS5 => ?_)
              clear hK K
              refine' wpAnyH_take (i := 18) (v := _) rfl (by kernel_rfl) (by kernel_rfl) (by kernel_rfl) (fun _ _ _ h => h) (Or.inl ⟨by rfl, ?hym71⟩) hS5 ?restm71
              case hym71 => (intro w hSw; (try dsimp only at hSw); go_simp; try with_reducible rfl)
              simp only [Act.put, List.setIfInBounds_toArray, List.set_cons_zero, List.set_cons_succ, List.getElem_toArray, List.getElem_cons_zero, List.getElem_cons_succ]
              refine' wpAnyH_take (i := 19) (v := _) rfl (by kernel_rfl) (by kernel_rfl) (by kernel_rfl) (fun _ _ _ h => h) (Or.inl ⟨by rfl, ?hym72⟩) hS5 ?restm72
              case hym72 => (intro w hSw; (try dsimp only at hSw); go_simp; try with_reducible rfl)
              simp only [Act.put, List.setIfInBounds_toArray, List.set_cons_zero, List.set_cons_succ, List.getElem_toArray, List.getElem_cons_zero, List.getElem_cons_succ]
              refine wpAnyH_done (by kernel_rfl) ?_ _
              go_wp2_with fail
              obtain ⟨W5, hW5⟩ : ∃ W5, World.drewN (((wr.alloc (.cells #[.float .f64 x] 139)).alloc (.cells #[.float .f64 c] 139)).drew) dn = W5 := ⟨_, rfl⟩
              rw [hW5] at HX5 ⊢
              clear hW5
              have hx5 := HXC.out _ HX5.out
              have hy5 := HYC.out _ HX5.out
              go_quiet ((go_at_call 182; exact Calls.quiet_of_same (KP.out _)))
              go_wp2_with fail
              go_ret
              exact ⟨by rw [HF.out]; rfl, HX5.out.trans ⟨rfl, rfl, rfl, Nat.le_refl _, fun _ _ => rfl⟩⟩
            · go_simp
              refine (KC.out _).mono ?_
              rintro e w2 ⟨rfl, rfl⟩
              refine hK.out _ _ (HXC.out _ HX0.out) (fun hS2 => ?_)
              clear hK K
              refine wpAnyH_ready (rs := [10, 16]) (by kernel_rfl) (by simp) ?_
              refine AllReadyH.cons rfl (fun K hK => ?_) (AllReadyH.cons rfl (fun K hK => ?_) AllReadyH.nil)
              · have hbb := (Below.refl (wr.drew).heap.size (wr.drew)).alloc (Nat.le_refl _) (.cells #[.float .f64 x] 139)
                have HX1 := Lib.hid (HX0.out.trans (hbb.mono HX0.out.size))
                have HB1 := Lib.hid (Blk.new (wr.drew) #[.float .f64 x] 139)
                have HBBHX1 := Lib.hid hbb
                clear hbb
                go_simp
                refine hK.out _ _ (HXC.out _ HX1.out) (fun hS3 => ?_)
                clear hK K
                refine wpAnyH_ready (rs := [16]) (by kernel_rfl) (by simp) ?_
                refine AllReadyH.cons rfl (fun K hK => ?_) AllReadyH.nil
                have hbb := (Below.refl ((wr.drew.alloc (.cells #[.float .f64 x] 139))).heap.size ((wr.drew.alloc (.cells #[.float .f64 x] 139)))).alloc (Nat.le_refl _) (.cells #[.float .f64 c] 139)
                have HX2 := Lib.hid (HX1.out.trans (hbb.mono HX1.out.size))
                have HB2 := Lib.hid (Blk.new ((wr.drew.alloc (.cells #[.float .f64 x] 139))) #[.float .f64 c] 139)
                have HBBHX2 := Lib.hid hbb
                clear hbb
                go_simp
                refine hK.out _ _ (HXC.out _ HX2.out) (fun hS4 => ?_)
                clear hK K
                refine wpAnyH_ready (rs := [17]) (by kernel_rfl) (by simp) ?_
                refine AllReadyH.cons rfl (fun K hK => ?_) AllReadyH.nil
                have k1 := (Blk.new wr #[.float .f64 x] 139).below ((Below.refl _ (wr.alloc (.cells #[.float .f64 x] 139))).alloc (Nat.le_refl _) (.cells #[.float .f64 c] 139))
                have k2 := Blk.new (wr.alloc (.cells #[.float .f64 x] 139)) #[.float .f64 c] 139
                rw [World.size_alloc] at k2
                have HF1 : RF ((wr.alloc (.cells #[.float .f64 x] 139)).alloc (.cells #[.float .f64 c] 139)).drew (some ⟨wr.heap.size, 0, none⟩) _ := rf_one (show Blk ((wr.alloc (.cells #[.float .f64 x] 139)).alloc (.cells #[.float .f64 c] 139)).drew _ _ _ from k1) HXL.out
                have HF2 : RF ((wr.alloc (.cells #[.float .f64 x] 139)).alloc (.cells #[.float .f64 c] 139)).drew (some ⟨wr.heap.size + 1, 0, none⟩) _ := rf_one (show Blk ((wr.alloc (.cells #[.float .f64 x] 139)).alloc (.cells #[.float .f64 c] 139)).drew _ _ _ from k2) HCL.out
                clear k1 k2
                go_simp
                refine (KSX.out _ _ _ _ _ HF1 HF2).mono ?_
                rintro e w5 ⟨rfl, dn, rfl⟩
                have HX5 : Hid (Below w.heap.size w (World.drewN (((wr.alloc (.cells #[.float .f64 x] 139)).alloc (.cells #[.float .f64 c] 139)).drew) dn)) := Lib.hid (HX2.out.trans ⟨rfl, rfl, rfl, Nat.le_refl _, fun _ _ => rfl⟩)
                refine hK.out _ _ (HXC.out _ HX5.out) (fun hS5 => ?_)
                clear hK K
                refine' wpAnyH_take (i := 18) (v := _) rfl (by kernel_rfl) (by kernel_rfl) (by kernel_rfl) (fun _ _ _ h => h) (Or.inl ⟨by rfl, ?hym73⟩) hS5 ?restm73
                case hym73 => (intro w hSw; (try dsimp only at hSw); go_simp; try with_reducible rfl)
                simp only [Act.put, List.setIfInBounds_toArray, List.set_cons_zero, List.set_cons_succ, List.getElem_toArray, List.getElem_cons_zero, List.getElem_cons_succ]
                refine' wpAnyH_take (i := 19) (v := _) rfl (by kernel_rfl) (by kernel_rfl) (by kernel_rfl) (fun _ _ _ h => h) (Or.inl ⟨by rfl, ?hym74⟩) hS5 ?restm74
                case hym74 => (intro w hSw; (try dsimp only at hSw); go_simp; try with_reducible rfl)
                simp only [Act.put, List.setIfInBounds_toArray, List.set_cons_zero, List.set_cons_succ, List.getElem_toArray, List.getElem_cons_zero, List.getElem_cons_succ]
                refine wpAnyH_done (by kernel_rfl) ?_ _
                go_wp2_with fail
                obtain ⟨W5, hW5⟩ : ∃ W5, World.drewN (((wr.alloc (.cells #[.float .f64 x] 139)).alloc (.cells #[.float .f64 c] 139)).drew) dn = W5 := ⟨_, rfl⟩
                rw [hW5] at HX5 ⊢
                clear hW5
                have hx5 := HXC.out _ HX5.out
                have hy5 := HYC.out _ HX5.out
                go_quiet ((go_at_call 182; exact Calls.quiet_of_same (KP.out _)))
                go_wp2_with fail
                go_ret
                exact ⟨by rw [HF.out]; rfl, HX5.out.trans ⟨rfl, rfl, rfl, Nat.le_refl _, fun _ _ => rfl⟩⟩
              · have hbb := (Below.refl (wr.drew).heap.size (wr.drew)).alloc (Nat.le_refl _) (.cells #[.float .f64 c] 139)
                have HX1 := Lib.hid (HX0.out.trans (hbb.mono HX0.out.size))
                have HB2 := Lib.hid (Blk.new (wr.drew) #[.float .f64 c] 139)
                have HBBHX1 := Lib.hid hbb
                clear hbb
                go_simp
                refine hK.out _ _ (HXC.out _ HX1.out) (fun hS3 => ?_)
                clear hK K
                refine wpAnyH_ready (rs := [10]) (by kernel_rfl) (by simp) ?_
                refine AllReadyH.cons rfl (fun K hK => ?_) AllReadyH.nil
                have hbb := (Below.refl ((wr.drew.alloc (.cells #[.float .f64 c] 139))).heap.size ((wr.drew.alloc (.cells #[.float .f64 c] 139)))).alloc (Nat.le_refl _) (.cells #[.float .f64 x] 139)
                have HX2 := Lib.hid (HX1.out.trans (hbb.mono HX1.out.size))
                have HB1 := Lib.hid (Blk.new ((wr.drew.alloc (.cells #[.float .f64 c] 139))) #[.float .f64 x] 139)
                have HBBHX2 := Lib.hid hbb
                clear hbb
                go_simp
                refine hK.out _ _ (HXC.out _ HX2.out) (fun hS4 => ?_)
                clear hK K
                refine wpAnyH_ready (rs := [17]) (by kernel_rfl) (by simp) ?_
                refine AllReadyH.cons rfl (fun K hK => ?_) AllReadyH.nil
                have k1 := (Blk.new wr #[.float .f64 c] 139).below ((Below.refl _ (wr.alloc (.cells #[.float .f64 c] 139))).alloc (Nat.le_refl _) (.cells #[.float .f64 x] 139))
                have k2 := Blk.new (wr.alloc (.cells #[.float .f64 c] 139)) #[.float .f64 x] 139
                rw [World.size_alloc] at k2
                have HF2 : RF ((wr.alloc (.cells #[.float .f64 c] 139)).alloc (.cells #[.float .f64 x] 139)).drew (some ⟨wr.heap.size, 0, none⟩) _ := rf_one (show Blk ((wr.alloc (.cells #[.float .f64 c] 139)).alloc (.cells #[.float .f64 x] 139)).drew _ _ _ from k1) HCL.out
                have HF1 : RF ((wr.alloc (.cells #[.float .f64 c] 139)).alloc (.cells #[.float .f64 x] 139)).drew (some ⟨wr.heap.size + 1, 0, none⟩) _ := rf_one (show Blk ((wr.alloc (.cells #[.float .f64 c] 139)).alloc (.cells #[.float .f64 x] 139)).drew _ _ _ from k2) HXL.out
                clear k1 k2
                go_simp
                refine (KSX.out _ _ _ _ _ HF1 HF2).mono ?_
                rintro e w5 ⟨rfl, dn, rfl⟩
                have HX5 : Hid (Below w.heap.size w (World.drewN (((wr.alloc (.cells #[.float .f64 c] 139)).alloc (.cells #[.float .f64 x] 139)).drew) dn)) := Lib.hid (HX2.out.trans ⟨rfl, rfl, rfl, Nat.le_refl _, fun _ _ => rfl⟩)
                refine hK.out _ _ (HXC.out _ HX5.out) (fun hS5 => ?_)
                clear hK K
                refine' wpAnyH_take (i := 18) (v := _) rfl (by kernel_rfl) (by kernel_rfl) (by kernel_rfl) (fun _ _ _ h => h) (Or.inl ⟨by rfl, ?hym75⟩) hS5 ?restm75
                case hym75 => (intro w hSw; (try dsimp only at hSw); go_simp; try with_reducible rfl)
                simp only [Act.put, List.setIfInBounds_toArray, List.set_cons_zero, List.set_cons_succ, List.getElem_toArray, List.getElem_cons_zero, List.getElem_cons_succ]
                refine' wpAnyH_take (i := 19) (v := _) rfl (by kernel_rfl) (by kernel_rfl) (by kernel_rfl) (fun _ _ _ h => h) (Or.inl ⟨by rfl, ?hym76⟩) hS5 ?restm76
                case hym76 => (intro w hSw; (try dsimp only at hSw); go_simp; try with_reducible rfl)
                simp only [Act.put, List.setIfInBounds_toArray, List.set_cons_zero, List.set_cons_succ, List.getElem_toArray, List.getElem_cons_zero, List.getElem_cons_succ]
                refine wpAnyH_done (by kernel_rfl) ?_ _
                go_wp2_with fail
                obtain ⟨W5, hW5⟩ : ∃ W5, World.drewN (((wr.alloc (.cells #[.float .f64 c] 139)).alloc (.cells #[.float .f64 x] 139)).drew) dn = W5 := ⟨_, rfl⟩
                rw [hW5] at HX5 ⊢
                clear hW5
                have hx5 := HXC.out _ HX5.out
                have hy5 := HYC.out _ HX5.out
                go_quiet ((go_at_call 182; exact Calls.quiet_of_same (KP.out _)))
                go_wp2_with fail
                go_ret
                exact ⟨by rw [HF.out]; rfl, HX5.out.trans ⟨rfl, rfl, rfl, Nat.le_refl _, fun _ _ => rfl⟩⟩
    · obtain rfl : n = i := by omega
      have HF : Hid (R = true) := Lib.hid (by rw [HY.out HI.out]; exact decide_eq_true (by have := HNB.out; omega))
      go_wp2_with fail
      go_ret
      exact ⟨by rw [HF.out]; rfl, HB.out⟩
end Go.Proofs.Ytpekofpiodaadaa.Hb
end

section
/- The walks of ref28.bound and ref28.cuts. -/
namespace Go.Proofs.Ytpekofpiodaadaa.Hb
set_option linter.unusedVariables false
set_option linter.unusedSimpArgs false
open Go.RowKit

theorem bnd_is {kind den : Int} (h : 0 ≤ den ∧ den ≤ 1048576) : bndO kind den = if kind = 1 then den * 4398046511104 else den := by
  unfold bndO
  split
  · rw [wrapI_fst]; unfold wrap64; omega
  · rfl
theorem rbound28_any (kind den : Int) (hd : 0 ≤ den ∧ den ≤ 1048576) (w : World) : Calls Try.prog 75 #[.int .i64 kind, .int .i64 den] w (Says (.int .u64 (bndO kind den)) w) := by
  have hw : IntKind.u64.wrap den = den := by rw [IntKind.wrap_u64]; omega
  have hw2 : IntKind.u64.wrap (den * 4398046511104) = den * 4398046511104 := by rw [IntKind.wrap_u64]; omega
  rw [bnd_is hd]
  by_cases hk : kind = 1
  · have kb : (kind == 1) = true := beq_iff_eq.2 hk
    rw [if_pos hk]
    clear hk
    go_enter Try.func75, Try.ntmps75
    go_wp2_with fail
    go_ret
    exact ⟨rfl, rfl⟩
  · have kb : (kind == 1) = false := beq_eq_false_iff_ne.2 hk
    rw [if_neg hk]
    clear hk
    go_enter Try.func75, Try.ntmps75
    go_wp2_with fail
    go_ret
    exact ⟨rfl, rfl⟩
theorem rcuts28_any (b : Int) (es : List Nat) (A : Option Addr) (cap : Nat) (w : World) (hr : RF w A es) (hl : es.length ≤ 9223372036854775807) :
    Calls Try.prog 76 #[.slice A es.length cap, .int .i64 b] w fun e w' => e = .returned (.bool (cutsE b es)) ∧ Below w.heap.size w w' := by
  have KR := Lib.hid (rright10_any es A cap w hr hl)
  have HC : Hid (cutsE b es = (rightE es && decide ((es.length : Int) < b))) := Lib.hid rfl
  obtain ⟨n, hn⟩ : ∃ n, es.length = n := ⟨_, rfl⟩
  rw [hn] at KR HC ⊢
  obtain ⟨r, hre⟩ : ∃ r, rightE es = r := ⟨_, rfl⟩
  rw [hre] at KR HC
  obtain ⟨C, hC⟩ : ∃ r, cutsE b es = r := ⟨_, rfl⟩
  rw [hC] at HC ⊢
  clear hr hn hre hC hl
  cases r with
  | false =>
    go_enter Try.func76, Try.ntmps76
    go_wp2_with fail
    refine KR.out.mono ?_
    rintro e w1 ⟨rfl, hb⟩
    go_wp2_with fail
    go_ret
    exact ⟨by rw [HC.out]; rfl, hb⟩
  | true =>
    by_cases h : (n : Int) < b
    · have d1 : decide ((n : Int) < b) = true := decide_eq_true h
      have HC2 : Hid (C = true) := Lib.hid (by rw [HC.out, d1]; rfl)
      clear h
      go_enter Try.func76, Try.ntmps76
      go_wp2_with fail
      refine KR.out.mono ?_
      rintro e w1 ⟨rfl, hb⟩
      go_wp2_with fail
      go_ret
      exact ⟨by rw [HC2.out]; rfl, hb⟩
    · have d1 : decide ((n : Int) < b) = false := decide_eq_false h
      have HC2 : Hid (C = false) := Lib.hid (by rw [HC.out, d1]; rfl)
      clear h
      go_enter Try.func76, Try.ntmps76
      go_wp2_with fail
      refine KR.out.mono ?_
      rintro e w1 ⟨rfl, hb⟩
      go_wp2_with fail
      go_ret
      exact ⟨by rw [HC2.out]; rfl, hb⟩
end Go.Proofs.Ytpekofpiodaadaa.Hb
end

section
/- The walk of ref28.May. -/
namespace Go.Proofs.Ytpekofpiodaadaa.Hb
set_option linter.unusedVariables false
set_option linter.unusedSimpArgs false
open Go.RowKit

theorem dep_deep {cols bins kind classes : Int} {t : List Nd} (h : rightT cols bins kind classes t = true) : depO t = deepO t := by
  obtain ⟨hs, hne, ⟨ds, hd, he⟩, hm, ho⟩ := rightT_is h
  have hD : deepO t = maxO (depthsO t) := by unfold deepO; rw [hd]; rfl
  rw [hD]
  have hx : rightT 1024 256 0 256 t = true ∨ rightT 1024 256 1 0 t = true := by
    unfold mayS at hs
    rcases hs with ⟨c1, c2, b1, b2, ⟨rfl, k1, k2⟩ | ⟨rfl, rfl⟩⟩
    · left
      unfold rightT at h ⊢
      simp only [Bool.and_eq_true, decide_eq_true_eq, List.all_eq_true] at h ⊢
      refine ⟨by unfold mayS; omega, h.2.1, h.2.2.1, fun n hn => ?_⟩
      have := ho n hn
      unfold oneP at this ⊢
      split at this <;> rename_i hf
      · rw [if_pos hf]; simp only [if_true] at this ⊢; omega
      · rw [if_neg hf]; omega
    · right
      unfold rightT at h ⊢
      simp only [Bool.and_eq_true, decide_eq_true_eq, List.all_eq_true] at h ⊢
      refine ⟨by unfold mayS; omega, h.2.1, h.2.2.1, fun n hn => ?_⟩
      have := ho n hn
      unfold oneP at this ⊢
      split at this <;> rename_i hf
      · rw [if_pos hf]
        simp only [show ¬ (1 : Int) = 0 by decide, if_false] at this ⊢
        omega
      · rw [if_neg hf]; omega
  unfold depO
  rcases hx with hx | hx
  · rw [if_pos hx]
  · split
    · rfl
    · first | rfl | rw [if_pos hx]
theorem shk_iff {f : Fst} {x : Int × Int} (hd : 0 ≤ f.den ∧ f.den ≤ 1048576) : shkE f x = decide (x.2 = f.den ∧ (x.1.natAbs : Int) ≤ bndO f.k f.den) := by
  have hb : 0 ≤ bndO f.k f.den ∧ bndO f.k f.den ≤ 4611686018427387904 := by rw [bnd_is hd]; split <;> omega
  unfold shkE
  rw [Bool.eq_iff_iff]
  simp only [Bool.not_eq_true', Bool.or_eq_false_iff, decide_eq_false_iff_not, bne_eq_false_iff_eq, decide_eq_true_eq]
  have hw : IntKind.i64.wrap (-(bndO f.k f.den)) = -(bndO f.k f.den) := by rw [wrapI_fst]; unfold wrap64; omega
  rw [hw]
  omega
/-- What is asked ahead of all. -/
def hdD (f : Fst) : Prop := checkO f.k f.cl f.b f.t f.d f.l f.p = 0 ∧ 1 ≤ f.cols ∧ f.cols ≤ 1024 ∧ (f.edges.length : Int) = f.cols ∧ (f.shake.length : Int) = f.cols ∧ (f.trees.length : Int) = f.t
theorem mayF_iff (f : Fst) : mayF f = true ↔ hdD f ∧ outE f = true ∧ (∀ x ∈ f.edges, cutsE f.b x = true) ∧ (∀ x ∈ f.shake, shkE f x = true) ∧ ∀ t ∈ f.trees, treeE f t = true := by
  unfold mayF headE errsE hdD
  simp only [Bool.and_eq_true, beq_iff_eq, decide_eq_true_eq, List.all_eq_true]
  constructor
  · rintro ⟨⟨h1, ⟨h2, h3, h4, h5⟩, h6, h7, h8⟩, h9, h10⟩
    exact ⟨⟨h1, h2, h3, h4, h8, h5⟩, h6, h9, h7, h10⟩
  · rintro ⟨⟨h1, h2, h3, h4, h8, h5⟩, h6, h9, h7, h10⟩
    exact ⟨⟨h1, ⟨h2, h3, h4, h5⟩, h6, h7, h8⟩, h9, h10⟩
set_option maxRecDepth 100000 in
set_option maxHeartbeats 16000000 in
theorem rmay28_any (f : Fst) (Ae At As : Option Addr) (ce ct cs : Nat) (w : World) (hok : OkF f) (hr : RFo w f Ae At As) (hin : in64 f.num ∧ in64 f.den ∧ ∀ x ∈ f.shake, in64 x.1 ∧ in64 x.2) :
    Calls Try.prog 35 #[.agg (forA f Ae At As ce ct cs)] w fun e w' => e = .returned (.bool (mayF f)) ∧ Below w.heap.size w w' := by
  obtain ⟨R, hR⟩ : ∃ R, mayF f = R := ⟨_, rfl⟩
  have key := mayF_iff f
  rw [hR] at key ⊢
  have HN1 : Hid (¬ hdD f → R = false) := Lib.hid (fun h => by cases R with | false => rfl | true => exact absurd (key.1 rfl).1 h)
  have HN2 : Hid (outE f = false → R = false) := Lib.hid (fun h => by cases R with | false => rfl | true => rw [(key.1 rfl).2.1] at h; cases h)
  have HNE : Hid (∀ x ∈ f.edges, cutsE f.b x = false → R = false) := Lib.hid (fun x hx h => by cases R with | false => rfl | true => rw [(key.1 rfl).2.2.1 x hx] at h; cases h)
  have HNS : Hid (∀ x ∈ f.shake, shkE f x = false → R = false) := Lib.hid (fun x hx h => by cases R with | false => rfl | true => rw [(key.1 rfl).2.2.2.1 x hx] at h; cases h)
  have HNT : Hid (∀ x ∈ f.trees, treeE f x = false → R = false) := Lib.hid (fun x hx h => by cases R with | false => rfl | true => rw [(key.1 rfl).2.2.2.2 x hx] at h; cases h)
  have HYES := Lib.hid key.2
  have HR0 := Lib.hid hr
  have HOK := Lib.hid hok
  have HIN := Lib.hid hin
  unfold hdD at HN1 HYES
  have HOE : Hid (outE f = !(decide (f.den < 0) || (decide (1048576 < f.den) || (decide (f.num < 0) || decide (bndO f.k f.den < f.num))))) := Lib.hid rfl
  have HSHK := Lib.hid (fun (x : Int × Int) (h : 0 ≤ f.den ∧ f.den ≤ 1048576) => shk_iff (f := f) (x := x) h)
  have HTE : Hid (∀ t, treeE f t = (rightT f.cols f.b f.k f.cl t && decide (depO t ≤ f.d))) := Lib.hid (fun t => rfl)
  unfold forA
  obtain ⟨ne, hne⟩ : ∃ n, f.edges.length = n := ⟨_, rfl⟩
  obtain ⟨nt, hnt⟩ : ∃ n, f.trees.length = n := ⟨_, rfl⟩
  obtain ⟨ns, hns⟩ : ∃ n, f.shake.length = n := ⟨_, rfl⟩
  have lne := hok.le
  have lnt := hok.lt
  rw [hne] at lne
  rw [hnt] at lnt
  rw [hne, hnt, hns] at HN1 HYES ⊢
  have HLN := Lib.hid (And.intro hne (And.intro hnt hns))
  clear hne hnt hns hok hr hin hR key
  obtain ⟨k, cl, b, tt, d, l, p, cols, seed, edges, trees, num, den, shake⟩ := f
  simp only at HN1 HN2 HNE HNS HNT HYES HOE HSHK HTE HLN HIN ⊢
  have KCK := Lib.hid (fun w => rcheck_any k cl b tt d l p w)
  have KCU := Lib.hid (fun es A cap w hr hl => rcuts28_any b es A cap w hr hl)
  have KTR := Lib.hid (fun t A cap w hr hl => rtright_any cols b k cl t A cap w hr hl)
  have KDE := Lib.hid (fun t A cap w hr hl hf => rdeep_any t A cap w hr hl hf)
  obtain ⟨ck, hck⟩ : ∃ z, checkO k cl b tt d l p = z := ⟨_, rfl⟩
  rw [hck] at KCK HN1 HYES
  clear hck
  go_enter Try.func35, Try.ntmps35
  go_upto_region 2 with (fail)
  have kF0 := Blk.new w #[.int .i64 k, .int .i64 cl, .int .i64 b, .int .i64 tt, .int .i64 d, .int .i64 l, .int .i64 p, .int .i64 cols, .int .u64 (seed : Int), .slice Ae ne ce, .slice At nt ct, .int .i64 num, .int .i64 den, .slice As ns cs] 59
  have kC := Blk.new (w.alloc (.cells #[.int .i64 k, .int .i64 cl, .int .i64 b, .int .i64 tt, .int .i64 d, .int .i64 l, .int .i64 p, .int .i64 cols, .int .u64 (seed : Int), .slice Ae ne ce, .slice At nt ct, .int .i64 num, .int .i64 den, .slice As ns cs] 59)) #[.int .i64 k, .int .i64 cl, .int .i64 b, .int .i64 tt, .int .i64 d, .int .i64 l, .int .i64 p] 45
  rw [World.size_alloc] at kC
  have bb : Below (w.alloc (.cells #[.int .i64 k, .int .i64 cl, .int .i64 b, .int .i64 tt, .int .i64 d, .int .i64 l, .int .i64 p, .int .i64 cols, .int .u64 (seed : Int), .slice Ae ne ce, .slice At nt ct, .int .i64 num, .int .i64 den, .slice As ns cs] 59)).heap.size (w.alloc (.cells #[.int .i64 k, .int .i64 cl, .int .i64 b, .int .i64 tt, .int .i64 d, .int .i64 l, .int .i64 p, .int .i64 cols, .int .u64 (seed : Int), .slice Ae ne ce, .slice At nt ct, .int .i64 num, .int .i64 den, .slice As ns cs] 59)) ((w.alloc (.cells #[.int .i64 k, .int .i64 cl, .int .i64 b, .int .i64 tt, .int .i64 d, .int .i64 l, .int .i64 p, .int .i64 cols, .int .u64 (seed : Int), .slice Ae ne ce, .slice At nt ct, .int .i64 num, .int .i64 den, .slice As ns cs] 59)).alloc (.cells #[.int .i64 k, .int .i64 cl, .int .i64 b, .int .i64 tt, .int .i64 d, .int .i64 l, .int .i64 p] 45)) := (Below.refl _ _).alloc (Nat.le_refl _) _
  have HBE := Lib.hid (((Below.refl w.heap.size w).alloc (Nat.le_refl _) (.cells #[.int .i64 k, .int .i64 cl, .int .i64 b, .int .i64 tt, .int .i64 d, .int .i64 l, .int .i64 p, .int .i64 cols, .int .u64 (seed : Int), .slice Ae ne ce, .slice At nt ct, .int .i64 num, .int .i64 den, .slice As ns cs] 59)).alloc (by simp) (.cells #[.int .i64 k, .int .i64 cl, .int .i64 b, .int .i64 tt, .int .i64 d, .int .i64 l, .int .i64 p] 45))
  have kF := kF0.below bb
  obtain ⟨W, hW⟩ : ∃ W, (w.alloc (.cells #[.int .i64 k, .int .i64 cl, .int .i64 b, .int .i64 tt, .int .i64 d, .int .i64 l, .int .i64 p, .int .i64 cols, .int .u64 (seed : Int), .slice Ae ne ce, .slice At nt ct, .int .i64 num, .int .i64 den, .slice As ns cs] 59)).alloc (.cells #[.int .i64 k, .int .i64 cl, .int .i64 b, .int .i64 tt, .int .i64 d, .int .i64 l, .int .i64 p] 45) = W := ⟨_, rfl⟩
  rw [hW] at kF kC HBE ⊢
  obtain ⟨g1, hg1⟩ : ∃ z, w.heap.size + 1 = z := ⟨_, rfl⟩
  rw [hg1] at kC ⊢
  have HKF := Lib.hid (fun W' (hb : Below W.heap.size W W') => (kF.below hb).cells14)
  have HKC := Lib.hid (fun W' (hb : Below W.heap.size W W') => (show W'.cell? ⟨g1, 0, none⟩ = some (.int .i64 k) ∧ W'.cell? ⟨g1, 1, none⟩ = some (.int .i64 cl) ∧ W'.cell? ⟨g1, 2, none⟩ = some (.int .i64 b) ∧ W'.cell? ⟨g1, 3, none⟩ = some (.int .i64 tt) ∧ W'.cell? ⟨g1, 4, none⟩ = some (.int .i64 d) ∧ W'.cell? ⟨g1, 5, none⟩ = some (.int .i64 l) ∧ W'.cell? ⟨g1, 6, none⟩ = some (.int .i64 p) from ⟨(kC.below hb).cell 0, (kC.below hb).cell 1, (kC.below hb).cell 2, (kC.below hb).cell 3, (kC.below hb).cell 4, (kC.below hb).cell 5, (kC.below hb).cell 6⟩))
  have HRR := Lib.hid (fun W' (hb : Below W.heap.size W W') => HR0.out.below (HBE.out.trans (hb.mono HBE.out.size)))
  have HX0 := Lib.hid (Below.refl W.heap.size W)
  obtain ⟨c0, c1, c2, c3, c4, c5, c6⟩ := HKC.out _ HX0.out
  clear kF0 kF kC bb hW hg1 HR0
  go_wp2_with fail
  refine (KCK.out _).mono ?_
  rintro e w1 ⟨rfl, hb⟩
  have HX1 := Lib.hid (HX0.out.trans (hb.mono HX0.out.size))
  clear hb c0 c1 c2 c3 c4 c5 c6
  obtain ⟨c0, c1, c2, c3, c4, c5, c6⟩ := HKC.out _ HX1.out
  obtain ⟨q0, q1, q2, q3, q4, q5, q6, q7, q8, q9, q10, q11, q12, q13⟩ := HKF.out _ HX1.out
  by_cases h0 : ck = 0
  rotate_left
  · have HF : Hid (R = false) := Lib.hid (HN1.out (fun h => by omega))
    have e1 : ((ck : Int) == (0 : Int)) = false := beq_eq_false_iff_ne.2 (by omega)
    have e2 : ((ck : Int) != (0 : Int)) = true := bne_iff_ne.2 (by omega)
    go_wp2_with fail
    go_ret
    exact ⟨by rw [HF.out]; rfl, HBE.out.trans (HX1.out.mono HBE.out.size)⟩
  subst h0
  by_cases h1 : cols < 1
  · have HF : Hid (R = false) := Lib.hid (HN1.out (fun h => by omega))
    have d1 : decide (cols < 1) = true := decide_eq_true h1
    go_wp2_with fail
    go_ret
    exact ⟨by rw [HF.out]; rfl, HBE.out.trans (HX1.out.mono HBE.out.size)⟩
  have d1 : decide (cols < 1) = false := decide_eq_false h1
  by_cases h2 : 1024 < cols
  · have HF : Hid (R = false) := Lib.hid (HN1.out (fun h => by omega))
    have d2 : decide (1024 < cols) = true := decide_eq_true h2
    go_wp2_with fail
    go_ret
    exact ⟨by rw [HF.out]; rfl, HBE.out.trans (HX1.out.mono HBE.out.size)⟩
  have d2 : decide (1024 < cols) = false := decide_eq_false h2
  by_cases h3 : (ne : Int) = cols
  rotate_left
  · have HF : Hid (R = false) := Lib.hid (HN1.out (fun h => by omega))
    have e1 : ((ne : Int) == (cols : Int)) = false := beq_eq_false_iff_ne.2 (by omega)
    have e2 : ((ne : Int) != (cols : Int)) = true := bne_iff_ne.2 (by omega)
    go_wp2_with fail
    go_ret
    exact ⟨by rw [HF.out]; rfl, HBE.out.trans (HX1.out.mono HBE.out.size)⟩
  subst h3
  by_cases h4 : ns = ne
  rotate_left
  · have HF : Hid (R = false) := Lib.hid (HN1.out (fun h => by omega))
    have e1 : ((ns : Int) == (ne : Int)) = false := beq_eq_false_iff_ne.2 (by omega)
    have e2 : ((ns : Int) != (ne : Int)) = true := bne_iff_ne.2 (by omega)
    go_wp2_with fail
    go_ret
    exact ⟨by rw [HF.out]; rfl, HBE.out.trans (HX1.out.mono HBE.out.size)⟩
  obtain rfl : ne = ns := h4.symm
  by_cases h5 : (nt : Int) = tt
  rotate_left
  · have HF : Hid (R = false) := Lib.hid (HN1.out (fun h => by omega))
    have e1 : ((nt : Int) == (tt : Int)) = false := beq_eq_false_iff_ne.2 (by omega)
    have e2 : ((nt : Int) != (tt : Int)) = true := bne_iff_ne.2 (by omega)
    go_wp2_with fail
    go_ret
    exact ⟨by rw [HF.out]; rfl, HBE.out.trans (HX1.out.mono HBE.out.size)⟩
  subst h5
  have HH : Hid (outE _ = true → (∀ x ∈ edges, cutsE b x = true) → (∀ x ∈ shake, shkE _ x = true) → (∀ t ∈ trees, treeE _ t = true) → R = true) := Lib.hid (fun a1 a2 a3 a4 => HYES.out ⟨⟨rfl, by omega, by omega, rfl, rfl, rfl⟩, a1, a2, a3, a4⟩)
  have hc1024 : ne ≤ 1024 := by omega
  clear HN1 HYES
  go_wp2_with fail
  clear d1 d2 h1 h2
  obtain ⟨BD, hBD⟩ : ∃ z, bndO k den = z := ⟨_, rfl⟩
  rw [hBD] at HOE HSHK
  have HBD := Lib.hid hBD
  clear hBD
  by_cases o1 : den < 0
  · have a1 : decide (den < 0) = true := decide_eq_true o1
    have HF : Hid (R = false) := Lib.hid (HN2.out (by rw [HOE.out]; simp; omega))
    go_quiet (fail)
    go_wp2_with fail
    go_ret
    refine ⟨by rw [HF.out]; rfl, HBE.out.trans (Below.mono (Below.trans HX1.out ?_) HBE.out.size)⟩
    exact ⟨rfl, rfl, rfl, Nat.le_refl _, fun _ _ => rfl⟩
  have a1 : decide (den < 0) = false := decide_eq_false o1
  by_cases o2 : 1048576 < den
  · have a2 : decide (1048576 < den) = true := decide_eq_true o2
    have HF : Hid (R = false) := Lib.hid (HN2.out (by rw [HOE.out]; simp; omega))
    go_quiet (fail)
    go_wp2_with fail
    go_ret
    refine ⟨by rw [HF.out]; rfl, HBE.out.trans (Below.mono (Below.trans HX1.out ?_) HBE.out.size)⟩
    exact ⟨rfl, rfl, rfl, Nat.le_refl _, fun _ _ => rfl⟩
  have a2 : decide (1048576 < den) = false := decide_eq_false o2
  by_cases o3 : num < 0
  · have a3 : decide (num < 0) = true := decide_eq_true o3
    have HF : Hid (R = false) := Lib.hid (HN2.out (by rw [HOE.out]; simp; omega))
    go_quiet (fail)
    go_wp2_with fail
    go_ret
    refine ⟨by rw [HF.out]; rfl, HBE.out.trans (Below.mono (Below.trans HX1.out ?_) HBE.out.size)⟩
    exact ⟨rfl, rfl, rfl, Nat.le_refl _, fun _ _ => rfl⟩
  have a3 : decide (num < 0) = false := decide_eq_false o3
  have KBD := Lib.hid (fun w => rbound28_any k den (by omega) w)
  rw [HBD.out] at KBD
  have hnw : IntKind.u64.wrap num = num := by have := HIN.out.1; unfold in64 at this; rw [IntKind.wrap_u64]; omega
  by_cases o4 : BD < num
  · have a4 : decide (BD < num) = true := decide_eq_true o4
    have HF : Hid (R = false) := Lib.hid (HN2.out (by rw [HOE.out]; simp; omega))
    go_quiet ((go_at_call 75; exact Calls.quiet_of_same (KBD.out _)))
    go_wp2_with fail
    go_ret
    refine ⟨by rw [HF.out]; rfl, HBE.out.trans (Below.mono (Below.trans HX1.out ?_) HBE.out.size)⟩
    exact ⟨rfl, rfl, rfl, Nat.le_refl _, fun _ _ => rfl⟩
  have a4 : decide (BD < num) = false := decide_eq_false o4
  have HOT : Hid (outE _ = true) := Lib.hid (by rw [HOE.out]; simp; omega)
  go_quiet ((go_at_call 75; exact Calls.quiet_of_same (KBD.out _)))
  go_wp2_with fail
  have HX2 : Hid (Below W.heap.size W (World.drewN w1 nq)) := Lib.hid (HX1.out.trans ⟨rfl, rfl, rfl, Nat.le_refl _, fun _ _ => rfl⟩)
  have HDN := Lib.hid (show 0 ≤ den ∧ den ≤ 1048576 by omega)
  clear a1 a2 a3 a4 o1 o2 o3 o4 hnw q0 q1 q2 q3 q4 q5 q6 q7 q8 q9 q10 q11 q12 q13 c0 c1 c2 c3 c4 c5 c6
  go_loopw [4] (fun iv wr => ∃ j : Nat, j ≤ ne ∧ iv = .int .i64 j ∧ Hid ((∀ (i : Nat) x, i < j → edges[i]? = some x → cutsE b x = true) ∧ (∀ (i : Nat) x, i < j → shake[i]? = some x → x.2 = den ∧ (x.1.natAbs : Int) ≤ BD)) ∧ Hid (Below W.heap.size W wr)) (fun iv _ => ne - (intOf iv).toNat)
  case atStart => exact ⟨0, Nat.zero_le _, rfl, Lib.hid ⟨fun i x h => by omega, fun i x h => by omega⟩, HX2⟩
  case round =>
    obtain ⟨j, hj, rfl, HI, HX⟩ := hrel
    have q7 := (HKF.out _ HX.out).2.2.2.2.2.2.2.1
    by_cases hlt : j < ne
    · have hlt' : (j : Int) < ne := by omega
      obtain ⟨ade, rfl, es, Be, cap, h1, h2, _, _, h5⟩ := (HRR.out _ HX.out).re.at (i := j) (by have := HLN.out.1; simp only; omega)
      obtain ⟨ads, rfl, ⟨xn, xd⟩, g1', i1, i2, g2, g3⟩ := (HRR.out _ HX.out).rs.at (i := j) (by have := HLN.out.2.2; simp only; omega)
      simp only at h1 g1' i1 i2 g2 g3
      have HE1 := Lib.hid h1
      have HG1 := Lib.hid g1'
      have hlen := HOK.out.ee es (List.mem_of_getElem? h1)
      have HRF := Lib.hid (fun W' (hb : Below wr.heap.size wr W') => h5.below hb)
      have KCX := Lib.hid (fun W' hb => KCU.out es Be cap W' (HRF.out W' hb) (by omega))
      obtain ⟨m, hm⟩ : ∃ n, es.length = n := ⟨_, rfl⟩
      rw [hm] at h2 KCX
      obtain ⟨cu, hcu⟩ : ∃ z, cutsE b es = z := ⟨_, rfl⟩
      rw [hcu] at KCX
      have HCU := Lib.hid hcu
      have HSX := Lib.hid (HSHK.out (xn, xd) HDN.out)
      simp only at HSX
      have KSZ := Lib.hid (fun w => rsize_any xn (by unfold in64 at i1; unfold inR; omega) w)
      obtain ⟨na, hna⟩ : ∃ z, xn.natAbs = z := ⟨_, rfl⟩
      have hna' := hna
      rw [hna] at KSZ HSX
      have HALL := Lib.hid (fun W' hb => (HKF.out W' hb).elim fun x0 h => h.elim fun x1 h => h.elim fun x2 h => h.elim fun x3 h => h.elim fun x4 h => h.elim fun x5 h => h.elim fun x6 h => h.elim fun x7 h => h.elim fun x8 h => h.elim fun x9 h => h.elim fun x10 h => h.elim fun x11 h => h.elim fun x12 x13 => (HKC.out W' hb).elim fun y0 h => h.elim fun y1 h => h.elim fun y2 h => h.elim fun y3 h => h.elim fun y4 h => h.elim fun y5 y6 => And.intro x0 (And.intro x1 (And.intro x2 (And.intro x3 (And.intro x4 (And.intro x5 (And.intro x6 (And.intro x7 (And.intro x8 (And.intro x9 (And.intro x10 (And.intro x11 (And.intro x12 (And.intro x13 (And.intro y0 (And.intro y1 (And.intro y2 (And.intro y3 (And.intro y4 (And.intro y5 y6))))))))))))))))))))
      have HSS : Hid (∀ W', Below wr.heap.size wr W' → (fun W => W.cell? (ade.add j) = some (.slice Be m cap) ∧ W.cell? (ads.add (j * 2)) = some (.int .i64 xn) ∧ W.cell? ⟨(ads.add (j * 2)).block, (ads.add (j * 2)).off + 1, none⟩ = some (.int .i64 xd) ∧ W.cell? ⟨w.heap.size, 0, none⟩ = some (.int .i64 k) ∧ W.cell? ⟨w.heap.size, 1, none⟩ = some (.int .i64 cl) ∧ W.cell? ⟨w.heap.size, 2, none⟩ = some (.int .i64 b) ∧ W.cell? ⟨w.heap.size, 3, none⟩ = some (.int .i64 (nt : Int)) ∧ W.cell? ⟨w.heap.size, 4, none⟩ = some (.int .i64 d) ∧ W.cell? ⟨w.heap.size, 5, none⟩ = some (.int .i64 l) ∧ W.cell? ⟨w.heap.size, 6, none⟩ = some (.int .i64 p) ∧ W.cell? ⟨w.heap.size, 7, none⟩ = some (.int .i64 (ne : Int)) ∧ W.cell? ⟨w.heap.size, 8, none⟩ = some (.int .u64 (seed : Int)) ∧ W.cell? ⟨w.heap.size, 9, none⟩ = some (.slice (some ade) ne ce) ∧ W.cell? ⟨w.heap.size, 10, none⟩ = some (.slice At nt ct) ∧ W.cell? ⟨w.heap.size, 11, none⟩ = some (.int .i64 num) ∧ W.cell? ⟨w.heap.size, 12, none⟩ = some (.int .i64 den) ∧ W.cell? ⟨w.heap.size, 13, none⟩ = some (.slice (some ads) ne cs) ∧ W.cell? ⟨g1, 0, none⟩ = some (.int .i64 k) ∧ W.cell? ⟨g1, 1, none⟩ = some (.int .i64 cl) ∧ W.cell? ⟨g1, 2, none⟩ = some (.int .i64 b) ∧ W.cell? ⟨g1, 3, none⟩ = some (.int .i64 (nt : Int)) ∧ W.cell? ⟨g1, 4, none⟩ = some (.int .i64 d) ∧ W.cell? ⟨g1, 5, none⟩ = some (.int .i64 l) ∧ W.cell? ⟨g1, 6, none⟩ = some (.int .i64 p)) W') := Lib.hid (fun W' hb => ⟨(hb.cell (World.block_lt_of_cell? wr _ h2)).trans h2, (hb.cell (World.block_lt_of_cell? wr _ g2)).trans g2, (hb.cell (World.block_lt_of_cell? wr _ g3)).trans g3, HALL.out W' (HX.out.trans (hb.mono HX.out.size))⟩)
      have HY0 := Lib.hid ((Below.refl wr.heap.size wr).drew)
      clear h1 g1' h5 hm hcu hna i2 HALL
      go_upto_region 9 with (fail)
      refine wp_region_held_drew (S := (fun W => W.cell? (ade.add j) = some (.slice Be m cap) ∧ W.cell? (ads.add (j * 2)) = some (.int .i64 xn) ∧ W.cell? ⟨(ads.add (j * 2)).block, (ads.add (j * 2)).off + 1, none⟩ = some (.int .i64 xd) ∧ W.cell? ⟨w.heap.size, 0, none⟩ = some (.int .i64 k) ∧ W.cell? ⟨w.heap.size, 1, none⟩ = some (.int .i64 cl) ∧ W.cell? ⟨w.heap.size, 2, none⟩ = some (.int .i64 b) ∧ W.cell? ⟨w.heap.size, 3, none⟩ = some (.int .i64 (nt : Int)) ∧ W.cell? ⟨w.heap.size, 4, none⟩ = some (.int .i64 d) ∧ W.cell? ⟨w.heap.size, 5, none⟩ = some (.int .i64 l) ∧ W.cell? ⟨w.heap.size, 6, none⟩ = some (.int .i64 p) ∧ W.cell? ⟨w.heap.size, 7, none⟩ = some (.int .i64 (ne : Int)) ∧ W.cell? ⟨w.heap.size, 8, none⟩ = some (.int .u64 (seed : Int)) ∧ W.cell? ⟨w.heap.size, 9, none⟩ = some (.slice (some ade) ne ce) ∧ W.cell? ⟨w.heap.size, 10, none⟩ = some (.slice At nt ct) ∧ W.cell? ⟨w.heap.size, 11, none⟩ = some (.int .i64 num) ∧ W.cell? ⟨w.heap.size, 12, none⟩ = some (.int .i64 den) ∧ W.cell? ⟨w.heap.size, 13, none⟩ = some (.slice (some ads) ne cs) ∧ W.cell? ⟨g1, 0, none⟩ = some (.int .i64 k) ∧ W.cell? ⟨g1, 1, none⟩ = some (.int .i64 cl) ∧ W.cell? ⟨g1, 2, none⟩ = some (.int .i64 b) ∧ W.cell? ⟨g1, 3, none⟩ = some (.int .i64 (nt : Int)) ∧ W.cell? ⟨g1, 4, none⟩ = some (.int .i64 d) ∧ W.cell? ⟨g1, 5, none⟩ = some (.int .i64 l) ∧ W.cell? ⟨g1, 6, none⟩ = some (.int .i64 p))) (by kernel_rfl) ?_ (fun hS0 => ?_)
      · exact HSS.out _ HY0.out
      clear h2 g2 g3 q7
      refine' wpAnyH_take (i := 0) (v := _) rfl (by kernel_rfl) (by kernel_rfl) (by kernel_rfl) (fun _ _ _ h => h) (Or.inl ⟨by rfl, ?hym1⟩) hS0 ?restm1
      case hym1 => (intro w hSw; (try dsimp only at hSw); go_simp; try with_reducible rfl)
      simp only [Act.put, List.setIfInBounds_toArray, List.set_cons_zero, List.set_cons_succ, List.getElem_toArray, List.getElem_cons_zero, List.getElem_cons_succ]
      refine' wpAnyH_take (i := 1) (v := _) rfl (by kernel_rfl) (by kernel_rfl) (by kernel_rfl) (fun _ _ _ h => h) (Or.inl ⟨by rfl, ?hym2⟩) hS0 ?restm2
      case hym2 => (intro w hSw; (try dsimp only at hSw); go_simp; try with_reducible rfl)
      simp only [Act.put, List.setIfInBounds_toArray, List.set_cons_zero, List.set_cons_succ, List.getElem_toArray, List.getElem_cons_zero, List.getElem_cons_succ]
      refine' wpAnyH_take (i := 2) (v := _) rfl (by kernel_rfl) (by kernel_rfl) (by kernel_rfl) (fun _ _ _ h => h) (Or.inl ⟨by rfl, ?hym3⟩) hS0 ?restm3
      case hym3 => (intro w hSw; (try dsimp only at hSw); go_simp; try with_reducible rfl)
      simp only [Act.put, List.setIfInBounds_toArray, List.set_cons_zero, List.set_cons_succ, List.getElem_toArray, List.getElem_cons_zero, List.getElem_cons_succ]
      refine' wpAnyH_take (i := 3) (v := _) rfl (by kernel_rfl) (by kernel_rfl) (by kernel_rfl) (fun _ _ _ h => h) (Or.inl ⟨by rfl, ?hym4⟩) hS0 ?restm4
      case hym4 => (intro w hSw; (try dsimp only at hSw); go_simp; try with_reducible rfl)
      simp only [Act.put, List.setIfInBounds_toArray, List.set_cons_zero, List.set_cons_succ, List.getElem_toArray, List.getElem_cons_zero, List.getElem_cons_succ]
      refine' wpAnyH_take (i := 4) (v := _) rfl (by kernel_rfl) (by kernel_rfl) (by kernel_rfl) (fun _ _ _ h => h) (Or.inl ⟨by rfl, ?hym5⟩) hS0 ?restm5
      case hym5 => (intro w hSw; (try dsimp only at hSw); go_simp; try with_reducible rfl)
      simp only [Act.put, List.setIfInBounds_toArray, List.set_cons_zero, List.set_cons_succ, List.getElem_toArray, List.getElem_cons_zero, List.getElem_cons_succ]
      refine' wpAnyH_take (i := 5) (v := _) rfl (by kernel_rfl) (by kernel_rfl) (by kernel_rfl) (fun _ _ _ h => h) (Or.inl ⟨by rfl, ?hym6⟩) hS0 ?restm6
      case hym6 => (intro w hSw; (try dsimp only at hSw); go_simp; try with_reducible rfl)
      simp only [Act.put, List.setIfInBounds_toArray, List.set_cons_zero, List.set_cons_succ, List.getElem_toArray, List.getElem_cons_zero, List.getElem_cons_succ]
      refine' wpAnyH_take (i := 6) (v := _) rfl (by kernel_rfl) (by kernel_rfl) (by kernel_rfl) (fun _ _ _ h => h) (Or.inl ⟨by rfl, ?hym7⟩) hS0 ?restm7
      case hym7 => (intro w hSw; (try dsimp only at hSw); go_simp; try with_reducible rfl)
      simp only [Act.put, List.setIfInBounds_toArray, List.set_cons_zero, List.set_cons_succ, List.getElem_toArray, List.getElem_cons_zero, List.getElem_cons_succ]
      refine wpAnyH_ready (rs := [7]) (by kernel_rfl) (by simp) ?_
      refine AllReadyH.cons rfl (fun K hK => ?_) AllReadyH.nil
      go_simp
      refine (KCX.out _ HY0.out).mono ?_
      rintro e wq1 ⟨rfl, hb⟩
      have HY1 := Lib.hid (HY0.out.trans (hb.mono HY0.out.size))
      clear hb
      refine hK.out _ _ (HSS.out _ HY1.out) (fun hS1 => ?_)
      clear hK K
      refine' wpAnyH_take (i := 8) (v := _) rfl (by kernel_rfl) (by kernel_rfl) (by kernel_rfl) (fun _ _ _ h => h) (Or.inl ⟨by rfl, ?hym8⟩) hS1 ?restm8
      case hym8 => (intro w hSw; (try dsimp only at hSw); go_simp; try with_reducible rfl)
      simp only [Act.put, List.setIfInBounds_toArray, List.set_cons_zero, List.set_cons_succ, List.getElem_toArray, List.getElem_cons_zero, List.getElem_cons_succ]
      cases cu with
      | false =>
        refine' wpAnyH_take (i := 9) (v := _) rfl (by kernel_rfl) (by kernel_rfl) (by kernel_rfl) (fun _ _ _ h => h) (Or.inl ⟨by rfl, ?hym9⟩) hS1 ?restm9
        case hym9 => (intro w hSw; (try dsimp only at hSw); go_simp; try with_reducible rfl)
        simp only [Act.put, List.setIfInBounds_toArray, List.set_cons_zero, List.set_cons_succ, List.getElem_toArray, List.getElem_cons_zero, List.getElem_cons_succ]
        refine' wpAnyH_take (i := 10) (v := _) rfl (by kernel_rfl) (by kernel_rfl) (by kernel_rfl) (fun _ _ _ h => h) (Or.inr ⟨by rfl, rfl⟩) hS1 ?restm10
        simp only [Act.put, List.setIfInBounds_toArray, List.set_cons_zero, List.set_cons_succ, List.getElem_toArray, List.getElem_cons_zero, List.getElem_cons_succ]
        refine' wpAnyH_take (i := 11) (v := _) rfl (by kernel_rfl) (by kernel_rfl) (by kernel_rfl) (fun _ _ _ h => h) (Or.inr ⟨by rfl, rfl⟩) hS1 ?restm11
        simp only [Act.put, List.setIfInBounds_toArray, List.set_cons_zero, List.set_cons_succ, List.getElem_toArray, List.getElem_cons_zero, List.getElem_cons_succ]
        refine' wpAnyH_take (i := 12) (v := _) rfl (by kernel_rfl) (by kernel_rfl) (by kernel_rfl) (fun _ _ _ h => h) (Or.inr ⟨by rfl, rfl⟩) hS1 ?restm12
        simp only [Act.put, List.setIfInBounds_toArray, List.set_cons_zero, List.set_cons_succ, List.getElem_toArray, List.getElem_cons_zero, List.getElem_cons_succ]
        refine' wpAnyH_take (i := 13) (v := _) rfl (by kernel_rfl) (by kernel_rfl) (by kernel_rfl) (fun _ _ _ h => h) (Or.inr ⟨by rfl, rfl⟩) hS1 ?restm13
        simp only [Act.put, List.setIfInBounds_toArray, List.set_cons_zero, List.set_cons_succ, List.getElem_toArray, List.getElem_cons_zero, List.getElem_cons_succ]
        refine' wpAnyH_take (i := 14) (v := _) rfl (by kernel_rfl) (by kernel_rfl) (by kernel_rfl) (fun _ _ _ h => h) (Or.inr ⟨by rfl, rfl⟩) hS1 ?restm14
        simp only [Act.put, List.setIfInBounds_toArray, List.set_cons_zero, List.set_cons_succ, List.getElem_toArray, List.getElem_cons_zero, List.getElem_cons_succ]
        refine' wpAnyH_take (i := 15) (v := _) rfl (by kernel_rfl) (by kernel_rfl) (by kernel_rfl) (fun _ _ _ h => h) (Or.inr ⟨by rfl, rfl⟩) hS1 ?restm15
        simp only [Act.put, List.setIfInBounds_toArray, List.set_cons_zero, List.set_cons_succ, List.getElem_toArray, List.getElem_cons_zero, List.getElem_cons_succ]
        refine' wpAnyH_take (i := 16) (v := _) rfl (by kernel_rfl) (by kernel_rfl) (by kernel_rfl) (fun _ _ _ h => h) (Or.inr ⟨by rfl, rfl⟩) hS1 ?restm16
        simp only [Act.put, List.setIfInBounds_toArray, List.set_cons_zero, List.set_cons_succ, List.getElem_toArray, List.getElem_cons_zero, List.getElem_cons_succ]
        refine' wpAnyH_take (i := 17) (v := _) rfl (by kernel_rfl) (by kernel_rfl) (by kernel_rfl) (fun _ _ _ h => h) (Or.inr ⟨by rfl, rfl⟩) hS1 ?restm17
        simp only [Act.put, List.setIfInBounds_toArray, List.set_cons_zero, List.set_cons_succ, List.getElem_toArray, List.getElem_cons_zero, List.getElem_cons_succ]
        refine' wpAnyH_take (i := 18) (v := _) rfl (by kernel_rfl) (by kernel_rfl) (by kernel_rfl) (fun _ _ _ h => h) (Or.inr ⟨by rfl, rfl⟩) hS1 ?restm18
        simp only [Act.put, List.setIfInBounds_toArray, List.set_cons_zero, List.set_cons_succ, List.getElem_toArray, List.getElem_cons_zero, List.getElem_cons_succ]
        refine' wpAnyH_take (i := 19) (v := _) rfl (by kernel_rfl) (by kernel_rfl) (by kernel_rfl) (fun _ _ _ h => h) (Or.inr ⟨by rfl, rfl⟩) hS1 ?restm19
        simp only [Act.put, List.setIfInBounds_toArray, List.set_cons_zero, List.set_cons_succ, List.getElem_toArray, List.getElem_cons_zero, List.getElem_cons_succ]
        refine' wpAnyH_take (i := 20) (v := _) rfl (by kernel_rfl) (by kernel_rfl) (by kernel_rfl) (fun _ _ _ h => h) (Or.inl ⟨by rfl, ?hym20⟩) hS1 ?restm20
        case hym20 => (intro w hSw; (try dsimp only at hSw); go_simp; try with_reducible rfl)
        simp only [Act.put, List.setIfInBounds_toArray, List.set_cons_zero, List.set_cons_succ, List.getElem_toArray, List.getElem_cons_zero, List.getElem_cons_succ]
        refine' wpAnyH_take (i := 21) (v := _) rfl (by kernel_rfl) (by kernel_rfl) (by kernel_rfl) (fun _ _ _ h => h) (Or.inl ⟨by rfl, ?hym21⟩) hS1 ?restm21
        case hym21 => (intro w hSw; (try dsimp only at hSw); go_simp; try with_reducible rfl)
        simp only [Act.put, List.setIfInBounds_toArray, List.set_cons_zero, List.set_cons_succ, List.getElem_toArray, List.getElem_cons_zero, List.getElem_cons_succ]
        refine' wpAnyH_take (i := 22) (v := _) rfl (by kernel_rfl) (by kernel_rfl) (by kernel_rfl) (fun _ _ _ h => h) (Or.inr ⟨by rfl, rfl⟩) hS1 ?restm22
        simp only [Act.put, List.setIfInBounds_toArray, List.set_cons_zero, List.set_cons_succ, List.getElem_toArray, List.getElem_cons_zero, List.getElem_cons_succ]
        refine' wpAnyH_take (i := 23) (v := _) rfl (by kernel_rfl) (by kernel_rfl) (by kernel_rfl) (fun _ _ _ h => h) (Or.inr ⟨by rfl, rfl⟩) hS1 ?restm23
        simp only [Act.put, List.setIfInBounds_toArray, List.set_cons_zero, List.set_cons_succ, List.getElem_toArray, List.getElem_cons_zero, List.getElem_cons_succ]
        refine' wpAnyH_take (i := 24) (v := _) rfl (by kernel_rfl) (by kernel_rfl) (by kernel_rfl) (fun _ _ _ h => h) (Or.inr ⟨by rfl, rfl⟩) hS1 ?restm24
        simp only [Act.put, List.setIfInBounds_toArray, List.set_cons_zero, List.set_cons_succ, List.getElem_toArray, List.getElem_cons_zero, List.getElem_cons_succ]
        refine' wpAnyH_take (i := 25) (v := _) rfl (by kernel_rfl) (by kernel_rfl) (by kernel_rfl) (fun _ _ _ h => h) (Or.inr ⟨by rfl, rfl⟩) hS1 ?restm25
        simp only [Act.put, List.setIfInBounds_toArray, List.set_cons_zero, List.set_cons_succ, List.getElem_toArray, List.getElem_cons_zero, List.getElem_cons_succ]
        refine' wpAnyH_take (i := 26) (v := _) rfl (by kernel_rfl) (by kernel_rfl) (by kernel_rfl) (fun _ _ _ h => h) (Or.inr ⟨by rfl, rfl⟩) hS1 ?restm26
        simp only [Act.put, List.setIfInBounds_toArray, List.set_cons_zero, List.set_cons_succ, List.getElem_toArray, List.getElem_cons_zero, List.getElem_cons_succ]
        refine' wpAnyH_take (i := 27) (v := _) rfl (by kernel_rfl) (by kernel_rfl) (by kernel_rfl) (fun _ _ _ h => h) (Or.inr ⟨by rfl, rfl⟩) hS1 ?restm27
        simp only [Act.put, List.setIfInBounds_toArray, List.set_cons_zero, List.set_cons_succ, List.getElem_toArray, List.getElem_cons_zero, List.getElem_cons_succ]
        refine' wpAnyH_take (i := 28) (v := _) rfl (by kernel_rfl) (by kernel_rfl) (by kernel_rfl) (fun _ _ _ h => h) (Or.inr ⟨by rfl, rfl⟩) hS1 ?restm28
        simp only [Act.put, List.setIfInBounds_toArray, List.set_cons_zero, List.set_cons_succ, List.getElem_toArray, List.getElem_cons_zero, List.getElem_cons_succ]
        refine' wpAnyH_take (i := 29) (v := _) rfl (by kernel_rfl) (by kernel_rfl) (by kernel_rfl) (fun _ _ _ h => h) (Or.inr ⟨by rfl, rfl⟩) hS1 ?restm29
        simp only [Act.put, List.setIfInBounds_toArray, List.set_cons_zero, List.set_cons_succ, List.getElem_toArray, List.getElem_cons_zero, List.getElem_cons_succ]
        refine' wpAnyH_take (i := 30) (v := _) rfl (by kernel_rfl) (by kernel_rfl) (by kernel_rfl) (fun _ _ _ h => h) (Or.inr ⟨by rfl, rfl⟩) hS1 ?restm30
        simp only [Act.put, List.setIfInBounds_toArray, List.set_cons_zero, List.set_cons_succ, List.getElem_toArray, List.getElem_cons_zero, List.getElem_cons_succ]
        refine' wpAnyH_take (i := 31) (v := _) rfl (by kernel_rfl) (by kernel_rfl) (by kernel_rfl) (fun _ _ _ h => h) (Or.inr ⟨by rfl, rfl⟩) hS1 ?restm31
        simp only [Act.put, List.setIfInBounds_toArray, List.set_cons_zero, List.set_cons_succ, List.getElem_toArray, List.getElem_cons_zero, List.getElem_cons_succ]
        refine' wpAnyH_take (i := 32) (v := _) rfl (by kernel_rfl) (by kernel_rfl) (by kernel_rfl) (fun _ _ _ h => h) (Or.inr ⟨by rfl, rfl⟩) hS1 ?restm32
        simp only [Act.put, List.setIfInBounds_toArray, List.set_cons_zero, List.set_cons_succ, List.getElem_toArray, List.getElem_cons_zero, List.getElem_cons_succ]
        refine' wpAnyH_take (i := 33) (v := _) rfl (by kernel_rfl) (by kernel_rfl) (by kernel_rfl) (fun _ _ _ h => h) (Or.inr ⟨by rfl, rfl⟩) hS1 ?restm33
        simp only [Act.put, List.setIfInBounds_toArray, List.set_cons_zero, List.set_cons_succ, List.getElem_toArray, List.getElem_cons_zero, List.getElem_cons_succ]
        refine' wpAnyH_take (i := 34) (v := _) rfl (by kernel_rfl) (by kernel_rfl) (by kernel_rfl) (fun _ _ _ h => h) (Or.inr ⟨by rfl, rfl⟩) hS1 ?restm34
        simp only [Act.put, List.setIfInBounds_toArray, List.set_cons_zero, List.set_cons_succ, List.getElem_toArray, List.getElem_cons_zero, List.getElem_cons_succ]
        refine' wpAnyH_take (i := 35) (v := _) rfl (by kernel_rfl) (by kernel_rfl) (by kernel_rfl) (fun _ _ _ h => h) (Or.inr ⟨by rfl, rfl⟩) hS1 ?restm35
        simp only [Act.put, List.setIfInBounds_toArray, List.set_cons_zero, List.set_cons_succ, List.getElem_toArray, List.getElem_cons_zero, List.getElem_cons_succ]
        refine' wpAnyH_take (i := 36) (v := _) rfl (by kernel_rfl) (by kernel_rfl) (by kernel_rfl) (fun _ _ _ h => h) (Or.inl ⟨by rfl, ?hym36⟩) hS1 ?restm36
        case hym36 => (intro w hSw; (try dsimp only at hSw); go_simp; try with_reducible rfl)
        simp only [Act.put, List.setIfInBounds_toArray, List.set_cons_zero, List.set_cons_succ, List.getElem_toArray, List.getElem_cons_zero, List.getElem_cons_succ]
        have HF := Lib.hid (HNE.out es (List.mem_of_getElem? HE1.out) HCU.out)
        refine wpAnyH_done (by kernel_rfl) ?_ _
        go_wp2_with fail
        go_ret
        exact ⟨by rw [HF.out]; rfl, HBE.out.trans ((HX.out.trans (HY1.out.mono HX.out.size)).mono HBE.out.size)⟩
      | true =>
        refine' wpAnyH_take (i := 9) (v := _) rfl (by kernel_rfl) (by kernel_rfl) (by kernel_rfl) (fun _ _ _ h => h) (Or.inl ⟨by rfl, ?hym37⟩) hS1 ?restm37
        case hym37 => (intro w hSw; (try dsimp only at hSw); go_simp; try with_reducible rfl)
        simp only [Act.put, List.setIfInBounds_toArray, List.set_cons_zero, List.set_cons_succ, List.getElem_toArray, List.getElem_cons_zero, List.getElem_cons_succ]
        refine' wpAnyH_take (i := 10) (v := _) rfl (by kernel_rfl) (by kernel_rfl) (by kernel_rfl) (fun _ _ _ h => h) (Or.inl ⟨by rfl, ?hym38⟩) hS1 ?restm38
        case hym38 => (intro w hSw; (try dsimp only at hSw); go_simp; try with_reducible rfl)
        simp only [Act.put, List.setIfInBounds_toArray, List.set_cons_zero, List.set_cons_succ, List.getElem_toArray, List.getElem_cons_zero, List.getElem_cons_succ]
        refine' wpAnyH_take (i := 11) (v := _) rfl (by kernel_rfl) (by kernel_rfl) (by kernel_rfl) (fun _ _ _ h => h) (Or.inl ⟨by rfl, ?hym39⟩) hS1 ?restm39
        case hym39 => (intro w hSw; (try dsimp only at hSw); go_simp; try with_reducible rfl)
        simp only [Act.put, List.setIfInBounds_toArray, List.set_cons_zero, List.set_cons_succ, List.getElem_toArray, List.getElem_cons_zero, List.getElem_cons_succ]
        refine' wpAnyH_take (i := 12) (v := _) rfl (by kernel_rfl) (by kernel_rfl) (by kernel_rfl) (fun _ _ _ h => h) (Or.inl ⟨by rfl, ?hym40⟩) hS1 ?restm40
        case hym40 => (intro w hSw; (try dsimp only at hSw); go_simp; try with_reducible rfl)
        simp only [Act.put, List.setIfInBounds_toArray, List.set_cons_zero, List.set_cons_succ, List.getElem_toArray, List.getElem_cons_zero, List.getElem_cons_succ]
        refine' wpAnyH_take (i := 13) (v := _) rfl (by kernel_rfl) (by kernel_rfl) (by kernel_rfl) (fun _ _ _ h => h) (Or.inl ⟨by rfl, ?hym41⟩) hS1 ?restm41
        case hym41 => (intro w hSw; (try dsimp only at hSw); go_simp; try with_reducible rfl)
        simp only [Act.put, List.setIfInBounds_toArray, List.set_cons_zero, List.set_cons_succ, List.getElem_toArray, List.getElem_cons_zero, List.getElem_cons_succ]
        refine' wpAnyH_take (i := 14) (v := _) rfl (by kernel_rfl) (by kernel_rfl) (by kernel_rfl) (fun _ _ _ h => h) (Or.inl ⟨by rfl, ?hym42⟩) hS1 ?restm42
        case hym42 => (intro w hSw; (try dsimp only at hSw); go_simp; try with_reducible rfl)
        simp only [Act.put, List.setIfInBounds_toArray, List.set_cons_zero, List.set_cons_succ, List.getElem_toArray, List.getElem_cons_zero, List.getElem_cons_succ]
        refine' wpAnyH_take (i := 15) (v := _) rfl (by kernel_rfl) (by kernel_rfl) (by kernel_rfl) (fun _ _ _ h => h) (Or.inl ⟨by rfl, ?hym43⟩) hS1 ?restm43
        case hym43 => (intro w hSw; (try dsimp only at hSw); go_simp; try with_reducible rfl)
        simp only [Act.put, List.setIfInBounds_toArray, List.set_cons_zero, List.set_cons_succ, List.getElem_toArray, List.getElem_cons_zero, List.getElem_cons_succ]
        refine' wpAnyH_take (i := 16) (v := _) rfl (by kernel_rfl) (by kernel_rfl) (by kernel_rfl) (fun _ _ _ h => h) (Or.inl ⟨by rfl, ?hym44⟩) hS1 ?restm44
        case hym44 => (intro w hSw; (try dsimp only at hSw); go_simp; try with_reducible rfl)
        simp only [Act.put, List.setIfInBounds_toArray, List.set_cons_zero, List.set_cons_succ, List.getElem_toArray, List.getElem_cons_zero, List.getElem_cons_succ]
        refine' wpAnyH_take (i := 17) (v := _) rfl (by kernel_rfl) (by kernel_rfl) (by kernel_rfl) (fun _ _ _ h => h) (Or.inl ⟨by rfl, ?hym45⟩) hS1 ?restm45
        case hym45 => (intro w hSw; (try dsimp only at hSw); go_simp; try with_reducible rfl)
        simp only [Act.put, List.setIfInBounds_toArray, List.set_cons_zero, List.set_cons_succ, List.getElem_toArray, List.getElem_cons_zero, List.getElem_cons_succ]
        refine' wpAnyH_take (i := 18) (v := _) rfl (by kernel_rfl) (by kernel_rfl) (by kernel_rfl) (fun _ _ _ h => h) (Or.inl ⟨by rfl, ?hym46⟩) hS1 ?restm46
        case hym46 => (intro w hSw; (try dsimp only at hSw); go_simp; try with_reducible rfl)
        simp only [Act.put, List.setIfInBounds_toArray, List.set_cons_zero, List.set_cons_succ, List.getElem_toArray, List.getElem_cons_zero, List.getElem_cons_succ]
        by_cases hd : xd = den
        rotate_left
        · have e1 : (xd == den) = false := beq_eq_false_iff_ne.2 hd
          have e2 : (xd != den) = true := bne_iff_ne.2 hd
          have HF : Hid (R = false) := Lib.hid (HNS.out (xn, xd) (List.mem_of_getElem? HG1.out) (by rw [HSX.out]; exact decide_eq_false (fun h => hd h.1)))
          refine' wpAnyH_take (i := 19) (v := _) rfl (by kernel_rfl) (by kernel_rfl) (by kernel_rfl) (fun _ _ _ h => h) (Or.inl ⟨by rfl, ?hym47⟩) hS1 ?restm47
          case hym47 => (intro w hSw; (try dsimp only at hSw); go_simp; try with_reducible rfl)
          simp only [Act.put, List.setIfInBounds_toArray, List.set_cons_zero, List.set_cons_succ, List.getElem_toArray, List.getElem_cons_zero, List.getElem_cons_succ]
          refine' wpAnyH_take (i := 20) (v := _) rfl (by kernel_rfl) (by kernel_rfl) (by kernel_rfl) (fun _ _ _ h => h) (Or.inl ⟨by rfl, ?hym48⟩) hS1 ?restm48
          case hym48 => (intro w hSw; (try dsimp only at hSw); go_simp; try with_reducible rfl)
          simp only [Act.put, List.setIfInBounds_toArray, List.set_cons_zero, List.set_cons_succ, List.getElem_toArray, List.getElem_cons_zero, List.getElem_cons_succ]
          refine' wpAnyH_take (i := 21) (v := _) rfl (by kernel_rfl) (by kernel_rfl) (by kernel_rfl) (fun _ _ _ h => h) (Or.inl ⟨by rfl, ?hym49⟩) hS1 ?restm49
          case hym49 => (intro w hSw; (try dsimp only at hSw); go_simp; try with_reducible rfl)
          simp only [Act.put, List.setIfInBounds_toArray, List.set_cons_zero, List.set_cons_succ, List.getElem_toArray, List.getElem_cons_zero, List.getElem_cons_succ]
          refine' wpAnyH_take (i := 22) (v := _) rfl (by kernel_rfl) (by kernel_rfl) (by kernel_rfl) (fun _ _ _ h => h) (Or.inr ⟨by rfl, rfl⟩) hS1 ?restm50
          simp only [Act.put, List.setIfInBounds_toArray, List.set_cons_zero, List.set_cons_succ, List.getElem_toArray, List.getElem_cons_zero, List.getElem_cons_succ]
          refine' wpAnyH_take (i := 23) (v := _) rfl (by kernel_rfl) (by kernel_rfl) (by kernel_rfl) (fun _ _ _ h => h) (Or.inr ⟨by rfl, rfl⟩) hS1 ?restm51
          simp only [Act.put, List.setIfInBounds_toArray, List.set_cons_zero, List.set_cons_succ, List.getElem_toArray, List.getElem_cons_zero, List.getElem_cons_succ]
          refine' wpAnyH_take (i := 24) (v := _) rfl (by kernel_rfl) (by kernel_rfl) (by kernel_rfl) (fun _ _ _ h => h) (Or.inr ⟨by rfl, rfl⟩) hS1 ?restm52
          simp only [Act.put, List.setIfInBounds_toArray, List.set_cons_zero, List.set_cons_succ, List.getElem_toArray, List.getElem_cons_zero, List.getElem_cons_succ]
          refine' wpAnyH_take (i := 25) (v := _) rfl (by kernel_rfl) (by kernel_rfl) (by kernel_rfl) (fun _ _ _ h => h) (Or.inr ⟨by rfl, rfl⟩) hS1 ?restm53
          simp only [Act.put, List.setIfInBounds_toArray, List.set_cons_zero, List.set_cons_succ, List.getElem_toArray, List.getElem_cons_zero, List.getElem_cons_succ]
          refine' wpAnyH_take (i := 26) (v := _) rfl (by kernel_rfl) (by kernel_rfl) (by kernel_rfl) (fun _ _ _ h => h) (Or.inr ⟨by rfl, rfl⟩) hS1 ?restm54
          simp only [Act.put, List.setIfInBounds_toArray, List.set_cons_zero, List.set_cons_succ, List.getElem_toArray, List.getElem_cons_zero, List.getElem_cons_succ]
          refine' wpAnyH_take (i := 27) (v := _) rfl (by kernel_rfl) (by kernel_rfl) (by kernel_rfl) (fun _ _ _ h => h) (Or.inr ⟨by rfl, rfl⟩) hS1 ?restm55
          simp only [Act.put, List.setIfInBounds_toArray, List.set_cons_zero, List.set_cons_succ, List.getElem_toArray, List.getElem_cons_zero, List.getElem_cons_succ]
          refine' wpAnyH_take (i := 28) (v := _) rfl (by kernel_rfl) (by kernel_rfl) (by kernel_rfl) (fun _ _ _ h => h) (Or.inr ⟨by rfl, rfl⟩) hS1 ?restm56
          simp only [Act.put, List.setIfInBounds_toArray, List.set_cons_zero, List.set_cons_succ, List.getElem_toArray, List.getElem_cons_zero, List.getElem_cons_succ]
          refine' wpAnyH_take (i := 29) (v := _) rfl (by kernel_rfl) (by kernel_rfl) (by kernel_rfl) (fun _ _ _ h => h) (Or.inr ⟨by rfl, rfl⟩) hS1 ?restm57
          simp only [Act.put, List.setIfInBounds_toArray, List.set_cons_zero, List.set_cons_succ, List.getElem_toArray, List.getElem_cons_zero, List.getElem_cons_succ]
          refine' wpAnyH_take (i := 30) (v := _) rfl (by kernel_rfl) (by kernel_rfl) (by kernel_rfl) (fun _ _ _ h => h) (Or.inr ⟨by rfl, rfl⟩) hS1 ?restm58
          simp only [Act.put, List.setIfInBounds_toArray, List.set_cons_zero, List.set_cons_succ, List.getElem_toArray, List.getElem_cons_zero, List.getElem_cons_succ]
          refine' wpAnyH_take (i := 31) (v := _) rfl (by kernel_rfl) (by kernel_rfl) (by kernel_rfl) (fun _ _ _ h => h) (Or.inr ⟨by rfl, rfl⟩) hS1 ?restm59
          simp only [Act.put, List.setIfInBounds_toArray, List.set_cons_zero, List.set_cons_succ, List.getElem_toArray, List.getElem_cons_zero, List.getElem_cons_succ]
          refine' wpAnyH_take (i := 32) (v := _) rfl (by kernel_rfl) (by kernel_rfl) (by kernel_rfl) (fun _ _ _ h => h) (Or.inr ⟨by rfl, rfl⟩) hS1 ?restm60
          simp only [Act.put, List.setIfInBounds_toArray, List.set_cons_zero, List.set_cons_succ, List.getElem_toArray, List.getElem_cons_zero, List.getElem_cons_succ]
          refine' wpAnyH_take (i := 33) (v := _) rfl (by kernel_rfl) (by kernel_rfl) (by kernel_rfl) (fun _ _ _ h => h) (Or.inr ⟨by rfl, rfl⟩) hS1 ?restm61
          simp only [Act.put, List.setIfInBounds_toArray, List.set_cons_zero, List.set_cons_succ, List.getElem_toArray, List.getElem_cons_zero, List.getElem_cons_succ]
          refine' wpAnyH_take (i := 34) (v := _) rfl (by kernel_rfl) (by kernel_rfl) (by kernel_rfl) (fun _ _ _ h => h) (Or.inr ⟨by rfl, rfl⟩) hS1 ?restm62
          simp only [Act.put, List.setIfInBounds_toArray, List.set_cons_zero, List.set_cons_succ, List.getElem_toArray, List.getElem_cons_zero, List.getElem_cons_succ]
          refine' wpAnyH_take (i := 35) (v := _) rfl (by kernel_rfl) (by kernel_rfl) (by kernel_rfl) (fun _ _ _ h => h) (Or.inr ⟨by rfl, rfl⟩) hS1 ?restm63
          simp only [Act.put, List.setIfInBounds_toArray, List.set_cons_zero, List.set_cons_succ, List.getElem_toArray, List.getElem_cons_zero, List.getElem_cons_succ]
          refine' wpAnyH_take (i := 36) (v := _) rfl (by kernel_rfl) (by kernel_rfl) (by kernel_rfl) (fun _ _ _ h => h) (Or.inl ⟨by rfl, ?hym64⟩) hS1 ?restm64
          case hym64 => (intro w hSw; (try dsimp only at hSw); go_simp; try with_reducible rfl)
          simp only [Act.put, List.setIfInBounds_toArray, List.set_cons_zero, List.set_cons_succ, List.getElem_toArray, List.getElem_cons_zero, List.getElem_cons_succ]
          clear hd
          refine wpAnyH_done (by kernel_rfl) ?_ _
          go_wp2_with fail
          go_ret
          exact ⟨by rw [HF.out]; rfl, HBE.out.trans ((HX.out.trans (HY1.out.mono HX.out.size)).mono HBE.out.size)⟩
        subst hd
        refine' wpAnyH_take (i := 19) (v := _) rfl (by kernel_rfl) (by kernel_rfl) (by kernel_rfl) (fun _ _ _ h => h) (Or.inl ⟨by rfl, ?hym65⟩) hS1 ?restm65
        case hym65 => (intro w hSw; (try dsimp only at hSw); go_simp; try with_reducible rfl)
        simp only [Act.put, List.setIfInBounds_toArray, List.set_cons_zero, List.set_cons_succ, List.getElem_toArray, List.getElem_cons_zero, List.getElem_cons_succ]
        refine' wpAnyH_take (i := 20) (v := _) rfl (by kernel_rfl) (by kernel_rfl) (by kernel_rfl) (fun _ _ _ h => h) (Or.inl ⟨by rfl, ?hym66⟩) hS1 ?restm66
        case hym66 => (intro w hSw; (try dsimp only at hSw); go_simp; try with_reducible rfl)
        simp only [Act.put, List.setIfInBounds_toArray, List.set_cons_zero, List.set_cons_succ, List.getElem_toArray, List.getElem_cons_zero, List.getElem_cons_succ]
        refine' wpAnyH_take (i := 21) (v := _) rfl (by kernel_rfl) (by kernel_rfl) (by kernel_rfl) (fun _ _ _ h => h) (Or.inl ⟨by rfl, ?hym67⟩) hS1 ?restm67
        case hym67 => (intro w hSw; (try dsimp only at hSw); go_simp; try with_reducible rfl)
        simp only [Act.put, List.setIfInBounds_toArray, List.set_cons_zero, List.set_cons_succ, List.getElem_toArray, List.getElem_cons_zero, List.getElem_cons_succ]
        refine' wpAnyH_take (i := 22) (v := _) rfl (by kernel_rfl) (by kernel_rfl) (by kernel_rfl) (fun _ _ _ h => h) (Or.inl ⟨by rfl, ?hym68⟩) hS1 ?restm68
        case hym68 => (intro w hSw; (try dsimp only at hSw); go_simp; try with_reducible rfl)
        simp only [Act.put, List.setIfInBounds_toArray, List.set_cons_zero, List.set_cons_succ, List.getElem_toArray, List.getElem_cons_zero, List.getElem_cons_succ]
        refine' wpAnyH_take (i := 23) (v := _) rfl (by kernel_rfl) (by kernel_rfl) (by kernel_rfl) (fun _ _ _ h => h) (Or.inl ⟨by rfl, ?hym69⟩) hS1 ?restm69
        case hym69 => (intro w hSw; (try dsimp only at hSw); go_simp; try with_reducible rfl)
        simp only [Act.put, List.setIfInBounds_toArray, List.set_cons_zero, List.set_cons_succ, List.getElem_toArray, List.getElem_cons_zero, List.getElem_cons_succ]
        refine' wpAnyH_take (i := 24) (v := _) rfl (by kernel_rfl) (by kernel_rfl) (by kernel_rfl) (fun _ _ _ h => h) (Or.inl ⟨by rfl, ?hym70⟩) hS1 ?restm70
        case hym70 => (intro w hSw; (try dsimp only at hSw); go_simp; try with_reducible rfl)
        simp only [Act.put, List.setIfInBounds_toArray, List.set_cons_zero, List.set_cons_succ, List.getElem_toArray, List.getElem_cons_zero, List.getElem_cons_succ]
        refine' wpAnyH_take (i := 25) (v := _) rfl (by kernel_rfl) (by kernel_rfl) (by kernel_rfl) (fun _ _ _ h => h) (Or.inl ⟨by rfl, ?hym71⟩) hS1 ?restm71
        case hym71 => (intro w hSw; (try dsimp only at hSw); go_simp; try with_reducible rfl)
        simp only [Act.put, List.setIfInBounds_toArray, List.set_cons_zero, List.set_cons_succ, List.getElem_toArray, List.getElem_cons_zero, List.getElem_cons_succ]
        refine' wpAnyH_take (i := 26) (v := _) rfl (by kernel_rfl) (by kernel_rfl) (by kernel_rfl) (fun _ _ _ h => h) (Or.inl ⟨by rfl, ?hym72⟩) hS1 ?restm72
        case hym72 => (intro w hSw; (try dsimp only at hSw); go_simp; try with_reducible rfl)
        simp only [Act.put, List.setIfInBounds_toArray, List.set_cons_zero, List.set_cons_succ, List.getElem_toArray, List.getElem_cons_zero, List.getElem_cons_succ]
        refine' wpAnyH_take (i := 27) (v := _) rfl (by kernel_rfl) (by kernel_rfl) (by kernel_rfl) (fun _ _ _ h => h) (Or.inl ⟨by rfl, ?hym73⟩) hS1 ?restm73
        case hym73 => (intro w hSw; (try dsimp only at hSw); go_simp; try with_reducible rfl)
        simp only [Act.put, List.setIfInBounds_toArray, List.set_cons_zero, List.set_cons_succ, List.getElem_toArray, List.getElem_cons_zero, List.getElem_cons_succ]
        refine' wpAnyH_take (i := 29) (v := _) rfl (by kernel_rfl) (by kernel_rfl) (by kernel_rfl) (fun _ _ _ h => h) (Or.inl ⟨by rfl, ?hym74⟩) hS1 ?restm74
        case hym74 => (intro w hSw; (try dsimp only at hSw); go_simp; try with_reducible rfl)
        simp only [Act.put, List.setIfInBounds_toArray, List.set_cons_zero, List.set_cons_succ, List.getElem_toArray, List.getElem_cons_zero, List.getElem_cons_succ]
        refine' wpAnyH_take (i := 30) (v := _) rfl (by kernel_rfl) (by kernel_rfl) (by kernel_rfl) (fun _ _ _ h => h) (Or.inl ⟨by rfl, ?hym75⟩) hS1 ?restm75
        case hym75 => (intro w hSw; (try dsimp only at hSw); go_simp; try with_reducible rfl)
        simp only [Act.put, List.setIfInBounds_toArray, List.set_cons_zero, List.set_cons_succ, List.getElem_toArray, List.getElem_cons_zero, List.getElem_cons_succ]
        refine' wpAnyH_take (i := 31) (v := _) rfl (by kernel_rfl) (by kernel_rfl) (by kernel_rfl) (fun _ _ _ h => h) (Or.inl ⟨by rfl, ?hym76⟩) hS1 ?restm76
        case hym76 => (intro w hSw; (try dsimp only at hSw); go_simp; try with_reducible rfl)
        simp only [Act.put, List.setIfInBounds_toArray, List.set_cons_zero, List.set_cons_succ, List.getElem_toArray, List.getElem_cons_zero, List.getElem_cons_succ]
        refine' wpAnyH_take (i := 32) (v := _) rfl (by kernel_rfl) (by kernel_rfl) (by kernel_rfl) (fun _ _ _ h => h) (Or.inl ⟨by rfl, ?hym77⟩) hS1 ?restm77
        case hym77 => (intro w hSw; (try dsimp only at hSw); go_simp; try with_reducible rfl)
        simp only [Act.put, List.setIfInBounds_toArray, List.set_cons_zero, List.set_cons_succ, List.getElem_toArray, List.getElem_cons_zero, List.getElem_cons_succ]
        refine' wpAnyH_take (i := 33) (v := _) rfl (by kernel_rfl) (by kernel_rfl) (by kernel_rfl) (fun _ _ _ h => h) (Or.inl ⟨by rfl, ?hym78⟩) hS1 ?restm78
        case hym78 => (intro w hSw; (try dsimp only at hSw); go_simp; try with_reducible rfl)
        simp only [Act.put, List.setIfInBounds_toArray, List.set_cons_zero, List.set_cons_succ, List.getElem_toArray, List.getElem_cons_zero, List.getElem_cons_succ]
        refine wpAnyH_ready (rs := [28]) (by kernel_rfl) (by simp) ?_
        refine AllReadyH.cons rfl (fun K hK => ?_) AllReadyH.nil
        go_simp
        refine (KSZ.out _).mono ?_
        rintro e wq2 ⟨rfl, rfl⟩
        refine hK.out _ _ (HSS.out _ HY1.out) (fun hS2 => ?_)
        clear hK K
        refine wpAnyH_ready (rs := [34]) (by kernel_rfl) (by simp) ?_
        refine AllReadyH.cons rfl (fun K hK => ?_) AllReadyH.nil
        go_simp
        refine (KBD.out _).mono ?_
        rintro e wq3 ⟨rfl, rfl⟩
        refine hK.out _ _ (HSS.out _ HY1.out) (fun hS3 => ?_)
        clear hK K
        by_cases hb : BD < (na : Int)
        · have a4 : decide (BD < (na : Int)) = true := decide_eq_true hb
          have HF : Hid (R = false) := Lib.hid (HNS.out (xn, xd) (List.mem_of_getElem? HG1.out) (by rw [HSX.out]; exact decide_eq_false (fun h => by have := h.2; omega)))
          refine' wpAnyH_take (i := 35) (v := _) rfl (by kernel_rfl) (by kernel_rfl) (by kernel_rfl) (fun _ _ _ h => h) (Or.inl ⟨by rfl, ?hym79⟩) hS3 ?restm79
          case hym79 => (intro w hSw; (try dsimp only at hSw); go_simp; try with_reducible rfl)
          simp only [Act.put, List.setIfInBounds_toArray, List.set_cons_zero, List.set_cons_succ, List.getElem_toArray, List.getElem_cons_zero, List.getElem_cons_succ]
          refine' wpAnyH_take (i := 36) (v := _) rfl (by kernel_rfl) (by kernel_rfl) (by kernel_rfl) (fun _ _ _ h => h) (Or.inl ⟨by rfl, ?hym80⟩) hS3 ?restm80
          case hym80 => (intro w hSw; (try dsimp only at hSw); go_simp; try with_reducible rfl)
          simp only [Act.put, List.setIfInBounds_toArray, List.set_cons_zero, List.set_cons_succ, List.getElem_toArray, List.getElem_cons_zero, List.getElem_cons_succ]
          clear hb
          refine wpAnyH_done (by kernel_rfl) ?_ _
          go_wp2_with fail
          go_ret
          exact ⟨by rw [HF.out]; rfl, HBE.out.trans ((HX.out.trans (HY1.out.mono HX.out.size)).mono HBE.out.size)⟩
        have a4 : decide (BD < (na : Int)) = false := decide_eq_false hb
        refine' wpAnyH_take (i := 35) (v := _) rfl (by kernel_rfl) (by kernel_rfl) (by kernel_rfl) (fun _ _ _ h => h) (Or.inl ⟨by rfl, ?hym81⟩) hS3 ?restm81
        case hym81 => (intro w hSw; (try dsimp only at hSw); go_simp; try with_reducible rfl)
        simp only [Act.put, List.setIfInBounds_toArray, List.set_cons_zero, List.set_cons_succ, List.getElem_toArray, List.getElem_cons_zero, List.getElem_cons_succ]
        refine' wpAnyH_take (i := 36) (v := _) rfl (by kernel_rfl) (by kernel_rfl) (by kernel_rfl) (fun _ _ _ h => h) (Or.inl ⟨by rfl, ?hym82⟩) hS3 ?restm82
        case hym82 => (intro w hSw; (try dsimp only at hSw); go_simp; try with_reducible rfl)
        simp only [Act.put, List.setIfInBounds_toArray, List.set_cons_zero, List.set_cons_succ, List.getElem_toArray, List.getElem_cons_zero, List.getElem_cons_succ]
        refine wpAnyH_done (by kernel_rfl) ?_ _
        go_wp2_with fail
        go_roundw
        case rel => exact ⟨j + 1, hlt, by go_num, Lib.hid ⟨fun i x hi hx => by
          by_cases e : i = j
          · rw [e, HE1.out] at hx; cases hx; exact HCU.out
          · exact HI.out.1 i x (by omega) hx, fun i x hi hx => by
          by_cases e : i = j
          · rw [e, HG1.out] at hx; cases hx; exact ⟨rfl, by rw [hna']; omega⟩
          · exact HI.out.2 i x (by omega) hx⟩, Lib.hid (HX.out.trans (HY1.out.mono HX.out.size))⟩
        case measure => simp [intOf]; omega
    · obtain rfl : ne = j := by omega
      have HEA : Hid (∀ x ∈ edges, cutsE b x = true) := Lib.hid (fun x hx => by
        obtain ⟨i, hi, rfl⟩ := List.getElem_of_mem hx
        exact HI.out.1 i _ (by have := HLN.out.1; (try simp only at this); omega) (List.getElem?_eq_getElem hi))
      have HSA : Hid (∀ x ∈ shake, shkE _ x = true) := Lib.hid (fun x hx => by
        obtain ⟨i, hi, rfl⟩ := List.getElem_of_mem hx
        rw [HSHK.out _ HDN.out]
        exact decide_eq_true (HI.out.2 i _ (by have := HLN.out.2.2; (try simp only at this); omega) (List.getElem?_eq_getElem hi)))
      have HX2 := HX
      clear HI
      have q10 := (HKF.out _ HX.out).2.2.2.2.2.2.2.2.2.2.1
      go_wp2_with fail
      clear q7 q10
      go_loopw [5] (fun iv wr => ∃ j : Nat, j ≤ nt ∧ iv = .int .i64 j ∧ Hid (∀ (i : Nat) x, i < j → trees[i]? = some x → treeE _ x = true) ∧ Hid (Below W.heap.size W wr)) (fun iv _ => nt - (intOf iv).toNat)
      case atStart => exact ⟨0, Nat.zero_le _, rfl, Lib.hid (fun i x h => by omega), HX2⟩
      case round =>
        obtain ⟨j, hj, rfl, HI, HX⟩ := hrel
        have q10 := (HKF.out _ HX.out).2.2.2.2.2.2.2.2.2.2.1
        by_cases hlt : j < nt
        · have hlt' : (j : Int) < nt := by omega
          obtain ⟨adt, rfl, t, Bt, cap, h1, h2, _, _, h5⟩ := (HRR.out _ HX.out).rt.at (i := j) (by have := HLN.out.2.1; simp only; omega)
          simp only at h1
          have HE1 := Lib.hid h1
          have hlen := HOK.out.tt t (List.mem_of_getElem? h1)
          have HRN := Lib.hid (fun W' (hb : Below wr.heap.size wr W') => h5.below hb)
          have KTX := Lib.hid (fun W' hb => KTR.out t Bt cap W' (HRN.out W' hb) (by omega))
          have KDX := Lib.hid (fun W' hb hf => KDE.out t Bt cap W' (HRN.out W' hb) (by omega) hf)
          obtain ⟨m, hm⟩ : ∃ n, t.length = n := ⟨_, rfl⟩
          rw [hm] at h2 KTX KDX
          have HTT := Lib.hid (HTE.out t)
          have HDD := Lib.hid (fun h => dep_deep (cols := (ne : Int)) (bins := b) (kind := k) (classes := cl) (t := t) h)
          obtain ⟨rt, hrt⟩ : ∃ z, rightT (ne : Int) b k cl t = z := ⟨_, rfl⟩
          have HRT := Lib.hid hrt
          rw [hrt] at KTX HTT
          obtain ⟨dd, hdd⟩ : ∃ z, deepO t = z := ⟨_, rfl⟩
          rw [hdd] at KDX HDD
          have HALL := Lib.hid (fun W' hb => (HKF.out W' hb).elim fun x0 h => h.elim fun x1 h => h.elim fun x2 h => h.elim fun x3 h => h.elim fun x4 h => h.elim fun x5 h => h.elim fun x6 h => h.elim fun x7 h => h.elim fun x8 h => h.elim fun x9 h => h.elim fun x10 h => h.elim fun x11 h => h.elim fun x12 x13 => (HKC.out W' hb).elim fun y0 h => h.elim fun y1 h => h.elim fun y2 h => h.elim fun y3 h => h.elim fun y4 h => h.elim fun y5 y6 => And.intro x0 (And.intro x1 (And.intro x2 (And.intro x3 (And.intro x4 (And.intro x5 (And.intro x6 (And.intro x7 (And.intro x8 (And.intro x9 (And.intro x10 (And.intro x11 (And.intro x12 (And.intro x13 (And.intro y0 (And.intro y1 (And.intro y2 (And.intro y3 (And.intro y4 (And.intro y5 y6))))))))))))))))))))
          have HSS : Hid (∀ W', Below wr.heap.size wr W' → (fun W => W.cell? (adt.add j) = some (.slice Bt m cap) ∧ W.cell? ⟨w.heap.size, 0, none⟩ = some (.int .i64 k) ∧ W.cell? ⟨w.heap.size, 1, none⟩ = some (.int .i64 cl) ∧ W.cell? ⟨w.heap.size, 2, none⟩ = some (.int .i64 b) ∧ W.cell? ⟨w.heap.size, 3, none⟩ = some (.int .i64 (nt : Int)) ∧ W.cell? ⟨w.heap.size, 4, none⟩ = some (.int .i64 d) ∧ W.cell? ⟨w.heap.size, 5, none⟩ = some (.int .i64 l) ∧ W.cell? ⟨w.heap.size, 6, none⟩ = some (.int .i64 p) ∧ W.cell? ⟨w.heap.size, 7, none⟩ = some (.int .i64 (ne : Int)) ∧ W.cell? ⟨w.heap.size, 8, none⟩ = some (.int .u64 (seed : Int)) ∧ W.cell? ⟨w.heap.size, 9, none⟩ = some (.slice Ae ne ce) ∧ W.cell? ⟨w.heap.size, 10, none⟩ = some (.slice (some adt) nt ct) ∧ W.cell? ⟨w.heap.size, 11, none⟩ = some (.int .i64 num) ∧ W.cell? ⟨w.heap.size, 12, none⟩ = some (.int .i64 den) ∧ W.cell? ⟨w.heap.size, 13, none⟩ = some (.slice As ne cs) ∧ W.cell? ⟨g1, 0, none⟩ = some (.int .i64 k) ∧ W.cell? ⟨g1, 1, none⟩ = some (.int .i64 cl) ∧ W.cell? ⟨g1, 2, none⟩ = some (.int .i64 b) ∧ W.cell? ⟨g1, 3, none⟩ = some (.int .i64 (nt : Int)) ∧ W.cell? ⟨g1, 4, none⟩ = some (.int .i64 d) ∧ W.cell? ⟨g1, 5, none⟩ = some (.int .i64 l) ∧ W.cell? ⟨g1, 6, none⟩ = some (.int .i64 p)) W') := Lib.hid (fun W' hb => ⟨(hb.cell (World.block_lt_of_cell? wr _ h2)).trans h2, HALL.out W' (HX.out.trans (hb.mono HX.out.size))⟩)
          have HY0 := Lib.hid ((Below.refl wr.heap.size wr).drew)
          clear h1 h5 hm hrt hdd HALL
          go_upto_region 14 with (fail)
          refine wp_region_held_drew (S := (fun W => W.cell? (adt.add j) = some (.slice Bt m cap) ∧ W.cell? ⟨w.heap.size, 0, none⟩ = some (.int .i64 k) ∧ W.cell? ⟨w.heap.size, 1, none⟩ = some (.int .i64 cl) ∧ W.cell? ⟨w.heap.size, 2, none⟩ = some (.int .i64 b) ∧ W.cell? ⟨w.heap.size, 3, none⟩ = some (.int .i64 (nt : Int)) ∧ W.cell? ⟨w.heap.size, 4, none⟩ = some (.int .i64 d) ∧ W.cell? ⟨w.heap.size, 5, none⟩ = some (.int .i64 l) ∧ W.cell? ⟨w.heap.size, 6, none⟩ = some (.int .i64 p) ∧ W.cell? ⟨w.heap.size, 7, none⟩ = some (.int .i64 (ne : Int)) ∧ W.cell? ⟨w.heap.size, 8, none⟩ = some (.int .u64 (seed : Int)) ∧ W.cell? ⟨w.heap.size, 9, none⟩ = some (.slice Ae ne ce) ∧ W.cell? ⟨w.heap.size, 10, none⟩ = some (.slice (some adt) nt ct) ∧ W.cell? ⟨w.heap.size, 11, none⟩ = some (.int .i64 num) ∧ W.cell? ⟨w.heap.size, 12, none⟩ = some (.int .i64 den) ∧ W.cell? ⟨w.heap.size, 13, none⟩ = some (.slice As ne cs) ∧ W.cell? ⟨g1, 0, none⟩ = some (.int .i64 k) ∧ W.cell? ⟨g1, 1, none⟩ = some (.int .i64 cl) ∧ W.cell? ⟨g1, 2, none⟩ = some (.int .i64 b) ∧ W.cell? ⟨g1, 3, none⟩ = some (.int .i64 (nt : Int)) ∧ W.cell? ⟨g1, 4, none⟩ = some (.int .i64 d) ∧ W.cell? ⟨g1, 5, none⟩ = some (.int .i64 l) ∧ W.cell? ⟨g1, 6, none⟩ = some (.int .i64 p))) (by kernel_rfl) ?_ (fun hS0 => ?_)
          · exact HSS.out _ HY0.out
          clear h2 q10
          refine' wpAnyH_take (i := 0) (v := _) rfl (by kernel_rfl) (by kernel_rfl) (by kernel_rfl) (fun _ _ _ h => h) (Or.inl ⟨by rfl, ?hym83⟩) hS0 ?restm83
          case hym83 => (intro w hSw; (try dsimp only at hSw); go_simp; try with_reducible rfl)
          simp only [Act.put, List.setIfInBounds_toArray, List.set_cons_zero, List.set_cons_succ, List.getElem_toArray, List.getElem_cons_zero, List.getElem_cons_succ]
          refine' wpAnyH_take (i := 1) (v := _) rfl (by kernel_rfl) (by kernel_rfl) (by kernel_rfl) (fun _ _ _ h => h) (Or.inl ⟨by rfl, ?hym84⟩) hS0 ?restm84
          case hym84 => (intro w hSw; (try dsimp only at hSw); go_simp; try with_reducible rfl)
          simp only [Act.put, List.setIfInBounds_toArray, List.set_cons_zero, List.set_cons_succ, List.getElem_toArray, List.getElem_cons_zero, List.getElem_cons_succ]
          refine' wpAnyH_take (i := 2) (v := _) rfl (by kernel_rfl) (by kernel_rfl) (by kernel_rfl) (fun _ _ _ h => h) (Or.inl ⟨by rfl, ?hym85⟩) hS0 ?restm85
          case hym85 => (intro w hSw; (try dsimp only at hSw); go_simp; try with_reducible rfl)
          simp only [Act.put, List.setIfInBounds_toArray, List.set_cons_zero, List.set_cons_succ, List.getElem_toArray, List.getElem_cons_zero, List.getElem_cons_succ]
          refine' wpAnyH_take (i := 3) (v := _) rfl (by kernel_rfl) (by kernel_rfl) (by kernel_rfl) (fun _ _ _ h => h) (Or.inl ⟨by rfl, ?hym86⟩) hS0 ?restm86
          case hym86 => (intro w hSw; (try dsimp only at hSw); go_simp; try with_reducible rfl)
          simp only [Act.put, List.setIfInBounds_toArray, List.set_cons_zero, List.set_cons_succ, List.getElem_toArray, List.getElem_cons_zero, List.getElem_cons_succ]
          refine' wpAnyH_take (i := 4) (v := _) rfl (by kernel_rfl) (by kernel_rfl) (by kernel_rfl) (fun _ _ _ h => h) (Or.inl ⟨by rfl, ?hym87⟩) hS0 ?restm87
          case hym87 => (intro w hSw; (try dsimp only at hSw); go_simp; try with_reducible rfl)
          simp only [Act.put, List.setIfInBounds_toArray, List.set_cons_zero, List.set_cons_succ, List.getElem_toArray, List.getElem_cons_zero, List.getElem_cons_succ]
          refine' wpAnyH_take (i := 5) (v := _) rfl (by kernel_rfl) (by kernel_rfl) (by kernel_rfl) (fun _ _ _ h => h) (Or.inl ⟨by rfl, ?hym88⟩) hS0 ?restm88
          case hym88 => (intro w hSw; (try dsimp only at hSw); go_simp; try with_reducible rfl)
          simp only [Act.put, List.setIfInBounds_toArray, List.set_cons_zero, List.set_cons_succ, List.getElem_toArray, List.getElem_cons_zero, List.getElem_cons_succ]
          refine' wpAnyH_take (i := 6) (v := _) rfl (by kernel_rfl) (by kernel_rfl) (by kernel_rfl) (fun _ _ _ h => h) (Or.inl ⟨by rfl, ?hym89⟩) hS0 ?restm89
          case hym89 => (intro w hSw; (try dsimp only at hSw); go_simp; try with_reducible rfl)
          simp only [Act.put, List.setIfInBounds_toArray, List.set_cons_zero, List.set_cons_succ, List.getElem_toArray, List.getElem_cons_zero, List.getElem_cons_succ]
          refine' wpAnyH_take (i := 7) (v := _) rfl (by kernel_rfl) (by kernel_rfl) (by kernel_rfl) (fun _ _ _ h => h) (Or.inl ⟨by rfl, ?hym90⟩) hS0 ?restm90
          case hym90 => (intro w hSw; (try dsimp only at hSw); go_simp; try with_reducible rfl)
          simp only [Act.put, List.setIfInBounds_toArray, List.set_cons_zero, List.set_cons_succ, List.getElem_toArray, List.getElem_cons_zero, List.getElem_cons_succ]
          refine' wpAnyH_take (i := 8) (v := _) rfl (by kernel_rfl) (by kernel_rfl) (by kernel_rfl) (fun _ _ _ h => h) (Or.inl ⟨by rfl, ?hym91⟩) hS0 ?restm91
          case hym91 => (intro w hSw; (try dsimp only at hSw); go_simp; try with_reducible rfl)
          simp only [Act.put, List.setIfInBounds_toArray, List.set_cons_zero, List.set_cons_succ, List.getElem_toArray, List.getElem_cons_zero, List.getElem_cons_succ]
          refine' wpAnyH_take (i := 9) (v := _) rfl (by kernel_rfl) (by kernel_rfl) (by kernel_rfl) (fun _ _ _ h => h) (Or.inl ⟨by rfl, ?hym92⟩) hS0 ?restm92
          case hym92 => (intro w hSw; (try dsimp only at hSw); go_simp; try with_reducible rfl)
          simp only [Act.put, List.setIfInBounds_toArray, List.set_cons_zero, List.set_cons_succ, List.getElem_toArray, List.getElem_cons_zero, List.getElem_cons_succ]
          refine' wpAnyH_take (i := 10) (v := _) rfl (by kernel_rfl) (by kernel_rfl) (by kernel_rfl) (fun _ _ _ h => h) (Or.inl ⟨by rfl, ?hym93⟩) hS0 ?restm93
          case hym93 => (intro w hSw; (try dsimp only at hSw); go_simp; try with_reducible rfl)
          simp only [Act.put, List.setIfInBounds_toArray, List.set_cons_zero, List.set_cons_succ, List.getElem_toArray, List.getElem_cons_zero, List.getElem_cons_succ]
          refine' wpAnyH_take (i := 11) (v := _) rfl (by kernel_rfl) (by kernel_rfl) (by kernel_rfl) (fun _ _ _ h => h) (Or.inl ⟨by rfl, ?hym94⟩) hS0 ?restm94
          case hym94 => (intro w hSw; (try dsimp only at hSw); go_simp; try with_reducible rfl)
          simp only [Act.put, List.setIfInBounds_toArray, List.set_cons_zero, List.set_cons_succ, List.getElem_toArray, List.getElem_cons_zero, List.getElem_cons_succ]
          refine' wpAnyH_take (i := 12) (v := _) rfl (by kernel_rfl) (by kernel_rfl) (by kernel_rfl) (fun _ _ _ h => h) (Or.inl ⟨by rfl, ?hym95⟩) hS0 ?restm95
          case hym95 => (intro w hSw; (try dsimp only at hSw); go_simp; try with_reducible rfl)
          simp only [Act.put, List.setIfInBounds_toArray, List.set_cons_zero, List.set_cons_succ, List.getElem_toArray, List.getElem_cons_zero, List.getElem_cons_succ]
          refine wpAnyH_ready (rs := [13]) (by kernel_rfl) (by simp) ?_
          refine AllReadyH.cons rfl (fun K hK => ?_) AllReadyH.nil
          go_simp
          refine (KTX.out _ HY0.out).mono ?_
          rintro e wq1 ⟨rfl, hb⟩
          have HY1 := Lib.hid (HY0.out.trans (hb.mono HY0.out.size))
          clear hb
          refine hK.out _ _ (HSS.out _ HY1.out) (fun hS1 => ?_)
          clear hK K
          refine' wpAnyH_take (i := 14) (v := _) rfl (by kernel_rfl) (by kernel_rfl) (by kernel_rfl) (fun _ _ _ h => h) (Or.inl ⟨by rfl, ?hym96⟩) hS1 ?restm96
          case hym96 => (intro w hSw; (try dsimp only at hSw); go_simp; try with_reducible rfl)
          simp only [Act.put, List.setIfInBounds_toArray, List.set_cons_zero, List.set_cons_succ, List.getElem_toArray, List.getElem_cons_zero, List.getElem_cons_succ]
          refine' wpAnyH_take (i := 15) (v := _) rfl (by kernel_rfl) (by kernel_rfl) (by kernel_rfl) (fun _ _ _ h => h) (Or.inl ⟨by rfl, ?hym97⟩) hS1 ?restm97
          case hym97 => (intro w hSw; (try dsimp only at hSw); go_simp; try with_reducible rfl)
          simp only [Act.put, List.setIfInBounds_toArray, List.set_cons_zero, List.set_cons_succ, List.getElem_toArray, List.getElem_cons_zero, List.getElem_cons_succ]
          cases rt with
          | false =>
            refine' wpAnyH_take (i := 16) (v := _) rfl (by kernel_rfl) (by kernel_rfl) (by kernel_rfl) (fun _ _ _ h => h) (Or.inr ⟨by rfl, rfl⟩) hS1 ?restm98
            simp only [Act.put, List.setIfInBounds_toArray, List.set_cons_zero, List.set_cons_succ, List.getElem_toArray, List.getElem_cons_zero, List.getElem_cons_succ]
            refine' wpAnyH_take (i := 17) (v := _) rfl (by kernel_rfl) (by kernel_rfl) (by kernel_rfl) (fun _ _ _ h => h) (Or.inr ⟨by rfl, rfl⟩) hS1 ?restm99
            simp only [Act.put, List.setIfInBounds_toArray, List.set_cons_zero, List.set_cons_succ, List.getElem_toArray, List.getElem_cons_zero, List.getElem_cons_succ]
            refine' wpAnyH_take (i := 18) (v := _) rfl (by kernel_rfl) (by kernel_rfl) (by kernel_rfl) (fun _ _ _ h => h) (Or.inr ⟨by rfl, rfl⟩) hS1 ?restm100
            simp only [Act.put, List.setIfInBounds_toArray, List.set_cons_zero, List.set_cons_succ, List.getElem_toArray, List.getElem_cons_zero, List.getElem_cons_succ]
            refine' wpAnyH_take (i := 19) (v := _) rfl (by kernel_rfl) (by kernel_rfl) (by kernel_rfl) (fun _ _ _ h => h) (Or.inr ⟨by rfl, rfl⟩) hS1 ?restm101
            simp only [Act.put, List.setIfInBounds_toArray, List.set_cons_zero, List.set_cons_succ, List.getElem_toArray, List.getElem_cons_zero, List.getElem_cons_succ]
            refine' wpAnyH_take (i := 20) (v := _) rfl (by kernel_rfl) (by kernel_rfl) (by kernel_rfl) (fun _ _ _ h => h) (Or.inr ⟨by rfl, rfl⟩) hS1 ?restm102
            simp only [Act.put, List.setIfInBounds_toArray, List.set_cons_zero, List.set_cons_succ, List.getElem_toArray, List.getElem_cons_zero, List.getElem_cons_succ]
            refine' wpAnyH_take (i := 21) (v := _) rfl (by kernel_rfl) (by kernel_rfl) (by kernel_rfl) (fun _ _ _ h => h) (Or.inr ⟨by rfl, rfl⟩) hS1 ?restm103
            simp only [Act.put, List.setIfInBounds_toArray, List.set_cons_zero, List.set_cons_succ, List.getElem_toArray, List.getElem_cons_zero, List.getElem_cons_succ]
            refine' wpAnyH_take (i := 22) (v := _) rfl (by kernel_rfl) (by kernel_rfl) (by kernel_rfl) (fun _ _ _ h => h) (Or.inr ⟨by rfl, rfl⟩) hS1 ?restm104
            simp only [Act.put, List.setIfInBounds_toArray, List.set_cons_zero, List.set_cons_succ, List.getElem_toArray, List.getElem_cons_zero, List.getElem_cons_succ]
            refine' wpAnyH_take (i := 23) (v := _) rfl (by kernel_rfl) (by kernel_rfl) (by kernel_rfl) (fun _ _ _ h => h) (Or.inr ⟨by rfl, rfl⟩) hS1 ?restm105
            simp only [Act.put, List.setIfInBounds_toArray, List.set_cons_zero, List.set_cons_succ, List.getElem_toArray, List.getElem_cons_zero, List.getElem_cons_succ]
            refine' wpAnyH_take (i := 24) (v := _) rfl (by kernel_rfl) (by kernel_rfl) (by kernel_rfl) (fun _ _ _ h => h) (Or.inr ⟨by rfl, rfl⟩) hS1 ?restm106
            simp only [Act.put, List.setIfInBounds_toArray, List.set_cons_zero, List.set_cons_succ, List.getElem_toArray, List.getElem_cons_zero, List.getElem_cons_succ]
            refine' wpAnyH_take (i := 25) (v := _) rfl (by kernel_rfl) (by kernel_rfl) (by kernel_rfl) (fun _ _ _ h => h) (Or.inl ⟨by rfl, ?hym107⟩) hS1 ?restm107
            case hym107 => (intro w hSw; (try dsimp only at hSw); go_simp; try with_reducible rfl)
            simp only [Act.put, List.setIfInBounds_toArray, List.set_cons_zero, List.set_cons_succ, List.getElem_toArray, List.getElem_cons_zero, List.getElem_cons_succ]
            have HF := Lib.hid (HNT.out t (List.mem_of_getElem? HE1.out) (by rw [HTT.out]; rfl))
            refine wpAnyH_done (by kernel_rfl) ?_ _
            go_wp2_with fail
            go_ret
            exact ⟨by rw [HF.out]; rfl, HBE.out.trans ((HX.out.trans (HY1.out.mono HX.out.size)).mono HBE.out.size)⟩
          | true =>
            have hdo := HDD.out HRT.out
            have hfn : ∀ n ∈ t, -1 ≤ n.f := fun n hn => by
              have := (rightT_is HRT.out).2.2.2.2 n hn
              unfold oneP at this
              split at this <;> omega
            refine' wpAnyH_take (i := 16) (v := _) rfl (by kernel_rfl) (by kernel_rfl) (by kernel_rfl) (fun _ _ _ h => h) (Or.inl ⟨by rfl, ?hym108⟩) hS1 ?restm108
            case hym108 => (intro w hSw; (try dsimp only at hSw); go_simp; try with_reducible rfl)
            simp only [Act.put, List.setIfInBounds_toArray, List.set_cons_zero, List.set_cons_succ, List.getElem_toArray, List.getElem_cons_zero, List.getElem_cons_succ]
            refine' wpAnyH_take (i := 17) (v := _) rfl (by kernel_rfl) (by kernel_rfl) (by kernel_rfl) (fun _ _ _ h => h) (Or.inl ⟨by rfl, ?hym109⟩) hS1 ?restm109
            case hym109 => (intro w hSw; (try dsimp only at hSw); go_simp; try with_reducible rfl)
            simp only [Act.put, List.setIfInBounds_toArray, List.set_cons_zero, List.set_cons_succ, List.getElem_toArray, List.getElem_cons_zero, List.getElem_cons_succ]
            refine' wpAnyH_take (i := 18) (v := _) rfl (by kernel_rfl) (by kernel_rfl) (by kernel_rfl) (fun _ _ _ h => h) (Or.inl ⟨by rfl, ?hym110⟩) hS1 ?restm110
            case hym110 => (intro w hSw; (try dsimp only at hSw); go_simp; try with_reducible rfl)
            simp only [Act.put, List.setIfInBounds_toArray, List.set_cons_zero, List.set_cons_succ, List.getElem_toArray, List.getElem_cons_zero, List.getElem_cons_succ]
            refine' wpAnyH_take (i := 19) (v := _) rfl (by kernel_rfl) (by kernel_rfl) (by kernel_rfl) (fun _ _ _ h => h) (Or.inl ⟨by rfl, ?hym111⟩) hS1 ?restm111
            case hym111 => (intro w hSw; (try dsimp only at hSw); go_simp; try with_reducible rfl)
            simp only [Act.put, List.setIfInBounds_toArray, List.set_cons_zero, List.set_cons_succ, List.getElem_toArray, List.getElem_cons_zero, List.getElem_cons_succ]
            refine' wpAnyH_take (i := 20) (v := _) rfl (by kernel_rfl) (by kernel_rfl) (by kernel_rfl) (fun _ _ _ h => h) (Or.inl ⟨by rfl, ?hym112⟩) hS1 ?restm112
            case hym112 => (intro w hSw; (try dsimp only at hSw); go_simp; try with_reducible rfl)
            simp only [Act.put, List.setIfInBounds_toArray, List.set_cons_zero, List.set_cons_succ, List.getElem_toArray, List.getElem_cons_zero, List.getElem_cons_succ]
            refine' wpAnyH_take (i := 22) (v := _) rfl (by kernel_rfl) (by kernel_rfl) (by kernel_rfl) (fun _ _ _ h => h) (Or.inl ⟨by rfl, ?hym113⟩) hS1 ?restm113
            case hym113 => (intro w hSw; (try dsimp only at hSw); go_simp; try with_reducible rfl)
            simp only [Act.put, List.setIfInBounds_toArray, List.set_cons_zero, List.set_cons_succ, List.getElem_toArray, List.getElem_cons_zero, List.getElem_cons_succ]
            refine' wpAnyH_take (i := 23) (v := _) rfl (by kernel_rfl) (by kernel_rfl) (by kernel_rfl) (fun _ _ _ h => h) (Or.inl ⟨by rfl, ?hym114⟩) hS1 ?restm114
            case hym114 => (intro w hSw; (try dsimp only at hSw); go_simp; try with_reducible rfl)
            simp only [Act.put, List.setIfInBounds_toArray, List.set_cons_zero, List.set_cons_succ, List.getElem_toArray, List.getElem_cons_zero, List.getElem_cons_succ]
            refine wpAnyH_ready (rs := [21]) (by kernel_rfl) (by simp) ?_
            refine AllReadyH.cons rfl (fun K hK => ?_) AllReadyH.nil
            go_simp
            refine (KDX.out _ HY1.out hfn).mono ?_
            rintro e wq2 ⟨rfl, hb⟩
            have HY2 := Lib.hid (HY1.out.trans (hb.mono HY1.out.size))
            clear hb
            refine hK.out _ _ (HSS.out _ HY2.out) (fun hS2 => ?_)
            clear hK K
            by_cases hd : d < dd
            · have a4 : decide (d < dd) = true := decide_eq_true hd
              have HF : Hid (R = false) := Lib.hid (HNT.out t (List.mem_of_getElem? HE1.out) (by rw [HTT.out, hdo, decide_eq_false (by omega)]; rfl))
              refine' wpAnyH_take (i := 24) (v := _) rfl (by kernel_rfl) (by kernel_rfl) (by kernel_rfl) (fun _ _ _ h => h) (Or.inl ⟨by rfl, ?hym115⟩) hS2 ?restm115
              case hym115 => (intro w hSw; (try dsimp only at hSw); go_simp; try with_reducible rfl)
              simp only [Act.put, List.setIfInBounds_toArray, List.set_cons_zero, List.set_cons_succ, List.getElem_toArray, List.getElem_cons_zero, List.getElem_cons_succ]
              refine' wpAnyH_take (i := 25) (v := _) rfl (by kernel_rfl) (by kernel_rfl) (by kernel_rfl) (fun _ _ _ h => h) (Or.inl ⟨by rfl, ?hym116⟩) hS2 ?restm116
              case hym116 => (intro w hSw; (try dsimp only at hSw); go_simp; try with_reducible rfl)
              simp only [Act.put, List.setIfInBounds_toArray, List.set_cons_zero, List.set_cons_succ, List.getElem_toArray, List.getElem_cons_zero, List.getElem_cons_succ]
              clear hd
              refine wpAnyH_done (by kernel_rfl) ?_ _
              go_wp2_with fail
              go_ret
              exact ⟨by rw [HF.out]; rfl, HBE.out.trans ((HX.out.trans (HY2.out.mono HX.out.size)).mono HBE.out.size)⟩
            have a4 : decide (d < dd) = false := decide_eq_false hd
            have HO2 : Hid (treeE _ t = true) := Lib.hid (by rw [HTT.out, hdo, decide_eq_true (by omega)]; rfl)
            refine' wpAnyH_take (i := 24) (v := _) rfl (by kernel_rfl) (by kernel_rfl) (by kernel_rfl) (fun _ _ _ h => h) (Or.inl ⟨by rfl, ?hym117⟩) hS2 ?restm117
            case hym117 => (intro w hSw; (try dsimp only at hSw); go_simp; try with_reducible rfl)
            simp only [Act.put, List.setIfInBounds_toArray, List.set_cons_zero, List.set_cons_succ, List.getElem_toArray, List.getElem_cons_zero, List.getElem_cons_succ]
            refine' wpAnyH_take (i := 25) (v := _) rfl (by kernel_rfl) (by kernel_rfl) (by kernel_rfl) (fun _ _ _ h => h) (Or.inl ⟨by rfl, ?hym118⟩) hS2 ?restm118
            case hym118 => (intro w hSw; (try dsimp only at hSw); go_simp; try with_reducible rfl)
            simp only [Act.put, List.setIfInBounds_toArray, List.set_cons_zero, List.set_cons_succ, List.getElem_toArray, List.getElem_cons_zero, List.getElem_cons_succ]
            refine wpAnyH_done (by kernel_rfl) ?_ _
            go_wp2_with fail
            go_roundw
            case rel => exact ⟨j + 1, hlt, by go_num, Lib.hid (fun i x hi hx => by
              by_cases e : i = j
              · rw [e, HE1.out] at hx; cases hx; exact HO2.out
              · exact HI.out i x (by omega) hx), Lib.hid (HX.out.trans (HY2.out.mono HX.out.size))⟩
            case measure => simp [intOf]; omega
        · obtain rfl : nt = j := by omega
          have HTA : Hid (∀ x ∈ trees, treeE _ x = true) := Lib.hid (fun x hx => by
            obtain ⟨i, hi, rfl⟩ := List.getElem_of_mem hx
            exact HI.out i _ (by have := HLN.out.2.1; (try simp only at this); omega) (List.getElem?_eq_getElem hi))
          have HF := Lib.hid (HH.out HOT.out HEA.out HSA.out HTA.out)
          go_wp2_with fail
          go_ret
          exact ⟨by rw [HF.out]; rfl, HBE.out.trans (HX.out.mono HBE.out.size)⟩
end Go.Proofs.Ytpekofpiodaadaa.Hb
end

section
/- The walk of model.get. -/
namespace Go.Proofs.Ytpekofpiodaadaa.Hb
set_option linter.unusedVariables false
set_option linter.unusedSimpArgs false
open Go.RowKit

theorem forest_sz : (Try.prog.info? 59).map (·.size) = some 14 := by kernel_rfl
/-- Rows that are there wherever the blocks from B on are as they are. -/
def FrF (B : Nat) (w : World) (f : Fst) (Ae At As : Option Addr) : Prop := ∀ w2 : World, (∀ k, B ≤ k → k < w.heap.size → w2.heap[k]? = w.heap[k]?) → RFo w2 f Ae At As
theorem info_sg : (Try.prog.info? 49).map (fun i => (i.zero, i.size, i.bytes)) = some (some (.agg #[.int .i64 0, .int .i64 0]), 2, 16) := by kernel_rfl
theorem cfg_ok {l r : List Nat} {c : List Int} (h : cfgP l = .ok (c, r)) : chkL c = 0 := by
  unfold cfgP bindP at h
  split at h
  · simp only at h
    split at h
    · rename_i hc
      simp only [pureP, Except.ok.injEq, Prod.mk.injEq] at h
      rw [← h.1]; exact hc
    · cases h
  · cases h
theorem info_ns : (Try.prog.info? 88).map (fun i => (i.zero, i.size, i.bytes)) = some (some (.slice none 0 0), 1, 24) := by kernel_rfl
theorem num_small {x k M : Nat} (h : x < 256 ^ k) (hM : 256 ^ k ≤ M) : x < M := Nat.lt_of_lt_of_le h hM
set_option maxRecDepth 100000 in
set_option maxHeartbeats 16000000 in
theorem mget_any (N g : Nat) (l : List Nat) (w : World) (h : RdB w N g l) :
    Calls Try.prog 82 #[.pointer (some ⟨g, 0, none⟩)] w (Reads (getP l) (fun w' f v => ∃ Ae At As ce ct cs, v = .agg (forA f Ae At As ce ct cs) ∧ FrF w.heap.size w' f Ae At As ∧ OkB f) N g w) := by
  have KN := Lib.hid (fun k l w h h1 h2 => number_any N g k l w h h1 h2)
  have KW := Lib.hid (fun l w h => whole_any N g l w h)
  have KV := Lib.hid (fun l w h => value_any N g l w h)
  have KC := Lib.hid (fun l w h => cget_any N g l w h)
  have KT := Lib.hid (fun l cols bins kind classes w h => nget_any N g l cols bins kind classes w h)
  have KF3 := Lib.hid (fun w => fail_any g 3 (by decide) w)
  have KF4 := Lib.hid (fun w => fail_any g 4 (by decide) w)
  have hgN := h.gN
  have hNw := h.Nw
  obtain ⟨L0, hL0⟩ : ∃ L, l = L := ⟨_, rfl⟩
  rw [hL0] at h ⊢
  clear hL0 l
  have hbw : Below w.heap.size w (w.alloc (.cells #[.int .i64 0, .int .i64 0, .int .i64 0, .int .i64 0, .int .i64 0, .int .i64 0, .int .i64 0, .int .i64 0, .int .u64 0, .slice none 0 0, .slice none 0 0, .int .i64 0, .int .i64 0, .slice none 0 0] 59)) := (Below.refl w.heap.size w).alloc (Nat.le_refl _) _
  have HR0 := Lib.hid (h.below hbw)
  have H00 := Lib.hid (Blk.new w #[.int .i64 0, .int .i64 0, .int .i64 0, .int .i64 0, .int .i64 0, .int .i64 0, .int .i64 0, .int .i64 0, .int .u64 0, .slice none 0 0, .slice none 0 0, .int .i64 0, .int .i64 0, .slice none 0 0] 59)
  have HG0 := Lib.hid (gr_below (row := some g) hbw)
  obtain ⟨W, hW⟩ : ∃ W, w.alloc (.cells #[.int .i64 0, .int .i64 0, .int .i64 0, .int .i64 0, .int .i64 0, .int .i64 0, .int .i64 0, .int .i64 0, .int .u64 0, .slice none 0 0, .slice none 0 0, .int .i64 0, .int .i64 0, .slice none 0 0] 59) = W := ⟨_, rfl⟩
  obtain ⟨g0, hg0⟩ : ∃ z, w.heap.size = z := ⟨_, rfl⟩
  rw [hW] at HR0 H00 HG0
  rw [hg0] at H00 hNw ⊢
  have HSZ := Lib.hid hg0
  go_enter Try.func82, Try.ntmps82
  go_upto_region 1 with (fail)
  clear hbw h hW hg0
  go_wp2_with fail
  refine (KN.out 4 _ W HR0.out (by decide) (by decide)).mono ?_
  rintro e w1 ⟨hg1, ⟨x1, r1, v, hp1, rfl, ⟨rfl, hx1⟩, hr1⟩ | ⟨er, hp1, rfl⟩⟩
  rotate_left
  · unfold Flt
    go_wp2_with fail
    exact ⟨rfl, gr_trans HG0.out hg1, .inr ⟨er, by unfold getP; exact bind_err hp1, rfl⟩⟩
  have HG1 := Lib.hid (gr_trans HG0.out hg1)
  have HR1 := Lib.hid hr1
  have HP1 := Lib.hid hp1
  have HX1 := Lib.hid hx1
  have H01 := Lib.hid (own_blk H00.out hg1 (fun e => by simp only [Option.some.injEq] at e; omega))
  clear hg1 hp1 hr1 hx1
  have hx1 : x1 < 4294967296 := HX1.out
  by_cases hm : x1 = 1414677829
  rotate_left
  · have e1 : ((x1 : Int) == 1414677829) = false := beq_eq_false_iff_ne.2 (by omega)
    have e2 : ((x1 : Int) != 1414677829) = true := bne_iff_ne.2 (by omega)
    have HM := Lib.hid hm
    clear hm
    go_wp2_with fail
    refine (KF3.out _).mono ?_
    rintro e wz ⟨rfl, rfl⟩
    unfold Flt
    go_wp2_with fail
    exact ⟨rfl, HG1.out, .inr ⟨3, by unfold getP; rw [bind_ok HP1.out, if_pos HM.out]; rfl, rfl⟩⟩
  subst hm
  clear hx1
  go_wp2_with fail
  refine (KC.out _ w1 HR1.out).mono ?_
  rintro e w2 ⟨hg2, ⟨x2, r2, v, hp2, rfl, ⟨rfl, hx2⟩, hr2⟩ | ⟨er, hp2, rfl⟩⟩
  rotate_left
  · unfold Flt
    go_wp2_with fail
    exact ⟨rfl, gr_trans HG1.out hg2, .inr ⟨er, by unfold getP; rw [bind_ok HP1.out, if_neg (by decide)]; exact bind_err hp2, rfl⟩⟩
  have HG2 := Lib.hid (gr_trans HG1.out hg2)
  have HR2 := Lib.hid hr2
  have HP2 := Lib.hid hp2
  have HX2 := Lib.hid hx2
  have H02 := Lib.hid (own_blk H01.out hg2 (fun e => by simp only [Option.some.injEq] at e; omega))
  clear hg2 hp2 hr2 hx2
  obtain ⟨k, cl, b, tt, d, l, p, hc, hh, hb2, ht3⟩ : ∃ k cl b tt d l p : Int, cfgC x2 = #[.int .i64 k, .int .i64 cl, .int .i64 b, .int .i64 tt, .int .i64 d, .int .i64 l, .int .i64 p] ∧ (∀ cols seed num den, Fst.head x2 cols seed num den = ⟨k, cl, b, tt, d, l, p, cols, seed, [], [], num, den, []⟩) ∧ x2.getD 2 0 = b ∧ x2.getD 3 0 = tt := ⟨_, _, _, _, _, _, _, rfl, fun _ _ _ _ => rfl, rfl, rfl⟩
  rw [hc]
  have HH := Lib.hid (And.intro hh (And.intro hb2 ht3))
  clear hc hh hb2 ht3
  go_upto_region 4 with (fail)
  have hb3 : Below w2.heap.size w2 (w2.alloc (.cells #[.int .i64 k, .int .i64 cl, .int .i64 b, .int .i64 tt, .int .i64 d, .int .i64 l, .int .i64 p, .int .i64 0, .int .u64 0, .slice none 0 0, .slice none 0 0, .int .i64 0, .int .i64 0, .slice none 0 0] 59)) := (Below.refl w2.heap.size w2).alloc (Nat.le_refl _) _
  have HK3 := Lib.hid (Blk.new w2 #[.int .i64 k, .int .i64 cl, .int .i64 b, .int .i64 tt, .int .i64 d, .int .i64 l, .int .i64 p, .int .i64 0, .int .u64 0, .slice none 0 0, .slice none 0 0, .int .i64 0, .int .i64 0, .slice none 0 0] 59)
  have H03 := Lib.hid (H02.out.below hb3)
  have HR3 := Lib.hid (HR2.out.below hb3)
  have HG3 := Lib.hid (gr_trans HG2.out (gr_below hb3))
  have hg03 : g0 < w2.heap.size := H02.out.lt
  obtain ⟨W3, hW3⟩ : ∃ W, w2.alloc (.cells #[.int .i64 k, .int .i64 cl, .int .i64 b, .int .i64 tt, .int .i64 d, .int .i64 l, .int .i64 p, .int .i64 0, .int .u64 0, .slice none 0 0, .slice none 0 0, .int .i64 0, .int .i64 0, .slice none 0 0] 59) = W := ⟨_, rfl⟩
  obtain ⟨g3, hg3⟩ : ∃ z, w2.heap.size = z := ⟨_, rfl⟩
  rw [hW3] at HK3 H03 HR3 HG3 ⊢
  rw [hg3] at HK3 hg03 ⊢
  clear hb3 hW3 hg3 H02 HR2 HG2 H01 HR1 HG1 H00 HR0 HG0
  go_wp2_with fail
  refine (KN.out 2 _ W3 HR3.out (by decide) (by decide)).mono ?_
  rintro e w4 ⟨hg4, ⟨x4, r4, v, hp4, rfl, ⟨rfl, hx4⟩, hr4⟩ | ⟨er, hp4, rfl⟩⟩
  rotate_left
  · unfold Flt
    go_wp2_with fail
    exact ⟨rfl, gr_trans HG3.out hg4, .inr ⟨er, by unfold getP; rw [bind_ok HP1.out, if_neg (by decide), bind_ok HP2.out]; exact bind_err hp4, rfl⟩⟩
  have HG4 := Lib.hid (gr_trans HG3.out hg4)
  have HR4 := Lib.hid hr4
  have HP4 := Lib.hid hp4
  have HX4 := Lib.hid hx4
  have H04 := Lib.hid (own_blk H03.out hg4 (fun e => by simp only [Option.some.injEq] at e; omega))
  have HK4 := Lib.hid (own_blk HK3.out hg4 (fun e => by simp only [Option.some.injEq] at e; omega))
  clear hg4 hp4 hr4 hx4
  have hw := i64_small (x := x4) (Nat.lt_of_lt_of_le HX4.out (by decide))
  have z0 := HK4.out.cell 7
  have z1 := fun i => HK4.out.frozen i
  have z2 := HK4.out.lt
  go_upto_region 5 with (fail)
  have HK5 : Hid (Blk (w4.setCell ⟨g3, 7, none⟩ (.int .i64 (x4 : Int))) g3 #[.int .i64 k, .int .i64 cl, .int .i64 b, .int .i64 tt, .int .i64 d, .int .i64 l, .int .i64 p, .int .i64 (x4 : Int), .int .u64 0, .slice none 0 0, .slice none 0 0, .int .i64 0, .int .i64 0, .slice none 0 0] 59) := Lib.hid (HK4.out.set 7 _)
  have H05 := Lib.hid (own_blk H04.out (gr_cell w4 g3 7 (.int .i64 (x4 : Int))) (fun e => by simp only [Option.some.injEq] at e; omega))
  have HR5 := Lib.hid (HR4.out.kept (gr_cell w4 g3 7 (.int .i64 (x4 : Int))) (by omega))
  have HG5 := Lib.hid (gr_new (i := 7) HG4.out (.int .i64 (x4 : Int)) (q := g3) (by have := HSZ.out; omega))
  obtain ⟨W5, hW5⟩ : ∃ W, w4.setCell ⟨g3, 7, none⟩ (.int .i64 (x4 : Int)) = W := ⟨_, rfl⟩
  rw [hW5] at HK5 H05 HR5 HG5 ⊢
  clear z0 z1 z2 hW5 HK4 H04 HR4 HG4
  have q7 := HK5.out.cell 7
  by_cases hc0 : x4 = 0
  · subst hc0
    go_wp2_with fail
    refine (KF3.out _).mono ?_
    rintro e wz ⟨rfl, rfl⟩
    unfold Flt
    go_wp2_with fail
    exact ⟨rfl, HG5.out, .inr ⟨3, by unfold getP; rw [bind_ok HP1.out, if_neg (by decide), bind_ok HP2.out]; rw [bind_ok HP4.out]; rw [if_pos rfl]; rfl, rfl⟩⟩
  have e1 : ((x4 : Int) == 0) = false := beq_eq_false_iff_ne.2 (by omega)
  by_cases hc1 : 1024 < x4
  · have d1 : decide (1024 < x4) = true := decide_eq_true hc1
    have d1' : decide ((1024 : Int) < x4) = true := decide_eq_true (by omega)
    have HC0 := Lib.hid (And.intro hc0 hc1)
    clear hc0 hc1
    go_wp2_with fail
    refine (KF4.out _).mono ?_
    rintro e wz ⟨rfl, rfl⟩
    unfold Flt
    go_wp2_with fail
    exact ⟨rfl, HG5.out, .inr ⟨4, by unfold getP; rw [bind_ok HP1.out, if_neg (by decide), bind_ok HP2.out]; rw [bind_ok HP4.out]; rw [if_neg HC0.out.1, if_pos HC0.out.2]; rfl, rfl⟩⟩
  have d1 : decide (1024 < x4) = false := decide_eq_false hc1
  have d1' : decide ((1024 : Int) < x4) = false := decide_eq_false (by omega)
  have HC0 := Lib.hid (And.intro hc0 hc1)
  clear hc0 hc1
  go_upto_region 9 with (fail)
  clear d1 d1' e1 q7 hw
  go_wp2_with fail
  refine (KN.out 8 _ W5 HR5.out (by decide) (by decide)).mono ?_
  rintro e w6 ⟨hg6, ⟨x6, r6, v, hp6, rfl, ⟨rfl, hx6⟩, hr6⟩ | ⟨er, hp6, rfl⟩⟩
  rotate_left
  · unfold Flt
    go_wp2_with fail
    exact ⟨rfl, gr_trans HG5.out hg6, .inr ⟨er, by unfold getP; rw [bind_ok HP1.out, if_neg (by decide), bind_ok HP2.out]; rw [bind_ok HP4.out]; rw [if_neg HC0.out.1, if_neg HC0.out.2]; exact bind_err hp6, rfl⟩⟩
  have HG6 := Lib.hid (gr_trans HG5.out hg6)
  have HR6 := Lib.hid hr6
  have HP6 := Lib.hid hp6
  have HX6 := Lib.hid hx6
  have H06 := Lib.hid (own_blk H05.out hg6 (fun e => by simp only [Option.some.injEq] at e; omega))
  have HK6 := Lib.hid (own_blk HK5.out hg6 (fun e => by simp only [Option.some.injEq] at e; omega))
  clear hg6 hp6 hr6 hx6
  have z0 := HK6.out.cell 8
  have z1 := fun i => HK6.out.frozen i
  have z2 := HK6.out.lt
  go_upto_region 10 with (fail)
  have HK7 : Hid (Blk (w6.setCell ⟨g3, 8, none⟩ (.int .u64 (x6 : Int))) g3 #[.int .i64 k, .int .i64 cl, .int .i64 b, .int .i64 tt, .int .i64 d, .int .i64 l, .int .i64 p, .int .i64 (x4 : Int), .int .u64 (x6 : Int), .slice none 0 0, .slice none 0 0, .int .i64 0, .int .i64 0, .slice none 0 0] 59) := Lib.hid (HK6.out.set 8 _)
  have H07 := Lib.hid (own_blk H06.out (gr_cell w6 g3 8 (.int .u64 (x6 : Int))) (fun e => by simp only [Option.some.injEq] at e; omega))
  have HR7 := Lib.hid (HR6.out.kept (gr_cell w6 g3 8 (.int .u64 (x6 : Int))) (by omega))
  have HG7 := Lib.hid (gr_new (i := 8) HG6.out (.int .u64 (x6 : Int)) (q := g3) (by have := HSZ.out; omega))
  obtain ⟨W7, hW7⟩ : ∃ W, w6.setCell ⟨g3, 8, none⟩ (.int .u64 (x6 : Int)) = W := ⟨_, rfl⟩
  rw [hW7] at HK7 H07 HR7 HG7 ⊢
  clear z0 z1 z2 hW7 HK6 H06 HR6 HG6
  go_wp2_with fail
  refine (KW.out _ W7 HR7.out).mono ?_
  rintro e w8 ⟨hg8, ⟨x8, r8, v, hp8, rfl, rfl, hr8⟩ | ⟨er, hp8, rfl⟩⟩
  rotate_left
  · unfold Flt
    go_wp2_with fail
    exact ⟨rfl, gr_trans HG7.out hg8, .inr ⟨er, by unfold getP; rw [bind_ok HP1.out, if_neg (by decide), bind_ok HP2.out]; rw [bind_ok HP4.out]; rw [if_neg HC0.out.1, if_neg HC0.out.2]; rw [bind_ok HP6.out]; exact bind_err hp8, rfl⟩⟩
  have HG8 := Lib.hid (gr_trans HG7.out hg8)
  have HR8 := Lib.hid hr8
  have HP8 := Lib.hid hp8
  have H08 := Lib.hid (own_blk H07.out hg8 (fun e => by simp only [Option.some.injEq] at e; omega))
  have HK8 := Lib.hid (own_blk HK7.out hg8 (fun e => by simp only [Option.some.injEq] at e; omega))
  clear hg8 hp8 hr8
  have z0 := HK8.out.cell 11
  have z1 := fun i => HK8.out.frozen i
  have z2 := HK8.out.lt
  go_upto_region 11 with (fail)
  have HK9 : Hid (Blk (w8.setCell ⟨g3, 11, none⟩ (.int .i64 (sI x8))) g3 #[.int .i64 k, .int .i64 cl, .int .i64 b, .int .i64 tt, .int .i64 d, .int .i64 l, .int .i64 p, .int .i64 (x4 : Int), .int .u64 (x6 : Int), .slice none 0 0, .slice none 0 0, .int .i64 (sI x8), .int .i64 0, .slice none 0 0] 59) := Lib.hid (HK8.out.set 11 _)
  have H09 := Lib.hid (own_blk H08.out (gr_cell w8 g3 11 (.int .i64 (sI x8))) (fun e => by simp only [Option.some.injEq] at e; omega))
  have HR9 := Lib.hid (HR8.out.kept (gr_cell w8 g3 11 (.int .i64 (sI x8))) (by omega))
  have HG9 := Lib.hid (gr_new (i := 11) HG8.out (.int .i64 (sI x8)) (q := g3) (by have := HSZ.out; omega))
  obtain ⟨W9, hW9⟩ : ∃ W, w8.setCell ⟨g3, 11, none⟩ (.int .i64 (sI x8)) = W := ⟨_, rfl⟩
  rw [hW9] at HK9 H09 HR9 HG9 ⊢
  clear z0 z1 z2 hW9 HK8 H08 HR8 HG8
  go_wp2_with fail
  refine (KN.out 4 _ W9 HR9.out (by decide) (by decide)).mono ?_
  rintro e w10 ⟨hg10, ⟨x10, r10, v, hp10, rfl, ⟨rfl, hx10⟩, hr10⟩ | ⟨er, hp10, rfl⟩⟩
  rotate_left
  · unfold Flt
    go_wp2_with fail
    exact ⟨rfl, gr_trans HG9.out hg10, .inr ⟨er, by unfold getP; rw [bind_ok HP1.out, if_neg (by decide), bind_ok HP2.out]; rw [bind_ok HP4.out]; rw [if_neg HC0.out.1, if_neg HC0.out.2]; rw [bind_ok HP6.out]; rw [bind_ok HP8.out]; exact bind_err hp10, rfl⟩⟩
  have HG10 := Lib.hid (gr_trans HG9.out hg10)
  have HR10 := Lib.hid hr10
  have HP10 := Lib.hid hp10
  have HX10 := Lib.hid hx10
  have H010 := Lib.hid (own_blk H09.out hg10 (fun e => by simp only [Option.some.injEq] at e; omega))
  have HK10 := Lib.hid (own_blk HK9.out hg10 (fun e => by simp only [Option.some.injEq] at e; omega))
  clear hg10 hp10 hr10 hx10
  have hw := i64_small (x := x10) (Nat.lt_of_lt_of_le HX10.out (by decide))
  have z0 := HK10.out.cell 12
  have z1 := fun i => HK10.out.frozen i
  have z2 := HK10.out.lt
  go_upto_region 12 with (fail)
  have HK11 : Hid (Blk (w10.setCell ⟨g3, 12, none⟩ (.int .i64 (x10 : Int))) g3 #[.int .i64 k, .int .i64 cl, .int .i64 b, .int .i64 tt, .int .i64 d, .int .i64 l, .int .i64 p, .int .i64 (x4 : Int), .int .u64 (x6 : Int), .slice none 0 0, .slice none 0 0, .int .i64 (sI x8), .int .i64 (x10 : Int), .slice none 0 0] 59) := Lib.hid (HK10.out.set 12 _)
  have H011 := Lib.hid (own_blk H010.out (gr_cell w10 g3 12 (.int .i64 (x10 : Int))) (fun e => by simp only [Option.some.injEq] at e; omega))
  have HR11 := Lib.hid (HR10.out.kept (gr_cell w10 g3 12 (.int .i64 (x10 : Int))) (by omega))
  have HG11 := Lib.hid (gr_new (i := 12) HG10.out (.int .i64 (x10 : Int)) (q := g3) (by have := HSZ.out; omega))
  obtain ⟨W11, hW11⟩ : ∃ W, w10.setCell ⟨g3, 12, none⟩ (.int .i64 (x10 : Int)) = W := ⟨_, rfl⟩
  rw [hW11] at HK11 H011 HR11 HG11 ⊢
  clear z0 z1 z2 hW11 HK10 H010 HR10 HG10
  obtain ⟨i0, hi0, hz0, hz1, hz2⟩ := info_parts info_f64
  obtain ⟨i1, hi1, hy0, hy1, hy2⟩ := info_parts info_fs
  obtain ⟨i2, hi2, hv0, hv1, hv2⟩ := info_parts info_sg
  have KCU := Lib.hid (fun es A cap w hr hl => cuts_any k cl b tt d l p es A cap w hr hl)
  unfold cfgF at KCU
  have hx4 : x4 ≤ 1024 := by have := HC0.out; omega
  obtain ⟨R, hR⟩ : ∃ R, colsA b (x10 : Int) x4 [] [] r10 = R := ⟨_, rfl⟩
  have HRR := Lib.hid hR
  clear hR
  have q7 := HK11.out.cell 7
  go_wp2_with fail
  clear q7 hw
  go_loopw [44] (fun iv wr => ∃ (j : Nat) (Ae As : Option Addr) (ce cs : Nat) (I : List (Value × List Nat)) (S : List (Int × Int)) (rest : List Nat), j ≤ x4 ∧ iv = .int .i64 j ∧ Hid (Blk wr g3 #[.int .i64 k, .int .i64 cl, .int .i64 b, .int .i64 tt, .int .i64 d, .int .i64 l, .int .i64 p, .int .i64 (x4 : Int), .int .u64 (x6 : Int), .slice Ae j ce, .slice none 0 0, .int .i64 (sI x8), .int .i64 (x10 : Int), .slice As j cs] 59) ∧ Hid (ORows wr (g3 + 1) (esRow (.slice Ae j ce) I :: sgRow (.slice As j cs) S :: I.map eRow)) ∧ Hid (I.length = j ∧ S.length = j ∧ (∀ p ∈ I, ∃ a c, p.1 = .slice a p.2.length c) ∧ (∀ p ∈ I, p.2.length ≤ 255 ∧ ∀ x ∈ p.2, x < 18446744073709551616) ∧ ∀ x ∈ S, in64 x.1 ∧ in64 x.2) ∧ Hid (RdB wr N g rest) ∧ Hid (colsA b (x10 : Int) (x4 - j) (I.map Prod.snd) S rest = R) ∧ Hid (w.grownBy wr (some g)) ∧ Hid (Blk wr g0 #[.int .i64 0, .int .i64 0, .int .i64 0, .int .i64 0, .int .i64 0, .int .i64 0, .int .i64 0, .int .i64 0, .int .u64 0, .slice none 0 0, .slice none 0 0, .int .i64 0, .int .i64 0, .slice none 0 0] 59)) (fun iv _ => x4 - (intOf iv).toNat)
  case atStart => exact ⟨0, none, none, 0, 0, [], [], r10, Nat.zero_le _, rfl, HK11, Lib.hid (((ORows.nil _ _).empty _ _).empty _ _), Lib.hid ⟨rfl, rfl, by simp, by simp, by simp⟩, HR11, HRR, HG11, H011⟩
  case round =>
    obtain ⟨j, Ae, As, ce, cs, I, S, rest, hj, rfl, HK19, HO19, HI, HR19, HNO, HG19, H019⟩ := hrel
    clear HK11 HR11 HG11 H011
    by_cases hlt : j < x4
    · have hlt' : (j : Int) < x4 := by omega
      have HS : Hid (R = bindP (numP 1) (fun m => bindP (valsA m []) fun es => if cutsE b es then bindP (numP 8) fun x => colsA b (x10 : Int) (x4 - (j + 1)) (I.map Prod.snd ++ [es]) (S ++ [(sI x, (x10 : Int))]) else failP 3) rest) := Lib.hid (by rw [← HNO.out, show x4 - j = (x4 - (j + 1)) + 1 from by omega]; rfl)
      clear HNO
      go_wp2_with fail
      refine (KN.out 1 _ wr HR19.out (by decide) (by decide)).mono ?_
      rintro e w20 ⟨hg20, ⟨x20, r20, v, hp20, rfl, ⟨rfl, hx20⟩, hr20⟩ | ⟨er, hp20, rfl⟩⟩
      rotate_left
      · unfold Flt
        go_wp2_with fail
        exact ⟨rfl, gr_trans HG19.out hg20, .inr ⟨er, by unfold getP; rw [bind_ok HP1.out, if_neg (by decide), bind_ok HP2.out]; rw [bind_ok HP4.out]; rw [if_neg HC0.out.1, if_neg HC0.out.2]; rw [bind_ok HP6.out]; rw [bind_ok HP8.out]; rw [bind_ok HP10.out]; rw [HH.out.2.1]; exact bind_err (HRR.out.trans (HS.out.trans (bind_err hp20))), rfl⟩⟩
      have HG20 := Lib.hid (gr_trans HG19.out hg20)
      have HR20 := Lib.hid hr20
      have HP20 := Lib.hid hp20
      have HX20 := Lib.hid hx20
      have H020 := Lib.hid (own_blk H019.out hg20 (fun e => by simp only [Option.some.injEq] at e; omega))
      have HK20 := Lib.hid (own_blk HK19.out hg20 (fun e => by simp only [Option.some.injEq] at e; omega))
      have HO20 := Lib.hid (HO19.out.kept hg20 (by omega))
      clear hg20 hp20 hr20 hx20
      have HS20 : Hid (R = bindP (valsA x20 []) (fun es => if cutsE b es then bindP (numP 8) fun x => colsA b (x10 : Int) (x4 - (j + 1)) (I.map Prod.snd ++ [es]) (S ++ [(sI x, (x10 : Int))]) else failP 3) r20) := Lib.hid (by rw [HS.out, bind_ok HP20.out])
      have hx20 : x20 < 256 := HX20.out
      clear HS HP20 HX20 HK19 HO19 HR19 HG19 H019
      obtain ⟨R2, hR2⟩ : ∃ R, valsA x20 [] r20 = R := ⟨_, rfl⟩
      have HRR2 := Lib.hid hR2
      clear hR2
      obtain ⟨LR, hLR⟩ : ∃ L, (esRow (.slice Ae j ce) I :: sgRow (.slice As j cs) S :: I.map eRow) = L := ⟨_, rfl⟩
      rw [hLR] at HO20
      have HLR := Lib.hid hLR
      clear hLR
      go_wp2_with fail
      go_loopw [4, 48] (fun o iv wv => ∃ (i : Nat) (a : Option Addr) (c : Nat) (out rest2 : List Nat), i ≤ x20 ∧ iv = .int .u64 i ∧ o = .slice a i c ∧ Hid (out.length = i ∧ ∀ x ∈ out, x < 18446744073709551616) ∧ Hid (ORows wv (g3 + 1) (⟨.slice a i c, 139, 1, i, flts out⟩ :: LR)) ∧ Hid (RdB wv N g rest2) ∧ Hid (valsA (x20 - i) out rest2 = R2) ∧ Hid (w.grownBy wv (some g)) ∧ Hid (Blk wv g3 #[.int .i64 k, .int .i64 cl, .int .i64 b, .int .i64 tt, .int .i64 d, .int .i64 l, .int .i64 p, .int .i64 (x4 : Int), .int .u64 (x6 : Int), .slice Ae j ce, .slice none 0 0, .int .i64 (sI x8), .int .i64 (x10 : Int), .slice As j cs] 59) ∧ Hid (Blk wv g0 #[.int .i64 0, .int .i64 0, .int .i64 0, .int .i64 0, .int .i64 0, .int .i64 0, .int .i64 0, .int .i64 0, .int .u64 0, .slice none 0 0, .slice none 0 0, .int .i64 0, .int .i64 0, .slice none 0 0] 59)) (fun _ iv _ => x20 - (intOf iv).toNat)
      case atStart => exact ⟨0, none, 0, [], r20, Nat.zero_le _, rfl, rfl, Lib.hid ⟨rfl, by simp⟩, Lib.hid (HO20.out.empty _ _), HR20, HRR2, HG20, HK20, H020⟩
      case round =>
        obtain ⟨i, a, c, out, rest2, hi, rfl, rfl, HV, HO29, HR29, HNO, HG29, HK29, H029⟩ := hrel
        clear HO20 HR20 HG20 HK20 H020
        by_cases hlt2 : i < x20
        · have hlt2' : (i : Int) < x20 := by omega
          have HSV : Hid (R2 = bindP (numP 8) (fun x => valsA (x20 - (i + 1)) (out ++ [x])) rest2) := Lib.hid (by rw [← HNO.out, show x20 - i = (x20 - (i + 1)) + 1 from by omega]; rfl)
          clear HNO
          go_wp2_with fail
          refine (KV.out _ wr HR29.out).mono ?_
          rintro e w30 ⟨hg30, ⟨x30, r30, v, hp30, rfl, ⟨rfl, hx30⟩, hr30⟩ | ⟨er, hp30, rfl⟩⟩
          rotate_left
          · unfold Flt
            go_wp2_with fail
            exact ⟨rfl, gr_trans HG29.out hg30, .inr ⟨er, by unfold getP; rw [bind_ok HP1.out, if_neg (by decide), bind_ok HP2.out]; rw [bind_ok HP4.out]; rw [if_neg HC0.out.1, if_neg HC0.out.2]; rw [bind_ok HP6.out]; rw [bind_ok HP8.out]; rw [bind_ok HP10.out]; rw [HH.out.2.1]; exact bind_err (HRR.out.trans (HS20.out.trans (bind_err (HRR2.out.trans (HSV.out.trans (bind_err hp30)))))), rfl⟩⟩
          have HG30 := Lib.hid (gr_trans HG29.out hg30)
          have HR30 := Lib.hid hr30
          have HP30 := Lib.hid hp30
          have HX30 := Lib.hid hx30
          have H030 := Lib.hid (own_blk H029.out hg30 (fun e => by simp only [Option.some.injEq] at e; omega))
          have HK30 := Lib.hid (own_blk HK29.out hg30 (fun e => by simp only [Option.some.injEq] at e; omega))
          have HO30 := Lib.hid (HO29.out.kept hg30 (by omega))
          clear hg30 hp30 hr30 hx30
          have HSV2 : Hid (valsA (x20 - (i + 1)) (out ++ [x30]) r30 = R2) := Lib.hid (by rw [HSV.out, bind_ok HP30.out])
          have HOW := Lib.hid (HO30.out.own _ (List.mem_cons_self ..))
          have hl30 := HK30.out.lt
          go_wp2_with (at_builtin; refine wpList_append_lies _ rfl _ _ 94 rfl (g3 + 1) 139 i0 (.float .f64 0) 1 8 Try.underlying94 hi0 hz0 hz1 hz2 rfl (by decide) (.slice a i c) i (flts out) rfl (HOW.out.alloc _) ⟨w30.heap.size, 0, none⟩ 1 1 [.float .f64 x30] rfl rfl (cell_one_new _ _ _) (by simp [Value.oneCell']) (by decide) (by unfold maxLen; omega) (by omega) (by simp; omega) _ rfl ?_; intro g5 c5 w5 hown5 hg5 hat5 hlt5)
          have hq : ∀ q, (Value.slice a i c).ownBlock = some q → g3 + 1 ≤ q := fun q e => (World.ownsRow.lt HOW.out q e).1
          go_roundw
          case rel => exact ⟨i + 1, _, c5, out ++ [x30], r30, hlt2, by go_num, rfl, Lib.hid ⟨by rw [List.length_append, HV.out.1]; rfl, fun x hx => by
            rcases List.mem_append.1 hx with hx | hx
            · exact HV.out.2 x hx
            · simp only [List.mem_singleton] at hx; subst hx; exact HX30.out⟩,
            Lib.hid ((HO30.out.below ((Below.refl w30.heap.size w30).alloc (Nat.le_refl _) (.cells #[.float .f64 x30] 139))).grow (r1 := ⟨.slice (some ⟨g5, 0, none⟩) (i + 1) c5, 139, 1, i + 1, flts (out ++ [x30])⟩) hg5 (by rw [show flts (out ++ [x30]) = flts out ++ [.float .f64 x30] from by unfold flts; rw [List.map_append]; rfl]; exact hown5) (fun q e => by simp only [Value.ownBlock, Option.some.injEq] at e; subst e; exact hat5)),
            Lib.hid (rd_grown (HR30.out.below ((Below.refl w30.heap.size w30).alloc (Nat.le_refl _) (.cells #[.float .f64 x30] 139))) hg5 (fun q e => by have := hq q e; omega)), HSV2, Lib.hid (gr_own (gr_trans HG30.out (gr_below ((Below.refl w30.heap.size w30).alloc (Nat.le_refl _) (.cells #[.float .f64 x30] 139)))) hg5 (fun q e => by have := hq q e; have := HSZ.out; omega)), Lib.hid (own_blk (HK30.out.below ((Below.refl w30.heap.size w30).alloc (Nat.le_refl _) (.cells #[.float .f64 x30] 139))) hg5 (fun e => by have := hq _ e; omega)), Lib.hid (own_blk (H030.out.below ((Below.refl w30.heap.size w30).alloc (Nat.le_refl _) (.cells #[.float .f64 x30] 139))) hg5 (fun e => by have := hq _ e; omega))⟩
          case measure => simp [intOf]; omega
        · obtain rfl : x20 = i := by omega
          have HS29 : Hid (R = (if cutsE b out then bindP (numP 8) fun x => colsA b (x10 : Int) (x4 - (j + 1)) (I.map Prod.snd ++ [out]) (S ++ [(sI x, (x10 : Int))]) else failP 3) rest2) := Lib.hid (by rw [HS20.out, bind_ok (HRR2.out.trans (by rw [← HNO.out, Nat.sub_self]; rfl))])
          have HOW := Lib.hid (HO29.out.own _ (List.mem_cons_self ..))
          have KCX := Lib.hid (KCU.out out a c wr (RF.own (by have := HOW.out; simp only at this; rw [← HV.out.1] at this; exact this) HV.out.2) (by rw [HV.out.1]; omega))
          rw [HV.out.1] at KCX
          obtain ⟨q0, q1, q2, q3, q4, q5, q6, q7, q8, q9, q10, q11, q12, q13⟩ := HK29.out.cells14
          clear HS20 HRR2 HNO
          obtain ⟨ct, hct⟩ : ∃ z, cutsE b out = z := ⟨_, rfl⟩
          rw [hct] at KCX
          have HCT := Lib.hid hct
          clear hct
          go_wp2_with fail
          refine KCX.out.mono ?_
          rintro e w31 ⟨rfl, hb⟩
          have HK31 := Lib.hid (HK29.out.below hb)
          have H031 := Lib.hid (H029.out.below hb)
          have HR31 := Lib.hid (HR29.out.below hb)
          have HG31 := Lib.hid (gr_trans HG29.out (gr_below hb))
          have HO31 := Lib.hid (HO29.out.below hb)
          clear hb q0 q1 q2 q3 q4 q5 q6 q7 q8 q9 q10 q11 q12 q13 HK29 H029 HR29 HG29 HO29 HOW KCX
          cases ct with
          | false =>
            go_wp2_with fail
            refine (KF3.out _).mono ?_
            rintro e wz ⟨rfl, rfl⟩
            unfold Flt
            go_wp2_with fail
            exact ⟨rfl, HG31.out, .inr ⟨3, by unfold getP; rw [bind_ok HP1.out, if_neg (by decide), bind_ok HP2.out]; rw [bind_ok HP4.out]; rw [if_neg HC0.out.1, if_neg HC0.out.2]; rw [bind_ok HP6.out]; rw [bind_ok HP8.out]; rw [bind_ok HP10.out]; rw [HH.out.2.1]; exact bind_err (HRR.out.trans (HS29.out.trans (by rw [if_neg (by rw [HCT.out]; decide)]; rfl))), rfl⟩⟩
          | true =>
            have HS31 : Hid (R = bindP (numP 8) (fun x => colsA b (x10 : Int) (x4 - (j + 1)) (I.map Prod.snd ++ [out]) (S ++ [(sI x, (x10 : Int))])) rest2) := Lib.hid (by rw [HS29.out, if_pos HCT.out])
            rw [← HLR.out] at HO31
            have HO32 := Lib.hid (HO31.out.perm (List.Perm.swap _ _ _))
            have HOW := Lib.hid (HO32.out.own _ (List.mem_cons_self ..))
            have hl31 := HK31.out.lt
            have hq : ∀ q, (Value.slice Ae j ce).ownBlock = some q → g3 + 1 ≤ q := fun q e => (World.ownsRow.lt HOW.out q e).1
            have HOW2 : Hid (w31.ownsRow (g3 + 1) 94 1 (.slice Ae j ce) j (I.map Prod.fst)) := Lib.hid (by have := HOW.out; simp only [esRow] at this; rw [HI.out.1] at this; exact this)
            have q9 := HK31.out.cell 9
            go_upto_region 22 with (at_builtin; refine wpList_append_lies _ rfl _ _ 57 rfl (g3 + 1) 94 i1 (.slice none 0 0) 1 24 Try.underlying57 hi1 hy0 hy1 hy2 rfl (by decide) (.slice Ae j ce) j (I.map Prod.fst) rfl (HOW2.out.alloc _) ⟨w31.heap.size, 0, none⟩ 1 1 [.slice a x20 c] rfl rfl (cell_one_new _ _ _) (by simp [Value.oneCell']) (by decide) (by unfold maxLen; omega) (by omega) (by simp; omega) _ rfl ?_; intro g5 c5 w5 hown5 hg5 hat5 hlt5; have kK5 := own_blk (HK31.out.below ((Below.refl w31.heap.size w31).alloc (Nat.le_refl _) (.cells #[.slice a x20 c] 94))) hg5 (fun e => by have := hq _ e; omega); have f0 := kK5.cell 9; have f1 := fun i => kK5.frozen i; have f2 := kK5.lt)
            clear f0 f1 f2 q9
            have HK33 : Hid (Blk (w5.setCell ⟨g3, 9, none⟩ (.slice (some ⟨g5, 0, none⟩) (j + 1) c5)) g3 #[.int .i64 k, .int .i64 cl, .int .i64 b, .int .i64 tt, .int .i64 d, .int .i64 l, .int .i64 p, .int .i64 (x4 : Int), .int .u64 (x6 : Int), .slice (some ⟨g5, 0, none⟩) (j + 1) c5, .slice none 0 0, .int .i64 (sI x8), .int .i64 (x10 : Int), .slice As j cs] 59) := Lib.hid (kK5.set 9 _)
            have H033 := Lib.hid (own_blk (own_blk (H031.out.below ((Below.refl w31.heap.size w31).alloc (Nat.le_refl _) (.cells #[.slice a x20 c] 94))) hg5 (fun e => by have := hq _ e; omega)) (gr_cell w5 g3 9 (.slice (some ⟨g5, 0, none⟩) (j + 1) c5)) (fun e => by simp only [Option.some.injEq] at e; omega))
            have HR33 := Lib.hid ((rd_grown (HR31.out.below ((Below.refl w31.heap.size w31).alloc (Nat.le_refl _) (.cells #[.slice a x20 c] 94))) hg5 (fun q e => by have := hq q e; omega)).kept (gr_cell w5 g3 9 (.slice (some ⟨g5, 0, none⟩) (j + 1) c5)) (by omega))
            have HG33 := Lib.hid (gr_new (i := 9) (gr_own (gr_trans HG31.out (gr_below ((Below.refl w31.heap.size w31).alloc (Nat.le_refl _) (.cells #[.slice a x20 c] 94)))) hg5 (fun q e => by have := hq q e; have := HSZ.out; omega)) (.slice (some ⟨g5, 0, none⟩) (j + 1) c5) (q := g3) (by have := HSZ.out; omega))
            have HO33 := Lib.hid ((((HO32.out.below ((Below.refl w31.heap.size w31).alloc (Nat.le_refl _) (.cells #[.slice a x20 c] 94))).grow (r1 := esRow (.slice (some ⟨g5, 0, none⟩) (j + 1) c5) (I ++ [(.slice a x20 c, out)])) hg5 (by simp only [esRow]; rw [List.length_append, HI.out.1, List.map_append]; exact hown5) (fun q e => by simp only [esRow, Value.ownBlock, Option.some.injEq] at e; subst e; exact hat5)).kept (gr_cell w5 g3 9 (.slice (some ⟨g5, 0, none⟩) (j + 1) c5)) (by omega)).perm ((List.Perm.cons _ (List.Perm.swap _ _ _)).trans (List.Perm.swap _ _ _)))
            obtain ⟨W33, hW33⟩ : ∃ W, w5.setCell ⟨g3, 9, none⟩ (.slice (some ⟨g5, 0, none⟩) (j + 1) c5) = W := ⟨_, rfl⟩
            rw [hW33] at HK33 H033 HR33 HG33 HO33 ⊢
            clear hW33 kK5 hown5 hg5 hat5 hlt5 HO32 HO31 HOW HOW2 hq HK31 H031 HR31 HG31 hl31
            have HPM : Hid (∀ {r1 r2 : ORow}, (r1 :: r2 :: ⟨Value.slice a x20 c, 139, 1, x20, flts out⟩ :: I.map eRow).Perm (r2 :: r1 :: (I ++ [(Value.slice a x20 c, out)]).map eRow)) := Lib.hid (by
              have hl : eRow (Value.slice a x20 c, out) = ⟨Value.slice a x20 c, 139, 1, x20, flts out⟩ := by unfold eRow; rw [HV.out.1]
              rw [← hl, List.map_append]
              exact (List.Perm.swap _ _ _).trans (List.Perm.cons _ (List.Perm.cons _ (List.perm_append_singleton _ _).symm)))
            have HFI : Hid (∀ x : Nat, Hid ((I ++ [((Value.slice a x20 c), out)]).length = j + 1 ∧ (S ++ [(sI x, (x10 : Int))]).length = j + 1 ∧ (∀ p ∈ I ++ [((Value.slice a x20 c), out)], ∃ a c, p.1 = Value.slice a p.2.length c) ∧ (∀ p ∈ I ++ [((Value.slice a x20 c), out)], p.2.length ≤ 255 ∧ ∀ x ∈ p.2, x < 18446744073709551616) ∧ ∀ y ∈ S ++ [(sI x, (x10 : Int))], in64 y.1 ∧ in64 y.2)) := Lib.hid (fun x => Lib.hid (by
              obtain ⟨a1, a2, a3, a4, a5⟩ := HI.out
              refine ⟨by rw [List.length_append, a1]; rfl, by rw [List.length_append, a2]; rfl, fun p hp => ?_, fun p hp => ?_, fun y hy => ?_⟩
              · rcases List.mem_append.1 hp with hp | hp
                · exact a3 p hp
                · simp only [List.mem_singleton] at hp; subst hp; exact ⟨a, c, by simp only; rw [HV.out.1]⟩
              · rcases List.mem_append.1 hp with hp | hp
                · exact a4 p hp
                · simp only [List.mem_singleton] at hp; subst hp; exact ⟨by simp only; rw [HV.out.1]; omega, HV.out.2⟩
              · rcases List.mem_append.1 hy with hy | hy
                · exact a5 y hy
                · simp only [List.mem_singleton] at hy; subst hy; exact ⟨sI_in x, by have := HX10.out; unfold in64; simp only; omega⟩))
            refine wp_region_held_drew (S := (fun W => W.cell? ⟨g3, 12, none⟩ = some (.int .i64 (x10 : Int)))) (by kernel_rfl) ?_ (fun hS0 => ?_)
            · exact HK33.out.cell 12
            have hbb := (Below.refl W33.heap.size W33).drew
            have HK34 := Lib.hid (HK33.out.below hbb)
            have H034 := Lib.hid (H033.out.below hbb)
            have HR34 := Lib.hid (HR33.out.below hbb)
            have HO34 := Lib.hid (HO33.out.below hbb)
            have HG34 := Lib.hid (gr_trans HG33.out (gr_below hbb))
            clear hbb HK33 H033 HR33 HO33 HG33
            refine' wpAnyH_take (i := 0) (v := _) rfl (by kernel_rfl) (by kernel_rfl) (by kernel_rfl) (fun _ _ _ h => h) (Or.inl ⟨by rfl, ?hym1⟩) hS0 ?restm1
            case hym1 => (intro w hSw; (try dsimp only at hSw); go_simp; try with_reducible rfl)
            simp only [Act.put, List.setIfInBounds_toArray, List.set_cons_zero, List.set_cons_succ, List.getElem_toArray, List.getElem_cons_zero, List.getElem_cons_succ]
            refine' wpAnyH_take (i := 2) (v := _) rfl (by kernel_rfl) (by kernel_rfl) (by kernel_rfl) (fun _ _ _ h => h) (Or.inl ⟨by rfl, ?hym2⟩) hS0 ?restm2
            case hym2 => (intro w hSw; (try dsimp only at hSw); go_simp; try with_reducible rfl)
            simp only [Act.put, List.setIfInBounds_toArray, List.set_cons_zero, List.set_cons_succ, List.getElem_toArray, List.getElem_cons_zero, List.getElem_cons_succ]
            refine' wpAnyH_take (i := 4) (v := _) rfl (by kernel_rfl) (by kernel_rfl) (by kernel_rfl) (fun _ _ _ h => h) (Or.inl ⟨by rfl, ?hym3⟩) hS0 ?restm3
            case hym3 => (intro w hSw; (try dsimp only at hSw); go_simp; try with_reducible rfl)
            simp only [Act.put, List.setIfInBounds_toArray, List.set_cons_zero, List.set_cons_succ, List.getElem_toArray, List.getElem_cons_zero, List.getElem_cons_succ]
            refine' wpAnyH_take (i := 5) (v := _) rfl (by kernel_rfl) (by kernel_rfl) (by kernel_rfl) (fun _ _ _ h => h) (Or.inl ⟨by rfl, ?hym4⟩) hS0 ?restm4
            case hym4 => (intro w hSw; (try dsimp only at hSw); go_simp; try with_reducible rfl)
            simp only [Act.put, List.setIfInBounds_toArray, List.set_cons_zero, List.set_cons_succ, List.getElem_toArray, List.getElem_cons_zero, List.getElem_cons_succ]
            refine' wpAnyH_take (i := 6) (v := _) rfl (by kernel_rfl) (by kernel_rfl) (by kernel_rfl) (fun _ _ _ h => h) (Or.inl ⟨by rfl, ?hym5⟩) hS0 ?restm5
            case hym5 => (intro w hSw; (try dsimp only at hSw); go_simp; try with_reducible rfl)
            simp only [Act.put, List.setIfInBounds_toArray, List.set_cons_zero, List.set_cons_succ, List.getElem_toArray, List.getElem_cons_zero, List.getElem_cons_succ]
            refine wpAnyH_ready (rs := [1, 3]) (by kernel_rfl) (by simp) ?_
            refine AllReadyH.cons rfl (fun K hK => ?_) (AllReadyH.cons rfl (fun K hK => ?_) AllReadyH.nil)
            · have f13 := HK34.out.cell 13
              go_simp
              clear f13
              refine hK.out _ _ (HK34.out.cell 12) (fun hS1 => ?_)
              clear hK K
              refine wpAnyH_ready (rs := [3]) (by kernel_rfl) (by simp) ?_
              refine AllReadyH.cons rfl (fun K hK => ?_) AllReadyH.nil
              go_simp
              refine (KW.out _ _ HR34.out).mono ?_
              rintro e wc ⟨hg, ⟨x40, r40, v, hp, rfl, rfl, hr⟩ | ⟨er, hp, rfl⟩⟩
              rotate_left
              · unfold Flt
                go_simp
                exact ⟨rfl, gr_trans HG34.out hg, .inr ⟨er, by unfold getP; rw [bind_ok HP1.out, if_neg (by decide), bind_ok HP2.out]; rw [bind_ok HP4.out]; rw [if_neg HC0.out.1, if_neg HC0.out.2]; rw [bind_ok HP6.out]; rw [bind_ok HP8.out]; rw [bind_ok HP10.out]; rw [HH.out.2.1]; exact bind_err (HRR.out.trans (HS31.out.trans (bind_err hp))), rfl⟩⟩
              have HK35 := Lib.hid (own_blk HK34.out hg (fun e => by simp only [Option.some.injEq] at e; omega))
              have H035 := Lib.hid (own_blk H034.out hg (fun e => by simp only [Option.some.injEq] at e; omega))
              have HO35 := Lib.hid (HO34.out.kept hg (by omega))
              have HR35 := Lib.hid hr
              have HG35 := Lib.hid (gr_trans HG34.out hg)
              have HP40 := Lib.hid (HS31.out.trans (bind_ok hp))
              clear hg hp hr
              refine hK.out _ _ (HK35.out.cell 12) (fun hS2 => ?_)
              clear hK K
              refine' wpAnyH_take (i := 7) (v := _) rfl (by kernel_rfl) (by kernel_rfl) (by kernel_rfl) (fun _ _ _ h => h) (Or.inl ⟨by rfl, ?hym6⟩) hS2 ?restm6
              case hym6 => (intro w hSw; (try dsimp only at hSw); go_simp; try with_reducible rfl)
              simp only [Act.put, List.setIfInBounds_toArray, List.set_cons_zero, List.set_cons_succ, List.getElem_toArray, List.getElem_cons_zero, List.getElem_cons_succ]
              refine wpAnyH_ready (rs := [8]) (by kernel_rfl) (by simp) ?_
              refine AllReadyH.cons rfl (fun K hK => ?_) AllReadyH.nil
              have hbb := ((Below.refl wc.heap.size wc).alloc (Nat.le_refl _) (.cells #[.int .i64 (sI x40), .int .i64 (x10 : Int)] 49))
              have HK36 := Lib.hid (HK35.out.below hbb)
              have H036 := Lib.hid (H035.out.below hbb)
              have HR36 := Lib.hid (HR35.out.below hbb)
              have HO36 := Lib.hid (HO35.out.below hbb)
              have HG36 := Lib.hid (gr_trans HG35.out (gr_below hbb))
              have HNB := Lib.hid (Blk.new wc #[.int .i64 (sI x40), .int .i64 (x10 : Int)] 49)
              clear hbb
              go_simp
              refine hK.out _ _ (HK36.out.cell 12) (fun hS3 => ?_)
              clear hK K
              refine wpAnyH_ready (rs := [9]) (by kernel_rfl) (by simp) ?_
              refine AllReadyH.cons rfl (fun K hK => ?_) AllReadyH.nil
              have HOW := Lib.hid (HO36.out.own _ (List.mem_cons_self ..))
              have hl40 := HK36.out.lt
              have HOW2 := HOW.out
              simp only [sgRow] at HOW2
              rw [HI.out.2.1] at HOW2
              have hq : ∀ q, (Value.slice As j cs).ownBlock = some q → g3 + 1 ≤ q := fun q e => (World.ownsRow.lt HOW.out q e).1
              refine step_append_lies _ (by rfl) _ _ 50 (by rfl) (g3 + 1) 49 i2 (.agg #[.int .i64 0, .int .i64 0]) 2 16 Try.underlying50 hi2 hv0 hv1 hv2 rfl (by decide) (.slice As j cs) j (S.flatMap sgC) (by rfl) HOW2 ⟨wc.heap.size, 0, none⟩ 1 1 [.int .i64 (sI x40), .int .i64 (x10 : Int)] (by rfl) rfl (World.news_of_block (show _ from HNB.out)) (by simp [Value.oneCell']) (by decide) (by unfold maxLen; omega) (by omega) (by omega) _ rfl ?_
              intro g7 c7 w7 hown7 hg7 hat7 hlt7
              have HK50 := Lib.hid (own_blk HK36.out hg7 (fun e => by have := hq _ e; omega))
              have H050 := Lib.hid (own_blk H036.out hg7 (fun e => by have := hq _ e; omega))
              have HR50 := Lib.hid (rd_grown HR36.out hg7 (fun q e => by have := hq q e; omega))
              have HG50 := Lib.hid (gr_own HG36.out hg7 (fun q e => by have := hq q e; have := HSZ.out; omega))
              have HO50 := Lib.hid (HO36.out.grow (r1 := sgRow (.slice (some ⟨g7, 0, none⟩) (j + 1) c7) (S ++ [(sI x40, (x10 : Int))])) hg7 (by simp only [sgRow]; rw [List.length_append, HI.out.2.1, List.flatMap_append]; exact hown7) (fun q e => by simp only [sgRow, Value.ownBlock, Option.some.injEq] at e; subst e; exact hat7))
              clear HOW HOW2 hq hown7 hg7 hat7 HNB
              refine hK.out _ _ (HK50.out.cell 12) (fun hS4 => ?_)
              clear hK K
              refine' wpAnyH_take (i := 10) (v := _) rfl (by kernel_rfl) (by kernel_rfl) (by kernel_rfl) (fun _ _ _ h => h) (Or.inl ⟨by rfl, ?hym7⟩) hS4 ?restm7
              case hym7 => (intro w hSw; (try dsimp only at hSw); go_simp; try with_reducible rfl)
              simp only [Act.put, List.setIfInBounds_toArray, List.set_cons_zero, List.set_cons_succ, List.getElem_toArray, List.getElem_cons_zero, List.getElem_cons_succ]
              refine wpAnyH_ready (rs := [11]) (by kernel_rfl) (by simp) ?_
              refine AllReadyH.cons rfl (fun K hK => ?_) AllReadyH.nil
              have f0 := HK50.out.cell 13
              have f1 := fun i => HK50.out.frozen i
              have f2 := HK50.out.lt
              go_simp
              clear f0 f1
              have HK51 : Hid (Blk (w7.setCell ⟨g3, 13, none⟩ (.slice (some ⟨g7, 0, none⟩) (j + 1) c7)) g3 #[.int .i64 k, .int .i64 cl, .int .i64 b, .int .i64 tt, .int .i64 d, .int .i64 l, .int .i64 p, .int .i64 (x4 : Int), .int .u64 (x6 : Int), .slice (some ⟨g5, 0, none⟩) (j + 1) c5, .slice none 0 0, .int .i64 (sI x8), .int .i64 (x10 : Int), .slice (some ⟨g7, 0, none⟩) (j + 1) c7] 59) := Lib.hid (HK50.out.set 13 _)
              have H051 := Lib.hid (own_blk H050.out (gr_cell w7 g3 13 (.slice (some ⟨g7, 0, none⟩) (j + 1) c7)) (fun e => by simp only [Option.some.injEq] at e; omega))
              have HR51 := Lib.hid (HR50.out.kept (gr_cell w7 g3 13 (.slice (some ⟨g7, 0, none⟩) (j + 1) c7)) (by omega))
              have HG51 := Lib.hid (gr_new (i := 13) HG50.out (.slice (some ⟨g7, 0, none⟩) (j + 1) c7) (q := g3) (by have := HSZ.out; omega))
              have HO51 := Lib.hid (HO50.out.kept (gr_cell w7 g3 13 (.slice (some ⟨g7, 0, none⟩) (j + 1) c7)) (by omega))
              refine hK.out _ _ (HK51.out.cell 12) (fun hS5 => ?_)
              clear hK K
              refine wpAnyH_done (by kernel_rfl) ?_ _
              go_wp2_with fail
              go_roundw
              case rel => exact ⟨j + 1, _, _, c5, c7, I ++ [(Value.slice a x20 c, out)], S ++ [(sI x40, (x10 : Int))], r40, hlt, by go_num, HK51, Lib.hid (HO51.out.perm HPM.out), HFI.out x40, HR51, Lib.hid (by rw [List.map_append]; exact HP40.out.symm), HG51, H051⟩
              case measure => simp [intOf]; omega
            · go_simp
              refine (KW.out _ _ HR34.out).mono ?_
              rintro e wc ⟨hg, ⟨x40, r40, v, hp, rfl, rfl, hr⟩ | ⟨er, hp, rfl⟩⟩
              rotate_left
              · unfold Flt
                go_simp
                exact ⟨rfl, gr_trans HG34.out hg, .inr ⟨er, by unfold getP; rw [bind_ok HP1.out, if_neg (by decide), bind_ok HP2.out]; rw [bind_ok HP4.out]; rw [if_neg HC0.out.1, if_neg HC0.out.2]; rw [bind_ok HP6.out]; rw [bind_ok HP8.out]; rw [bind_ok HP10.out]; rw [HH.out.2.1]; exact bind_err (HRR.out.trans (HS31.out.trans (bind_err hp))), rfl⟩⟩
              have HK35 := Lib.hid (own_blk HK34.out hg (fun e => by simp only [Option.some.injEq] at e; omega))
              have H035 := Lib.hid (own_blk H034.out hg (fun e => by simp only [Option.some.injEq] at e; omega))
              have HO35 := Lib.hid (HO34.out.kept hg (by omega))
              have HR35 := Lib.hid hr
              have HG35 := Lib.hid (gr_trans HG34.out hg)
              have HP40 := Lib.hid (HS31.out.trans (bind_ok hp))
              clear hg hp hr
              refine hK.out _ _ (HK35.out.cell 12) (fun hS1 => ?_)
              clear hK K
              refine' wpAnyH_take (i := 7) (v := _) rfl (by kernel_rfl) (by kernel_rfl) (by kernel_rfl) (fun _ _ _ h => h) (Or.inl ⟨by rfl, ?hym8⟩) hS1 ?restm8
              case hym8 => (intro w hSw; (try dsimp only at hSw); go_simp; try with_reducible rfl)
              simp only [Act.put, List.setIfInBounds_toArray, List.set_cons_zero, List.set_cons_succ, List.getElem_toArray, List.getElem_cons_zero, List.getElem_cons_succ]
              refine wpAnyH_ready (rs := [1, 8]) (by kernel_rfl) (by simp) ?_
              refine AllReadyH.cons rfl (fun K hK => ?_) (AllReadyH.cons rfl (fun K hK => ?_) AllReadyH.nil)
              · have f13 := HK35.out.cell 13
                go_simp
                clear f13
                refine hK.out _ _ (HK35.out.cell 12) (fun hS2 => ?_)
                clear hK K
                refine wpAnyH_ready (rs := [8]) (by kernel_rfl) (by simp) ?_
                refine AllReadyH.cons rfl (fun K hK => ?_) AllReadyH.nil
                have hbb := ((Below.refl wc.heap.size wc).alloc (Nat.le_refl _) (.cells #[.int .i64 (sI x40), .int .i64 (x10 : Int)] 49))
                have HK36 := Lib.hid (HK35.out.below hbb)
                have H036 := Lib.hid (H035.out.below hbb)
                have HR36 := Lib.hid (HR35.out.below hbb)
                have HO36 := Lib.hid (HO35.out.below hbb)
                have HG36 := Lib.hid (gr_trans HG35.out (gr_below hbb))
                have HNB := Lib.hid (Blk.new wc #[.int .i64 (sI x40), .int .i64 (x10 : Int)] 49)
                clear hbb
                go_simp
                refine hK.out _ _ (HK36.out.cell 12) (fun hS3 => ?_)
                clear hK K
                refine wpAnyH_ready (rs := [9]) (by kernel_rfl) (by simp) ?_
                refine AllReadyH.cons rfl (fun K hK => ?_) AllReadyH.nil
                have HOW := Lib.hid (HO36.out.own _ (List.mem_cons_self ..))
                have hl40 := HK36.out.lt
                have HOW2 := HOW.out
                simp only [sgRow] at HOW2
                rw [HI.out.2.1] at HOW2
                have hq : ∀ q, (Value.slice As j cs).ownBlock = some q → g3 + 1 ≤ q := fun q e => (World.ownsRow.lt HOW.out q e).1
                refine step_append_lies _ (by rfl) _ _ 50 (by rfl) (g3 + 1) 49 i2 (.agg #[.int .i64 0, .int .i64 0]) 2 16 Try.underlying50 hi2 hv0 hv1 hv2 rfl (by decide) (.slice As j cs) j (S.flatMap sgC) (by rfl) HOW2 ⟨wc.heap.size, 0, none⟩ 1 1 [.int .i64 (sI x40), .int .i64 (x10 : Int)] (by rfl) rfl (World.news_of_block (show _ from HNB.out)) (by simp [Value.oneCell']) (by decide) (by unfold maxLen; omega) (by omega) (by omega) _ rfl ?_
                intro g7 c7 w7 hown7 hg7 hat7 hlt7
                have HK50 := Lib.hid (own_blk HK36.out hg7 (fun e => by have := hq _ e; omega))
                have H050 := Lib.hid (own_blk H036.out hg7 (fun e => by have := hq _ e; omega))
                have HR50 := Lib.hid (rd_grown HR36.out hg7 (fun q e => by have := hq q e; omega))
                have HG50 := Lib.hid (gr_own HG36.out hg7 (fun q e => by have := hq q e; have := HSZ.out; omega))
                have HO50 := Lib.hid (HO36.out.grow (r1 := sgRow (.slice (some ⟨g7, 0, none⟩) (j + 1) c7) (S ++ [(sI x40, (x10 : Int))])) hg7 (by simp only [sgRow]; rw [List.length_append, HI.out.2.1, List.flatMap_append]; exact hown7) (fun q e => by simp only [sgRow, Value.ownBlock, Option.some.injEq] at e; subst e; exact hat7))
                clear HOW HOW2 hq hown7 hg7 hat7 HNB
                refine hK.out _ _ (HK50.out.cell 12) (fun hS4 => ?_)
                clear hK K
                refine' wpAnyH_take (i := 10) (v := _) rfl (by kernel_rfl) (by kernel_rfl) (by kernel_rfl) (fun _ _ _ h => h) (Or.inl ⟨by rfl, ?hym9⟩) hS4 ?restm9
                case hym9 => (intro w hSw; (try dsimp only at hSw); go_simp; try with_reducible rfl)
                simp only [Act.put, List.setIfInBounds_toArray, List.set_cons_zero, List.set_cons_succ, List.getElem_toArray, List.getElem_cons_zero, List.getElem_cons_succ]
                refine wpAnyH_ready (rs := [11]) (by kernel_rfl) (by simp) ?_
                refine AllReadyH.cons rfl (fun K hK => ?_) AllReadyH.nil
                have f0 := HK50.out.cell 13
                have f1 := fun i => HK50.out.frozen i
                have f2 := HK50.out.lt
                go_simp
                clear f0 f1
                have HK51 : Hid (Blk (w7.setCell ⟨g3, 13, none⟩ (.slice (some ⟨g7, 0, none⟩) (j + 1) c7)) g3 #[.int .i64 k, .int .i64 cl, .int .i64 b, .int .i64 tt, .int .i64 d, .int .i64 l, .int .i64 p, .int .i64 (x4 : Int), .int .u64 (x6 : Int), .slice (some ⟨g5, 0, none⟩) (j + 1) c5, .slice none 0 0, .int .i64 (sI x8), .int .i64 (x10 : Int), .slice (some ⟨g7, 0, none⟩) (j + 1) c7] 59) := Lib.hid (HK50.out.set 13 _)
                have H051 := Lib.hid (own_blk H050.out (gr_cell w7 g3 13 (.slice (some ⟨g7, 0, none⟩) (j + 1) c7)) (fun e => by simp only [Option.some.injEq] at e; omega))
                have HR51 := Lib.hid (HR50.out.kept (gr_cell w7 g3 13 (.slice (some ⟨g7, 0, none⟩) (j + 1) c7)) (by omega))
                have HG51 := Lib.hid (gr_new (i := 13) HG50.out (.slice (some ⟨g7, 0, none⟩) (j + 1) c7) (q := g3) (by have := HSZ.out; omega))
                have HO51 := Lib.hid (HO50.out.kept (gr_cell w7 g3 13 (.slice (some ⟨g7, 0, none⟩) (j + 1) c7)) (by omega))
                refine hK.out _ _ (HK51.out.cell 12) (fun hS5 => ?_)
                clear hK K
                refine wpAnyH_done (by kernel_rfl) ?_ _
                go_wp2_with fail
                go_roundw
                case rel => exact ⟨j + 1, _, _, c5, c7, I ++ [(Value.slice a x20 c, out)], S ++ [(sI x40, (x10 : Int))], r40, hlt, by go_num, HK51, Lib.hid (HO51.out.perm HPM.out), HFI.out x40, HR51, Lib.hid (by rw [List.map_append]; exact HP40.out.symm), HG51, H051⟩
                case measure => simp [intOf]; omega
              · have hbb := ((Below.refl wc.heap.size wc).alloc (Nat.le_refl _) (.cells #[.int .i64 (sI x40), .int .i64 (x10 : Int)] 49))
                have HK36 := Lib.hid (HK35.out.below hbb)
                have H036 := Lib.hid (H035.out.below hbb)
                have HR36 := Lib.hid (HR35.out.below hbb)
                have HO36 := Lib.hid (HO35.out.below hbb)
                have HG36 := Lib.hid (gr_trans HG35.out (gr_below hbb))
                have HNB := Lib.hid (Blk.new wc #[.int .i64 (sI x40), .int .i64 (x10 : Int)] 49)
                clear hbb
                go_simp
                refine hK.out _ _ (HK36.out.cell 12) (fun hS2 => ?_)
                clear hK K
                refine wpAnyH_ready (rs := [1]) (by kernel_rfl) (by simp) ?_
                refine AllReadyH.cons rfl (fun K hK => ?_) AllReadyH.nil
                have f13 := HK36.out.cell 13
                go_simp
                clear f13
                refine hK.out _ _ (HK36.out.cell 12) (fun hS3 => ?_)
                clear hK K
                refine wpAnyH_ready (rs := [9]) (by kernel_rfl) (by simp) ?_
                refine AllReadyH.cons rfl (fun K hK => ?_) AllReadyH.nil
                have HOW := Lib.hid (HO36.out.own _ (List.mem_cons_self ..))
                have hl40 := HK36.out.lt
                have HOW2 := HOW.out
                simp only [sgRow] at HOW2
                rw [HI.out.2.1] at HOW2
                have hq : ∀ q, (Value.slice As j cs).ownBlock = some q → g3 + 1 ≤ q := fun q e => (World.ownsRow.lt HOW.out q e).1
                refine step_append_lies _ (by rfl) _ _ 50 (by rfl) (g3 + 1) 49 i2 (.agg #[.int .i64 0, .int .i64 0]) 2 16 Try.underlying50 hi2 hv0 hv1 hv2 rfl (by decide) (.slice As j cs) j (S.flatMap sgC) (by rfl) HOW2 ⟨wc.heap.size, 0, none⟩ 1 1 [.int .i64 (sI x40), .int .i64 (x10 : Int)] (by rfl) rfl (World.news_of_block (show _ from HNB.out)) (by simp [Value.oneCell']) (by decide) (by unfold maxLen; omega) (by omega) (by omega) _ rfl ?_
                intro g7 c7 w7 hown7 hg7 hat7 hlt7
                have HK50 := Lib.hid (own_blk HK36.out hg7 (fun e => by have := hq _ e; omega))
                have H050 := Lib.hid (own_blk H036.out hg7 (fun e => by have := hq _ e; omega))
                have HR50 := Lib.hid (rd_grown HR36.out hg7 (fun q e => by have := hq q e; omega))
                have HG50 := Lib.hid (gr_own HG36.out hg7 (fun q e => by have := hq q e; have := HSZ.out; omega))
                have HO50 := Lib.hid (HO36.out.grow (r1 := sgRow (.slice (some ⟨g7, 0, none⟩) (j + 1) c7) (S ++ [(sI x40, (x10 : Int))])) hg7 (by simp only [sgRow]; rw [List.length_append, HI.out.2.1, List.flatMap_append]; exact hown7) (fun q e => by simp only [sgRow, Value.ownBlock, Option.some.injEq] at e; subst e; exact hat7))
                clear HOW HOW2 hq hown7 hg7 hat7 HNB
                refine hK.out _ _ (HK50.out.cell 12) (fun hS4 => ?_)
                clear hK K
                refine' wpAnyH_take (i := 10) (v := _) rfl (by kernel_rfl) (by kernel_rfl) (by kernel_rfl) (fun _ _ _ h => h) (Or.inl ⟨by rfl, ?hym10⟩) hS4 ?restm10
                case hym10 => (intro w hSw; (try dsimp only at hSw); go_simp; try with_reducible rfl)
                simp only [Act.put, List.setIfInBounds_toArray, List.set_cons_zero, List.set_cons_succ, List.getElem_toArray, List.getElem_cons_zero, List.getElem_cons_succ]
                refine wpAnyH_ready (rs := [11]) (by kernel_rfl) (by simp) ?_
                refine AllReadyH.cons rfl (fun K hK => ?_) AllReadyH.nil
                have f0 := HK50.out.cell 13
                have f1 := fun i => HK50.out.frozen i
                have f2 := HK50.out.lt
                go_simp
                clear f0 f1
                have HK51 : Hid (Blk (w7.setCell ⟨g3, 13, none⟩ (.slice (some ⟨g7, 0, none⟩) (j + 1) c7)) g3 #[.int .i64 k, .int .i64 cl, .int .i64 b, .int .i64 tt, .int .i64 d, .int .i64 l, .int .i64 p, .int .i64 (x4 : Int), .int .u64 (x6 : Int), .slice (some ⟨g5, 0, none⟩) (j + 1) c5, .slice none 0 0, .int .i64 (sI x8), .int .i64 (x10 : Int), .slice (some ⟨g7, 0, none⟩) (j + 1) c7] 59) := Lib.hid (HK50.out.set 13 _)
                have H051 := Lib.hid (own_blk H050.out (gr_cell w7 g3 13 (.slice (some ⟨g7, 0, none⟩) (j + 1) c7)) (fun e => by simp only [Option.some.injEq] at e; omega))
                have HR51 := Lib.hid (HR50.out.kept (gr_cell w7 g3 13 (.slice (some ⟨g7, 0, none⟩) (j + 1) c7)) (by omega))
                have HG51 := Lib.hid (gr_new (i := 13) HG50.out (.slice (some ⟨g7, 0, none⟩) (j + 1) c7) (q := g3) (by have := HSZ.out; omega))
                have HO51 := Lib.hid (HO50.out.kept (gr_cell w7 g3 13 (.slice (some ⟨g7, 0, none⟩) (j + 1) c7)) (by omega))
                refine hK.out _ _ (HK51.out.cell 12) (fun hS5 => ?_)
                clear hK K
                refine wpAnyH_done (by kernel_rfl) ?_ _
                go_wp2_with fail
                go_roundw
                case rel => exact ⟨j + 1, _, _, c5, c7, I ++ [(Value.slice a x20 c, out)], S ++ [(sI x40, (x10 : Int))], r40, hlt, by go_num, HK51, Lib.hid (HO51.out.perm HPM.out), HFI.out x40, HR51, Lib.hid (by rw [List.map_append]; exact HP40.out.symm), HG51, H051⟩
                case measure => simp [intOf]; omega
    · obtain rfl : x4 = j := by omega
      have HRE : Hid (colsA b (x10 : Int) x4 [] [] r10 = .ok ((I.map Prod.snd, S), rest)) := Lib.hid (by rw [HRR.out, ← HNO.out, Nat.sub_self]; rfl)
      have hck := (chk_is (cfg_ok HP2.out)).t
      rw [HH.out.2.2] at hck
      obtain ⟨tn, htn⟩ : ∃ n : Nat, (n : Int) = tt := ⟨tt.toNat, by omega⟩
      have htl : tn ≤ 4096 := by omega
      obtain ⟨i3, hi3, ha0, ha1, ha2⟩ := info_parts info_ns
      obtain ⟨R3, hR3⟩ : ∃ R, treesA (⟨k, cl, b, tt, d, l, p, (x4 : Int), x6, [], [], sI x8, (x10 : Int), []⟩ : Fst) tn [] rest = R := ⟨_, rfl⟩
      have HRR3 := Lib.hid hR3
      have HTN : Hid (tt.toNat = tn) := Lib.hid (by omega)
      have q3 := HK19.out.cell 3
      have q7 := HK19.out.cell 7
      clear hR3 hck HRR HNO
      obtain ⟨LR, hLR⟩ : ∃ L, (esRow (.slice Ae x4 ce) I :: sgRow (.slice As x4 cs) S :: I.map eRow) = L := ⟨_, rfl⟩
      rw [hLR] at HO19
      have HLR := Lib.hid hLR
      clear hLR
      go_wp2_with fail
      clear q3 q7
      subst htn
      go_loopw [84] (fun iv wr => ∃ (j : Nat) (At : Option Addr) (ct : Nat) (J : List (Value × List Nd)) (rest3 : List Nat), j ≤ tn ∧ iv = .int .i64 j ∧ Hid (Blk wr g3 #[.int .i64 k, .int .i64 cl, .int .i64 b, .int .i64 (tn : Int), .int .i64 d, .int .i64 l, .int .i64 p, .int .i64 (x4 : Int), .int .u64 (x6 : Int), .slice Ae x4 ce, .slice At j ct, .int .i64 (sI x8), .int .i64 (x10 : Int), .slice As x4 cs] 59) ∧ Hid (ORows wr (g3 + 1) (tsRow (.slice At j ct) J :: (J.map tRow ++ LR))) ∧ Hid (J.length = j ∧ (∀ p ∈ J, ∃ a c, p.1 = Value.slice a p.2.length c) ∧ ∀ p ∈ J, (∀ x ∈ p.2, x.ok) ∧ p.2.length ≤ 4194304) ∧ Hid (RdB wr N g rest3) ∧ Hid (treesA (⟨k, cl, b, (tn : Int), d, l, p, (x4 : Int), x6, [], [], sI x8, (x10 : Int), []⟩ : Fst) (tn - j) (J.map Prod.snd) rest3 = R3) ∧ Hid (w.grownBy wr (some g)) ∧ Hid (Blk wr g0 #[.int .i64 0, .int .i64 0, .int .i64 0, .int .i64 0, .int .i64 0, .int .i64 0, .int .i64 0, .int .i64 0, .int .u64 0, .slice none 0 0, .slice none 0 0, .int .i64 0, .int .i64 0, .slice none 0 0] 59)) (fun iv _ => tn - (intOf iv).toNat)
      case atStart => exact ⟨0, none, 0, [], rest, Nat.zero_le _, rfl, HK19, Lib.hid (HO19.out.empty _ _), Lib.hid ⟨rfl, by simp, by simp⟩, HR19, HRR3, HG19, H019⟩
      case round =>
        obtain ⟨j, At, ct, J, rest3, hj3, rfl, HK59, HO59, HJ, HR59, HNO, HG59, H059⟩ := hrel
        clear HK19 HO19 HR19 HG19 H019
        have hfa : forA (⟨k, cl, b, (tn : Int), d, l, p, (x4 : Int), x6, I.map Prod.snd, J.map Prod.snd, sI x8, (x10 : Int), S⟩ : Fst) Ae At As ce ct cs = #[.int .i64 k, .int .i64 cl, .int .i64 b, .int .i64 (tn : Int), .int .i64 d, .int .i64 l, .int .i64 p, .int .i64 (x4 : Int), .int .u64 (x6 : Int), .slice Ae x4 ce, .slice At j ct, .int .i64 (sI x8), .int .i64 (x10 : Int), .slice As x4 cs] := by unfold forA; simp only [List.length_map]; rw [HI.out.1, HI.out.2.1, HJ.out.1]
        obtain ⟨fj, hfj⟩ : ∃ f, (⟨k, cl, b, (tn : Int), d, l, p, (x4 : Int), x6, I.map Prod.snd, J.map Prod.snd, sI x8, (x10 : Int), S⟩ : Fst) = f := ⟨_, rfl⟩
        rw [hfj] at hfa
        have HFJ := Lib.hid hfj
        by_cases hlt3 : j < tn
        · have hlt3' : (j : Int) < tn := by omega
          have HS : Hid (R3 = bindP (treeP (x4 : Int) b k cl) (fun t => if treeE fj t then treesA (⟨k, cl, b, (tn : Int), d, l, p, (x4 : Int), x6, [], [], sI x8, (x10 : Int), []⟩ : Fst) (tn - (j + 1)) (J.map Prod.snd ++ [t]) else failP 3) rest3) := Lib.hid (by rw [← HNO.out, show tn - j = (tn - (j + 1)) + 1 from by omega, ← HFJ.out]; rfl)
          have KSH := Lib.hid (fun w => shape_any fj Ae At As ce ct cs w)
          have KTE := Lib.hid (fun t A cap w hr hl => mtree_any fj Ae At As ce ct cs t A cap w hr hl)
          rw [hfa] at KSH KTE
          have hf1 : fj.cols = (x4 : Int) ∧ fj.b = b ∧ fj.k = k ∧ fj.cl = cl := by rw [← hfj]; exact ⟨rfl, rfl, rfl, rfl⟩
          rw [hf1.1, hf1.2.1, hf1.2.2.1, hf1.2.2.2] at KSH
          clear hfj hf1 HNO
          have kK := HK59.out
          go_wp2_with (refine wpList_load_row rfl 59 (.tmp 3) rfl g3 rfl 59 _ (0, 0) _ kK Try.underlying59 rfl forest_sz ?_)
          refine (KSH.out _).mono ?_
          rintro e w60 ⟨rfl, hb⟩
          have HK60 := Lib.hid (HK59.out.below hb)
          have H060 := Lib.hid (H059.out.below hb)
          have HR60 := Lib.hid (HR59.out.below hb)
          have HG60 := Lib.hid (gr_trans HG59.out (gr_below hb))
          have HO60 := Lib.hid (HO59.out.below hb)
          clear hb kK HK59 H059 HR59 HG59 HO59
          go_wp2_with fail
          refine (KT.out rest3 (x4 : Int) b k cl w60 HR60.out).mono ?_
          rintro e w61 ⟨hg, ⟨t, r61, v, hp, rfl, ⟨a, c, rfl, ho, hok, hlen⟩, hr⟩ | ⟨er, hp, rfl⟩⟩
          rotate_left
          · unfold Flt
            go_wp2_with fail
            exact ⟨rfl, gr_trans HG60.out hg, .inr ⟨er, by unfold getP; rw [bind_ok HP1.out, if_neg (by decide), bind_ok HP2.out]; rw [bind_ok HP4.out]; rw [if_neg HC0.out.1, if_neg HC0.out.2]; rw [bind_ok HP6.out]; rw [bind_ok HP8.out]; rw [bind_ok HP10.out]; rw [HH.out.2.1, bind_ok HRE.out, HH.out.2.2, HH.out.1, HTN.out]; exact bind_err (HRR3.out.trans (HS.out.trans (bind_err hp))), rfl⟩⟩
          have HK61 := Lib.hid (own_blk HK60.out hg (fun e => by simp only [Option.some.injEq] at e; omega))
          have H061 := Lib.hid (own_blk H060.out hg (fun e => by simp only [Option.some.injEq] at e; omega))
          have HR61 := Lib.hid hr
          have HG61 := Lib.hid (gr_trans HG60.out hg)
          have hl60 := HK60.out.lt
          obtain ⟨m, hm⟩ : ∃ n, t.length = n := ⟨_, rfl⟩
          have HTO := Lib.hid (And.intro hok (And.intro hlen hm))
          have HRN := Lib.hid (RN.own ho hok)
          have HOT : Hid (w61.ownsRow w60.heap.size 90 6 (.slice a m c) m (t.flatMap ndC)) := Lib.hid (by rw [← hm]; exact ho)
          have HO61 := Lib.hid (HO60.out.new (r := ⟨.slice a m c, 90, 6, m, t.flatMap ndC⟩) (HO60.out.kept hg (by omega)) HOT.out (by omega) (Nat.le_refl _))
          have HS61 : Hid (R3 = (if treeE fj t then treesA (⟨k, cl, b, (tn : Int), d, l, p, (x4 : Int), x6, [], [], sI x8, (x10 : Int), []⟩ : Fst) (tn - (j + 1)) (J.map Prod.snd ++ [t]) else failP 3) r61) := Lib.hid (by rw [HS.out, bind_ok hp])
          have KTX := Lib.hid (fun w hb => KTE.out t a c w (HRN.out.below hb) (by omega))
          rw [hm] at KTX ⊢
          obtain ⟨te, hte⟩ : ∃ z, treeE fj t = z := ⟨_, rfl⟩
          rw [hte] at KTX
          have HTE := Lib.hid hte
          clear hg hp hr ho hok hlen hm hte HS HO60 HK60 H060 HR60 HG60 HOT
          have kK := HK61.out
          go_wp2_with (refine wpList_load_row rfl 59 (.tmp 3) rfl g3 rfl 59 _ (0, 0) _ kK Try.underlying59 rfl forest_sz ?_)
          refine (KTX.out _ (Below.refl _ _)).mono ?_
          rintro e w62 ⟨rfl, hb⟩
          have HK62 := Lib.hid (HK61.out.below hb)
          have H062 := Lib.hid (H061.out.below hb)
          have HR62 := Lib.hid (HR61.out.below hb)
          have HG62 := Lib.hid (gr_trans HG61.out (gr_below hb))
          have HO62 := Lib.hid ((HO61.out.below hb).perm (List.Perm.swap _ _ _))
          clear hb kK HK61 H061 HR61 HG61 HO61 HRN
          cases te with
          | false =>
            go_wp2_with fail
            refine (KF3.out _).mono ?_
            rintro e wz ⟨rfl, rfl⟩
            unfold Flt
            go_wp2_with fail
            exact ⟨rfl, HG62.out, .inr ⟨3, by unfold getP; rw [bind_ok HP1.out, if_neg (by decide), bind_ok HP2.out]; rw [bind_ok HP4.out]; rw [if_neg HC0.out.1, if_neg HC0.out.2]; rw [bind_ok HP6.out]; rw [bind_ok HP8.out]; rw [bind_ok HP10.out]; rw [HH.out.2.1, bind_ok HRE.out, HH.out.2.2, HH.out.1, HTN.out]; exact bind_err (HRR3.out.trans (HS61.out.trans (by rw [if_neg (by rw [HTE.out]; decide)]; rfl))), rfl⟩⟩
          | true =>
            have HS62 : Hid (treesA (⟨k, cl, b, (tn : Int), d, l, p, (x4 : Int), x6, [], [], sI x8, (x10 : Int), []⟩ : Fst) (tn - (j + 1)) (J.map Prod.snd ++ [t]) r61 = R3) := Lib.hid (by rw [HS61.out, if_pos HTE.out])
            have HOW := HO62.out.own _ (List.mem_cons_self ..)
            simp only [tsRow] at HOW
            rw [HJ.out.1] at HOW
            have HOW2 := Lib.hid HOW
            have hq : ∀ q, (Value.slice At j ct).ownBlock = some q → g3 + 1 ≤ q := fun q e => (World.ownsRow.lt HOW q e).1
            have hl62 := HK62.out.lt
            have q10 := HK62.out.cell 10
            clear HOW
            go_upto_region 30 with (at_builtin; refine wpList_append_lies _ rfl _ _ 47 rfl (g3 + 1) 88 i3 (.slice none 0 0) 1 24 Try.underlying47 hi3 ha0 ha1 ha2 rfl (by decide) (.slice At j ct) j (J.map Prod.fst) rfl (HOW2.out.alloc _) ⟨w62.heap.size, 0, none⟩ 1 1 [.slice a m c] rfl rfl (cell_one_new _ _ _) (by simp [Value.oneCell']) (by decide) (by unfold maxLen; omega) (by omega) (by simp; omega) _ rfl ?_; intro g5 c5 w5 hown5 hg5 hat5 hlt5; have kK5 := own_blk (HK62.out.below ((Below.refl w62.heap.size w62).alloc (Nat.le_refl _) (.cells #[.slice a m c] 88))) hg5 (fun e => by have := hq _ e; omega); have f0 := kK5.cell 10; have f1 := fun i => kK5.frozen i; have f2 := kK5.lt)
            clear f0 f1 f2 q10
            have HK63 : Hid (Blk (w5.setCell ⟨g3, 10, none⟩ (.slice (some ⟨g5, 0, none⟩) (j + 1) c5)) g3 #[.int .i64 k, .int .i64 cl, .int .i64 b, .int .i64 (tn : Int), .int .i64 d, .int .i64 l, .int .i64 p, .int .i64 (x4 : Int), .int .u64 (x6 : Int), .slice Ae x4 ce, .slice (some ⟨g5, 0, none⟩) (j + 1) c5, .int .i64 (sI x8), .int .i64 (x10 : Int), .slice As x4 cs] 59) := Lib.hid (kK5.set 10 _)
            have H063 := Lib.hid (own_blk (own_blk (H062.out.below ((Below.refl w62.heap.size w62).alloc (Nat.le_refl _) (.cells #[.slice a m c] 88))) hg5 (fun e => by have := hq _ e; omega)) (gr_cell w5 g3 10 (.slice (some ⟨g5, 0, none⟩) (j + 1) c5)) (fun e => by simp only [Option.some.injEq] at e; omega))
            have HR63 := Lib.hid ((rd_grown (HR62.out.below ((Below.refl w62.heap.size w62).alloc (Nat.le_refl _) (.cells #[.slice a m c] 88))) hg5 (fun q e => by have := hq q e; omega)).kept (gr_cell w5 g3 10 (.slice (some ⟨g5, 0, none⟩) (j + 1) c5)) (by omega))
            have HG63 := Lib.hid (gr_new (i := 10) (gr_own (gr_trans HG62.out (gr_below ((Below.refl w62.heap.size w62).alloc (Nat.le_refl _) (.cells #[.slice a m c] 88)))) hg5 (fun q e => by have := hq q e; have := HSZ.out; omega)) (.slice (some ⟨g5, 0, none⟩) (j + 1) c5) (q := g3) (by have := HSZ.out; omega))
            have HO63 := Lib.hid (((HO62.out.below ((Below.refl w62.heap.size w62).alloc (Nat.le_refl _) (.cells #[.slice a m c] 88))).grow (r1 := tsRow (.slice (some ⟨g5, 0, none⟩) (j + 1) c5) (J ++ [(Value.slice a m c, t)])) hg5 (by simp only [tsRow]; rw [List.length_append, HJ.out.1, List.map_append]; exact hown5) (fun q e => by simp only [tsRow, Value.ownBlock, Option.some.injEq] at e; subst e; exact hat5)).kept (gr_cell w5 g3 10 (.slice (some ⟨g5, 0, none⟩) (j + 1) c5)) (by omega))
            have HO64 : Hid (ORows _ (g3 + 1) (tsRow (.slice (some ⟨g5, 0, none⟩) (j + 1) c5) (J ++ [(Value.slice a m c, t)]) :: ((J ++ [(Value.slice a m c, t)]).map tRow ++ LR))) := Lib.hid (HO63.out.perm (List.Perm.cons _ (by
              have hl : tRow (Value.slice a m c, t) = ⟨Value.slice a m c, 90, 6, m, t.flatMap ndC⟩ := by unfold tRow; rw [HTO.out.2.2]
              rw [List.map_append, List.append_assoc, ← hl]
              exact List.perm_middle.symm)))
            go_wp2_with fail
            go_roundw
            case rel => exact ⟨j + 1, _, c5, J ++ [(Value.slice a m c, t)], r61, hlt3, by go_num, HK63, HO64, Lib.hid ⟨by rw [List.length_append, HJ.out.1]; rfl, fun p hp => by
              rcases List.mem_append.1 hp with hp | hp
              · exact HJ.out.2.1 p hp
              · simp only [List.mem_singleton] at hp; subst hp; exact ⟨a, c, by simp only; rw [HTO.out.2.2]⟩, fun p hp => by
              rcases List.mem_append.1 hp with hp | hp
              · exact HJ.out.2.2 p hp
              · simp only [List.mem_singleton] at hp; subst hp; exact ⟨HTO.out.1, HTO.out.2.1⟩⟩, HR63, Lib.hid (by rw [List.map_append]; exact HS62.out), HG63, H063⟩
            case measure => simp [intOf]; omega
        · obtain rfl : tn = j := by omega
          have HRE3 : Hid (treesA (⟨k, cl, b, (tn : Int), d, l, p, (x4 : Int), x6, [], [], sI x8, (x10 : Int), []⟩ : Fst) tn [] rest = .ok (J.map Prod.snd, rest3)) := Lib.hid (by rw [HRR3.out, ← HNO.out, Nat.sub_self]; rfl)
          have HOKF : Hid (OkF fj) := Lib.hid (by rw [← HFJ.out]; exact ⟨by simp only [List.length_map]; rw [HI.out.1]; omega, by simp only [List.length_map]; rw [HJ.out.1]; omega, by simp only; rw [HI.out.2.1]; omega, fun t ht => by obtain ⟨p, hp, rfl⟩ := List.mem_map.1 ht; have := (HI.out.2.2.2.1 p hp).1; omega, fun t ht => by obtain ⟨p, hp, rfl⟩ := List.mem_map.1 ht; have := (HJ.out.2.2 p hp).2; omega⟩)
          have HOKB : Hid (OkB fj) := Lib.hid (by rw [← HFJ.out]; exact ⟨HX6.out, fun t ht => by obtain ⟨p, hp, rfl⟩ := List.mem_map.1 ht; exact (HI.out.2.2.2.1 p hp).2, fun t ht => by obtain ⟨p, hp, rfl⟩ := List.mem_map.1 ht; have := (HJ.out.2.2 p hp).2; omega⟩)
          have HRF : Hid (∀ w2, ORows w2 (g3 + 1) (tsRow (.slice At tn ct) J :: (J.map tRow ++ LR)) → RFo w2 fj Ae At As) := Lib.hid (fun w2 h => by
            rw [← HFJ.out]; rw [← HLR.out] at h
            exact ⟨h.re (c := ce) (n := x4) (by simp) (fun p hp => by simp only [List.mem_cons, List.mem_append, List.mem_map]; exact .inr (.inr (.inr (.inr ⟨p, hp, rfl⟩)))) HI.out.2.2.1 (fun p hp => (HI.out.2.2.2.1 p hp).2), h.rt (c := ct) (n := tn) (by simp) (fun p hp => by simp only [List.mem_cons, List.mem_append, List.mem_map]; exact .inr (.inl ⟨p, hp, rfl⟩)) HJ.out.2.1 (fun p hp => (HJ.out.2.2 p hp).1), h.rs (c := cs) (n := x4) (by simp) HI.out.2.2.2.2⟩)
          have KM := Lib.hid (fun w hr => mayf_any fj Ae At As ce ct cs w HOKF.out hr)
          rw [hfa] at KM
          have HFA := Lib.hid hfa
          obtain ⟨mf, hmf⟩ : ∃ z, mayF fj = z := ⟨_, rfl⟩
          rw [hmf] at KM
          have HMF := Lib.hid hmf
          clear hfa hfj hmf HNO HRR3
          have kK := HK59.out
          go_wp2_with (refine wpList_load_row rfl 59 (.tmp 3) rfl g3 rfl 59 _ (0, 0) _ kK Try.underlying59 rfl forest_sz ?_)
          refine (KM.out _ (HRF.out _ HO59.out)).mono ?_
          rintro e w60 ⟨rfl, hb⟩
          have HK60 := Lib.hid (HK59.out.below hb)
          have H060 := Lib.hid (H059.out.below hb)
          have HR60 := Lib.hid (HR59.out.below hb)
          have HG60 := Lib.hid (gr_trans HG59.out (gr_below hb))
          have HO60 := Lib.hid (HO59.out.below hb)
          clear hb kK HK59 H059 HR59 HG59 HO59
          cases mf with
          | false =>
            go_wp2_with fail
            refine (KF3.out _).mono ?_
            rintro e wz ⟨rfl, rfl⟩
            unfold Flt
            go_wp2_with fail
            exact ⟨rfl, HG60.out, .inr ⟨3, by unfold getP; rw [bind_ok HP1.out, if_neg (by decide), bind_ok HP2.out]; rw [bind_ok HP4.out]; rw [if_neg HC0.out.1, if_neg HC0.out.2]; rw [bind_ok HP6.out]; rw [bind_ok HP8.out]; rw [bind_ok HP10.out]; rw [HH.out.2.1, bind_ok HRE.out, HH.out.2.2, HH.out.1, HTN.out, bind_ok HRE3.out]; rw [if_neg (by rw [show mayF _ = false from (by rw [← HFJ.out] at HMF; exact HMF.out)]; decide)]; rfl, rfl⟩⟩
          | true =>
            have kK := HK60.out
            have k0 := H060.out
            have hone : ∀ v ∈ (#[.int .i64 k, .int .i64 cl, .int .i64 b, .int .i64 (tn : Int), .int .i64 d, .int .i64 l, .int .i64 p, .int .i64 (x4 : Int), .int .u64 (x6 : Int), .slice Ae x4 ce, .slice At tn ct, .int .i64 (sI x8), .int .i64 (x10 : Int), .slice As x4 cs] : Array Value).toList, v.oneCell' = true := by simp [Value.oneCell']
            have HR61 := Lib.hid (HR60.out.kept (gr_row _ g0 #[.int .i64 k, .int .i64 cl, .int .i64 b, .int .i64 (tn : Int), .int .i64 d, .int .i64 l, .int .i64 p, .int .i64 (x4 : Int), .int .u64 (x6 : Int), .slice Ae x4 ce, .slice At tn ct, .int .i64 (sI x8), .int .i64 (x10 : Int), .slice As x4 cs]) (by omega))
            have HG61 := Lib.hid (gr_newrow HG60.out #[.int .i64 k, .int .i64 cl, .int .i64 b, .int .i64 (tn : Int), .int .i64 d, .int .i64 l, .int .i64 p, .int .i64 (x4 : Int), .int .u64 (x6 : Int), .slice Ae x4 ce, .slice At tn ct, .int .i64 (sI x8), .int .i64 (x10 : Int), .slice As x4 cs] (q := g0) (by have := HSZ.out; omega))
            have HO61 := Lib.hid (HO60.out.kept (gr_row _ g0 #[.int .i64 k, .int .i64 cl, .int .i64 b, .int .i64 (tn : Int), .int .i64 d, .int .i64 l, .int .i64 p, .int .i64 (x4 : Int), .int .u64 (x6 : Int), .slice Ae x4 ce, .slice At tn ct, .int .i64 (sI x8), .int .i64 (x10 : Int), .slice As x4 cs]) (by omega))
            go_wp2_with (first | (refine wpList_load_row rfl 59 (.tmp 3) rfl g3 rfl 59 _ (0, 0) _ kK Try.underlying59 rfl forest_sz ?_) | (refine wpList_store_row rfl 59 (.tmp 2) (.tmp 108) rfl g0 rfl 59 _ #[.int .i64 k, .int .i64 cl, .int .i64 b, .int .i64 (tn : Int), .int .i64 d, .int .i64 l, .int .i64 p, .int .i64 (x4 : Int), .int .u64 (x6 : Int), .slice Ae x4 ce, .slice At tn ct, .int .i64 (sI x8), .int .i64 (x10 : Int), .slice As x4 cs] rfl k0 forest_sz rfl hone ?_))
            refine bodyPost_ret (results_cell rfl _ _ g0 59 #[.int .i64 k, .int .i64 cl, .int .i64 b, .int .i64 (tn : Int), .int .i64 d, .int .i64 l, .int .i64 p, .int .i64 (x4 : Int), .int .u64 (x6 : Int), .slice Ae x4 ce, .slice At tn ct, .int .i64 (sI x8), .int .i64 (x10 : Int), .slice As x4 cs] _ rfl k0.row Try.underlying59 rfl forest_sz) rfl ⟨HG61.out, .inl ⟨fj, rest3, .agg #[.int .i64 k, .int .i64 cl, .int .i64 b, .int .i64 (tn : Int), .int .i64 d, .int .i64 l, .int .i64 p, .int .i64 (x4 : Int), .int .u64 (x6 : Int), .slice Ae x4 ce, .slice At tn ct, .int .i64 (sI x8), .int .i64 (x10 : Int), .slice As x4 cs], ?_, rfl, ⟨Ae, At, As, ce, ct, cs, by rw [HFA.out], fun w2 hw2 => HRF.out w2 (HO61.out.same (fun k hk hk2 => hw2 k (by have := HSZ.out; omega) hk2)), HOKB.out⟩, HR61.out⟩⟩
            unfold getP; rw [bind_ok HP1.out, if_neg (by decide), bind_ok HP2.out]; rw [bind_ok HP4.out]; rw [if_neg HC0.out.1, if_neg HC0.out.2]; rw [bind_ok HP6.out]; rw [bind_ok HP8.out]; rw [bind_ok HP10.out]; rw [HH.out.2.1, bind_ok HRE.out, HH.out.2.2, HH.out.1, HTN.out, bind_ok HRE3.out]; rw [if_pos (show mayF _ = true from (by rw [← HFJ.out] at HMF; exact HMF.out)), ← HFJ.out]; rfl
end Go.Proofs.Ytpekofpiodaadaa.Hb
end

section
/- The walk of what take.Try defers. -/
namespace Go.Proofs.Ytpekofpiodaadaa.Hb
set_option linter.unusedVariables false
set_option linter.unusedSimpArgs false
open Go.RowKit

set_option maxRecDepth 100000 in
set_option maxHeartbeats 1000000 in
theorem catch_idle (p : Addr) (w : World) :
    CallsD Try.prog 136 #[.pointer (some p)] .returning w fun e u' w' => e = .returned (.tuple #[]) ∧ u' = .returning ∧ w' = w := by
  refine callsD_of_wpS Try.func136 rfl fun c₀ cs hu => ?_
  apply wpS_seq
  apply wpS_region
  simp [wpOpsS, go_sem, recoverD, hu, Try.ntmps136, Exit.thenS]
  refine wpS_of_wp ?_
  go_wp2_with fail
  trace_state
  cases c₀
  simp_all [bodyPostS, results, Try.results136, Exit.thenS]
theorem as_fault (v : Value) (xT : TypeId) (w : World) : (Instr.typeAssert (.iface 214 v) xT 214 true).run Try.prog w = .ok (.tuple #[v, .bool true]) w := by kernel_rfl
set_option maxRecDepth 100000 in
set_option maxHeartbeats 1000000 in
theorem catch_panicking (p : Addr) (x k : Int) (older : List PanicEntry) (w : World) (hc : w.cell? p = some (.int .i64 x)) (hz : w.frozen? p = false) (hl : p.block < w.heap.size) :
    CallsD Try.prog 136 #[.pointer (some p)] (.panicking ({ v := .iface 214 (.agg #[.int .i64 k]), recovered := false } :: older)) w fun e u' w' =>
      e = .returned (.tuple #[]) ∧ u' = .panicking ({ v := .iface 214 (.agg #[.int .i64 k]), recovered := true } :: older) ∧ w' = (w.alloc (.cells #[.int .i64 k] 214)).setCell p (.int .i64 k) := by
  have has := as_fault
  have hz2 : (w.alloc (.cells #[.int .i64 k] 214)).frozen? p = false := (((Below.refl w.heap.size w).alloc (Nat.le_refl _) (.cells #[.int .i64 k] 214)).frozen hl).trans hz
  have hc2 : (w.alloc (.cells #[.int .i64 k] 214)).cell? p = some (.int .i64 x) := (((Below.refl w.heap.size w).alloc (Nat.le_refl _) (.cells #[.int .i64 k] 214)).cell hl).trans hc
  refine callsD_of_wpS Try.func136 rfl fun c₀ cs hu => ?_
  apply wpS_seq
  apply wpS_region
  simp [wpOpsS, go_sem, recoverD, hu, Try.ntmps136, Exit.thenS]
  have hrep : Array.replicate 16 undef = #[undef, undef, undef, undef, undef, undef, undef, undef, undef, undef, undef, undef, undef, undef, undef, undef] := rfl
  simp only [hrep, List.setIfInBounds_toArray, List.set_cons_zero, List.set_cons_succ, List.append_toArray, List.cons_append, List.nil_append]
  refine wpS_of_wp ?_
  go_wp2_with fail
  trace_state
  cases c₀
  simp_all [bodyPostS, results, Try.results136, Exit.thenS]

end Go.Proofs.Ytpekofpiodaadaa.Hb
end

section
/- The walks of model.Get's closure, take.Try of it, and model.Get. -/
namespace Go.Proofs.Ytpekofpiodaadaa.Hb
set_option linter.unusedVariables false
set_option linter.unusedSimpArgs false
open Go.RowKit

theorem left_blk (g n c : Nat) (A : Option Addr) (w : World) (h : Blk w g #[.slice A n c] 212) :
    Calls Try.prog 137 #[.pointer (some ⟨g, 0, none⟩)] w (Says (.int .i64 (n : Int)) w) := by
  have q0 := h.cell 0
  clear h
  go_enter Try.func137, Try.ntmps137
  go_wp2_with fail
  go_ret
  exact ⟨rfl, rfl⟩
/-- What turns: two blocks and what is new. -/
structure Trn (w w' : World) (g F : Nat) : Prop where
  os : w'.os = w.os
  tape : w'.tape = w.tape
  output : w'.output = w.output
  size : w.heap.size ≤ w'.heap.size
  block : ∀ k, k < w.heap.size → k ≠ g → k ≠ F → w'.heap[k]? = w.heap[k]?
/-- A forest lies in F, its rows behind B. -/
def FIn (B F : Nat) (w : World) (f : Fst) : Prop := ∃ (Ae At As : Option Addr) (ce ct cs : Nat), Blk w F (forA f Ae At As ce ct cs) 59 ∧ FrF B w f Ae At As ∧ OkB f
theorem FIn.set {B B1 F E : Nat} {w1 : World} {f : Fst} (h : FIn B1 F w1 f) (v : Value) (hB : B ≤ B1) (hE : E < B1) (hEF : E ≠ F) : FIn B F (w1.setCell ⟨E, 0, none⟩ v) f := by
  obtain ⟨Ae, At, As, ce, ct, cs, h1, h2, h3⟩ := h
  refine ⟨Ae, At, As, ce, ct, cs, own_blk h1 (gr_cell w1 E 0 v) (fun e => by simp only [Option.some.injEq] at e; omega), fun w2 hw => h2 w2 (fun k k1 k2 => ?_), h3⟩
  exact (hw k (by omega) (by simp; exact k2)).trans (Below.heap_setCell w1 ⟨E, 0, none⟩ v k (fun e => by simp only at e; omega))
theorem getF_ok {l : List Nat} {f : Fst} {r : List Nat} (h : getP l = .ok (f, r)) (hr : r = []) : getF l = .ok f := by unfold getF; rw [h]; simp only; rw [if_pos hr]
theorem getF_more {l : List Nat} {f : Fst} {r : List Nat} (h : getP l = .ok (f, r)) (hr : ¬ r = []) : getF l = .error 3 := by unfold getF; rw [h]; simp only; rw [if_neg hr]
theorem getF_err {l : List Nat} {k : Int} (h : getP l = .error k) : getF l = .error k := by unfold getF; rw [h]
set_option maxRecDepth 100000 in
set_option maxHeartbeats 4000000 in
theorem get1_any (N g F : Nat) (l : List Nat) (Z : Array Value) (w : World) (h : RdB w N g l) (hF : Blk w F Z 59) (hZ : Z.size = 14) (hNF : N ≤ F ∨ (F < N ∧ F ≠ g)) :
    Calls Try.prog 81 #[.pointer (some ⟨g, 0, none⟩), .pointer (some ⟨F, 0, none⟩)] w fun e w' =>
      Trn w w' g F ∧ ((∃ f r, getP l = .ok (f, r) ∧ e = .returned (.tuple #[]) ∧ FIn w.heap.size F w' f ∧ ∃ A c, Blk w' g #[.slice A r.length c] 212) ∨ ∃ k, getP l = .error k ∧ e = Flt k ∧ Blk w' F Z 59) := by
  have KG := Lib.hid (mget_any N g l w h)
  have hgw := h.lt
  have hFg : F ≠ g := by have := h.gN; omega
  have HF := Lib.hid hF
  have hFw := hF.lt
  clear h hF hNF
  go_enter Try.func81, Try.ntmps81
  go_wp2_with fail
  refine KG.out.mono ?_
  rintro e w1 ⟨hg, ⟨f, r, v, hp, rfl, ⟨Ae, At, As, ce, ct, cs, rfl, hfr, hob⟩, hr⟩ | ⟨er, hp, rfl⟩⟩
  · obtain ⟨CF, hCF⟩ : ∃ C, forA f Ae At As ce ct cs = C := ⟨_, rfl⟩
    have hone : ∀ v ∈ CF.toList, v.oneCell' = true := by rw [← hCF]; unfold forA; simp [Value.oneCell']
    have hsz : (Try.prog.info? 59).map (·.size) = some CF.size := by rw [← hCF]; kernel_rfl
    have hsz2 : Z.size = CF.size := by rw [hZ, ← hCF]; rfl
    have kF := own_blk HF.out hg (fun e => by simp only [Option.some.injEq] at e; omega)
    obtain ⟨A, c, hbl, _⟩ := hr.ex
    have HX := Lib.hid (And.intro hg (And.intro hp (And.intro hfr (And.intro hob hbl))))
    have HCF := Lib.hid hCF
    rw [hCF]
    clear hg hp hfr hob hr hCF hbl
    go_wp2_with (refine wpList_store_row rfl 59 (.tmp 1) (.tmp 4) rfl F rfl 59 _ CF rfl kF hsz hsz2 hone ?_)
    refine bodyPost_end (results_none rfl _ _ _) rfl ?_
    obtain ⟨hg, hp, hfr, hob, hbl⟩ := HX.out
    refine ⟨⟨hg.os, hg.tape, hg.output, by rw [size_setRow]; exact hg.size, fun k hk h1 h2 => (row_other (by omega)).trans (hg.block k hk (fun e => h1 (by injection e)))⟩, .inl ⟨f, r, hp, rfl, ⟨Ae, At, As, ce, ct, cs, by rw [HCF.out]; exact kF.row, fun w2 hw2 => hfr w2 (fun k h1 h2 => ?_), hob⟩, A, c, (row_other (by omega)).trans hbl⟩⟩
    have hk := hw2 k h1 (by rw [size_setRow]; exact h2)
    rw [hk]
    exact row_other (by omega)
  · have kF := own_blk HF.out hg (fun e => by simp only [Option.some.injEq] at e; omega)
    unfold Flt
    go_wp2_with fail
    exact ⟨rfl, ⟨hg.os, hg.tape, hg.output, hg.size, fun k hk h1 h2 => hg.block k hk (fun e => h1 (by injection e))⟩, .inr ⟨er, hp, rfl, kF⟩⟩
set_option maxRecDepth 100000 in
set_option maxHeartbeats 4000000 in
theorem try_any (F : Nat) (l : List Nat) (A : Option Addr) (c : Nat) (Z : Array Value) (w : World) (hr : RB w A l) (hl : l.length ≤ c) (hc : c ≤ 9223372036854775807) (hA : ∀ ad, A = some ad → ad.block < w.heap.size) (hF : Blk w F Z 59) (hZ : Z.size = 14) :
    Calls Try.prog 80 #[.slice A l.length c, .func (.func 81) #[] #[.pointer (some ⟨F, 0, none⟩)]] w fun e w' =>
      w.grownBy w' (some F) ∧ ((∃ f, getF l = .ok f ∧ e = .returned (.int .i64 0) ∧ FIn w.heap.size F w' f) ∨ ∃ k, getF l = .error k ∧ e = .returned (.int .i64 k)) := by
  have hmf : ∀ (fn : Fn) (first cap : Array Value) (w : World), (Instr.makeFunc fn first cap).run Try.prog w = .ok (.func fn first cap) w := fun _ _ _ _ => rfl
  obtain ⟨n, hn⟩ : ∃ n, l.length = n := ⟨_, rfl⟩
  have HN := Lib.hid hn
  rw [hn]
  have hFw := hF.lt
  have HR := Lib.hid (And.intro hr (And.intro hl (And.intro hc (And.intro hA hF))))
  clear hr hl hA hF hn
  go_enter_defers Try.func80, Try.ntmps80
  go_wp2_with fail
  have HB2 : Hid (Below w.heap.size w ((w.alloc (.cells #[.int .i64 0] 25)).alloc (.cells #[.slice A n c] 212))) := Lib.hid (((Below.refl _ w).alloc (Nat.le_refl _) _).alloc (by simp) _)
  have kE := (Blk.new w #[.int .i64 0] 25).below ((Below.refl _ (w.alloc (.cells #[.int .i64 0] 25))).alloc (Nat.le_refl _) (.cells #[.slice A n c] 212))
  have kR := Blk.new (w.alloc (.cells #[.int .i64 0] 25)) #[.slice A n c] 212
  rw [World.size_alloc] at kR
  have hsz : ((w.alloc (.cells #[.int .i64 0] 25)).alloc (.cells #[.slice A n c] 212)).heap.size = w.heap.size + 1 + 1 := by simp
  obtain ⟨W2, hW2⟩ : ∃ W, (w.alloc (.cells #[.int .i64 0] 25)).alloc (.cells #[.slice A n c] 212) = W := ⟨_, rfl⟩
  rw [hW2] at HB2 kE kR hsz ⊢
  clear hW2
  have hRd : RdB W2 (w.heap.size + 1 + 1) (w.heap.size + 1) l := ⟨⟨A, c, by rw [HN.out]; exact kR, HR.out.1.below HB2.out, HR.out.2.1, HR.out.2.2.1, fun ad e => by have := HR.out.2.2.2.1 ad e; omega⟩, by omega, by omega⟩
  refine (get1_any (w.heap.size + 1 + 1) (w.heap.size + 1) F l Z W2 hRd (HR.out.2.2.2.2.below HB2.out) hZ (.inr (by omega))).mono ?_
  rintro e w1 ⟨ht, ⟨f, r, hp, rfl, hfin, A1, c1, hbl⟩ | ⟨k, hp, rfl, hkF⟩⟩
  · have kE1 : Blk w1 w.heap.size #[.int .i64 0] 25 := (ht.block _ kE.lt (by omega) (by omega)).trans kE
    have HG1 : Hid (w.grownBy w1 (some F)) := Lib.hid ⟨ht.os.trans HB2.out.os, ht.tape.trans HB2.out.tape, ht.output.trans HB2.out.output, Nat.le_trans HB2.out.size ht.size, fun q hq hne => (ht.block q (Nat.lt_of_lt_of_le hq HB2.out.size) (by omega) (fun e => hne (by rw [e]))).trans (HB2.out.block q hq)⟩
    obtain ⟨m, hm⟩ : ∃ m, r.length = m := ⟨_, rfl⟩
    rw [hm] at hbl
    have KL := Lib.hid (left_blk _ m c1 A1 w1 hbl)
    have HFI := Lib.hid hfin
    have HP := Lib.hid hp
    have HM := Lib.hid hm
    have HKE := Lib.hid kE1
    have hE1 := kE1.lt
    have z0 := kE1.cell 0
    have z1 := fun i => kE1.frozen i
    have hsz2 : w.heap.size ≤ W2.heap.size := HB2.out.size
    have hsz3 : w.heap.size < W2.heap.size := by omega
    clear ht hp hfin hbl kE kR hsz hRd HB2 HR kE1 hm
    go_wp2_with fail
    refine KL.out.mono ?_
    rintro e w2 ⟨rfl, rfl⟩
    by_cases h0 : m = 0
    · have HR0 : Hid (r = []) := Lib.hid (List.length_eq_zero_iff.1 (HM.out.trans h0))
      subst h0
      go_wp2_with fail
      refine leaves_cons (f := 136) (args := #[.pointer (some ⟨w.heap.size, 0, none⟩)]) (by simp) (by simp [go_sem]) ?_
      refine (catch_idle ⟨w.heap.size, 0, none⟩ _).mono ?_
      rintro e u' w'' ⟨rfl, rfl, rfl⟩
      have hE := (HKE.out.set 0 (.int .i64 0)).cell 0
      simp [Leaves, settle, results, Try.results80, go_sem, hE]
      exact ⟨gr_new HG1.out _ (Nat.le_refl _), .inl ⟨f, getF_ok HP.out HR0.out, HFI.out.set _ hsz2 (by omega) (by omega)⟩⟩
    · have HR0 : Hid (¬ r = []) := Lib.hid (fun e => h0 (by rw [← HM.out, e]; rfl))
      have d1 : decide (0 < m) = true := decide_eq_true (by omega)
      have d1' : decide ((0 : Int) < m) = true := decide_eq_true (by omega)
      go_wp2_with fail
      refine leaves_cons (f := 136) (args := #[.pointer (some ⟨w.heap.size, 0, none⟩)]) (by simp) (by simp [go_sem]) ?_
      refine (catch_idle ⟨w.heap.size, 0, none⟩ _).mono ?_
      rintro e u' w'' ⟨rfl, rfl, rfl⟩
      have hE := (HKE.out.set 0 (.int .i64 3)).cell 0
      simp [Leaves, settle, results, Try.results80, go_sem, hE]
      exact ⟨gr_new HG1.out _ (Nat.le_refl _), getF_more HP.out HR0.out⟩
  · have kE1 : Blk w1 w.heap.size #[.int .i64 0] 25 := (ht.block _ kE.lt (by omega) (by omega)).trans kE
    have HG1 : Hid (w.grownBy w1 (some F)) := Lib.hid ⟨ht.os.trans HB2.out.os, ht.tape.trans HB2.out.tape, ht.output.trans HB2.out.output, Nat.le_trans HB2.out.size ht.size, fun q hq hne => (ht.block q (Nat.lt_of_lt_of_le hq HB2.out.size) (by omega) (fun e => hne (by rw [e]))).trans (HB2.out.block q hq)⟩
    have HP := Lib.hid hp
    have HKE := Lib.hid kE1
    clear ht hp kE kR hsz hRd HB2 HR hkF kE1
    unfold Flt
    go_wp2_with fail
    refine leaves_cons (f := 136) (args := #[.pointer (some ⟨w.heap.size, 0, none⟩)]) (by simp) (by simp [go_sem]) ?_
    refine (catch_panicking ⟨w.heap.size, 0, none⟩ 0 k [] w1 (HKE.out.cell 0) (HKE.out.frozen 0) HKE.out.lt).mono ?_
    rintro e u' w'' ⟨rfl, rfl, rfl⟩
    have hE := ((HKE.out.below ((Below.refl w1.heap.size w1).alloc (Nat.le_refl _) (.cells #[.int .i64 k] 214))).set 0 (.int .i64 k)).cell 0
    simp [Leaves, settle, results, Try.results80, go_sem, hE]
    exact ⟨gr_new (gr_trans HG1.out (gr_below ((Below.refl w1.heap.size w1).alloc (Nat.le_refl _) _))) _ (Nat.le_refl _), .inr (getF_err HP.out)⟩
/- No reader fails with the number 0. -/
def NzP {α : Type} (p : Prs α) : Prop := ∀ l k, p l = .error k → k ≠ 0
theorem nz_pure {α : Type} (x : α) : NzP (pureP x) := fun l k h => by cases h
theorem nz_fail {α : Type} {e : Int} (he : e ≠ 0) : NzP (failP e : Prs α) := fun l k h => by cases h; exact he
theorem nz_if {α : Type} {c : Prop} [Decidable c] {p q : Prs α} (hp : NzP p) (hq : NzP q) : NzP (if c then p else q) := by
  split
  · exact hp
  · exact hq
theorem nz_num (k : Nat) : NzP (numP k) := by
  intro l e h
  unfold numP at h
  split at h
  · cases h; decide
  · cases h
theorem nz_bind {α β : Type} {p : Prs α} {f : α → Prs β} (hp : NzP p) (hf : ∀ x, NzP (f x)) : NzP (bindP p f) := by
  intro l k h
  unfold bindP at h
  cases hpl : p l with
  | error e =>
    rw [hpl] at h
    cases h
    exact hp l _ hpl
  | ok z =>
    obtain ⟨x, r⟩ := z
    rw [hpl] at h
    exact hf x r k h
theorem nz_fields : ∀ (ks : List Nat) (acc : List Int), NzP (fieldsA ks acc)
  | [], acc => nz_pure acc
  | k :: ks, acc => nz_bind (nz_num k) fun x => nz_fields ks _
theorem nz_cfg : NzP cfgP := nz_bind (nz_fields _ _) fun c => by
  split
  · exact nz_pure _
  · rename_i h; exact nz_fail h
theorem nz_one (kind left : Int) : NzP (oneN kind left) :=
  nz_bind (nz_num 1) fun x => nz_if (nz_if (nz_bind (nz_num 1) fun c => nz_pure _) (nz_bind (nz_num 8) fun s => nz_bind (nz_num 4) fun k => nz_pure _)) (nz_if (nz_bind (nz_num 2) fun f => nz_bind (nz_num 2) fun b => nz_pure _) (nz_fail (by decide)))
theorem nz_nodes (kind : Int) : ∀ (n : Nat) (left : Int) (out : List Nd), NzP (nodesA kind n left out)
  | 0, _, out => nz_pure out
  | n + 1, left, out => nz_bind (nz_one kind left) fun x => nz_nodes kind n _ _
theorem nz_tree (cols bins kind classes : Int) : NzP (treeP cols bins kind classes) :=
  nz_bind (nz_num 4) fun n => nz_if (nz_fail (by decide)) (nz_bind (nz_nodes _ _ _ _) fun t => nz_if (nz_pure _) (nz_fail (by decide)))
theorem nz_vals : ∀ (n : Nat) (out : List Nat), NzP (valsA n out)
  | 0, out => nz_pure out
  | n + 1, out => nz_bind (nz_num 8) fun x => nz_vals n _
theorem nz_cols (b den : Int) : ∀ (n : Nat) (E : List (List Nat)) (S : List (Int × Int)), NzP (colsA b den n E S)
  | 0, E, S => nz_pure _
  | n + 1, E, S => nz_bind (nz_num 1) fun m => nz_bind (nz_vals _ _) fun es => nz_if (nz_bind (nz_num 8) fun x => nz_cols b den n _ _) (nz_fail (by decide))
theorem nz_trees (f : Fst) : ∀ (n : Nat) (T : List (List Nd)), NzP (treesA f n T)
  | 0, T => nz_pure T
  | n + 1, T => nz_bind (nz_tree _ _ _ _) fun t => nz_if (nz_trees f n _) (nz_fail (by decide))
theorem nz_get : NzP getP :=
  nz_bind (nz_num 4) fun m => nz_if (nz_fail (by decide)) (nz_bind nz_cfg fun c => nz_bind (nz_num 2) fun cols => nz_if (nz_fail (by decide)) (nz_if (nz_fail (by decide))
    (nz_bind (nz_num 8) fun seed => nz_bind (nz_num 8) fun num => nz_bind (nz_num 4) fun den => nz_bind (nz_cols _ _ _ _ _) fun es => nz_bind (nz_trees _ _ _) fun T => nz_if (nz_pure _) (nz_fail (by decide)))))
theorem getF_nz {l : List Nat} {k : Int} (h : getF l = .error k) : k ≠ 0 := by
  unfold getF at h
  cases hg : getP l with
  | error e =>
    rw [hg] at h
    cases h
    exact nz_get l _ hg
  | ok z =>
    obtain ⟨f, r⟩ := z
    rw [hg] at h
    simp only at h
    split at h
    · cases h
    · cases h; decide
set_option maxRecDepth 100000 in
set_option maxHeartbeats 4000000 in
theorem gget_any (l : List Nat) (A : Option Addr) (c : Nat) (w : World) (hr : RB w A l) (hl : l.length ≤ c) (hc : c ≤ 9223372036854775807) (hA : ∀ ad, A = some ad → ad.block < w.heap.size) :
    Calls Try.prog 36 #[.slice A l.length c] w fun e w' => Below w.heap.size w w' ∧
      ((∃ (f : Fst) (Ae At As : Option Addr) (ce ct cs : Nat), getF l = .ok f ∧ e = .returned (.tuple #[.agg (forA f Ae At As ce ct cs), .int .i64 0]) ∧ RFo w' f Ae At As ∧ OkB f) ∨ ∃ k, getF l = .error k ∧ e = .returned (.tuple #[.agg #[.int .i64 0, .int .i64 0, .int .i64 0, .int .i64 0, .int .i64 0, .int .i64 0, .int .i64 0, .int .i64 0, .int .u64 0, .slice none 0 0, .slice none 0 0, .int .i64 0, .int .i64 0, .slice none 0 0], .int .i64 k])) := by
  have hmf : ∀ (fn : Fn) (first cap : Array Value) (w : World), (Instr.makeFunc fn first cap).run Try.prog w = .ok (.func fn first cap) w := fun _ _ _ _ => rfl
  have HB2 : Hid (Below w.heap.size w ((w.alloc (.cells #[.int .i64 0, .int .i64 0, .int .i64 0, .int .i64 0, .int .i64 0, .int .i64 0, .int .i64 0, .int .i64 0, .int .u64 0, .slice none 0 0, .slice none 0 0, .int .i64 0, .int .i64 0, .slice none 0 0] 59)).alloc (.cells #[.int .i64 0, .int .i64 0, .int .i64 0, .int .i64 0, .int .i64 0, .int .i64 0, .int .i64 0, .int .i64 0, .int .u64 0, .slice none 0 0, .slice none 0 0, .int .i64 0, .int .i64 0, .slice none 0 0] 59))) := Lib.hid (((Below.refl _ w).alloc (Nat.le_refl _) _).alloc (by simp) _)
  have k0 := (Blk.new w #[.int .i64 0, .int .i64 0, .int .i64 0, .int .i64 0, .int .i64 0, .int .i64 0, .int .i64 0, .int .i64 0, .int .u64 0, .slice none 0 0, .slice none 0 0, .int .i64 0, .int .i64 0, .slice none 0 0] 59).below ((Below.refl _ (w.alloc (.cells #[.int .i64 0, .int .i64 0, .int .i64 0, .int .i64 0, .int .i64 0, .int .i64 0, .int .i64 0, .int .i64 0, .int .u64 0, .slice none 0 0, .slice none 0 0, .int .i64 0, .int .i64 0, .slice none 0 0] 59))).alloc (Nat.le_refl _) (.cells #[.int .i64 0, .int .i64 0, .int .i64 0, .int .i64 0, .int .i64 0, .int .i64 0, .int .i64 0, .int .i64 0, .int .u64 0, .slice none 0 0, .slice none 0 0, .int .i64 0, .int .i64 0, .slice none 0 0] 59))
  have k1 := Blk.new (w.alloc (.cells #[.int .i64 0, .int .i64 0, .int .i64 0, .int .i64 0, .int .i64 0, .int .i64 0, .int .i64 0, .int .i64 0, .int .u64 0, .slice none 0 0, .slice none 0 0, .int .i64 0, .int .i64 0, .slice none 0 0] 59)) #[.int .i64 0, .int .i64 0, .int .i64 0, .int .i64 0, .int .i64 0, .int .i64 0, .int .i64 0, .int .i64 0, .int .u64 0, .slice none 0 0, .slice none 0 0, .int .i64 0, .int .i64 0, .slice none 0 0] 59
  rw [World.size_alloc] at k1
  obtain ⟨W2, hW2⟩ : ∃ W, (w.alloc (.cells #[.int .i64 0, .int .i64 0, .int .i64 0, .int .i64 0, .int .i64 0, .int .i64 0, .int .i64 0, .int .i64 0, .int .u64 0, .slice none 0 0, .slice none 0 0, .int .i64 0, .int .i64 0, .slice none 0 0] 59)).alloc (.cells #[.int .i64 0, .int .i64 0, .int .i64 0, .int .i64 0, .int .i64 0, .int .i64 0, .int .i64 0, .int .i64 0, .int .u64 0, .slice none 0 0, .slice none 0 0, .int .i64 0, .int .i64 0, .slice none 0 0] 59) = W := ⟨_, rfl⟩
  obtain ⟨g0, hg0⟩ : ∃ z, w.heap.size = z := ⟨_, rfl⟩
  rw [hW2] at HB2 k0 k1
  rw [hg0] at k0 k1
  have hg1 := k1.lt
  have KT := Lib.hid (try_any (g0 + 1) l A c #[.int .i64 0, .int .i64 0, .int .i64 0, .int .i64 0, .int .i64 0, .int .i64 0, .int .i64 0, .int .i64 0, .int .u64 0, .slice none 0 0, .slice none 0 0, .int .i64 0, .int .i64 0, .slice none 0 0] W2 (hr.below HB2.out) hl hc (fun ad e => by have := hA ad e; omega) k1 rfl)
  have K0 := Lib.hid k0
  have HSZ := Lib.hid hg0
  obtain ⟨n, hn⟩ : ∃ n, l.length = n := ⟨_, rfl⟩
  rw [hn] at KT ⊢
  clear hr hl hA k0 k1 hn
  go_enter Try.func36, Try.ntmps36
  go_wp2_with fail
  clear hW2 hg0
  refine KT.out.mono ?_
  rintro e w1 ⟨hg, ⟨f, hgf, rfl, ⟨Ae, At, As, ce, ct, cs, hbF, hfr, hob⟩⟩ | ⟨k, hgf, rfl⟩⟩
  · have HG := Lib.hid hg
    have HX := Lib.hid (And.intro hgf (And.intro hfr hob))
    obtain ⟨CF, hCF⟩ : ∃ C, forA f Ae At As ce ct cs = C := ⟨_, rfl⟩
    have hone : ∀ v ∈ CF.toList, v.oneCell' = true := by rw [← hCF]; unfold forA; simp [Value.oneCell']
    have hsz : (Try.prog.info? 59).map (·.size) = some CF.size := by rw [← hCF]; kernel_rfl
    have hsz2 : (#[.int .i64 0, .int .i64 0, .int .i64 0, .int .i64 0, .int .i64 0, .int .i64 0, .int .i64 0, .int .i64 0, .int .u64 0, .slice none 0 0, .slice none 0 0, .int .i64 0, .int .i64 0, .slice none 0 0] : Array Value).size = CF.size := by rw [← hCF]; rfl
    rw [hCF] at hbF
    have HCF := Lib.hid hCF
    have k0 := own_blk K0.out hg (fun e => by simp only [Option.some.injEq] at e; omega)
    clear hg hgf hfr hob hCF
    go_wp2_with (first | (refine wpList_load_row rfl 59 (.tmp 4) rfl (g0 + 1) rfl 59 _ (0, 0) _ hbF Try.underlying59 rfl hsz ?_) | (refine wpList_store_row rfl 59 (.tmp 2) (.tmp 13) rfl g0 rfl 59 _ CF rfl k0 hsz hsz2 hone ?_))
    refine bodyPost_ret (results_ct rfl _ _ g0 59 CF _ rfl k0.row Try.underlying59 rfl hsz) rfl ⟨?_, .inl ⟨f, Ae, At, As, ce, ct, cs, HX.out.1, by rw [HCF.out]; rfl, HX.out.2.1 _ (fun k h1 h2 => row_other (by omega)), HX.out.2.2⟩⟩
    have h1 := HG.out
    have h2 := HB2.out
    have h3 := HSZ.out
    exact ⟨h1.os.trans h2.os, h1.tape.trans h2.tape, h1.output.trans h2.output, by rw [size_setRow]; exact Nat.le_trans h2.size h1.size, fun q hq => (row_other (by omega)).trans ((h1.block q (Nat.lt_of_lt_of_le hq h2.size) (fun e => by simp only [Option.some.injEq] at e; omega)).trans (h2.block q hq))⟩
  · have HG := Lib.hid hg
    have HX := Lib.hid hgf
    have hk := getF_nz hgf
    have e1 : (k == 0) = false := beq_eq_false_iff_ne.2 hk
    have e2 : (k != 0) = true := bne_iff_ne.2 hk
    have k0 := own_blk K0.out hg (fun e => by simp only [Option.some.injEq] at e; omega)
    have hone : ∀ v ∈ (#[.int .i64 0, .int .i64 0, .int .i64 0, .int .i64 0, .int .i64 0, .int .i64 0, .int .i64 0, .int .i64 0, .int .u64 0, .slice none 0 0, .slice none 0 0, .int .i64 0, .int .i64 0, .slice none 0 0] : Array Value).toList, v.oneCell' = true := by simp [Value.oneCell']
    clear hg hgf hk
    go_wp2_with (refine wpList_store_row rfl 59 (.tmp 2) (.tmp 11) rfl g0 rfl 59 _ #[.int .i64 0, .int .i64 0, .int .i64 0, .int .i64 0, .int .i64 0, .int .i64 0, .int .i64 0, .int .i64 0, .int .u64 0, .slice none 0 0, .slice none 0 0, .int .i64 0, .int .i64 0, .slice none 0 0] rfl k0 forest_sz rfl hone ?_)
    refine bodyPost_ret (results_ct rfl _ _ g0 59 #[.int .i64 0, .int .i64 0, .int .i64 0, .int .i64 0, .int .i64 0, .int .i64 0, .int .i64 0, .int .i64 0, .int .u64 0, .slice none 0 0, .slice none 0 0, .int .i64 0, .int .i64 0, .slice none 0 0] _ rfl k0.row Try.underlying59 rfl forest_sz) rfl ⟨?_, .inr ⟨k, HX.out, rfl⟩⟩
    have h1 := HG.out
    have h2 := HB2.out
    have h3 := HSZ.out
    exact ⟨h1.os.trans h2.os, h1.tape.trans h2.tape, h1.output.trans h2.output, by rw [size_setRow]; exact Nat.le_trans h2.size h1.size, fun q hq => (row_other (by omega)).trans ((h1.block q (Nat.lt_of_lt_of_le hq h2.size) (fun e => by simp only [Option.some.injEq] at e; omega)).trans (h2.block q hq))⟩
end Go.Proofs.Ytpekofpiodaadaa.Hb
end

section
/- What was put is read: pure. -/
namespace Go.Proofs.Ytpekofpiodaadaa.Hb
set_option linter.unusedVariables false
set_option linter.unusedSimpArgs false
open Go.RowKit

theorem num_be (x k : Nat) (r : List Nat) : numP k (beN x k ++ r) = .ok (x % 256 ^ k, r) := by
  rw [num_some (by rw [List.length_append, be_len]; omega), List.take_append_of_le_length (by rw [be_len]; exact Nat.le_refl _), List.drop_append_of_le_length (by rw [be_len]; exact Nat.le_refl _),
    List.take_of_length_le (by rw [be_len]; exact Nat.le_refl _), List.drop_of_length_le (by rw [be_len]; exact Nat.le_refl _), List.nil_append, numB_be]
theorem num_lt {x k : Nat} (r : List Nat) (h : x < 256 ^ k) : numP k (beN x k ++ r) = .ok (x, r) := by rw [num_be, Nat.mod_eq_of_lt h]
theorem u64N_nat {x : Int} (h : 0 ≤ x ∧ x < 18446744073709551616) : ((u64N x : Nat) : Int) = x := by unfold u64N; omega
theorem sI_u64N {x : Int} (h : in64 x) : sI (u64N x) = x := by
  unfold in64 at h
  unfold sI u64N
  rw [wrapI_fst]
  unfold wrap64
  omega
theorem one_nd {cols bins kind classes left : Int} {n : Nd} (r : List Nat) (hs : mayS cols bins kind classes) (hn : oneP cols bins kind classes n) (hl : n.f ≠ -1 → n.l = left) : oneN kind left (ndB kind n ++ r) = .ok (n, r) := by
  unfold mayS at hs
  unfold oneP at hn
  obtain ⟨f, b, l, c, s, k⟩ := n
  simp only at hn hl
  unfold oneN
  by_cases h1 : f = -1
  · rw [if_pos h1] at hn
    by_cases hk : kind = 0
    · rw [if_pos hk] at hn
      rw [ndB_leaf0 h1 hk]
      rw [bind_ok (x := 0) (r := [u64N c % 256] ++ r) (by exact num_lt (x := 0) (k := 1) _ (by decide)), if_pos rfl, if_pos hk]
      have hc : u64N c % 256 = u64N c := Nat.mod_eq_of_lt (by unfold u64N; omega)
      rw [bind_ok (x := u64N c) (r := r) (by
        have h := num_lt (x := u64N c) (k := 1) r (by unfold u64N; omega)
        rw [show beN (u64N c) 1 = [u64N c % 256] from by simp [beN]] at h
        exact h)]
      unfold pureP
      rw [u64N_nat (by omega)]
      simp only [Except.ok.injEq, Prod.mk.injEq, Nd.mk.injEq, and_true, true_and]
      omega
    · rw [if_neg hk] at hn
      rw [ndB_leaf1 h1 hk, List.append_assoc, List.append_assoc]
      rw [bind_ok (x := 0) (r := beN (u64N s) 8 ++ (beN (u64N k) 4 ++ r)) (by exact num_lt (x := 0) (k := 1) _ (by decide)), if_pos rfl, if_neg hk]
      rw [bind_ok (num_lt _ (u64N_lt s)), bind_ok (num_lt _ (by unfold u64N; omega))]
      unfold pureP
      rw [u64N_nat (by omega), sI_u64N (by unfold in64; omega)]
      simp only [Except.ok.injEq, Prod.mk.injEq, Nd.mk.injEq, and_true, true_and]
      omega
  · rw [if_neg h1] at hn
    rw [ndB_split h1, List.append_assoc, List.append_assoc]
    rw [bind_ok (x := 1) (r := beN (u64N f) 2 ++ (beN (u64N b) 2 ++ r)) (by exact num_lt (x := 1) (k := 1) _ (by decide)), if_neg (by decide), if_pos rfl]
    rw [bind_ok (num_lt _ (by unfold u64N; omega)), bind_ok (num_lt _ (by unfold u64N; omega))]
    unfold pureP
    rw [u64N_nat (by omega), u64N_nat (by omega)]
    have := hl h1
    simp only [Except.ok.injEq, Prod.mk.injEq, Nd.mk.injEq, and_true, true_and]
    omega
theorem nodes_nd {cols bins kind classes : Int} (hs : mayS cols bins kind classes) {L : Nat} : ∀ (a : List Nd) (i : Nat) (out : List Int) (acc : List Nd) (r : List Nat), (∀ n ∈ a, oneP cols bins kind classes n) → (depGo L a i out).isSome → nodesA kind a.length out.length acc (a.flatMap (ndB kind) ++ r) = .ok (acc ++ a, r)
  | [], i, out, acc, r, _, _ => by simp [nodesA, pureP]
  | n :: a, i, out, acc, r, ha, h1 => by
    have ha' := fun x hx => ha x (List.mem_cons_of_mem n hx)
    rw [List.flatMap_cons, List.append_assoc, List.length_cons]
    unfold nodesA
    unfold depGo at h1
    by_cases g1 : out.length ≤ i
    · rw [if_pos g1] at h1; simp at h1
    · rw [if_neg g1] at h1
      by_cases g2 : n.f = -1
      · rw [if_pos g2] at h1
        rw [bind_ok (one_nd _ hs (ha n (List.mem_cons_self ..)) (fun e => absurd g2 e)), if_pos g2, nodes_nd hs a (i + 1) out _ r ha' h1, List.append_assoc]
        rfl
      · rw [if_neg g2] at h1
        by_cases g3 : n.l ≠ (out.length : Int) ∨ L < out.length + 2
        · rw [if_pos g3] at h1; simp at h1
        · rw [if_neg g3] at h1
          have hk := nodes_nd hs a (i + 1) _ (acc ++ [n]) r ha' h1
          rw [bind_ok (one_nd _ hs (ha n (List.mem_cons_self ..)) (fun _ => by omega)), if_neg g2]
          have e : (((out ++ [out.getD i 0 + 1, out.getD i 0 + 1]).length : Nat) : Int) = (out.length : Int) + 2 := by simp
          rw [e] at hk
          rw [hk, List.append_assoc]
          rfl
theorem tree_nd {cols bins kind classes : Int} {t : List Nd} (r : List Nat) (h : rightT cols bins kind classes t = true) (hl : t.length ≤ 4194304) : treeP cols bins kind classes (treeB kind t ++ r) = .ok (t, r) := by
  obtain ⟨hs, _, ⟨ds, hd, _⟩, _, ho⟩ := rightT_is h
  unfold treeP treeB
  rw [List.append_assoc, bind_ok (num_lt _ (by omega)), if_neg (by omega)]
  have hk := nodes_nd hs (L := t.length) t 0 [0] [] r ho (by rw [hd]; rfl)
  rw [List.nil_append] at hk
  have hk2 : nodesA kind t.length 1 [] (t.flatMap (ndB kind) ++ r) = .ok (t, r) := hk
  rw [bind_ok hk2, if_pos h]
  rfl
theorem vals_nd : ∀ (a : List Nat) (acc : List Nat) (r : List Nat), (∀ x ∈ a, x < 18446744073709551616) → valsA a.length acc (a.flatMap valB ++ r) = .ok (acc ++ a, r)
  | [], acc, r, _ => by simp [valsA, pureP]
  | x :: a, acc, r, h => by
    rw [List.flatMap_cons, List.append_assoc, List.length_cons]
    unfold valsA
    rw [show valB x = beN x 8 from rfl, bind_ok (num_lt _ (h x (List.mem_cons_self ..))), vals_nd a _ r (fun y hy => h y (List.mem_cons_of_mem _ hy)), List.append_assoc]
    rfl
theorem cols_nd {b den : Int} : ∀ (a : List (List Nat × (Int × Int))) (E : List (List Nat)) (S : List (Int × Int)) (r : List Nat), (∀ x ∈ a, OkX den x ∧ cutsE b x.1 = true) →
    colsA b den a.length E S (a.flatMap colX ++ r) = .ok ((E ++ a.map Prod.fst, S ++ a.map Prod.snd), r)
  | [], E, S, r, _ => by simp [colsA, pureP]
  | ⟨es, x, d⟩ :: a, E, S, r, h => by
    obtain ⟨⟨x1, x2, x3, x4⟩, x5⟩ := h _ (List.mem_cons_self ..)
    simp only at x1 x2 x3 x4 x5
    rw [List.flatMap_cons, List.append_assoc, List.length_cons]
    unfold colsA
    rw [show colX (es, x, d) = beN es.length 1 ++ (es.flatMap valB ++ beN (u64N x) 8) from rfl, List.append_assoc, List.append_assoc]
    have hv := vals_nd es [] (beN (u64N x) 8 ++ (a.flatMap colX ++ r)) x2
    rw [List.nil_append] at hv
    rw [bind_ok (num_lt _ (by omega)), bind_ok hv, if_pos x5, bind_ok (num_lt _ (u64N_lt x)), cols_nd a _ _ r (fun y hy => h y (List.mem_cons_of_mem _ hy)), sI_u64N x3]
    subst x4
    simp [List.append_assoc]
theorem trees_nd {f : Fst} : ∀ (a T : List (List Nd)) (r : List Nat), (∀ t ∈ a, treeE f t = true ∧ t.length ≤ 4194304) → treesA f a.length T (a.flatMap (treeB f.k) ++ r) = .ok (T ++ a, r)
  | [], T, r, _ => by simp [treesA, pureP]
  | t :: a, T, r, h => by
    obtain ⟨h1, h2⟩ := h t (List.mem_cons_self ..)
    have h3 : rightT f.cols f.b f.k f.cl t = true := by unfold treeE at h1; simp only [Bool.and_eq_true] at h1; exact h1.1
    rw [List.flatMap_cons, List.append_assoc, List.length_cons]
    unfold treesA
    rw [bind_ok (tree_nd _ h3 h2), if_pos h1, trees_nd a _ r (fun y hy => h y (List.mem_cons_of_mem _ hy)), List.append_assoc]
    rfl
theorem cfg_nd {k cl b t d l p : Int} (r : List Nat) (h : checkO k cl b t d l p = 0) : cfgP (cfgB k cl b t d l p ++ r) = .ok ([k, cl, b, t, d, l, p], r) := by
  obtain ⟨ok, ocl, ob, ot, od, ol, op⟩ := chk_is h
  have key : fieldsA szs [] (cfgB k cl b t d l p ++ r) = .ok ([k, cl, b, t, d, l, p], r) := by
    unfold cfgB cfgL fldB szs
    simp only [List.flatMap_cons, List.flatMap_nil, List.append_nil, List.append_assoc]
    unfold fieldsA
    rw [bind_ok (num_lt _ (by unfold u64N; omega))]
    unfold fieldsA
    rw [bind_ok (num_lt _ (by unfold u64N; omega))]
    unfold fieldsA
    rw [bind_ok (num_lt _ (by unfold u64N; omega))]
    unfold fieldsA
    rw [bind_ok (num_lt _ (by unfold u64N; omega))]
    unfold fieldsA
    rw [bind_ok (num_lt _ (by unfold u64N; omega))]
    unfold fieldsA
    rw [bind_ok (num_lt _ (by unfold u64N; omega))]
    unfold fieldsA
    rw [bind_ok (num_lt _ (by unfold u64N; omega))]
    unfold fieldsA pureP
    rw [u64N_nat (by omega), u64N_nat (by omega), u64N_nat (by omega), u64N_nat (by omega), u64N_nat (by omega), u64N_nat (by omega), u64N_nat (by omega)]
    rfl
  unfold cfgP
  rw [bind_ok key, if_pos (by exact h)]
  rfl
/-- A forest's bytes are read as that forest. -/
theorem getP_put {f : Fst} (hf : mayF f = true) (of : OkB f) (ol : ∀ t ∈ f.trees, t.length ≤ 4194304) (r : List Nat) : getP (putF f ++ r) = .ok (f, r) := by
  have mf := mayF_is hf
  have cf := chk_is mf.ck
  have bf := mayF_be hf cf.k
  have hcut : ∀ e ∈ f.edges, cutsE f.b e = true := by
    unfold mayF at hf
    simp only [Bool.and_eq_true, List.all_eq_true] at hf
    exact hf.2.1
  have htr : ∀ t ∈ f.trees, treeE f t = true := by
    unfold mayF at hf
    simp only [Bool.and_eq_true, List.all_eq_true] at hf
    exact hf.2.2
  obtain ⟨k, cl, b, t, d, l, p, cols, seed, edges, trees, num, den, shake⟩ := f
  have c0 := mf.c0
  have c1 := mf.c1
  have ne := mf.ne
  have nt := mf.nt
  have ns := mf.ns
  have ck := mf.ck
  have bn := bf.num
  have bd := bf.den
  have hsd := of.seed
  have ct := cf.t
  simp only at *
  unfold getP putF fstB
  simp only [List.append_assoc]
  rw [bind_ok (num_lt _ (by decide)), if_neg (by decide), bind_ok (cfg_nd _ ck), bind_ok (num_lt _ (by unfold u64N; omega)), if_neg (by unfold u64N; omega), if_neg (by unfold u64N; omega),
    bind_ok (num_lt _ hsd), bind_ok (num_lt _ (u64N_lt num)), bind_ok (num_lt _ (by unfold u64N; omega))]
  rw [sI_u64N (by unfold in64; omega), u64N_nat (x := den) (by omega), u64N_nat (x := cols) (by omega)]
  have hz : (edges.zip shake).length = u64N cols := by rw [List.length_zip]; unfold u64N; omega
  have hc := cols_nd (b := b) (den := den) (edges.zip shake) [] [] (trees.flatMap (treeB k) ++ r) (fun x hx => by
    have hm := List.of_mem_zip hx
    have h3 := bf.sh _ hm.2
    exact ⟨⟨mf.ee _ hm.1, of.ee _ hm.1, h3.1, h3.2⟩, hcut _ hm.1⟩)
  rw [hz, List.nil_append, List.nil_append, List.map_fst_zip (by omega), List.map_snd_zip (by omega)] at hc
  rw [show ([k, cl, b, t, d, l, p] : List Int).getD 2 0 = b from rfl, bind_ok hc]
  have hl3 : (([k, cl, b, t, d, l, p] : List Int).getD 3 0).toNat = trees.length := by show t.toNat = _; omega
  rw [hl3]
  have ht := trees_nd (f := Fst.head [k, cl, b, t, d, l, p] cols seed num den) trees [] r (fun t ht => ⟨htr t ht, ol t ht⟩)
  rw [List.nil_append] at ht
  rw [bind_ok (show treesA (Fst.head [k, cl, b, t, d, l, p] cols seed num den) trees.length [] (trees.flatMap (treeB k) ++ r) = _ from ht)]
  rw [if_pos (by exact hf)]
  rfl
end Go.Proofs.Ytpekofpiodaadaa.Hb
end

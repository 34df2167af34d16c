/- The walk of the law OobError. -/
import Derived.Test.YtbhikceekldenaaHbRErr
import Derived.Test.YtbhikceekldenaaHbLaw25
import Derived.Test.YtbhikceekldenaaHbGreat25
namespace Go.Proofs.Ytbhikceekldenaa.Hb
set_option linter.unusedVariables false
set_option linter.unusedSimpArgs false
open Go.RowKit

set_option maxRecDepth 100000 in
set_option maxHeartbeats 4000000 in
theorem oerror_any (g : Grv) (Ac At Aw Ag : Option Addr) (cc ct cw cg : Nat) (w : World) (hr : RG w g Ac At Aw Ag) (l0 : g.cells.length ≤ 9223372036854775807) (l1 : g.trees.length ≤ 9223372036854775807) (l2 : g.weights.length ≤ 9223372036854775807) :
    Calls Try.prog 4 #[.agg (grvA g Ac At Aw Ag cc ct cw cg)] w (True0 w) := by
  have KG := Lib.hid (fun w hr => great_any g Ac At Aw Ag cc ct cw cg w hr l1 l2)
  have HRG := Lib.hid hr
  obtain ⟨GV, hGV⟩ : ∃ V, grvA g Ac At Aw Ag cc ct cw cg = V := ⟨_, rfl⟩
  have hsz : (Try.prog.info? 31).map (·.size) = some GV.size := by rw [← hGV]; kernel_rfl
  cases hgr : greatG g with
  | true =>
    rw [hgr, hGV] at KG
    rw [hGV]
    clear hGV hgr
    go_enter Try.func4, Try.ntmps4
    go_upto_region 1 with (fail)
    have kB := Blk.new w GV 31
    have HBE := Lib.hid ((Below.refl w.heap.size w).alloc (Nat.le_refl _) (.cells GV 31))
    go_wp2_with (refine wpList_load_row rfl 31 (.tmp 1) rfl w.heap.size rfl 31 GV (0, 0) _ kB Try.underlying31 rfl hsz ?_)
    refine (KG.out _ (HRG.out.below HBE.out)).mono ?_
    rintro e w1 ⟨rfl, hb⟩
    have HBE1 := Lib.hid (HBE.out.trans (hb.mono HBE.out.size))
    clear hb kB
    go_wp2_with fail
    refine (fixed25_any _).mono ?_
    rintro e w2 ⟨rfl, hb⟩
    have HBE2 := Lib.hid (HBE1.out.trans (hb.mono HBE1.out.size))
    clear hb
    go_wp2_with fail
    go_ret
    exact ⟨rfl, HBE2.out⟩
  | false =>
    have hok := great_ok hgr
    have hrows : mayG g = true → g.rows ≤ 1048576 := fun h => by have := great_rows hgr h; omega
    have KF := Lib.hid (fun w hr => rerror_any g Ac At Aw Ag cc ct cw cg w hok hrows hr)
    have KE := Lib.hid (fun w hr => error_any g Ac At Aw Ag cc ct cw cg w hok hrows hr)
    have KGr := Lib.hid (fun w => grove_any g Ac At Aw Ag cc ct cw cg w)
    rw [hgr, hGV] at KG
    rw [hGV] at KF KE KGr ⊢
    obtain ⟨EN, hEN⟩ : ∃ x, (if mayG g then (0 : Int) else 8) = x := ⟨_, rfl⟩
    obtain ⟨⟨NN, DD⟩, hND⟩ : ∃ x, errO g = x := ⟨_, rfl⟩
    rw [hEN, hND] at KE KF
    simp only at KE KF
    have hq := fun (w : World) x0 x1 y0 y1 => eq_signed 9998 w x0 x1 y0 y1
    clear hok hrows hGV hgr hEN hND hr l0 l1 l2
    go_enter Try.func4, Try.ntmps4
    go_upto_region 1 with (fail)
    have kB := Blk.new w GV 31
    have HBE := Lib.hid ((Below.refl w.heap.size w).alloc (Nat.le_refl _) (.cells GV 31))
    go_wp2_with (refine wpList_load_row rfl 31 (.tmp 1) rfl w.heap.size rfl 31 GV (0, 0) _ kB Try.underlying31 rfl hsz ?_)
    refine (KG.out _ (HRG.out.below HBE.out)).mono ?_
    rintro e w1 ⟨rfl, hb⟩
    have HBE1 := Lib.hid (HBE.out.trans (hb.mono HBE.out.size))
    replace kB := kB.below hb
    clear hb
    go_upto_region 3 with (fail)
    go_wp2_with (refine wpList_load_row rfl 31 (.tmp 1) rfl w.heap.size rfl 31 GV (0, 0) _ kB Try.underlying31 rfl hsz ?_)
    refine (KGr.out _).mono ?_
    rintro e u1 ⟨rfl, hb⟩
    have HBo1 := Lib.hid (HBE1.out.trans (hb.mono HBE1.out.size))
    replace kB := kB.below hb
    clear hb
    go_wp2_with fail
    refine (KE.out _ (HRG.out.below HBo1.out)).mono ?_
    rintro e u2 ⟨rfl, hb⟩
    have HBo2 := Lib.hid (HBo1.out.trans (hb.mono HBo1.out.size))
    replace kB := kB.below hb
    have kS := Lib.hid (Blk.new u2 #[.int .i64 NN, .int .i64 DD] 48)
    have HBo3 := Lib.hid (HBo2.out.alloc HBo2.out.size (.cells #[.int .i64 NN, .int .i64 DD] 48))
    replace kB := kB.below ((Below.refl _ _).alloc (Nat.le_refl _) (.cells #[.int .i64 NN, .int .i64 DD] 48))
    clear hb
    go_upto_region 4 with (fail)
    obtain ⟨u3, hu3⟩ : ∃ W, u2.alloc (.cells #[.int .i64 NN, .int .i64 DD] 48) = W := ⟨_, rfl⟩
    rw [hu3] at kS HBo3 kB ⊢
    clear hu3
    go_wp2_with (refine wpList_load_row rfl 31 (.tmp 1) rfl w.heap.size rfl 31 GV (0, 0) _ kB Try.underlying31 rfl hsz ?_)
    refine (KF.out _ (HRG.out.below HBo3.out)).mono ?_
    rintro e u5 ⟨rfl, hb⟩
    have HBo5 := Lib.hid (HBo3.out.trans (hb.mono HBo3.out.size))
    have kS5 := Lib.hid (kS.out.below hb)
    have kT5 := Lib.hid (Blk.new u5 #[.int .i64 NN, .int .i64 DD] 48)
    have kS6 := Lib.hid (kS5.out.below ((Below.refl _ _).alloc (Nat.le_refl _) (.cells #[.int .i64 NN, .int .i64 DD] 48)))
    have HBo6 := Lib.hid (HBo5.out.alloc HBo5.out.size (.cells #[.int .i64 NN, .int .i64 DD] 48))
    clear hb kB
    go_wp2_with fail
    obtain ⟨u6, hu6⟩ : ∃ W, u5.alloc (.cells #[.int .i64 NN, .int .i64 DD] 48) = W := ⟨_, rfl⟩
    rw [hu6] at kT5 kS6 HBo6 ⊢
    clear hu6
    refine (fixed25_any _).mono ?_
    rintro e u7 ⟨rfl, hb⟩
    have HBo7 := Lib.hid (HBo6.out.trans (hb.mono HBo6.out.size))
    have kS7 := kS6.out.below hb
    have kT7 := kT5.out.below hb
    have s0 := kS7.cell 0
    have s1 := kS7.cell 1
    have t0 := kT7.cell 0
    have t1 := kT7.cell 1
    have ls := kS7.lt
    have lt := kT7.lt
    simp only [List.getElem?_toArray, List.getElem?_cons_zero, List.getElem?_cons_succ] at s0 s1 t0 t1
    clear hb kS7 kT7
    go_wp2_with fail
    go_ret
    exact ⟨rfl, HBo7.out⟩
end Go.Proofs.Ytbhikceekldenaa.Hb

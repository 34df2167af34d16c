/- Texts joined: the walks and the plain laws that the claim HistAdds rests on. -/
import Derived.Test.YteckbgpkoanhfaaProg
import Derived.Below
import Derived.Deep.Draws
import Derived.Deep.AppendLies
import Derived.Maps.AppendAt
import Derived.OwnWalk
import Derived.Laws.BytesArg
import Derived.Laws.MakeOwn
import Derived.Laws.OwnMore
import Derived.Deep.OwnRows
import Derived.Tactics
import Derived.Lib.ConvBytes
import Derived.Laws.Slices
import Derived.WalkKit
import Derived.KernelRfl
import Derived.RowKit3
import Derived.Deep.LoopGhost
import Derived.Deep.QuietTactic
import Derived.BigQuiet
import Derived.WideLaws
import Derived.Deep.DeepCutAuto
import Derived.Deep.CutBlock
import Derived.Deep.RegionHeld3
import Derived.Laws.Rows
import Derived.Lib.AppendStr
import Derived.ArgAppend
import Derived.Laws.IdiomCopy
import Derived.OrdersHeld
import Derived.Laws.BitsLemmas
import Derived.RowKit
import Derived.Test.YteckbgpkoanhfaaWWords
import Derived.Test.YteckbgpkoanhfaaWLast
import Derived.Test.YteckbgpkoanhfaaWTab
import Derived.Test.YteckbgpkoanhfaaWFour
import Derived.Test.YteckbgpkoanhfaaWQPut
import Derived.Test.YteckbgpkoanhfaaWApart
import Derived.Test.YteckbgpkoanhfaaWArr
import Derived.Test.YteckbgpkoanhfaaWZeros
import Derived.Test.YteckbgpkoanhfaaWFoot
import Derived.Test.YteckbgpkoanhfaaWKept
import Derived.Test.YteckbgpkoanhfaaWShare
import Derived.Test.YteckbgpkoanhfaaWN
import Derived.Test.YteckbgpkoanhfaaWFootNe
import Derived.Test.YteckbgpkoanhfaaWAt
import Derived.Test.YteckbgpkoanhfaaWEqStruct
import Derived.Test.YteckbgpkoanhfaaWRepsOne
import Derived.Test.YteckbgpkoanhfaaWInv
import Derived.Test.YteckbgpkoanhfaaWInvWords
import Derived.Test.YteckbgpkoanhfaaWGuard
import Derived.Test.YteckbgpkoanhfaaWNEv
import Derived.Test.YteckbgpkoanhfaaWMore
import Derived.WalkSmall
import Derived.Deep.Onto
import Derived.Lib.Hide
import Derived.Laws.AppendOwn
import Derived.RangeFuncBox
import Derived.Laws.StructEq
import Derived.Shelf.Bits.Mul64
import Derived.Lib.SmallJoins
import Derived.Deep.Slices
import Derived.ChangeShapes
import Derived.DataElems
import Derived.OpenShut
import Derived.IntWalk
section
-- Printed by a program of the session's over the kit's print.
namespace Go.Proofs.Yteckbgpkoanhfaa.Pr
open Go.RowKit Go.Proofs.YteckbgpkoanhfaaW.PrintWords Go.Proofs.YteckbgpkoanhfaaW.PrintLast Go.Proofs.YteckbgpkoanhfaaW.PrintMore
attribute [local go_sem] max2_int min2_int max_two min_two max_three min_three max_four min_four   -- for this text's walks alone
set_option linter.unusedVariables false
set_option linter.unusedSimpArgs false



def errW : Option Int → Value
  | none => .nilIface
  | some c => .iface 0 (.int .i64 c)
theorem errW_none : errW none = .nilIface := rfl
theorem errW_some (c : Int) : errW (some c) = .iface 0 (.int .i64 c) := rfl

theorem info2 : (Try.prog.info? 2).map (fun i => (i.zero, i.size, i.bytes)) = some (some (.int .i64 0), 1, 8) := by kernel_rfl
theorem info25 : (Try.prog.info? 25).map (fun i => (i.zero, i.size, i.bytes)) = some (some (.agg #[(.int .i64 0), (.int .i64 0)]), 2, 16) := by kernel_rfl
theorem info52 : (Try.prog.info? 52).map (fun i => (i.zero, i.size, i.bytes)) = some (some (.agg #[(.int .i64 0), (.int .i64 0), (.int .i64 0)]), 3, 24) := by kernel_rfl
theorem info110 : (Try.prog.info? 110).map (fun i => (i.zero, i.size, i.bytes)) = some (some (.int .u64 0), 1, 8) := by kernel_rfl
-- the values' own types
/-! #### struct type 52 -/
structure S52 where
  f0 : Int
  f1 : Int
  f2 : Int
def z52 : S52 := ⟨(0 : Int), (0 : Int), (0 : Int)⟩
def k52 : Kd S52 := Kd.iso (Kd.pair (Kd.int .i64) (Kd.pair (Kd.int .i64) (Kd.int .i64))) (fun x : S52 => (x.f0, x.f1, x.f2))
theorem k52_open {w : World} {x : S52} {cs : List Value} (h : k52.K w x cs) : cs = [.int .i64 x.f0, .int .i64 x.f1, .int .i64 x.f2] := by
  obtain ⟨_, _, rfl, rfl, ⟨_, _, rfl, rfl, rfl⟩⟩ := h
  exact rfl
theorem k52_openM {w : World} {base : Nat} {ok : Nat → Prop} {x : S52} {cs : List Value} (h : k52.M w base ok x cs) : cs = [.int .i64 x.f0, .int .i64 x.f1, .int .i64 x.f2] := by
  obtain ⟨_, _, rfl, rfl, ⟨_, _, rfl, rfl, rfl⟩⟩ := h
  exact rfl
theorem k52_mk (w : World) (x : S52)  : k52.K w x [.int .i64 x.f0, .int .i64 x.f1, .int .i64 x.f2] := ⟨[.int .i64 x.f0], [.int .i64 x.f1, .int .i64 x.f2], rfl, rfl, ⟨[.int .i64 x.f1], [.int .i64 x.f2], rfl, rfl, rfl⟩⟩
theorem k52_mkM (w : World) (base : Nat) (ok : Nat → Prop) (x : S52)  : k52.M w base ok x [.int .i64 x.f0, .int .i64 x.f1, .int .i64 x.f2] := ⟨[.int .i64 x.f0], [.int .i64 x.f1, .int .i64 x.f2], rfl, rfl, ⟨[.int .i64 x.f1], [.int .i64 x.f2], rfl, rfl, rfl⟩⟩
def rd_T52 (xs : List S52) (i : Int) : S52 := xs.getD i.toNat z52
theorem at_T52 {w : World} {A : Option Addr} {n : Nat} {xs : List S52} (h : Kd.C k52 w A n xs) (i : Int) (h0 : 0 ≤ i) (h1 : i < n) : ∃ ad , A = some ad ∧ w.cell? (ad.add (i.toNat * 3)) = some (.int .i64 (rd_T52 xs i).f0) ∧ w.cell? ⟨(ad.add (i.toNat * 3)).block, (ad.add (i.toNat * 3)).off + 1, none⟩ = some (.int .i64 (rd_T52 xs i).f1) ∧ w.cell? ⟨(ad.add (i.toNat * 3)).block, (ad.add (i.toNat * 3)).off + 2, none⟩ = some (.int .i64 (rd_T52 xs i).f2) := by
  obtain ⟨ad, c, e, _, hK, hc0⟩ := Kd.C_get h z52 i h0 h1
  have hc : ∀ j u, c[j]? = some u → w.cell? (ad.add (i.toNat * 3 + j)) = some u := hc0
  obtain rfl := k52_open hK
  exact ⟨ad, e, hc 0 _ rfl, by rw [← add_field _ _ 1 (by omega)]; exact hc 1 _ rfl, by rw [← add_field _ _ 2 (by omega)]; exact hc 2 _ rfl⟩

/-! #### struct type 25 -/
structure S25 where
  f0 : Int
  f1 : Int
def z25 : S25 := ⟨(0 : Int), (0 : Int)⟩
def k25 : Kd S25 := Kd.iso (Kd.pair (Kd.int .i64) (Kd.int .i64)) (fun x : S25 => (x.f0, x.f1))
theorem k25_open {w : World} {x : S25} {cs : List Value} (h : k25.K w x cs) : cs = [.int .i64 x.f0, .int .i64 x.f1] := by
  obtain ⟨_, _, rfl, rfl, rfl⟩ := h
  exact rfl
theorem k25_openM {w : World} {base : Nat} {ok : Nat → Prop} {x : S25} {cs : List Value} (h : k25.M w base ok x cs) : cs = [.int .i64 x.f0, .int .i64 x.f1] := by
  obtain ⟨_, _, rfl, rfl, rfl⟩ := h
  exact rfl
theorem k25_mk (w : World) (x : S25)  : k25.K w x [.int .i64 x.f0, .int .i64 x.f1] := ⟨[.int .i64 x.f0], [.int .i64 x.f1], rfl, rfl, rfl⟩
theorem k25_mkM (w : World) (base : Nat) (ok : Nat → Prop) (x : S25)  : k25.M w base ok x [.int .i64 x.f0, .int .i64 x.f1] := ⟨[.int .i64 x.f0], [.int .i64 x.f1], rfl, rfl, rfl⟩
def rd_T25 (xs : List S25) (i : Int) : S25 := xs.getD i.toNat z25
theorem at_T25 {w : World} {A : Option Addr} {n : Nat} {xs : List S25} (h : Kd.C k25 w A n xs) (i : Int) (h0 : 0 ≤ i) (h1 : i < n) : ∃ ad , A = some ad ∧ w.cell? (ad.add (i.toNat * 2)) = some (.int .i64 (rd_T25 xs i).f0) ∧ w.cell? ⟨(ad.add (i.toNat * 2)).block, (ad.add (i.toNat * 2)).off + 1, none⟩ = some (.int .i64 (rd_T25 xs i).f1) := by
  obtain ⟨ad, c, e, _, hK, hc0⟩ := Kd.C_get h z25 i h0 h1
  have hc : ∀ j u, c[j]? = some u → w.cell? (ad.add (i.toNat * 2 + j)) = some u := hc0
  obtain rfl := k25_open hK
  exact ⟨ad, e, hc 0 _ rfl, by rw [← add_field _ _ 1 (by omega)]; exact hc 1 _ rfl⟩

end Go.Proofs.Yteckbgpkoanhfaa.Pr
end

section
-- Printed by a program of the session's over the kit's print.
namespace Go.Proofs.Yteckbgpkoanhfaa.Pr
open Go.RowKit Go.Proofs.YteckbgpkoanhfaaW.PrintWords Go.Proofs.YteckbgpkoanhfaaW.PrintLast Go.Proofs.YteckbgpkoanhfaaW.PrintMore
attribute [local go_sem] max2_int min2_int max_two min_two max_three min_three max_four min_four   -- for this text's walks alone
set_option linter.unusedVariables false
set_option linter.unusedSimpArgs false

/-! ### hornbeamref12_May: function 44 -/
def hornbeamref12_May.j0 : Nat → Int → Int → Bool → Option (Bool)
  | 0, _, _, _ => none
  | k + 1, x0, x2, x12 => if x12 = true then (some false) else (if x0 = 0 then (if x2 ≥ 2 then (some (decide (x2 ≤ 256))) else (some false)) else (if x0 = 1 then (some (x2 == 0)) else (some false)))
def hornbeamref12_May.f (k : Nat) (a0 : Int) (a1 : Int) (a2 : Int) : Option (Bool) := if a1 < 1 then (hornbeamref12_May.j0 k a0 a2 true) else (hornbeamref12_May.j0 k a0 a2 (decide (a1 > 257)))
theorem hornbeamref12_May.mono_l : ∀ k, (∀ y0 y1 y2, LeO (hornbeamref12_May.j0 k y0 y1 y2) (hornbeamref12_May.j0 (k + 1) y0 y1 y2))
  | 0 => fun _ _ _ r h => by simp [hornbeamref12_May.j0] at h
  | k + 1 => by
    have ih0 := hornbeamref12_May.mono_l k
    · intro y0 y1 y2
      unfold hornbeamref12_May.j0
      repeat' first
      | (with_reducible exact ih0 _ _ _)
      | (with_reducible exact LeO.refl _)
      | (with_reducible exact LeO.none _)
      | (with_reducible refine LeO.ite ?_ ?_)
      | (with_reducible refine LeO.bind ?_ (fun _ => ?_))
      | exact ih0 _ _ _
      | exact LeO.none _
      | refine LeO.ite ?_ ?_
      | refine LeO.bind ?_ (fun _ => ?_)
theorem hornbeamref12_May.mono : ∀ a0 a1 a2 k, LeO (hornbeamref12_May.f k a0 a1 a2) (hornbeamref12_May.f (k + 1) a0 a1 a2) := by
  intro a0 a1 a2 k
  have ih0 := hornbeamref12_May.mono_l k
  unfold hornbeamref12_May.f
  repeat' first
      | (with_reducible exact ih0 _ _ _)
      | (with_reducible exact LeO.refl _)
      | (with_reducible exact LeO.none _)
      | (with_reducible refine LeO.ite ?_ ?_)
      | (with_reducible refine LeO.bind ?_ (fun _ => ?_))
      | exact ih0 _ _ _
      | exact LeO.none _
      | refine LeO.ite ?_ ?_
      | refine LeO.bind ?_ (fun _ => ?_)
set_option maxHeartbeats 8000000 in
set_option maxRecDepth 100000 in
theorem hornbeamref12_May.calls (k : Nat) (a0 : Int) (a1 : Int) (a2 : Int) (r : Bool) (w : World) (h : hornbeamref12_May.f k a0 a1 a2 = some r) :
    Calls Try.prog 44 #[.int .i64 a0, .int .i64 a1, .int .i64 a2] w fun e w' => e = .returned (.bool r) ∧ Drawn0 w w' := by
  have H : (if a1 < 1 then (hornbeamref12_May.j0 k a0 a2 true) else (hornbeamref12_May.j0 k a0 a2 (decide (a1 > 257)))) = some r := h
  clear h
  have HC4 := Aside0.mk H
  clear H
  go_enter Try.func44, Try.ntmps44
  go_upto_region 1 with (fail)
  go_cut [12] (fun v12 wc => ∃ (kq : Nat) (x12_3 : Bool), v12 = .bool x12_3 ∧ Aside0 (hornbeamref12_May.j0 kq a0 a2 x12_3 = some r) ∧ Aside0 (kq ≤ k) ∧ Drawn0 w wc)
  case first =>
    have H := HC4.out
    clear HC4
    by_cases c5 : a1 < 1
    · rw [if_pos c5] at H
      have c5b0 : decide (a1 < 1) = true := decide_eq_true c5
      clear c5
      (first | rw [c5b0] | (simp only [i64_w, i32_w]; rw [c5b0]) | skip)
      have H' := Aside0.mk H
      clear H
      go_wp2
      go_meet
      case rel => exact ⟨_, (true), (by first | rfl | (simp; done) | (simp [*]; done)), H', ⟨by first | omega | exact Nat.le_refl _⟩, by repeat (first | exact Drawn0.refl _ | apply Drawn0.step)⟩
    · rw [if_neg c5] at H
      have c5b0 : decide (a1 < 1) = false := decide_eq_false c5
      clear c5
      (first | rw [c5b0] | (simp only [i64_w, i32_w]; rw [c5b0]) | skip)
      have H' := Aside0.mk H
      clear H
      go_wp2
      go_meet
      case rel => exact ⟨_, (decide (a1 > 257)), (by first | rfl | (simp; done) | (simp [*]; done)), H', ⟨by first | omega | exact Nat.le_refl _⟩, by repeat (first | exact Drawn0.refl _ | apply Drawn0.step)⟩
  case rest =>
    clear HC4
    try clear p2
    try clear c4
    try clear c5
    try clear c5b0
    obtain ⟨kq, x12_3, rfl, HA, HJ3, ⟨mc3, rfl⟩⟩ := hcut
    cases kq with
    | zero => exact absurd HA.out (by simp [hornbeamref12_May.j0])
    | succ kj3 =>
      have H := HA.out
      clear HA
      simp only [hornbeamref12_May.j0] at H
      by_cases c6 : x12_3 = true
      · subst c6
        have H1 : (some false) = some r := by rw [if_pos rfl] at H; exact H
        clear H
        have H := H1
        clear H1
        obtain rfl := Option.some.inj H
        go_wp2
        go_ret
        exact ⟨by first | rfl | (simp; done) | (simp [*]; done), by repeat (first | exact Drawn0.refl _ | apply Drawn0.step)⟩
      · replace c6 := Bool.eq_false_iff.mpr c6
        subst c6
        have H1 : (if a0 = 0 then (if a2 ≥ 2 then (some (decide (a2 ≤ 256))) else (some false)) else (if a0 = 1 then (some (a2 == 0)) else (some false))) = some r := by rw [if_neg (show ¬ (false = true) by decide)] at H; exact H
        clear H
        have H := H1
        clear H1
        by_cases c7 : a0 = 0
        · rw [if_pos c7] at H
          have c7b0 : (a0 == 0) = true := beq_iff_eq.mpr c7
          have c7b1 : (a0 != 0) = false := bne_eq_false_iff_eq.mpr c7
          clear c7
          by_cases c8 : a2 ≥ 2
          · rw [if_pos c8] at H
            have c8b0 : decide (2 ≤ a2) = true := decide_eq_true c8
            clear c8
            obtain rfl := Option.some.inj H
            go_wp2
            go_ret
            exact ⟨by first | rfl | (simp; done) | (simp [*]; done), by repeat (first | exact Drawn0.refl _ | apply Drawn0.step)⟩
          · rw [if_neg c8] at H
            have c8b0 : decide (2 ≤ a2) = false := decide_eq_false c8
            clear c8
            obtain rfl := Option.some.inj H
            go_wp2
            go_ret
            exact ⟨by first | rfl | (simp; done) | (simp [*]; done), by repeat (first | exact Drawn0.refl _ | apply Drawn0.step)⟩
        · rw [if_neg c7] at H
          have c7b0 : (a0 == 0) = false := beq_eq_false_iff_ne.mpr c7
          have c7b1 : (a0 != 0) = true := bne_iff_ne.mpr c7
          by_cases c9 : a0 = 1
          · rw [if_pos c9] at H
            have c9b0 : (a0 == 1) = true := beq_iff_eq.mpr c9
            have c9b1 : (a0 != 1) = false := bne_eq_false_iff_eq.mpr c9
            clear c9
            obtain rfl := Option.some.inj H
            go_wp2
            go_ret
            exact ⟨by first | rfl | (simp; done) | (simp [*]; done), by repeat (first | exact Drawn0.refl _ | apply Drawn0.step)⟩
          · rw [if_neg c9] at H
            have c9b0 : (a0 == 1) = false := beq_eq_false_iff_ne.mpr c9
            have c9b1 : (a0 != 1) = true := bne_iff_ne.mpr c9
            obtain rfl := Option.some.inj H
            go_wp2
            go_ret
            exact ⟨by first | rfl | (simp; done) | (simp [*]; done), by repeat (first | exact Drawn0.refl _ | apply Drawn0.step)⟩

end Go.Proofs.Yteckbgpkoanhfaa.Pr
end

section
-- Printed by a program of the session's over the kit's print.
namespace Go.Proofs.Yteckbgpkoanhfaa.Pr
open Go.RowKit Go.Proofs.YteckbgpkoanhfaaW.PrintWords Go.Proofs.YteckbgpkoanhfaaW.PrintLast Go.Proofs.YteckbgpkoanhfaaW.PrintMore
attribute [local go_sem] max2_int min2_int max_two min_two max_three min_three max_four min_four   -- for this text's walks alone
set_option linter.unusedVariables false
set_option linter.unusedSimpArgs false

/-! ### hornbeamref12_New: function 18 -/
mutual
def hornbeamref12_New.l0 : Nat → Int → Int → Int → Int → Int → Int → Int → List Int → List (S52) → Option (Int × Int × Int × List Int × (List (S52)) × Int)
  | 0, _, _, _, _, _, _, _, _, _ => none
  | k + 1, x0, x1, x2, x9, x184000, x184001, x184002, x184003, x184004 => if x9 < x1 then (hornbeamref12_New.l1 k x0 x1 x2 x9 0 x184000 x184001 x184002 x184003 x184004) else (some (x184000, x184001, x184002, x184003, x184004, 0))
def hornbeamref12_New.l1 : Nat → Int → Int → Int → Int → Int → Int → Int → Int → List Int → List (S52) → Option (Int × Int × Int × List Int × (List (S52)) × Int)
  | 0, _, _, _, _, _, _, _, _, _, _ => none
  | k + 1, x0, x1, x2, x9, x10, x184000, x184001, x184002, x184003, x184004 => if x10 < x2 then (if x184003.length < 17592186044416 then (hornbeamref12_New.l1 k x0 x1 x2 x9 (wrap64 (x10 + 1)) x184000 x184001 x184002 (x184003 ++ [0]) x184004) else (none)) else (if x0 = 1 then (if x184004.length < 5864062014805 then (hornbeamref12_New.l0 k x0 x1 x2 (wrap64 (x9 + 1)) x184000 x184001 x184002 x184003 (x184004 ++ [(⟨0, 0, 0⟩ : S52)])) else (none)) else (hornbeamref12_New.l0 k x0 x1 x2 (wrap64 (x9 + 1)) x184000 x184001 x184002 x184003 x184004))
end
def hornbeamref12_New.f (k : Nat) (a0 : Int) (a1 : Int) (a2 : Int) : Option (Int × Int × Int × List Int × (List (S52)) × Int) := (hornbeamref12_May.f k a0 a1 a2).bind fun t182 => (if t182 = true then (hornbeamref12_New.l0 k a0 a1 a2 0 a0 a1 a2 ([] : List Int) ([] : List (S52))) else (some (0, 0, 0, ([] : List Int), ([] : List (S52)), 1)))
theorem hornbeamref12_New.mono_l : ∀ k, (∀ y0 y1 y2 y3 y4 y5 y6 y7 y8, LeO (hornbeamref12_New.l0 k y0 y1 y2 y3 y4 y5 y6 y7 y8) (hornbeamref12_New.l0 (k + 1) y0 y1 y2 y3 y4 y5 y6 y7 y8)) ∧ (∀ y0 y1 y2 y3 y4 y5 y6 y7 y8 y9, LeO (hornbeamref12_New.l1 k y0 y1 y2 y3 y4 y5 y6 y7 y8 y9) (hornbeamref12_New.l1 (k + 1) y0 y1 y2 y3 y4 y5 y6 y7 y8 y9))
  | 0 => ⟨fun _ _ _ _ _ _ _ _ _ r h => by simp [hornbeamref12_New.l0] at h, fun _ _ _ _ _ _ _ _ _ _ r h => by simp [hornbeamref12_New.l1] at h⟩
  | k + 1 => by
    obtain ⟨ih0, ih1⟩ := hornbeamref12_New.mono_l k
    refine ⟨?_, ?_⟩
    · intro y0 y1 y2 y3 y4 y5 y6 y7 y8
      unfold hornbeamref12_New.l0
      repeat' first
      | (with_reducible exact ih0 _ _ _ _ _ _ _ _ _)
      | (with_reducible exact ih1 _ _ _ _ _ _ _ _ _ _)
      | (with_reducible exact hornbeamref12_May.mono _ _ _ _)
      | (with_reducible exact LeO.refl _)
      | (with_reducible exact LeO.none _)
      | (with_reducible refine LeO.ite ?_ ?_)
      | (with_reducible refine LeO.bind ?_ (fun _ => ?_))
      | exact ih0 _ _ _ _ _ _ _ _ _
      | exact ih1 _ _ _ _ _ _ _ _ _ _
      | exact hornbeamref12_May.mono _ _ _ _
      | exact LeO.none _
      | refine LeO.ite ?_ ?_
      | refine LeO.bind ?_ (fun _ => ?_)
    · intro y0 y1 y2 y3 y4 y5 y6 y7 y8 y9
      unfold hornbeamref12_New.l1
      repeat' first
      | (with_reducible exact ih0 _ _ _ _ _ _ _ _ _)
      | (with_reducible exact ih1 _ _ _ _ _ _ _ _ _ _)
      | (with_reducible exact hornbeamref12_May.mono _ _ _ _)
      | (with_reducible exact LeO.refl _)
      | (with_reducible exact LeO.none _)
      | (with_reducible refine LeO.ite ?_ ?_)
      | (with_reducible refine LeO.bind ?_ (fun _ => ?_))
      | exact ih0 _ _ _ _ _ _ _ _ _
      | exact ih1 _ _ _ _ _ _ _ _ _ _
      | exact hornbeamref12_May.mono _ _ _ _
      | exact LeO.none _
      | refine LeO.ite ?_ ?_
      | refine LeO.bind ?_ (fun _ => ?_)
theorem hornbeamref12_New.mono : ∀ a0 a1 a2 k, LeO (hornbeamref12_New.f k a0 a1 a2) (hornbeamref12_New.f (k + 1) a0 a1 a2) := by
  intro a0 a1 a2 k
  obtain ⟨ih0, ih1⟩ := hornbeamref12_New.mono_l k
  unfold hornbeamref12_New.f
  repeat' first
      | (with_reducible exact ih0 _ _ _ _ _ _ _ _ _)
      | (with_reducible exact ih1 _ _ _ _ _ _ _ _ _ _)
      | (with_reducible exact hornbeamref12_May.mono _ _ _ _)
      | (with_reducible exact LeO.refl _)
      | (with_reducible exact LeO.none _)
      | (with_reducible refine LeO.ite ?_ ?_)
      | (with_reducible refine LeO.bind ?_ (fun _ => ?_))
      | exact ih0 _ _ _ _ _ _ _ _ _
      | exact ih1 _ _ _ _ _ _ _ _ _ _
      | exact hornbeamref12_May.mono _ _ _ _
      | exact LeO.none _
      | refine LeO.ite ?_ ?_
      | refine LeO.bind ?_ (fun _ => ?_)
set_option maxHeartbeats 8000000 in
set_option maxRecDepth 100000 in
theorem hornbeamref12_New.calls (k : Nat) (a0 : Int) (a1 : Int) (a2 : Int) (r1 : Int) (r2 : Int) (r3 : Int) (r4 : List Int) (r5 : List (S52)) (r6 : Int) (w : World) (h : hornbeamref12_New.f k a0 a1 a2 = some (r1, r2, r3, r4, r5, r6)) :
    Calls Try.prog 18 #[.int .i64 a0, .int .i64 a1, .int .i64 a2] w fun e w' => ∃ v3_ v4_ : Value, e = .returned (.tuple #[.agg #[.int .i64 r1, .int .i64 r2, .int .i64 r3, v3_, v4_], .int .i64 r6]) ∧ Kd.R (Kd.int .i64) 2 w' w.heap.size (fun _ => True) v3_ r4 ∧ Kd.R k52 52 w' w.heap.size (fun _ => True) v4_ r5 ∧ Below w.heap.size w w' := by
  have hu36 := Try.underlying36
  have hu52 := Try.underlying52
  have HB := Aside0.mk (Below.refl w.heap.size w)
  have H : ((hornbeamref12_May.f k a0 a1 a2).bind fun t182 => (if t182 = true then (hornbeamref12_New.l0 k a0 a1 a2 0 a0 a1 a2 ([] : List Int) ([] : List (S52))) else (some (0, 0, 0, ([] : List Int), ([] : List (S52)), 1)))) = some (r1, r2, r3, r4, r5, r6) := h
  clear h
  replace H := Option.bind_eq_some_iff.mp H
  obtain ⟨t182, A40, H⟩ := H
  replace H : (if t182 = true then (hornbeamref12_New.l0 k a0 a1 a2 0 a0 a1 a2 ([] : List Int) ([] : List (S52))) else (some (0, 0, 0, ([] : List Int), ([] : List (S52)), 1))) = some (r1, r2, r3, r4, r5, r6) := H
  have A4 := Aside0.mk A40
  clear A40
  by_cases c5 : t182 = true
  · subst c5
    have H1 : (hornbeamref12_New.l0 k a0 a1 a2 0 a0 a1 a2 ([] : List Int) ([] : List (S52))) = some (r1, r2, r3, r4, r5, r6) := by rw [if_pos rfl] at H; exact H
    clear H
    have H := H1
    clear H1
    have H' := Aside0.mk H
    clear H
    go_enter Try.func18, Try.ntmps18
    go_wp2_with (first | ((with_reducible refine gate_dst (N := 6) rfl ?_); refine box_event ?hg (N := 6) ?hd (cs := #[.int .i64 0, .int .i64 0, .int .i64 0, .slice none 0 0, .slice none 0 0]) (t := 36) ?hr ?_; (case hd => rfl); (case hg => rfl); (case hr => first | (go_simp; done) | (go_simp; rfl)); intro gb181 hg w6 hbox hb; have n0_ := Aside0.mk (below_step (by repeat (first | (with_reducible first | exact HB.out | apply below_alloc | apply pw_below_drewN | apply below_drew1) | exact HB.out)) hb); have n1_ := Aside0.mk (hbox); have n2_ := Aside0.mk ((by rw [hg]; exact (below_size (by repeat (first | (with_reducible first | exact HB.out | apply below_alloc | apply pw_below_drewN | apply below_drew1) | exact HB.out))) : w.heap.size ≤ gb181)); have n3_ := Aside0.mk ((by rw [hg]; exact (below_size (by repeat (first | (with_reducible first | exact HB.out | apply below_alloc | apply pw_below_drewN | apply below_drew1) | exact HB.out))) : w.heap.size ≤ gb181)); clear HB; have HB := n0_; have BK181 := n1_; have GW181 := n2_; have GE181 := n3_; clear n0_ n1_ n2_ n3_; clear hb hbox hg) | ((with_reducible refine gate_callee (f := 44) rfl ?_); refine goesL_ (some 14) rfl rfl Try.func44 (by kernel_rfl) rfl #[.int .i64 a0, .int .i64 a1, .int .i64 a2] rfl (by (try simp only [List.map_toArray, List.map_cons, List.map_nil]); first | done | rfl | (simp only [List.length_drop, List.length_take]; rfl)) ?_; (with_reducible refine (hornbeamref12_May.calls k a0 a1 a2 true _ A4.out).mono ?_); rintro e w' ⟨rfl, ⟨nd, rfl⟩⟩; refine ⟨_, rfl, ?_⟩; (try (rw [drewN_self w6]; generalize hq_ : World.drewN w6 _ = w6; have n0_ : Aside0 (w6.heap[gb181]? = some (.cells #[.int .i64 0, .int .i64 0, .int .i64 0, .slice none 0 0, .slice none 0 0] 36 (0, 0))) := ⟨by rw [← hq_]; exact (by (with_reducible repeat (first | refine blk_drewN ?_ _ | refine blk_drew ?_ | refine blk_alloc ?_ _)); exact BK181.out)⟩; have n1_ : Aside0 (Below w.heap.size w w6) := ⟨by rw [← hq_]; exact (by repeat (first | (with_reducible first | exact HB.out | apply below_alloc | apply pw_below_drewN | apply below_drew1 | refine below_set ?_ GE181.out) | exact HB.out))⟩; clear BK181 HB hq_; have BK181 := n0_; have HB := n1_; clear n0_ n1_))) | ((with_reducible refine gate_dst (N := 8) rfl ?_); refine box_event ?hg (N := 8) ?hd (cs := #[.int .i64 0, .int .i64 0, .int .i64 0, .slice none 0 0, .slice none 0 0]) (t := 36) ?hr ?_; (case hd => rfl); (case hg => rfl); (case hr => first | (go_simp; done) | (go_simp; rfl)); intro gb183 hg w7 hbox hb; have n0_ := Aside0.mk (blk_below (g := gb181) (o := .cells #[.int .i64 0, .int .i64 0, .int .i64 0, .slice none 0 0, .slice none 0 0] 36 (0, 0)) (by (with_reducible repeat (first | refine blk_drewN ?_ _ | refine blk_drew ?_ | refine blk_alloc ?_ _)); exact BK181.out) hb); have n1_ := Aside0.mk (below_step (by repeat (first | (with_reducible first | exact HB.out | apply below_alloc | apply pw_below_drewN | apply below_drew1 | refine below_set ?_ GE181.out) | exact HB.out)) hb); have n2_ := Aside0.mk (hbox); have n3_ := Aside0.mk ((by rw [hg]; exact (below_size (by repeat (first | (with_reducible first | exact HB.out | apply below_alloc | apply pw_below_drewN | apply below_drew1 | refine below_set ?_ GE181.out) | exact HB.out))) : w.heap.size ≤ gb183)); have n4_ := Aside0.mk ((by rw [hg]; exact (below_size (by repeat (first | (with_reducible first | exact HB.out | apply below_alloc | apply pw_below_drewN | apply below_drew1 | refine below_set ?_ GE181.out) | exact HB.out))) : w.heap.size ≤ gb183)); have n5_ := Aside0.mk ((by rw [hg]; exact Nat.ne_of_lt (blk_lt (g := gb181) (o := .cells #[.int .i64 0, .int .i64 0, .int .i64 0, .slice none 0 0, .slice none 0 0] 36 (0, 0)) (by (with_reducible repeat (first | refine blk_drewN ?_ _ | refine blk_drew ?_ | refine blk_alloc ?_ _)); exact BK181.out)) : gb181 ≠ gb183)); have n6_ := Aside0.mk ((by rw [hg]; exact Nat.ne_of_gt (blk_lt (g := gb181) (o := .cells #[.int .i64 0, .int .i64 0, .int .i64 0, .slice none 0 0, .slice none 0 0] 36 (0, 0)) (by (with_reducible repeat (first | refine blk_drewN ?_ _ | refine blk_drew ?_ | refine blk_alloc ?_ _)); exact BK181.out)) : gb183 ≠ gb181)); clear BK181; clear HB; have BK181 := n0_; have HB := n1_; have BK183 := n2_; have GW183 := n3_; have GE183 := n4_; have NB181_183 := n5_; have NB183_181 := n6_; clear n0_ n1_ n2_ n3_ n4_ n5_ n6_; clear hb hbox hg; have hnb8 := NB183_181.out; have hnc8 := NB181_183.out; have hcz9_0 : w7.cell? ⟨gb183, 0, none⟩ = some (.int .i64 0) := (blk_cell BK183.out 0).trans rfl; have hcz9_1 : w7.cell? ⟨gb183, 1, none⟩ = some (.int .i64 0) := (blk_cell BK183.out 1).trans rfl; have hcz9_2 : w7.cell? ⟨gb183, 2, none⟩ = some (.int .i64 0) := (blk_cell BK183.out 2).trans rfl; have hcz9_3 : w7.cell? ⟨gb183, 3, none⟩ = some (.slice none 0 0) := (blk_cell BK183.out 3).trans rfl; have hcz9_4 : w7.cell? ⟨gb183, 4, none⟩ = some (.slice none 0 0) := (blk_cell BK183.out 4).trans rfl; have hfz9_0 := blk_frozen BK183.out 0; have hfz9_1 := blk_frozen BK183.out 1; have hfz9_2 := blk_frozen BK183.out 2; have hfz9_3 := blk_frozen BK183.out 3; have hfz9_4 := blk_frozen BK183.out 4))
    go_loopg [9] k (fun kq v9 w' => ∃ (x9_1 : Int) (x184003_1 : List Int) (x184004_1 : List (S52)) (u184003 : Value) (u184004 : Value), v9 = .int .i64 x9_1 ∧ Aside0 (hornbeamref12_New.l0 kq a0 a1 a2 x9_1 a0 a1 a2 x184003_1 x184004_1 = some (r1, r2, r3, r4, r5, r6)) ∧ Aside0 (kq ≤ k) ∧ Aside0 (Kd.R (Kd.int .i64) 2 w' w.heap.size (fun _ => True) u184003 x184003_1) ∧ Aside0 (Kd.R k52 52 w' w.heap.size (fun _ => True) u184004 x184004_1) ∧ Aside0 (w'.heap[gb181]? = some (.cells #[.int .i64 0, .int .i64 0, .int .i64 0, (.slice none 0 0), (.slice none 0 0)] 36 (0, 0))) ∧ Aside0 (w'.heap[gb183]? = some (.cells #[.int .i64 a0, .int .i64 a1, .int .i64 a2, u184003, u184004] 36 (0, 0))) ∧ Aside0 (Below w.heap.size w w'))
    case atStart => exact ⟨(0), (([] : List Int)), (([] : List (S52))), (.slice none 0 0), (.slice none 0 0), (by first | rfl | (simp; done) | (simp [*]; done)), H', ⟨Nat.le_refl _⟩, ⟨by first | exact Kd.R_nil _ _ _ _ _ | exact Kd.N_nil _ _ _ _ _ | exact Kd.V_nil _ _ _ _ _ | exact Kd.Q_nil _ _ _ _ _ | exact Kd.S_nil _ _ _ _ _⟩, ⟨by first | exact Kd.R_nil _ _ _ _ _ | exact Kd.N_nil _ _ _ _ _ | exact Kd.V_nil _ _ _ _ _ | exact Kd.Q_nil _ _ _ _ _ | exact Kd.S_nil _ _ _ _ _⟩, ⟨by (with_reducible repeat (first | refine blk_drewN ?_ _ | refine blk_drew ?_ | refine blk_alloc ?_ _)); refine blk_far ?_ NB181_183.out _; (with_reducible repeat (first | refine blk_drewN ?_ _ | refine blk_drew ?_ | refine blk_alloc ?_ _)); refine blk_far ?_ NB181_183.out _; (with_reducible repeat (first | refine blk_drewN ?_ _ | refine blk_drew ?_ | refine blk_alloc ?_ _)); refine blk_far ?_ NB181_183.out _; (with_reducible repeat (first | refine blk_drewN ?_ _ | refine blk_drew ?_ | refine blk_alloc ?_ _)); refine blk_far ?_ NB181_183.out _; (with_reducible repeat (first | refine blk_drewN ?_ _ | refine blk_drew ?_ | refine blk_alloc ?_ _)); refine blk_far ?_ NB181_183.out _; (with_reducible repeat (first | refine blk_drewN ?_ _ | refine blk_drew ?_ | refine blk_alloc ?_ _)); exact BK181.out⟩, ⟨by (with_reducible repeat (first | refine blk_drewN ?_ _ | refine blk_drew ?_ | refine blk_alloc ?_ _)); refine blk_put (cs := #[.int .i64 a0, .int .i64 a1, .int .i64 a2, .slice none 0 0, .slice none 0 0]) ?_ 4 _ rfl; (with_reducible repeat (first | refine blk_drewN ?_ _ | refine blk_drew ?_ | refine blk_alloc ?_ _)); refine blk_put (cs := #[.int .i64 a0, .int .i64 a1, .int .i64 a2, .slice none 0 0, .slice none 0 0]) ?_ 3 _ rfl; (with_reducible repeat (first | refine blk_drewN ?_ _ | refine blk_drew ?_ | refine blk_alloc ?_ _)); refine blk_put (cs := #[.int .i64 a0, .int .i64 a1, .int .i64 0, .slice none 0 0, .slice none 0 0]) ?_ 2 _ rfl; (with_reducible repeat (first | refine blk_drewN ?_ _ | refine blk_drew ?_ | refine blk_alloc ?_ _)); refine blk_put (cs := #[.int .i64 a0, .int .i64 0, .int .i64 0, .slice none 0 0, .slice none 0 0]) ?_ 1 _ rfl; (with_reducible repeat (first | refine blk_drewN ?_ _ | refine blk_drew ?_ | refine blk_alloc ?_ _)); refine blk_put (cs := #[.int .i64 0, .int .i64 0, .int .i64 0, .slice none 0 0, .slice none 0 0]) ?_ 0 _ rfl; (with_reducible repeat (first | refine blk_drewN ?_ _ | refine blk_drew ?_ | refine blk_alloc ?_ _)); exact BK183.out⟩, ⟨by repeat (first | (with_reducible first | exact HB.out | apply below_alloc | apply pw_below_drewN | apply below_drew1 | refine below_set ?_ GE181.out | refine below_set ?_ GE183.out) | exact HB.out)⟩⟩
    case round =>
      clear H'
      try clear c1
      try clear p2
      try clear c4
      try clear c5
      try clear c8
      try clear hcz9_0
      try clear hcz9_1
      try clear hcz9_2
      try clear hcz9_3
      try clear hcz9_4
      try clear hfz9_0
      try clear hfz9_1
      try clear hfz9_2
      try clear hfz9_3
      try clear hfz9_4
      obtain ⟨x9_1, x184003_1, x184004_1, u184003, u184004, rfl, HA, HK1, HO_184003, HO_184004, BK181, BK183, HB⟩ := hrel
      cases gk with
      | zero => exact absurd HA.out (by simp [hornbeamref12_New.l0])
      | succ k1 =>
        have H := HA.out
        clear HA
        simp only [hornbeamref12_New.l0] at H
        by_cases c10 : x9_1 < a1
        · rw [if_pos c10] at H
          have c10b0 : decide (x9_1 < a1) = true := decide_eq_true c10
          clear c10
          have H' := Aside0.mk H
          clear H
          go_wp2
          go_loopg [10] k1 (fun kq v10 w' => ∃ (x10_2 : Int) (x184003_2 : List Int) (u184003 : Value), v10 = .int .i64 x10_2 ∧ Aside0 (hornbeamref12_New.l1 kq a0 a1 a2 x9_1 x10_2 a0 a1 a2 x184003_2 x184004_1 = some (r1, r2, r3, r4, r5, r6)) ∧ Aside0 (kq ≤ k1) ∧ Aside0 (Kd.R (Kd.int .i64) 2 w' w.heap.size (fun _ => True) u184003 x184003_2) ∧ Aside0 (Kd.R k52 52 w' w.heap.size (fun _ => True) u184004 x184004_1) ∧ Aside0 (w'.heap[gb181]? = some (.cells #[.int .i64 0, .int .i64 0, .int .i64 0, (.slice none 0 0), (.slice none 0 0)] 36 (0, 0))) ∧ Aside0 (w'.heap[gb183]? = some (.cells #[.int .i64 a0, .int .i64 a1, .int .i64 a2, u184003, u184004] 36 (0, 0))) ∧ Aside0 (Below w.heap.size w w'))
          case atStart => exact ⟨(0), (x184003_1), (u184003), (by first | rfl | (simp; done) | (simp [*]; done)), H', ⟨Nat.le_refl _⟩, ⟨by (with_reducible repeat (first | apply Kd.R_alloc | apply Kd.R_drewN | apply Kd.R_drew)); exact HO_184003.out⟩, ⟨by (with_reducible repeat (first | apply Kd.R_alloc | apply Kd.R_drewN | apply Kd.R_drew)); exact HO_184004.out⟩, ⟨by (with_reducible repeat (first | refine blk_drewN ?_ _ | refine blk_drew ?_ | refine blk_alloc ?_ _)); exact BK181.out⟩, ⟨by (with_reducible repeat (first | refine blk_drewN ?_ _ | refine blk_drew ?_ | refine blk_alloc ?_ _)); exact BK183.out⟩, ⟨by repeat (first | (with_reducible first | exact HB.out | apply below_alloc | apply pw_below_drewN | apply below_drew1 | refine below_set ?_ GE181.out | refine below_set ?_ GE183.out) | exact HB.out)⟩⟩
          case round =>
            clear H'
            try clear c1
            try clear p2
            try clear c4
            try clear c5
            try clear c8
            try clear c10
            try clear c10b0
            try clear hcz9_0
            try clear hcz9_1
            try clear hcz9_2
            try clear hcz9_3
            try clear hcz9_4
            try clear hfz9_0
            try clear hfz9_1
            try clear hfz9_2
            try clear hfz9_3
            try clear hfz9_4
            try clear p2
            obtain ⟨x10_2, x184003_2, u184003, rfl, HA, HK2, HO_184003, HO_184004, BK181, BK183, HB⟩ := hrel
            cases gk with
            | zero => exact absurd HA.out (by simp [hornbeamref12_New.l1])
            | succ k2 =>
              have H := HA.out
              clear HA
              simp only [hornbeamref12_New.l1] at H
              by_cases c11 : x10_2 < a2
              · rw [if_pos c11] at H
                have c11b0 : decide (x10_2 < a2) = true := decide_eq_true c11
                clear c11
                by_cases c12 : x184003_2.length < 17592186044416
                · rw [if_pos c12] at H
                  have LMc12 := Aside0.mk c12
                  clear c12
                  obtain ⟨y184, hy184⟩ : ∃ y_ : List Int, y_ = (x184003_2 ++ [0]) := ⟨_, rfl⟩
                  replace H : (hornbeamref12_New.l1 k2 a0 a1 a2 x9_1 (wrap64 (x10_2 + 1)) a0 a1 a2 y184 x184004_1) = some (r1, r2, r3, r4, r5, r6) := by first | (rw [hy184]; with_reducible exact H) | (have H2_ := (Option.bind_some _ _).symm.trans H; rw [hy184]; with_reducible exact H2_) | (have H2_ := (Option.bind_some _ _).symm.trans H; with_reducible exact H2_) | with_reducible exact H | (rw [hy184]; exact H) | exact H
                  have Ny184 := Aside0.mk hy184
                  clear hy184
                  have H' := Aside0.mk H
                  clear H
                  have hnb13 := NB183_181.out
                  have hnc13 := NB181_183.out
                  have hcz14_0 : wr.cell? ⟨gb183, 0, none⟩ = some (.int .i64 a0) := (blk_cell BK183.out 0).trans rfl
                  have hcz14_1 : wr.cell? ⟨gb183, 1, none⟩ = some (.int .i64 a1) := (blk_cell BK183.out 1).trans rfl
                  have hcz14_2 : wr.cell? ⟨gb183, 2, none⟩ = some (.int .i64 a2) := (blk_cell BK183.out 2).trans rfl
                  have hcz14_3 : wr.cell? ⟨gb183, 3, none⟩ = some (u184003) := (blk_cell BK183.out 3).trans rfl
                  have hcz14_4 : wr.cell? ⟨gb183, 4, none⟩ = some (u184004) := (blk_cell BK183.out 4).trans rfl
                  have hfz14_0 := blk_frozen BK183.out 0
                  have hfz14_1 := blk_frozen BK183.out 1
                  have hfz14_2 := blk_frozen BK183.out 2
                  have hfz14_3 := blk_frozen BK183.out 3
                  have hfz14_4 := blk_frozen BK183.out 4
                  go_wp2_with (first | ((with_reducible refine gate_builtin (b := .append) (xs := #[.tmp 32, .tmp 33]) rfl ?_); at_builtin; refine Kd.R_append (Kd.int .i64) (w0 := w) w.heap.size rfl (.tmp 32) (.tmp 33) 33 2 (.int .i64 0) 8 rfl Try.underlying33 info2 rfl (by decide) (by omega) u184003 x184003_2 0 [.int .i64 0] (fun _ => True) (fun _ => False) rfl rfl ?aP (fun _ hk => hk.elim) ?aF ?aO ?aB ?aS ?aL ?_; (case aP => exact rfl); (case aB => exact (by repeat (first | (with_reducible first | exact HB.out | apply below_alloc | apply pw_below_drewN | apply below_drew1 | refine below_set ?_ GE181.out | refine below_set ?_ GE183.out) | exact HB.out))); (case aF => exact (fun _ _ => trivial)); (case aO => exact (by (with_reducible repeat (first | apply Kd.R_alloc | apply Kd.R_drewN | apply Kd.R_drew)); exact HO_184003.out)); (case aS => exact (below_size (by repeat (first | (with_reducible first | exact HB.out | apply below_alloc | apply pw_below_drewN | apply below_drew1 | refine below_set ?_ GE181.out | refine below_set ?_ GE183.out) | exact HB.out)))); (case aL => have := LMc12.out; omega); intro v185 w15 ho hb hg hat; rw [← Ny184.out] at ho; have n0_ := Aside0.mk (Kd.R_over' (by (with_reducible repeat (first | apply Kd.R_alloc | apply Kd.R_drewN | apply Kd.R_drew)); exact HO_184004.out) (Kd.R_typed (by (with_reducible repeat (first | apply Kd.R_alloc | apply Kd.R_drewN | apply Kd.R_drew)); exact HO_184003.out)) (by decide) hg); have n1_ := Aside0.mk (blk_grown (g := gb181) (o := .cells #[.int .i64 0, .int .i64 0, .int .i64 0, .slice none 0 0, .slice none 0 0] 36 (0, 0)) (by (with_reducible repeat (first | refine blk_drewN ?_ _ | refine blk_drew ?_ | refine blk_alloc ?_ _)); exact BK181.out) hg (Kd.R_ne HO_184003.out BK181.out (by decide))); have n2_ := Aside0.mk (blk_grown (g := gb183) (o := .cells #[.int .i64 a0, .int .i64 a1, .int .i64 a2, u184003, u184004] 36 (0, 0)) (by (with_reducible repeat (first | refine blk_drewN ?_ _ | refine blk_drew ?_ | refine blk_alloc ?_ _)); exact BK183.out) hg (Kd.R_ne HO_184003.out BK183.out (by decide))); have n3_ := Aside0.mk (hb); have n4_ := Aside0.mk (ho); clear HO_184004; clear BK181; clear BK183; clear HB; clear HO_184003; have HO_184004 := n0_; have BK181 := n1_; have BK183 := n2_; have HB := n3_; have HO186 := n4_; clear n0_ n1_ n2_ n3_ n4_; clear ho hb hg hat; obtain ⟨Ao16, co16, eo16⟩ := Kd.R_slice HO186.out; subst eo16; have hcz17_0 : w15.cell? ⟨gb183, 0, none⟩ = some (.int .i64 a0) := (blk_cell BK183.out 0).trans rfl; have hcz17_1 : w15.cell? ⟨gb183, 1, none⟩ = some (.int .i64 a1) := (blk_cell BK183.out 1).trans rfl; have hcz17_2 : w15.cell? ⟨gb183, 2, none⟩ = some (.int .i64 a2) := (blk_cell BK183.out 2).trans rfl; have hcz17_3 : w15.cell? ⟨gb183, 3, none⟩ = some (u184003) := (blk_cell BK183.out 3).trans rfl; have hcz17_4 : w15.cell? ⟨gb183, 4, none⟩ = some (u184004) := (blk_cell BK183.out 4).trans rfl; have hfz17_0 := blk_frozen BK183.out 0; have hfz17_1 := blk_frozen BK183.out 1; have hfz17_2 := blk_frozen BK183.out 2; have hfz17_3 := blk_frozen BK183.out 3; have hfz17_4 := blk_frozen BK183.out 4))
                  go_roundg k2
                  case measure => have := HK1.out; have := HK2.out; omega
                  case rel => exact ⟨(wrap64 (x10_2 + 1)), (y184), (.slice Ao16 y184.length co16), (by first | rfl | (simp; done) | (simp [*]; done)), H', ⟨by have := HK1.out; have := HK2.out; omega⟩, ⟨by (with_reducible repeat (first | apply Kd.R_alloc | apply Kd.R_drewN | apply Kd.R_drew)); exact Kd.R_mono (Kd.R_far (p := ⟨gb183, 3, none⟩) (Kd.R_types HO186.out BK183.out (by decide)) (fun _ hk => hk.2) (.slice Ao16 y184.length co16)) (fun _ hk => trivial)⟩, ⟨by (with_reducible repeat (first | apply Kd.R_alloc | apply Kd.R_drewN | apply Kd.R_drew)); exact Kd.R_mono (Kd.R_far (p := ⟨gb183, 3, none⟩) (Kd.R_types HO_184004.out BK183.out (by decide)) (fun _ hk => hk.2) (.slice Ao16 y184.length co16)) (fun _ hk => trivial)⟩, ⟨by (with_reducible repeat (first | refine blk_drewN ?_ _ | refine blk_drew ?_ | refine blk_alloc ?_ _)); refine blk_far ?_ NB181_183.out _; (with_reducible repeat (first | refine blk_drewN ?_ _ | refine blk_drew ?_ | refine blk_alloc ?_ _)); exact BK181.out⟩, ⟨by (with_reducible repeat (first | refine blk_drewN ?_ _ | refine blk_drew ?_ | refine blk_alloc ?_ _)); refine blk_put (cs := #[.int .i64 a0, .int .i64 a1, .int .i64 a2, u184003, u184004]) ?_ 3 _ rfl; (with_reducible repeat (first | refine blk_drewN ?_ _ | refine blk_drew ?_ | refine blk_alloc ?_ _)); exact BK183.out⟩, ⟨by repeat (first | (with_reducible first | exact HB.out | apply below_alloc | apply pw_below_drewN | apply below_drew1 | refine below_set ?_ GE181.out | refine below_set ?_ GE183.out) | exact HB.out)⟩⟩
                · rw [if_neg c12] at H
                  exact absurd H (by simp)
              · rw [if_neg c11] at H
                have c11b0 : decide (x10_2 < a2) = false := decide_eq_false c11
                clear c11
                by_cases c18 : a0 = 1
                · rw [if_pos c18] at H
                  have c18b0 : (a0 == 1) = true := beq_iff_eq.mpr c18
                  have c18b1 : (a0 != 1) = false := bne_eq_false_iff_eq.mpr c18
                  clear c18
                  by_cases c19 : x184004_1.length < 5864062014805
                  · rw [if_pos c19] at H
                    have LMc19 := Aside0.mk c19
                    clear c19
                    obtain ⟨y187, hy187⟩ : ∃ y_ : List (S52), y_ = (x184004_1 ++ [(⟨0, 0, 0⟩ : S52)]) := ⟨_, rfl⟩
                    replace H : (hornbeamref12_New.l0 k2 a0 a1 a2 (wrap64 (x9_1 + 1)) a0 a1 a2 x184003_2 y187) = some (r1, r2, r3, r4, r5, r6) := by first | (rw [hy187]; with_reducible exact H) | (have H2_ := (Option.bind_some _ _).symm.trans H; rw [hy187]; with_reducible exact H2_) | (have H2_ := (Option.bind_some _ _).symm.trans H; with_reducible exact H2_) | with_reducible exact H | (rw [hy187]; exact H) | exact H
                    have Ny187 := Aside0.mk hy187
                    clear hy187
                    have H' := Aside0.mk H
                    clear H
                    have hnb20 := NB183_181.out
                    have hnc20 := NB181_183.out
                    have hcz21_0 : wr.cell? ⟨gb183, 0, none⟩ = some (.int .i64 a0) := (blk_cell BK183.out 0).trans rfl
                    have hcz21_1 : wr.cell? ⟨gb183, 1, none⟩ = some (.int .i64 a1) := (blk_cell BK183.out 1).trans rfl
                    have hcz21_2 : wr.cell? ⟨gb183, 2, none⟩ = some (.int .i64 a2) := (blk_cell BK183.out 2).trans rfl
                    have hcz21_3 : wr.cell? ⟨gb183, 3, none⟩ = some (u184003) := (blk_cell BK183.out 3).trans rfl
                    have hcz21_4 : wr.cell? ⟨gb183, 4, none⟩ = some (u184004) := (blk_cell BK183.out 4).trans rfl
                    have hfz21_0 := blk_frozen BK183.out 0
                    have hfz21_1 := blk_frozen BK183.out 1
                    have hfz21_2 := blk_frozen BK183.out 2
                    have hfz21_3 := blk_frozen BK183.out 3
                    have hfz21_4 := blk_frozen BK183.out 4
                    go_wp2_with (first | ((with_reducible refine gate_builtin (b := .append) (xs := #[.tmp 39, .tmp 41]) rfl ?_); at_builtin; refine Kd.R_append k52 (w0 := w) w.heap.size rfl (.tmp 39) (.tmp 41) 34 52 (.agg #[(.int .i64 0), (.int .i64 0), (.int .i64 0)]) 24 rfl Try.underlying34 info52 rfl (by decide) (by omega) u184004 x184004_1 (⟨0, 0, 0⟩ : S52) [.int .i64 0, .int .i64 0, .int .i64 0] (fun _ => True) (fun _ => False) rfl rfl ?aP (fun _ hk => hk.elim) ?aF ?aO ?aB ?aS ?aL ?_; (case aP => exact k52_mkM _ _ _ (⟨0, 0, 0⟩ : S52)); (case aB => exact (by repeat (first | (with_reducible first | exact HB.out | apply below_alloc | apply pw_below_drewN | apply below_drew1 | refine below_set ?_ GE181.out | refine below_set ?_ GE183.out) | exact HB.out))); (case aF => exact (fun _ _ => trivial)); (case aO => exact (by (with_reducible repeat (first | apply Kd.R_alloc | apply Kd.R_drewN | apply Kd.R_drew)); exact HO_184004.out)); (case aS => exact (below_size (by repeat (first | (with_reducible first | exact HB.out | apply below_alloc | apply pw_below_drewN | apply below_drew1 | refine below_set ?_ GE181.out | refine below_set ?_ GE183.out) | exact HB.out)))); (case aL => have := LMc19.out; omega); intro v188 w22 ho hb hg hat; rw [← Ny187.out] at ho; have n0_ := Aside0.mk (Kd.R_over' (by (with_reducible repeat (first | apply Kd.R_alloc | apply Kd.R_drewN | apply Kd.R_drew)); exact HO_184003.out) (Kd.R_typed (by (with_reducible repeat (first | apply Kd.R_alloc | apply Kd.R_drewN | apply Kd.R_drew)); exact HO_184004.out)) (by decide) hg); have n1_ := Aside0.mk (blk_grown (g := gb181) (o := .cells #[.int .i64 0, .int .i64 0, .int .i64 0, .slice none 0 0, .slice none 0 0] 36 (0, 0)) (by (with_reducible repeat (first | refine blk_drewN ?_ _ | refine blk_drew ?_ | refine blk_alloc ?_ _)); exact BK181.out) hg (Kd.R_ne HO_184004.out BK181.out (by decide))); have n2_ := Aside0.mk (blk_grown (g := gb183) (o := .cells #[.int .i64 a0, .int .i64 a1, .int .i64 a2, u184003, u184004] 36 (0, 0)) (by (with_reducible repeat (first | refine blk_drewN ?_ _ | refine blk_drew ?_ | refine blk_alloc ?_ _)); exact BK183.out) hg (Kd.R_ne HO_184004.out BK183.out (by decide))); have n3_ := Aside0.mk (hb); have n4_ := Aside0.mk (ho); clear HO_184003; clear BK181; clear BK183; clear HB; clear HO_184004; have HO_184003 := n0_; have BK181 := n1_; have BK183 := n2_; have HB := n3_; have HO189 := n4_; clear n0_ n1_ n2_ n3_ n4_; clear ho hb hg hat; obtain ⟨Ao23, co23, eo23⟩ := Kd.R_slice HO189.out; subst eo23; have hcz24_0 : w22.cell? ⟨gb183, 0, none⟩ = some (.int .i64 a0) := (blk_cell BK183.out 0).trans rfl; have hcz24_1 : w22.cell? ⟨gb183, 1, none⟩ = some (.int .i64 a1) := (blk_cell BK183.out 1).trans rfl; have hcz24_2 : w22.cell? ⟨gb183, 2, none⟩ = some (.int .i64 a2) := (blk_cell BK183.out 2).trans rfl; have hcz24_3 : w22.cell? ⟨gb183, 3, none⟩ = some (u184003) := (blk_cell BK183.out 3).trans rfl; have hcz24_4 : w22.cell? ⟨gb183, 4, none⟩ = some (u184004) := (blk_cell BK183.out 4).trans rfl; have hfz24_0 := blk_frozen BK183.out 0; have hfz24_1 := blk_frozen BK183.out 1; have hfz24_2 := blk_frozen BK183.out 2; have hfz24_3 := blk_frozen BK183.out 3; have hfz24_4 := blk_frozen BK183.out 4))
                    go_roundg k2
                    case measure => have := HK1.out; have := HK2.out; omega
                    case rel => exact ⟨(wrap64 (x9_1 + 1)), (x184003_2), (y187), (u184003), (.slice Ao23 y187.length co23), (by first | rfl | (simp; done) | (simp [*]; done)), H', ⟨by have := HK1.out; have := HK2.out; omega⟩, ⟨by (with_reducible repeat (first | apply Kd.R_alloc | apply Kd.R_drewN | apply Kd.R_drew)); exact Kd.R_mono (Kd.R_far (p := ⟨gb183, 4, none⟩) (Kd.R_types HO_184003.out BK183.out (by decide)) (fun _ hk => hk.2) (.slice Ao23 y187.length co23)) (fun _ hk => trivial)⟩, ⟨by (with_reducible repeat (first | apply Kd.R_alloc | apply Kd.R_drewN | apply Kd.R_drew)); exact Kd.R_mono (Kd.R_far (p := ⟨gb183, 4, none⟩) (Kd.R_types HO189.out BK183.out (by decide)) (fun _ hk => hk.2) (.slice Ao23 y187.length co23)) (fun _ hk => trivial)⟩, ⟨by (with_reducible repeat (first | refine blk_drewN ?_ _ | refine blk_drew ?_ | refine blk_alloc ?_ _)); refine blk_far ?_ NB181_183.out _; (with_reducible repeat (first | refine blk_drewN ?_ _ | refine blk_drew ?_ | refine blk_alloc ?_ _)); exact BK181.out⟩, ⟨by (with_reducible repeat (first | refine blk_drewN ?_ _ | refine blk_drew ?_ | refine blk_alloc ?_ _)); refine blk_put (cs := #[.int .i64 a0, .int .i64 a1, .int .i64 a2, u184003, u184004]) ?_ 4 _ rfl; (with_reducible repeat (first | refine blk_drewN ?_ _ | refine blk_drew ?_ | refine blk_alloc ?_ _)); exact BK183.out⟩, ⟨by repeat (first | (with_reducible first | exact HB.out | apply below_alloc | apply pw_below_drewN | apply below_drew1 | refine below_set ?_ GE181.out | refine below_set ?_ GE183.out) | exact HB.out)⟩⟩
                  · rw [if_neg c19] at H
                    exact absurd H (by simp)
                · rw [if_neg c18] at H
                  have c18b0 : (a0 == 1) = false := beq_eq_false_iff_ne.mpr c18
                  have c18b1 : (a0 != 1) = true := bne_iff_ne.mpr c18
                  have H' := Aside0.mk H
                  clear H
                  go_wp2
                  go_roundg k2
                  case measure => have := HK1.out; have := HK2.out; omega
                  case rel => exact ⟨(wrap64 (x9_1 + 1)), (x184003_2), (x184004_1), (u184003), (u184004), (by first | rfl | (simp; done) | (simp [*]; done)), H', ⟨by have := HK1.out; have := HK2.out; omega⟩, ⟨by (with_reducible repeat (first | apply Kd.R_alloc | apply Kd.R_drewN | apply Kd.R_drew)); exact HO_184003.out⟩, ⟨by (with_reducible repeat (first | apply Kd.R_alloc | apply Kd.R_drewN | apply Kd.R_drew)); exact HO_184004.out⟩, ⟨by (with_reducible repeat (first | refine blk_drewN ?_ _ | refine blk_drew ?_ | refine blk_alloc ?_ _)); exact BK181.out⟩, ⟨by (with_reducible repeat (first | refine blk_drewN ?_ _ | refine blk_drew ?_ | refine blk_alloc ?_ _)); exact BK183.out⟩, ⟨by repeat (first | (with_reducible first | exact HB.out | apply below_alloc | apply pw_below_drewN | apply below_drew1 | refine below_set ?_ GE181.out | refine below_set ?_ GE183.out) | exact HB.out)⟩⟩
        · rw [if_neg c10] at H
          have c10b0 : decide (x9_1 < a1) = false := decide_eq_false c10
          clear c10
          simp only [Option.some.injEq, Prod.mk.injEq] at H
          obtain ⟨rfl, rfl, rfl, rfl, rfl, rfl⟩ := H
          have hnb25 := NB183_181.out
          have hnc25 := NB181_183.out
          have hcz26_0 : wr.cell? ⟨gb183, 0, none⟩ = some (.int .i64 a0) := (blk_cell BK183.out 0).trans rfl
          have hcz26_1 : wr.cell? ⟨gb183, 1, none⟩ = some (.int .i64 a1) := (blk_cell BK183.out 1).trans rfl
          have hcz26_2 : wr.cell? ⟨gb183, 2, none⟩ = some (.int .i64 a2) := (blk_cell BK183.out 2).trans rfl
          have hcz26_3 : wr.cell? ⟨gb183, 3, none⟩ = some (u184003) := (blk_cell BK183.out 3).trans rfl
          have hcz26_4 : wr.cell? ⟨gb183, 4, none⟩ = some (u184004) := (blk_cell BK183.out 4).trans rfl
          have hfz26_0 := blk_frozen BK183.out 0
          have hfz26_1 := blk_frozen BK183.out 1
          have hfz26_2 := blk_frozen BK183.out 2
          have hfz26_3 := blk_frozen BK183.out 3
          have hfz26_4 := blk_frozen BK183.out 4
          have hcz27_0 : wr.cell? ⟨gb181, 0, none⟩ = some (.int .i64 0) := (blk_cell BK181.out 0).trans rfl
          have hcz27_1 : wr.cell? ⟨gb181, 1, none⟩ = some (.int .i64 0) := (blk_cell BK181.out 1).trans rfl
          have hcz27_2 : wr.cell? ⟨gb181, 2, none⟩ = some (.int .i64 0) := (blk_cell BK181.out 2).trans rfl
          have hcz27_3 : wr.cell? ⟨gb181, 3, none⟩ = some (.slice none 0 0) := (blk_cell BK181.out 3).trans rfl
          have hcz27_4 : wr.cell? ⟨gb181, 4, none⟩ = some (.slice none 0 0) := (blk_cell BK181.out 4).trans rfl
          have hfz27_0 := blk_frozen BK181.out 0
          have hfz27_1 := blk_frozen BK181.out 1
          have hfz27_2 := blk_frozen BK181.out 2
          have hfz27_3 := blk_frozen BK181.out 3
          have hfz27_4 := blk_frozen BK181.out 4
          obtain ⟨Ao28, co28, eo28⟩ := Kd.R_slice HO_184003.out
          subst eo28
          obtain ⟨Ao29, co29, eo29⟩ := Kd.R_slice HO_184004.out
          subst eo29
          go_wp2
          refine bodyPost_ret (results_ct rfl _ _ gb181 36 #[.int .i64 a0, .int .i64 a1, .int .i64 a2, .slice Ao28 x184003_1.length co28, .slice Ao29 x184004_1.length co29] (0, 0) _ rfl (by (with_reducible repeat (first | refine blk_drewN ?_ _ | refine blk_drew ?_ | refine blk_alloc ?_ _)); refine blk_put (cs := #[.int .i64 a0, .int .i64 a1, .int .i64 a2, .slice Ao28 x184003_1.length co28, .slice none 0 0]) ?_ 4 _ rfl; (with_reducible repeat (first | refine blk_drewN ?_ _ | refine blk_drew ?_ | refine blk_alloc ?_ _)); refine blk_put (cs := #[.int .i64 a0, .int .i64 a1, .int .i64 a2, .slice none 0 0, .slice none 0 0]) ?_ 3 _ rfl; (with_reducible repeat (first | refine blk_drewN ?_ _ | refine blk_drew ?_ | refine blk_alloc ?_ _)); refine blk_put (cs := #[.int .i64 a0, .int .i64 a1, .int .i64 0, .slice none 0 0, .slice none 0 0]) ?_ 2 _ rfl; (with_reducible repeat (first | refine blk_drewN ?_ _ | refine blk_drew ?_ | refine blk_alloc ?_ _)); refine blk_put (cs := #[.int .i64 a0, .int .i64 0, .int .i64 0, .slice none 0 0, .slice none 0 0]) ?_ 1 _ rfl; (with_reducible repeat (first | refine blk_drewN ?_ _ | refine blk_drew ?_ | refine blk_alloc ?_ _)); refine blk_put (cs := #[.int .i64 0, .int .i64 0, .int .i64 0, .slice none 0 0, .slice none 0 0]) ?_ 0 _ rfl; (with_reducible repeat (first | refine blk_drewN ?_ _ | refine blk_drew ?_ | refine blk_alloc ?_ _)); exact BK181.out) Try.underlying36 rfl (by kernel_rfl)) rfl ?_
          exact ⟨_, _, by first | rfl | (simp [errW_none, errW_some] <;> rfl) | (simp [*, errW_none, errW_some] <;> rfl), by (with_reducible repeat (first | apply Kd.R_alloc | apply Kd.R_drewN | apply Kd.R_drew)); exact Kd.R_mono (Kd.R_far (p := ⟨gb181, 4, none⟩) (Kd.R_far (p := ⟨gb181, 3, none⟩) (Kd.R_far (p := ⟨gb181, 2, none⟩) (Kd.R_far (p := ⟨gb181, 1, none⟩) (Kd.R_far (p := ⟨gb181, 0, none⟩) (Kd.R_types HO_184003.out BK181.out (by decide)) (fun _ hk => hk.2) (.int .i64 a0)) (fun _ hk => hk.2) (.int .i64 a1)) (fun _ hk => hk.2) (.int .i64 a2)) (fun _ hk => hk.2) (.slice Ao28 x184003_1.length co28)) (fun _ hk => hk.2) (.slice Ao29 x184004_1.length co29)) (fun _ hk => trivial), by (with_reducible repeat (first | apply Kd.R_alloc | apply Kd.R_drewN | apply Kd.R_drew)); exact Kd.R_mono (Kd.R_far (p := ⟨gb181, 4, none⟩) (Kd.R_far (p := ⟨gb181, 3, none⟩) (Kd.R_far (p := ⟨gb181, 2, none⟩) (Kd.R_far (p := ⟨gb181, 1, none⟩) (Kd.R_far (p := ⟨gb181, 0, none⟩) (Kd.R_types HO_184004.out BK181.out (by decide)) (fun _ hk => hk.2) (.int .i64 a0)) (fun _ hk => hk.2) (.int .i64 a1)) (fun _ hk => hk.2) (.int .i64 a2)) (fun _ hk => hk.2) (.slice Ao28 x184003_1.length co28)) (fun _ hk => hk.2) (.slice Ao29 x184004_1.length co29)) (fun _ hk => trivial), by repeat (first | (with_reducible first | exact HB.out | apply below_alloc | apply pw_below_drewN | apply below_drew1 | refine below_set ?_ GE181.out | refine below_set ?_ GE183.out) | exact HB.out)⟩
  · replace c5 := Bool.eq_false_iff.mpr c5
    subst c5
    have H1 : (some (0, 0, 0, ([] : List Int), ([] : List (S52)), 1)) = some (r1, r2, r3, r4, r5, r6) := by rw [if_neg (show ¬ (false = true) by decide)] at H; exact H
    clear H
    have H := H1
    clear H1
    simp only [Option.some.injEq, Prod.mk.injEq] at H
    obtain ⟨rfl, rfl, rfl, rfl, rfl, rfl⟩ := H
    go_enter Try.func18, Try.ntmps18
    go_wp2_with (first | ((with_reducible refine gate_dst (N := 6) rfl ?_); refine box_event ?hg (N := 6) ?hd (cs := #[.int .i64 0, .int .i64 0, .int .i64 0, .slice none 0 0, .slice none 0 0]) (t := 36) ?hr ?_; (case hd => rfl); (case hg => rfl); (case hr => first | (go_simp; done) | (go_simp; rfl)); intro gb181 hg w30 hbox hb; have n0_ := Aside0.mk (below_step (by repeat (first | (with_reducible first | exact HB.out | apply below_alloc | apply pw_below_drewN | apply below_drew1) | exact HB.out)) hb); have n1_ := Aside0.mk (hbox); have n2_ := Aside0.mk ((by rw [hg]; exact (below_size (by repeat (first | (with_reducible first | exact HB.out | apply below_alloc | apply pw_below_drewN | apply below_drew1) | exact HB.out))) : w.heap.size ≤ gb181)); have n3_ := Aside0.mk ((by rw [hg]; exact (below_size (by repeat (first | (with_reducible first | exact HB.out | apply below_alloc | apply pw_below_drewN | apply below_drew1) | exact HB.out))) : w.heap.size ≤ gb181)); clear HB; have HB := n0_; have BK181 := n1_; have GW181 := n2_; have GE181 := n3_; clear n0_ n1_ n2_ n3_; clear hb hbox hg) | ((with_reducible refine gate_callee (f := 44) rfl ?_); refine goesL_ (some 14) rfl rfl Try.func44 (by kernel_rfl) rfl #[.int .i64 a0, .int .i64 a1, .int .i64 a2] rfl (by (try simp only [List.map_toArray, List.map_cons, List.map_nil]); first | done | rfl | (simp only [List.length_drop, List.length_take]; rfl)) ?_; (with_reducible refine (hornbeamref12_May.calls k a0 a1 a2 false _ A4.out).mono ?_); rintro e w' ⟨rfl, ⟨nd, rfl⟩⟩; refine ⟨_, rfl, ?_⟩; (try (rw [drewN_self w30]; generalize hq_ : World.drewN w30 _ = w30; have n0_ : Aside0 (w30.heap[gb181]? = some (.cells #[.int .i64 0, .int .i64 0, .int .i64 0, .slice none 0 0, .slice none 0 0] 36 (0, 0))) := ⟨by rw [← hq_]; exact (by (with_reducible repeat (first | refine blk_drewN ?_ _ | refine blk_drew ?_ | refine blk_alloc ?_ _)); exact BK181.out)⟩; have n1_ : Aside0 (Below w.heap.size w w30) := ⟨by rw [← hq_]; exact (by repeat (first | (with_reducible first | exact HB.out | apply below_alloc | apply pw_below_drewN | apply below_drew1 | refine below_set ?_ GE181.out) | exact HB.out))⟩; clear BK181 HB hq_; have BK181 := n0_; have HB := n1_; clear n0_ n1_)); have hcz31_0 : w30.cell? ⟨gb181, 0, none⟩ = some (.int .i64 0) := (blk_cell BK181.out 0).trans rfl; have hcz31_1 : w30.cell? ⟨gb181, 1, none⟩ = some (.int .i64 0) := (blk_cell BK181.out 1).trans rfl; have hcz31_2 : w30.cell? ⟨gb181, 2, none⟩ = some (.int .i64 0) := (blk_cell BK181.out 2).trans rfl; have hcz31_3 : w30.cell? ⟨gb181, 3, none⟩ = some (.slice none 0 0) := (blk_cell BK181.out 3).trans rfl; have hcz31_4 : w30.cell? ⟨gb181, 4, none⟩ = some (.slice none 0 0) := (blk_cell BK181.out 4).trans rfl; have hfz31_0 := blk_frozen BK181.out 0; have hfz31_1 := blk_frozen BK181.out 1; have hfz31_2 := blk_frozen BK181.out 2; have hfz31_3 := blk_frozen BK181.out 3; have hfz31_4 := blk_frozen BK181.out 4))
    refine bodyPost_ret (results_ct rfl _ _ gb181 36 #[.int .i64 0, .int .i64 0, .int .i64 0, .slice none 0 0, .slice none 0 0] (0, 0) _ rfl (by (with_reducible repeat (first | refine blk_drewN ?_ _ | refine blk_drew ?_ | refine blk_alloc ?_ _)); refine blk_put (cs := #[.int .i64 0, .int .i64 0, .int .i64 0, .slice none 0 0, .slice none 0 0]) ?_ 4 _ rfl; (with_reducible repeat (first | refine blk_drewN ?_ _ | refine blk_drew ?_ | refine blk_alloc ?_ _)); refine blk_put (cs := #[.int .i64 0, .int .i64 0, .int .i64 0, .slice none 0 0, .slice none 0 0]) ?_ 3 _ rfl; (with_reducible repeat (first | refine blk_drewN ?_ _ | refine blk_drew ?_ | refine blk_alloc ?_ _)); refine blk_put (cs := #[.int .i64 0, .int .i64 0, .int .i64 0, .slice none 0 0, .slice none 0 0]) ?_ 2 _ rfl; (with_reducible repeat (first | refine blk_drewN ?_ _ | refine blk_drew ?_ | refine blk_alloc ?_ _)); refine blk_put (cs := #[.int .i64 0, .int .i64 0, .int .i64 0, .slice none 0 0, .slice none 0 0]) ?_ 1 _ rfl; (with_reducible repeat (first | refine blk_drewN ?_ _ | refine blk_drew ?_ | refine blk_alloc ?_ _)); refine blk_put (cs := #[.int .i64 0, .int .i64 0, .int .i64 0, .slice none 0 0, .slice none 0 0]) ?_ 0 _ rfl; (with_reducible repeat (first | refine blk_drewN ?_ _ | refine blk_drew ?_ | refine blk_alloc ?_ _)); exact BK181.out) Try.underlying36 rfl (by kernel_rfl)) rfl ?_
    exact ⟨_, _, by first | rfl | (simp [errW_none, errW_some] <;> rfl) | (simp [*, errW_none, errW_some] <;> rfl), by first | exact Kd.R_nil _ _ _ _ _ | exact Kd.N_nil _ _ _ _ _ | exact Kd.V_nil _ _ _ _ _ | exact Kd.Q_nil _ _ _ _ _ | exact Kd.S_nil _ _ _ _ _, by first | exact Kd.R_nil _ _ _ _ _ | exact Kd.N_nil _ _ _ _ _ | exact Kd.V_nil _ _ _ _ _ | exact Kd.Q_nil _ _ _ _ _ | exact Kd.S_nil _ _ _ _ _, by repeat (first | (with_reducible first | exact HB.out | apply below_alloc | apply pw_below_drewN | apply below_drew1 | refine below_set ?_ GE181.out) | exact HB.out)⟩

end Go.Proofs.Yteckbgpkoanhfaa.Pr
end

section
-- Printed by a program of the session's over the kit's print.
namespace Go.Proofs.Yteckbgpkoanhfaa.Pr
open Go.RowKit Go.Proofs.YteckbgpkoanhfaaW.PrintWords Go.Proofs.YteckbgpkoanhfaaW.PrintLast Go.Proofs.YteckbgpkoanhfaaW.PrintMore
attribute [local go_sem] max2_int min2_int max_two min_two max_three min_three max_four min_four   -- for this text's walks alone
set_option linter.unusedVariables false
set_option linter.unusedSimpArgs false

/-! ### hornbeamref12_Copy: function 28 -/
def hornbeamref12_Copy.f (a0_0 : Int) (a0_1 : Int) (a0_2 : Int) (l0_3 : List Int) (l0_4 : List (S52)) : Option (Int × Int × Int × List Int × (List (S52))) := (some (([] : List Int) : List Int)).bind fun y192 => (if y192.length + l0_3.length < 17592186044416 then ((some (([] : List (S52)) : List (S52))).bind fun y198 => (if y198.length + l0_4.length < 5864062014805 then (some (a0_0, a0_1, a0_2, (y192 ++ l0_3), (y198 ++ l0_4))) else (none))) else (none))
set_option maxHeartbeats 8000000 in
set_option maxRecDepth 100000 in
theorem hornbeamref12_Copy.calls (a0_0 : Int) (a0_1 : Int) (a0_2 : Int) (A0_3 : Option Addr) (c0_3 : Nat) (l0_3 : List Int) (A0_4 : Option Addr) (c0_4 : Nat) (l0_4 : List (S52)) (r1 : Int) (r2 : Int) (r3 : Int) (r4 : List Int) (r5 : List (S52)) (w : World) (hr0_3 : Kd.C (Kd.int .i64) w A0_3 l0_3.length l0_3) (hc0_3 : l0_3.length ≤ c0_3) (hr0_4 : Kd.C k52 w A0_4 l0_4.length l0_4) (hc0_4 : l0_4.length ≤ c0_4) (h : hornbeamref12_Copy.f a0_0 a0_1 a0_2 l0_3 l0_4 = some (r1, r2, r3, r4, r5)) :
    Calls Try.prog 28 #[.agg #[.int .i64 a0_0, .int .i64 a0_1, .int .i64 a0_2, .slice A0_3 l0_3.length c0_3, .slice A0_4 l0_4.length c0_4]] w fun e w' => ∃ v3_ v4_ : Value, e = .returned (.agg #[.int .i64 r1, .int .i64 r2, .int .i64 r3, v3_, v4_]) ∧ Kd.R (Kd.int .i64) 2 w' w.heap.size (fun _ => True) v3_ r4 ∧ Kd.R k52 52 w' w.heap.size (fun _ => True) v4_ r5 ∧ Below w.heap.size w w' := by
  have hu36 := Try.underlying36
  have HR0_3 := Aside0.mk hr0_3
  have HC0_3 := Aside0.mk hc0_3
  clear hr0_3 hc0_3
  have HR0_4 := Aside0.mk hr0_4
  have HC0_4 := Aside0.mk hc0_4
  clear hr0_4 hc0_4
  have HB := Aside0.mk (Below.refl w.heap.size w)
  have H : ((some (([] : List Int) : List Int)).bind fun y192 => (if y192.length + l0_3.length < 17592186044416 then ((some (([] : List (S52)) : List (S52))).bind fun y198 => (if y198.length + l0_4.length < 5864062014805 then (some (a0_0, a0_1, a0_2, (y192 ++ l0_3), (y198 ++ l0_4))) else (none))) else (none))) = some (r1, r2, r3, r4, r5) := h
  clear h
  obtain ⟨y192, hy192⟩ : ∃ y_ : List Int, y_ = (([] : List Int)) := ⟨_, rfl⟩
  replace H : (if y192.length + l0_3.length < 17592186044416 then ((some (([] : List (S52)) : List (S52))).bind fun y198 => (if y198.length + l0_4.length < 5864062014805 then (some (a0_0, a0_1, a0_2, (y192 ++ l0_3), (y198 ++ l0_4))) else (none))) else (none)) = some (r1, r2, r3, r4, r5) := by first | (rw [hy192]; with_reducible exact H) | (have H2_ := (Option.bind_some _ _).symm.trans H; rw [hy192]; with_reducible exact H2_) | (have H2_ := (Option.bind_some _ _).symm.trans H; with_reducible exact H2_) | with_reducible exact H | (rw [hy192]; exact H) | exact H
  have Ny192 := Aside0.mk hy192
  clear hy192
  by_cases c2 : y192.length + l0_3.length < 17592186044416
  · rw [if_pos c2] at H
    have LMc2 := Aside0.mk c2
    clear c2
    obtain ⟨y195, hy195⟩ : ∃ y_ : List Int, y_ = (y192 ++ l0_3) := ⟨_, rfl⟩
    replace H : ((some (([] : List (S52)) : List (S52))).bind fun y198 => (if y198.length + l0_4.length < 5864062014805 then (some (a0_0, a0_1, a0_2, y195, (y198 ++ l0_4))) else (none))) = some (r1, r2, r3, r4, r5) := by first | (rw [hy195]; with_reducible exact H) | (have H2_ := (Option.bind_some _ _).symm.trans H; rw [hy195]; with_reducible exact H2_) | (have H2_ := (Option.bind_some _ _).symm.trans H; with_reducible exact H2_) | with_reducible exact H | (rw [hy195]; exact H) | exact H
    have Ny195 := Aside0.mk hy195
    clear hy195
    obtain ⟨y198, hy198⟩ : ∃ y_ : List (S52), y_ = (([] : List (S52))) := ⟨_, rfl⟩
    replace H : (if y198.length + l0_4.length < 5864062014805 then (some (a0_0, a0_1, a0_2, y195, (y198 ++ l0_4))) else (none)) = some (r1, r2, r3, r4, r5) := by first | (rw [hy198]; with_reducible exact H) | (have H2_ := (Option.bind_some _ _).symm.trans H; rw [hy198]; with_reducible exact H2_) | (have H2_ := (Option.bind_some _ _).symm.trans H; with_reducible exact H2_) | with_reducible exact H | (rw [hy198]; exact H) | exact H
    have Ny198 := Aside0.mk hy198
    clear hy198
    by_cases c3 : y198.length + l0_4.length < 5864062014805
    · rw [if_pos c3] at H
      have LMc3 := Aside0.mk c3
      clear c3
      obtain ⟨y201, hy201⟩ : ∃ y_ : List (S52), y_ = (y198 ++ l0_4) := ⟨_, rfl⟩
      replace H : (some (a0_0, a0_1, a0_2, y195, y201)) = some (r1, r2, r3, r4, r5) := by first | (rw [hy201]; with_reducible exact H) | (have H2_ := (Option.bind_some _ _).symm.trans H; rw [hy201]; with_reducible exact H2_) | (have H2_ := (Option.bind_some _ _).symm.trans H; with_reducible exact H2_) | with_reducible exact H | (rw [hy201]; exact H) | exact H
      have Ny201 := Aside0.mk hy201
      clear hy201
      simp only [Option.some.injEq, Prod.mk.injEq] at H
      obtain ⟨rfl, rfl, rfl, rfl, rfl⟩ := H
      go_enter Try.func28, Try.ntmps28
      go_wp2_with (first | ((with_reducible refine gate_dst (N := 1) rfl ?_); refine box_event ?hg (N := 1) ?hd (cs := #[.int .i64 a0_0, .int .i64 a0_1, .int .i64 a0_2, .slice A0_3 l0_3.length c0_3, .slice A0_4 l0_4.length c0_4]) (t := 36) ?hr ?_; (case hd => rfl); (case hg => rfl); (case hr => first | (go_simp; done) | (go_simp; rfl)); intro gb190 hg w4 hbox hb; have n0_ := Aside0.mk (below_step (by repeat (first | (with_reducible first | exact HB.out | apply below_alloc | apply pw_below_drewN | apply below_drew1) | exact HB.out)) hb); have n1_ := Aside0.mk (hbox); have n2_ := Aside0.mk ((by rw [hg]; exact (below_size (by repeat (first | (with_reducible first | exact HB.out | apply below_alloc | apply pw_below_drewN | apply below_drew1) | exact HB.out))) : w.heap.size ≤ gb190)); have n3_ := Aside0.mk ((by rw [hg]; exact (below_size (by repeat (first | (with_reducible first | exact HB.out | apply below_alloc | apply pw_below_drewN | apply below_drew1) | exact HB.out))) : w.heap.size ≤ gb190)); clear HB; have HB := n0_; have BK190 := n1_; have GW190 := n2_; have GE190 := n3_; clear n0_ n1_ n2_ n3_; clear hb hbox hg) | ((with_reducible refine gate_dst (N := 2) rfl ?_); refine box_event ?hg (N := 2) ?hd (cs := #[.int .i64 0, .int .i64 0, .int .i64 0, .slice none 0 0, .slice none 0 0]) (t := 36) ?hr ?_; (case hd => rfl); (case hg => rfl); (case hr => first | (go_simp; done) | (go_simp; rfl)); intro gb191 hg w5 hbox hb; have n0_ := Aside0.mk (blk_below (g := gb190) (o := .cells #[.int .i64 a0_0, .int .i64 a0_1, .int .i64 a0_2, .slice A0_3 l0_3.length c0_3, .slice A0_4 l0_4.length c0_4] 36 (0, 0)) (by (with_reducible repeat (first | refine blk_drewN ?_ _ | refine blk_drew ?_ | refine blk_alloc ?_ _)); exact BK190.out) hb); have n1_ := Aside0.mk (below_step (by repeat (first | (with_reducible first | exact HB.out | apply below_alloc | apply pw_below_drewN | apply below_drew1 | refine below_set ?_ GE190.out) | exact HB.out)) hb); have n2_ := Aside0.mk (hbox); have n3_ := Aside0.mk ((by rw [hg]; exact (below_size (by repeat (first | (with_reducible first | exact HB.out | apply below_alloc | apply pw_below_drewN | apply below_drew1 | refine below_set ?_ GE190.out) | exact HB.out))) : w.heap.size ≤ gb191)); have n4_ := Aside0.mk ((by rw [hg]; exact (below_size (by repeat (first | (with_reducible first | exact HB.out | apply below_alloc | apply pw_below_drewN | apply below_drew1 | refine below_set ?_ GE190.out) | exact HB.out))) : w.heap.size ≤ gb191)); have n5_ := Aside0.mk ((by rw [hg]; exact Nat.ne_of_lt (blk_lt (g := gb190) (o := .cells #[.int .i64 a0_0, .int .i64 a0_1, .int .i64 a0_2, .slice A0_3 l0_3.length c0_3, .slice A0_4 l0_4.length c0_4] 36 (0, 0)) (by (with_reducible repeat (first | refine blk_drewN ?_ _ | refine blk_drew ?_ | refine blk_alloc ?_ _)); exact BK190.out)) : gb190 ≠ gb191)); have n6_ := Aside0.mk ((by rw [hg]; exact Nat.ne_of_gt (blk_lt (g := gb190) (o := .cells #[.int .i64 a0_0, .int .i64 a0_1, .int .i64 a0_2, .slice A0_3 l0_3.length c0_3, .slice A0_4 l0_4.length c0_4] 36 (0, 0)) (by (with_reducible repeat (first | refine blk_drewN ?_ _ | refine blk_drew ?_ | refine blk_alloc ?_ _)); exact BK190.out)) : gb191 ≠ gb190)); clear BK190; clear HB; have BK190 := n0_; have HB := n1_; have BK191 := n2_; have GW191 := n3_; have GE191 := n4_; have NB190_191 := n5_; have NB191_190 := n6_; clear n0_ n1_ n2_ n3_ n4_ n5_ n6_; clear hb hbox hg) | ((with_reducible refine gate_dst (N := 3) rfl ?_); refine Kd.R_lit (Kd.int .i64) _ 2 ?hg (N := 3) ?hd (xs := ([] : List Int)) (inner := []) (ok := fun _ => True) (okp := fun _ => True) ?hr ?hp (fun _ hk => hk) trivial (Below.refl _ _) (Nat.le_refl _) (by simp) ?_; (case hd => rfl); (case hg => rfl); (case hr => first | (go_simp; done) | (go_simp; rfl)); (case hp => exact (Reps.none _ _)); intro v193 w6 ho7 hb hg_ hnew_; clear hg_ hnew_; (first | rw [← Ny192.out] at ho7 | (simp only [Int.reduceToNat] at ho7; rw [← Ny192.out] at ho7)); have n0_ := Aside0.mk (Kd.R_lower ho7 (below_size (by repeat (first | (with_reducible first | exact HB.out | apply below_alloc | apply pw_below_drewN | apply below_drew1 | refine below_set ?_ GE190.out | refine below_set ?_ GE191.out) | exact HB.out)))); have n1_ := Aside0.mk (blk_below (g := gb190) (o := .cells #[.int .i64 a0_0, .int .i64 a0_1, .int .i64 a0_2, .slice A0_3 l0_3.length c0_3, .slice A0_4 l0_4.length c0_4] 36 (0, 0)) (by (with_reducible repeat (first | refine blk_drewN ?_ _ | refine blk_drew ?_ | refine blk_alloc ?_ _)); exact BK190.out) hb); have n2_ := Aside0.mk (blk_below (g := gb191) (o := .cells #[.int .i64 0, .int .i64 0, .int .i64 0, .slice none 0 0, .slice none 0 0] 36 (0, 0)) (by (with_reducible repeat (first | refine blk_drewN ?_ _ | refine blk_drew ?_ | refine blk_alloc ?_ _)); exact BK191.out) hb); have n3_ := Aside0.mk (below_step (by repeat (first | (with_reducible first | exact HB.out | apply below_alloc | apply pw_below_drewN | apply below_drew1 | refine below_set ?_ GE190.out | refine below_set ?_ GE191.out) | exact HB.out)) hb); clear BK190; clear BK191; clear HB; have HO194 := n0_; have BK190 := n1_; have BK191 := n2_; have HB := n3_; clear n0_ n1_ n2_ n3_; clear hb ho7; have hnb8 := NB190_191.out; have hnc8 := NB191_190.out; have hcz9_0 : w6.cell? ⟨gb190, 0, none⟩ = some (.int .i64 a0_0) := (blk_cell BK190.out 0).trans rfl; have hcz9_1 : w6.cell? ⟨gb190, 1, none⟩ = some (.int .i64 a0_1) := (blk_cell BK190.out 1).trans rfl; have hcz9_2 : w6.cell? ⟨gb190, 2, none⟩ = some (.int .i64 a0_2) := (blk_cell BK190.out 2).trans rfl; have hcz9_3 : w6.cell? ⟨gb190, 3, none⟩ = some (.slice A0_3 l0_3.length c0_3) := (blk_cell BK190.out 3).trans rfl; have hcz9_4 : w6.cell? ⟨gb190, 4, none⟩ = some (.slice A0_4 l0_4.length c0_4) := (blk_cell BK190.out 4).trans rfl; have hfz9_0 := blk_frozen BK190.out 0; have hfz9_1 := blk_frozen BK190.out 1; have hfz9_2 := blk_frozen BK190.out 2; have hfz9_3 := blk_frozen BK190.out 3; have hfz9_4 := blk_frozen BK190.out 4) | ((with_reducible refine gate_builtin (b := .append) (xs := #[.tmp 3, .tmp 5]) rfl ?_); at_builtin; refine Kd.R_append_rows (Kd.int .i64) (w0 := w) w.heap.size rfl (.tmp 3) (.tmp 5) 33 2 (.int .i64 0) 8 rfl Try.underlying33 info2 rfl (by decide) (by omega) v193 y192 l0_3 _ _ _ (fun _ => True) (fun _ => False) rfl rfl ?aO ?aR (fun _ _ h => h) (fun _ h => h.elim) ?aF ?aB ?aS ?aL ?_; (case aR => repeat (first | exact (Kd.C_below HR0_3.out HB.out) | (with_reducible refine Kd.C_alloc ?_ _) | (with_reducible refine Kd.C_drewN ?_ _) | (with_reducible refine Kd.C_drew ?_))); (case aB => exact (by repeat (first | (with_reducible first | exact HB.out | apply below_alloc | apply pw_below_drewN | apply below_drew1 | refine below_set ?_ GE190.out | refine below_set ?_ GE191.out) | exact HB.out))); (case aF => exact (fun _ _ => trivial)); (case aO => exact (by (with_reducible repeat (first | apply Kd.R_alloc | apply Kd.R_drewN | apply Kd.R_drew)); exact HO194.out)); (case aS => exact (below_size (by repeat (first | (with_reducible first | exact HB.out | apply below_alloc | apply pw_below_drewN | apply below_drew1 | refine below_set ?_ GE190.out | refine below_set ?_ GE191.out) | exact HB.out)))); (case aL => have := LMc2.out; omega); intro v196 w10 ho hb hg hat; rw [← Ny195.out] at ho; have n0_ := Aside0.mk (blk_grown (g := gb190) (o := .cells #[.int .i64 a0_0, .int .i64 a0_1, .int .i64 a0_2, .slice A0_3 l0_3.length c0_3, .slice A0_4 l0_4.length c0_4] 36 (0, 0)) (by (with_reducible repeat (first | refine blk_drewN ?_ _ | refine blk_drew ?_ | refine blk_alloc ?_ _)); exact BK190.out) hg (Kd.R_ne HO194.out BK190.out (by decide))); have n1_ := Aside0.mk (blk_grown (g := gb191) (o := .cells #[.int .i64 0, .int .i64 0, .int .i64 0, .slice none 0 0, .slice none 0 0] 36 (0, 0)) (by (with_reducible repeat (first | refine blk_drewN ?_ _ | refine blk_drew ?_ | refine blk_alloc ?_ _)); exact BK191.out) hg (Kd.R_ne HO194.out BK191.out (by decide))); have n2_ := Aside0.mk (hb); have n3_ := Aside0.mk (ho); clear BK190; clear BK191; clear HB; clear HO194; have BK190 := n0_; have BK191 := n1_; have HB := n2_; have HO197 := n3_; clear n0_ n1_ n2_ n3_; clear ho hb hg hat; obtain ⟨Ao11, co11, eo11⟩ := Kd.R_slice HO197.out; subst eo11; have hcz12_0 : w10.cell? ⟨gb190, 0, none⟩ = some (.int .i64 a0_0) := (blk_cell BK190.out 0).trans rfl; have hcz12_1 : w10.cell? ⟨gb190, 1, none⟩ = some (.int .i64 a0_1) := (blk_cell BK190.out 1).trans rfl; have hcz12_2 : w10.cell? ⟨gb190, 2, none⟩ = some (.int .i64 a0_2) := (blk_cell BK190.out 2).trans rfl; have hcz12_3 : w10.cell? ⟨gb190, 3, none⟩ = some (.slice A0_3 l0_3.length c0_3) := (blk_cell BK190.out 3).trans rfl; have hcz12_4 : w10.cell? ⟨gb190, 4, none⟩ = some (.slice A0_4 l0_4.length c0_4) := (blk_cell BK190.out 4).trans rfl; have hfz12_0 := blk_frozen BK190.out 0; have hfz12_1 := blk_frozen BK190.out 1; have hfz12_2 := blk_frozen BK190.out 2; have hfz12_3 := blk_frozen BK190.out 3; have hfz12_4 := blk_frozen BK190.out 4) | ((with_reducible refine gate_dst (N := 8) rfl ?_); refine Kd.R_lit k52 _ 52 ?hg (N := 8) ?hd (xs := ([] : List (S52))) (inner := []) (ok := fun _ => True) (okp := fun _ => True) ?hr ?hp (fun _ hk => hk) trivial (Below.refl _ _) (Nat.le_refl _) (by simp) ?_; (case hd => rfl); (case hg => rfl); (case hr => first | (go_simp; done) | (go_simp; rfl)); (case hp => exact (Reps.none _ _)); intro v199 w13 ho14 hb hg_ hnew_; clear hg_ hnew_; (first | rw [← Ny198.out] at ho14 | (simp only [Int.reduceToNat] at ho14; rw [← Ny198.out] at ho14)); have n0_ := Aside0.mk (Kd.R_below (by (with_reducible repeat (first | apply Kd.R_alloc | apply Kd.R_drewN | apply Kd.R_drew)); exact (Kd.R_mono (Kd.R_far (p := ⟨gb190, 3, none⟩) (Kd.R_types HO197.out BK190.out (by decide)) (fun _ hk => hk.2) (.slice Ao11 y195.length co11)) (fun _ h_ => h_.1))) hb); have n1_ := Aside0.mk (Kd.R_lower ho14 (below_size (by repeat (first | (with_reducible first | exact HB.out | apply below_alloc | apply pw_below_drewN | apply below_drew1 | refine below_set ?_ GE190.out | refine below_set ?_ GE191.out) | exact HB.out)))); have n2_ := Aside0.mk (blk_below (g := gb190) (o := .cells #[.int .i64 a0_0, .int .i64 a0_1, .int .i64 a0_2, .slice Ao11 y195.length co11, .slice A0_4 l0_4.length c0_4] 36 (0, 0)) (by (with_reducible repeat (first | refine blk_drewN ?_ _ | refine blk_drew ?_ | refine blk_alloc ?_ _)); refine blk_put (cs := #[.int .i64 a0_0, .int .i64 a0_1, .int .i64 a0_2, .slice A0_3 l0_3.length c0_3, .slice A0_4 l0_4.length c0_4]) ?_ 3 _ rfl; (with_reducible repeat (first | refine blk_drewN ?_ _ | refine blk_drew ?_ | refine blk_alloc ?_ _)); exact BK190.out) hb); have n3_ := Aside0.mk (blk_below (g := gb191) (o := .cells #[.int .i64 0, .int .i64 0, .int .i64 0, .slice none 0 0, .slice none 0 0] 36 (0, 0)) (by (with_reducible repeat (first | refine blk_drewN ?_ _ | refine blk_drew ?_ | refine blk_alloc ?_ _)); refine blk_far ?_ NB191_190.out _; (with_reducible repeat (first | refine blk_drewN ?_ _ | refine blk_drew ?_ | refine blk_alloc ?_ _)); exact BK191.out) hb); have n4_ := Aside0.mk (below_step (by repeat (first | (with_reducible first | exact HB.out | apply below_alloc | apply pw_below_drewN | apply below_drew1 | refine below_set ?_ GE190.out | refine below_set ?_ GE191.out) | exact HB.out)) hb); clear HO197; clear BK190; clear BK191; clear HB; have HO197 := n0_; have HO200 := n1_; have BK190 := n2_; have BK191 := n3_; have HB := n4_; clear n0_ n1_ n2_ n3_ n4_; clear hb ho14; have hcz15_0 : w13.cell? ⟨gb190, 0, none⟩ = some (.int .i64 a0_0) := (blk_cell BK190.out 0).trans rfl; have hcz15_1 : w13.cell? ⟨gb190, 1, none⟩ = some (.int .i64 a0_1) := (blk_cell BK190.out 1).trans rfl; have hcz15_2 : w13.cell? ⟨gb190, 2, none⟩ = some (.int .i64 a0_2) := (blk_cell BK190.out 2).trans rfl; have hcz15_3 : w13.cell? ⟨gb190, 3, none⟩ = some (.slice Ao11 y195.length co11) := (blk_cell BK190.out 3).trans rfl; have hcz15_4 : w13.cell? ⟨gb190, 4, none⟩ = some (.slice A0_4 l0_4.length c0_4) := (blk_cell BK190.out 4).trans rfl; have hfz15_0 := blk_frozen BK190.out 0; have hfz15_1 := blk_frozen BK190.out 1; have hfz15_2 := blk_frozen BK190.out 2; have hfz15_3 := blk_frozen BK190.out 3; have hfz15_4 := blk_frozen BK190.out 4) | ((with_reducible refine gate_builtin (b := .append) (xs := #[.tmp 8, .tmp 10]) rfl ?_); at_builtin; refine Kd.R_append_rows k52 (w0 := w) w.heap.size rfl (.tmp 8) (.tmp 10) 34 52 (.agg #[(.int .i64 0), (.int .i64 0), (.int .i64 0)]) 24 rfl Try.underlying34 info52 rfl (by decide) (by omega) v199 y198 l0_4 _ _ _ (fun _ => True) (fun _ => False) rfl rfl ?aO ?aR (fun _ _ h => h) (fun _ h => h.elim) ?aF ?aB ?aS ?aL ?_; (case aR => repeat (first | exact (Kd.C_below HR0_4.out HB.out) | (with_reducible refine Kd.C_alloc ?_ _) | (with_reducible refine Kd.C_drewN ?_ _) | (with_reducible refine Kd.C_drew ?_))); (case aB => exact (by repeat (first | (with_reducible first | exact HB.out | apply below_alloc | apply pw_below_drewN | apply below_drew1 | refine below_set ?_ GE190.out | refine below_set ?_ GE191.out) | exact HB.out))); (case aF => exact (fun _ _ => trivial)); (case aO => exact (by (with_reducible repeat (first | apply Kd.R_alloc | apply Kd.R_drewN | apply Kd.R_drew)); exact HO200.out)); (case aS => exact (below_size (by repeat (first | (with_reducible first | exact HB.out | apply below_alloc | apply pw_below_drewN | apply below_drew1 | refine below_set ?_ GE190.out | refine below_set ?_ GE191.out) | exact HB.out)))); (case aL => have := LMc3.out; omega); intro v202 w16 ho hb hg hat; rw [← Ny201.out] at ho; have n0_ := Aside0.mk (blk_grown (g := gb190) (o := .cells #[.int .i64 a0_0, .int .i64 a0_1, .int .i64 a0_2, .slice Ao11 y195.length co11, .slice A0_4 l0_4.length c0_4] 36 (0, 0)) (by (with_reducible repeat (first | refine blk_drewN ?_ _ | refine blk_drew ?_ | refine blk_alloc ?_ _)); exact BK190.out) hg (Kd.R_ne HO200.out BK190.out (by decide))); have n1_ := Aside0.mk (blk_grown (g := gb191) (o := .cells #[.int .i64 0, .int .i64 0, .int .i64 0, .slice none 0 0, .slice none 0 0] 36 (0, 0)) (by (with_reducible repeat (first | refine blk_drewN ?_ _ | refine blk_drew ?_ | refine blk_alloc ?_ _)); exact BK191.out) hg (Kd.R_ne HO200.out BK191.out (by decide))); have n2_ := Aside0.mk (Kd.R_over' (by (with_reducible repeat (first | apply Kd.R_alloc | apply Kd.R_drewN | apply Kd.R_drew)); exact HO197.out) (Kd.R_typed (by (with_reducible repeat (first | apply Kd.R_alloc | apply Kd.R_drewN | apply Kd.R_drew)); exact HO200.out)) (by decide) hg); have n3_ := Aside0.mk (hb); have n4_ := Aside0.mk (ho); clear BK190; clear BK191; clear HO197; clear HB; clear HO200; have BK190 := n0_; have BK191 := n1_; have HO197 := n2_; have HB := n3_; have HO203 := n4_; clear n0_ n1_ n2_ n3_ n4_; clear ho hb hg hat; obtain ⟨Ao17, co17, eo17⟩ := Kd.R_slice HO203.out; subst eo17; have hcz18_0 : w16.cell? ⟨gb190, 0, none⟩ = some (.int .i64 a0_0) := (blk_cell BK190.out 0).trans rfl; have hcz18_1 : w16.cell? ⟨gb190, 1, none⟩ = some (.int .i64 a0_1) := (blk_cell BK190.out 1).trans rfl; have hcz18_2 : w16.cell? ⟨gb190, 2, none⟩ = some (.int .i64 a0_2) := (blk_cell BK190.out 2).trans rfl; have hcz18_3 : w16.cell? ⟨gb190, 3, none⟩ = some (.slice Ao11 y195.length co11) := (blk_cell BK190.out 3).trans rfl; have hcz18_4 : w16.cell? ⟨gb190, 4, none⟩ = some (.slice A0_4 l0_4.length c0_4) := (blk_cell BK190.out 4).trans rfl; have hfz18_0 := blk_frozen BK190.out 0; have hfz18_1 := blk_frozen BK190.out 1; have hfz18_2 := blk_frozen BK190.out 2; have hfz18_3 := blk_frozen BK190.out 3; have hfz18_4 := blk_frozen BK190.out 4; have hcz19_0 : w16.cell? ⟨gb191, 0, none⟩ = some (.int .i64 0) := (blk_cell BK191.out 0).trans rfl; have hcz19_1 : w16.cell? ⟨gb191, 1, none⟩ = some (.int .i64 0) := (blk_cell BK191.out 1).trans rfl; have hcz19_2 : w16.cell? ⟨gb191, 2, none⟩ = some (.int .i64 0) := (blk_cell BK191.out 2).trans rfl; have hcz19_3 : w16.cell? ⟨gb191, 3, none⟩ = some (.slice none 0 0) := (blk_cell BK191.out 3).trans rfl; have hcz19_4 : w16.cell? ⟨gb191, 4, none⟩ = some (.slice none 0 0) := (blk_cell BK191.out 4).trans rfl; have hfz19_0 := blk_frozen BK191.out 0; have hfz19_1 := blk_frozen BK191.out 1; have hfz19_2 := blk_frozen BK191.out 2; have hfz19_3 := blk_frozen BK191.out 3; have hfz19_4 := blk_frozen BK191.out 4))
      refine bodyPost_ret (results_cell_row rfl _ _ gb191 36 #[.int .i64 a0_0, .int .i64 a0_1, .int .i64 a0_2, .slice Ao11 y195.length co11, .slice Ao17 y201.length co17] (0, 0) _ rfl (by (with_reducible repeat (first | refine blk_drewN ?_ _ | refine blk_drew ?_ | refine blk_alloc ?_ _)); refine blk_put (cs := #[.int .i64 a0_0, .int .i64 a0_1, .int .i64 a0_2, .slice Ao11 y195.length co11, .slice none 0 0]) ?_ 4 _ rfl; (with_reducible repeat (first | refine blk_drewN ?_ _ | refine blk_drew ?_ | refine blk_alloc ?_ _)); refine blk_put (cs := #[.int .i64 a0_0, .int .i64 a0_1, .int .i64 a0_2, .slice none 0 0, .slice none 0 0]) ?_ 3 _ rfl; (with_reducible repeat (first | refine blk_drewN ?_ _ | refine blk_drew ?_ | refine blk_alloc ?_ _)); refine blk_put (cs := #[.int .i64 a0_0, .int .i64 a0_1, .int .i64 0, .slice none 0 0, .slice none 0 0]) ?_ 2 _ rfl; (with_reducible repeat (first | refine blk_drewN ?_ _ | refine blk_drew ?_ | refine blk_alloc ?_ _)); refine blk_put (cs := #[.int .i64 a0_0, .int .i64 0, .int .i64 0, .slice none 0 0, .slice none 0 0]) ?_ 1 _ rfl; (with_reducible repeat (first | refine blk_drewN ?_ _ | refine blk_drew ?_ | refine blk_alloc ?_ _)); refine blk_put (cs := #[.int .i64 0, .int .i64 0, .int .i64 0, .slice none 0 0, .slice none 0 0]) ?_ 0 _ rfl; (with_reducible repeat (first | refine blk_drewN ?_ _ | refine blk_drew ?_ | refine blk_alloc ?_ _)); refine blk_far ?_ NB191_190.out _; (with_reducible repeat (first | refine blk_drewN ?_ _ | refine blk_drew ?_ | refine blk_alloc ?_ _)); exact BK191.out) Try.underlying36 rfl (by kernel_rfl)) rfl ?_
      exact ⟨_, _, by first | rfl | (simp [errW_none, errW_some] <;> rfl) | (simp [*, errW_none, errW_some] <;> rfl), by (with_reducible repeat (first | apply Kd.R_alloc | apply Kd.R_drewN | apply Kd.R_drew)); exact Kd.R_mono (Kd.R_far (p := ⟨gb191, 4, none⟩) (Kd.R_far (p := ⟨gb191, 3, none⟩) (Kd.R_far (p := ⟨gb191, 2, none⟩) (Kd.R_far (p := ⟨gb191, 1, none⟩) (Kd.R_far (p := ⟨gb191, 0, none⟩) (Kd.R_far (p := ⟨gb190, 4, none⟩) (Kd.R_types (Kd.R_types HO197.out BK190.out (by decide)) BK191.out (by decide)) (fun _ hk => hk.1.2) (.slice Ao17 y201.length co17)) (fun _ hk => hk.2) (.int .i64 a0_0)) (fun _ hk => hk.2) (.int .i64 a0_1)) (fun _ hk => hk.2) (.int .i64 a0_2)) (fun _ hk => hk.2) (.slice Ao11 y195.length co11)) (fun _ hk => hk.2) (.slice Ao17 y201.length co17)) (fun _ hk => trivial), by (with_reducible repeat (first | apply Kd.R_alloc | apply Kd.R_drewN | apply Kd.R_drew)); exact Kd.R_mono (Kd.R_far (p := ⟨gb191, 4, none⟩) (Kd.R_far (p := ⟨gb191, 3, none⟩) (Kd.R_far (p := ⟨gb191, 2, none⟩) (Kd.R_far (p := ⟨gb191, 1, none⟩) (Kd.R_far (p := ⟨gb191, 0, none⟩) (Kd.R_far (p := ⟨gb190, 4, none⟩) (Kd.R_types (Kd.R_types HO203.out BK190.out (by decide)) BK191.out (by decide)) (fun _ hk => hk.1.2) (.slice Ao17 y201.length co17)) (fun _ hk => hk.2) (.int .i64 a0_0)) (fun _ hk => hk.2) (.int .i64 a0_1)) (fun _ hk => hk.2) (.int .i64 a0_2)) (fun _ hk => hk.2) (.slice Ao11 y195.length co11)) (fun _ hk => hk.2) (.slice Ao17 y201.length co17)) (fun _ hk => trivial), by repeat (first | (with_reducible first | exact HB.out | apply below_alloc | apply pw_below_drewN | apply below_drew1 | refine below_set ?_ GE190.out | refine below_set ?_ GE191.out) | exact HB.out)⟩
    · rw [if_neg c3] at H
      exact absurd H (by simp)
  · rw [if_neg c2] at H
    exact absurd H (by simp)

end Go.Proofs.Yteckbgpkoanhfaa.Pr
end

section
/- Numbers of 64 bits: sums, differences, products that may go beyond. No Go. -/
namespace Go.Proofs.Yteckbgpkoanhfaa.Hb

def inR (x : Int) : Prop := -9223372036854775808 ≤ x ∧ x ≤ 9223372036854775807
instance (x : Int) : Decidable (inR x) := inferInstanceAs (Decidable (_ ∧ _))
/-- A number that is within, or none. -/
def lim (x : Int) : Option Int := if inR x then some x else none
theorem lim_in {x : Int} (h : inR x) : lim x = some x := if_pos h
theorem lim_out {x : Int} (h : ¬ inR x) : lim x = none := if_neg h
theorem lim_some {x y : Int} (h : lim x = some y) : y = x ∧ inR x := by
  unfold lim at h; split at h
  · exact ⟨(Option.some.inj h).symm, ‹_›⟩
  · cases h
theorem lim_none {x : Int} (h : lim x = none) : ¬ inR x := by
  unfold lim at h; split at h
  · cases h
  · assumption
/-- What a function of a number and an error hands back. -/
def res : Option Int → Value
  | some x => .tuple #[.int .i64 x, .int .i64 0]
  | none => .tuple #[.int .i64 0, .int .i64 6]
theorem res_form (v : Option Int) : ∃ x y, res v = .tuple #[.int .i64 x, .int .i64 y] := by cases v <;> exact ⟨_, _, rfl⟩
theorem ret_res {v : Value} {a b : Int} (h : v = .tuple #[.int .i64 a, .int .i64 b]) : Ending.returned (.tuple #[.int .i64 a, .int .i64 b]) = .returned v := by rw [h]
end Go.Proofs.Yteckbgpkoanhfaa.Hb
end

section
/- What histograms come to: plain functions. No Go. -/
namespace Go.Proofs.Yteckbgpkoanhfaa.Hb

structure Mom where
  c : Int
  s : Int
  q : Int
deriving DecidableEq
def m0 : Mom := ⟨0, 0, 0⟩
structure H where
  kind : Int
  bins : Int
  classes : Int
  counts : List Int
  moms : List Mom
deriving DecidableEq
def h0 : H := ⟨0, 0, 0, [], []⟩

/-- A sum, a difference; or the error's number. -/
def opP (a b : Int) (_ : Bool) : Except Int Int := match lim (a + b) with
  | some x => .ok x
  | none => .error 6
def opM (a b : Int) (sg : Bool) : Except Int Int := match lim (a - b) with
  | some x => if x < 0 ∧ sg = false then .error 5 else .ok x
  | none => .error 6
theorem opP_ok {a b x : Int} {sg : Bool} (h : opP a b sg = .ok x) : inR x := by
  unfold opP at h
  cases hl : lim (a + b) with
  | none => rw [hl] at h; cases h
  | some y => rw [hl] at h; cases h; have := lim_some hl; rw [this.1]; exact this.2
theorem opM_ok {a b x : Int} {sg : Bool} (h : opM a b sg = .ok x) : inR x := by
  unfold opM at h
  cases hl : lim (a - b) with
  | none => rw [hl] at h; cases h
  | some y =>
    rw [hl] at h
    simp only at h
    split at h
    · cases h
    · cases h; have := lim_some hl; rw [this.1]; exact this.2
theorem opM_none {a b : Int} (sg : Bool) (h : lim (a - b) = none) : opM a b sg = .error 6 := by unfold opM; rw [h]
theorem opM_neg {a b x : Int} (h : lim (a - b) = some x) (hx : x < 0) : opM a b false = .error 5 := by unfold opM; rw [h]; exact if_pos ⟨hx, rfl⟩
theorem opM_sg {a b x : Int} (h : lim (a - b) = some x) : opM a b true = .ok x := by unfold opM; rw [h]; exact if_neg (fun h => by cases h.2)
theorem opM_pos {a b x : Int} (sg : Bool) (h : lim (a - b) = some x) (hx : ¬ x < 0) : opM a b sg = .ok x := by unfold opM; rw [h]; exact if_neg (fun h => hx h.1)
def momO (op : Int → Int → Bool → Except Int Int) (x y : Mom) : Except Int Mom :=
  match op x.c y.c false with
  | .error e => .error e
  | .ok c => match op x.s y.s true with
    | .error e => .error e
    | .ok s => match op x.q y.q false with
      | .error e => .error e
      | .ok q => .ok ⟨c, s, q⟩
def rowsO {α : Type} (op : α → α → Except Int α) : List α → List α → Except Int (List α)
  | [], _ => .ok []
  | _ :: _, [] => .error 0
  | x :: xs, y :: ys => match op x y with
    | .error e => .error e
    | .ok z => match rowsO op xs ys with
      | .error e => .error e
      | .ok zs => .ok (z :: zs)
theorem rows_ok {α : Type} {op : α → α → Except Int α} (d : α) : ∀ (a b l : List α), a.length ≤ b.length → l.length = a.length → (∀ i, i < a.length → op (a.getD i d) (b.getD i d) = .ok (l.getD i d)) → rowsO op a b = .ok l
  | [], _, l, _, h2, _ => by
    obtain rfl : l = [] := List.length_eq_zero_iff.1 h2
    rfl
  | x :: xs, [], _, h1, _, _ => by simp at h1
  | x :: xs, y :: ys, [], _, h2, _ => by simp at h2
  | x :: xs, y :: ys, z :: zs, h1, h2, h => by
    have h0 := h 0 (by simp)
    simp only [List.getD_cons_zero] at h0
    have ih := rows_ok d xs ys zs (by simpa using h1) (by simpa using h2) (fun i hi => by have := h (i + 1) (by simpa using hi); simpa using this)
    rw [rowsO, h0]
    simp only [ih]
theorem rows_err {α : Type} {op : α → α → Except Int α} (d : α) (e : Int) : ∀ (k : Nat) (a b l : List α), a.length ≤ b.length → k < a.length → (∀ i, i < k → op (a.getD i d) (b.getD i d) = .ok (l.getD i d)) → op (a.getD k d) (b.getD k d) = .error e → rowsO op a b = .error e
  | _, [], _, _, _, hk, _, _ => by simp at hk
  | _, x :: xs, [], _, h1, _, _, _ => by simp at h1
  | 0, x :: xs, y :: ys, _, _, _, _, he => by
    simp only [List.getD_cons_zero] at he
    rw [rowsO, he]
  | k + 1, x :: xs, y :: ys, l, h1, hk, h, he => by
    have h0 := h 0 (by omega)
    simp only [List.getD_cons_zero] at h0
    have ih := rows_err d e k xs ys l.tail (by simpa using h1) (by simpa using hk) (fun i hi => by
      have := h (i + 1) (by omega)
      cases l with
      | nil => simpa using this
      | cons z zs => simpa using this) (by simpa using he)
    rw [rowsO, h0]
    simp only [ih]

def mayP (k b c : Int) : Prop := 1 ≤ b ∧ b ≤ 257 ∧ ((k = 0 ∧ 2 ≤ c ∧ c ≤ 256) ∨ (k = 1 ∧ c = 0))
instance (k b c : Int) : Decidable (mayP k b c) := inferInstanceAs (Decidable (_ ∧ _))
def mayB (k b c : Int) : Bool := decide (mayP k b c)
def rightP (h : H) : Prop := mayP h.kind h.bins h.classes ∧
  ((h.kind = 0 ∧ (h.counts.length : Int) = h.bins * h.classes ∧ h.moms.length = 0) ∨ (¬ h.kind = 0 ∧ h.counts.length = 0 ∧ (h.moms.length : Int) = h.bins))
instance (h : H) : Decidable (rightP h) := inferInstanceAs (Decidable (_ ∧ _))
def rightB (h : H) : Bool := decide (rightP h)
def likeP (a b : H) : Prop := rightP a ∧ rightP b ∧ a.kind = b.kind ∧ a.bins = b.bins ∧ a.classes = b.classes
instance (a b : H) : Decidable (likeP a b) := inferInstanceAs (Decidable (_ ∧ _))
def bothO (op : Int → Int → Bool → Except Int Int) (a b : H) : Except Int H :=
  if likeP a b then
    match rowsO (fun x y => op x y false) a.counts b.counts with
    | .error e => .error e
    | .ok c => match rowsO (momO op) a.moms b.moms with
      | .error e => .error e
      | .ok m => .ok ⟨a.kind, a.bins, a.classes, c, m⟩
  else .error 8
/-- What comes behind an error, and the error's number. -/
def valO {α : Type} (d : α) : Except Int α → α
  | .ok x => x
  | .error _ => d
def errO {α : Type} : Except Int α → Int
  | .ok _ => 0
  | .error e => e
end Go.Proofs.Yteckbgpkoanhfaa.Hb
end

section
/- Small lemmas on worlds, rows and values that the walks use. -/
namespace Go.Proofs.Yteckbgpkoanhfaa.Hb
open Go.RowKit

/-- A row that is owned, laid open. -/
theorem own_open {w : World} {base : Nat} {e : TypeId} {size : Nat} {v : Value} {n : Nat} {xs : List Value} (h : w.ownsRow base e size v n xs) (hn : 0 < n) :
    ∃ g cap, v = .slice (some ⟨g, 0, none⟩) n cap ∧ n ≤ cap ∧ base ≤ g ∧ g < w.heap.size ∧ ∀ j u, xs[j]? = some u → w.cell? ⟨g, j, none⟩ = some u := by
  rcases h.2 with ⟨_, h0⟩ | ⟨g, cap, cur, rfl, hb, hgb, hcap, _⟩
  · omega
  · refine ⟨g, cap, rfl, by first | exact hcap | omega, hb, (Array.getElem?_eq_some_iff.1 hgb).1, fun j u hj => ?_⟩
    have := World.ownsRow.cells h (g := g) rfl j u hj
    rw [show (⟨g, 0, none⟩ : Addr).add j = ⟨g, j, none⟩ from by unfold Addr.add; split <;> simp_all] at this
    exact this
theorem own_zero {w : World} {base : Nat} {e : TypeId} {size : Nat} {v : Value} {xs : List Value} (h : w.ownsRow base e size v 0 xs) : ∃ a cap, v = .slice a 0 cap := by
  rcases h.2 with ⟨rfl, _⟩ | ⟨g, cap, cur, rfl, _⟩
  · exact ⟨_, _, rfl⟩
  · exact ⟨_, _, rfl⟩
theorem own_slice {w : World} {base : Nat} {e : TypeId} {size : Nat} {v : Value} {n : Nat} {xs : List Value} (h : w.ownsRow base e size v n xs) : ∃ a cap, v = .slice a n cap := by
  rcases h.2 with ⟨rfl, rfl⟩ | ⟨g, cap, cur, rfl, _⟩
  · exact ⟨_, _, rfl⟩
  · exact ⟨_, _, rfl⟩
/-- What is owned stays so behind a call. -/
theorem own_below {w w1 : World} {base : Nat} {e : TypeId} {size n : Nat} {v : Value} {xs : List Value} (h : w.ownsRow base e size v n xs) (hb : Below w.heap.size w w1) : w1.ownsRow base e size v n xs :=
  h.kept (row := none) ⟨hb.os, hb.tape, hb.output, hb.size, fun i hi _ => hb.block i hi⟩ (by
    rcases h.2 with ⟨rfl, _⟩ | ⟨g, cap, cur, rfl, _, hgb, _⟩
    · exact .inl rfl
    · exact .inr (by simp [Value.ownBlock]))

theorem own_drewN {w : World} {base : Nat} {e : TypeId} {size n : Nat} {v : Value} {xs : List Value} (h : w.ownsRow base e size v n xs) (k : Nat) : (w.drewN k).ownsRow base e size v n xs := h
/-- A block of cells, known whole. -/
def Blk (w : World) (g : Nat) (cs : Array Value) (t : TypeId) : Prop := w.heap[g]? = some (.cells cs t (0, 0))
theorem Blk.lt {w : World} {g : Nat} {cs : Array Value} {t : TypeId} (h : Blk w g cs t) : g < w.heap.size := (Array.getElem?_eq_some_iff.1 h).1
theorem Blk.cell {w : World} {g : Nat} {cs : Array Value} {t : TypeId} (h : Blk w g cs t) (i : Nat) : w.cell? ⟨g, i, none⟩ = cs[i]? := cell_of_row w g i cs t (0, 0) h
theorem Blk.frozen {w : World} {g : Nat} {cs : Array Value} {t : TypeId} (h : Blk w g cs t) (i : Nat) : w.frozen? ⟨g, i, none⟩ = false := by simp [World.frozen?, show w.heap[g]? = _ from h]
theorem Blk.new (w : World) (cs : Array Value) (t : TypeId) : Blk (w.alloc (.cells cs t)) w.heap.size cs t := World.alloc_heap_new w _
theorem Blk.below {w w1 : World} {g : Nat} {cs : Array Value} {t : TypeId} (h : Blk w g cs t) (hb : Below w.heap.size w w1) : Blk w1 g cs t := (hb.block g h.lt).trans h
theorem Blk.drewN {w : World} {g : Nat} {cs : Array Value} {t : TypeId} (h : Blk w g cs t) (n : Nat) : Blk (w.drewN n) g cs t := h
theorem Blk.set {w : World} {g : Nat} {cs : Array Value} {t : TypeId} (h : Blk w g cs t) (i : Nat) (u : Value) : Blk (w.setCell ⟨g, i, none⟩ u) g (cs.setIfInBounds i u) t := by
  obtain ⟨hlt, hk⟩ := Array.getElem?_eq_some_iff.1 h
  show (w.heap.modify g _)[g]? = _
  rw [Array.getElem?_eq_getElem (by rw [Array.size_modify]; exact hlt), Array.getElem_modify_self, hk]
  rfl
theorem Blk.other {w : World} {g : Nat} {cs : Array Value} {t : TypeId} (h : Blk w g cs t) {p : Addr} (hne : g ≠ p.block) (u : Value) : Blk (w.setCell p u) g cs t := (Below.heap_setCell w p u g hne).trans h

theorem Blk.cells5 {w : World} {g : Nat} {a b c d e : Value} {t : TypeId} (h : Blk w g #[a, b, c, d, e] t) :
    w.cell? ⟨g, 0, none⟩ = some a ∧ w.cell? ⟨g, 1, none⟩ = some b ∧ w.cell? ⟨g, 2, none⟩ = some c ∧ w.cell? ⟨g, 3, none⟩ = some d ∧ w.cell? ⟨g, 4, none⟩ = some e :=
  ⟨h.cell 0, h.cell 1, h.cell 2, h.cell 3, h.cell 4⟩
theorem Blk.cells1 {w : World} {g : Nat} {a : Value} {t : TypeId} (h : Blk w g #[a] t) : w.cell? ⟨g, 0, none⟩ = some a := h.cell 0
/-- Results that lie in memory beside another one. -/
theorem results_ct {P : Program} {fn : Func} {p u : Tmp} {ty : TypeId} (h : fn.results = #[.cell p ty, .tmp u]) (tmps : Array Value) (w : World) (g : Nat) (t : TypeId) (cs : Array Value) (d : TypeDesc)
    (hp : tmps.getD p undef = .pointer (some ⟨g, 0, none⟩)) (hg : Blk w g cs t)
    (hu : P.underlying ty = some d) (hd : (match d with | .struct _ | .array _ _ => true | _ => false) = true) (hi : (P.info? ty).map (·.size) = some cs.size) :
    (results fn tmps).run P w = .ok (.tuple #[.agg cs, tmps.getD u undef]) w := by
  have hp' : tmps[p]?.getD undef = .pointer (some ⟨g, 0, none⟩) := by simpa using hp
  simp [results, h, hp', asAddr, run_loadVar_row w g t ty cs (0, 0) d hg hu hd hi]

/-! '==' of two structs as one Bool. -/
section
variable {P : Program} {d : Nat} {xs ys : Array Value} {f : Field} {fs : List Field} {a b : Value} {r s : Bool} {w : World}
theorem eqf_nil : (Op.eqFields d xs ys []).run P w = .ok true w := by simp [Op.eqFields]
theorem eqf_cons (hn : (f.name == "_") = false) (ha : (part f.type xs f.offset).run P w = .ok a w) (hb : (part f.type ys f.offset).run P w = .ok b w) (he : (Op.equalIn d f.type a b).run P w = .ok r w)
    (hr : (Op.eqFields d xs ys fs).run P w = .ok s w) : (Op.eqFields d xs ys (f :: fs)).run P w = .ok (r && s) w := by
  have hn' : f.name ≠ "_" := by simpa using hn
  rw [Op.eqFields]
  simp only [if_pos hn', Sem.run_bind, ha, hb, he, Result.andThen_ok]
  cases r
  · simp
  · simpa using hr
theorem eqs_of {t : TypeId} {fs : Array Field} (hu : P.underlying t = some (.struct fs)) (hp : P.stoodInHeld t = false) (h : (Op.eqFields d xs ys fs.toList).run P w = .ok r w) : (Op.equalIn (d + 1) t (.agg xs) (.agg ys)).run P w = .ok r w := by
  have hf : P.fieldsOf t = fs := by simp [Program.fieldsOf, hu]
  rw [run_equalIn_struct (P := P) w d t xs ys (by rw [hf]; exact hu) hp, hf]
  exact h
end
end Go.Proofs.Yteckbgpkoanhfaa.Hb
end

section
/- The walks of layer prod: Plus, Minus, Product. -/
namespace Go.Proofs.Yteckbgpkoanhfaa.Hb
open Go.RowKit Go.Shelf

theorem pplus_any (a b : Int) (ha : inR a) (hb : inR b) (w : World) :
    Calls Try.prog 45 #[.int .i64 a, .int .i64 b] w fun e w' => e = .returned (res (lim (a + b))) ∧ w = w' := by
  obtain ⟨a1, a2⟩ := ha
  obtain ⟨b1, b2⟩ := hb
  by_cases h : inR (a + b)
  · rw [lim_in h]
    obtain ⟨h1, h2⟩ := h
    by_cases ca : a < 0 <;> by_cases cb : b < 0 <;> by_cases cs : a + b < 0 <;> first | (exfalso; omega) | skip
    all_goals
      first | have ca' : decide (a < 0) = true := decide_eq_true ca | have ca' : decide (a < 0) = false := decide_eq_false ca
      first | have cb' : decide (b < 0) = true := decide_eq_true cb | have cb' : decide (b < 0) = false := decide_eq_false cb
      first | have cs' : decide (a + b < 0) = true := decide_eq_true cs | have cs' : decide (a + b < 0) = false := decide_eq_false cs
      clear ca cb cs
      go_enter Try.func45, Try.ntmps45
      go_wp2
      go_ret2
      exact ⟨rfl, rfl⟩
  · rw [lim_out h]
    unfold inR at h
    by_cases ca : a < 0
    · have cb : b < 0 := by omega
      have cs : ¬ wrap64 (a + b) < 0 := by unfold wrap64; omega
      have ca' : decide (a < 0) = true := decide_eq_true ca
      have cb' : decide (b < 0) = true := decide_eq_true cb
      have cs' : decide (wrap64 (a + b) < 0) = false := decide_eq_false cs
      clear ca cb cs h
      go_enter Try.func45, Try.ntmps45
      go_wp2
      go_ret2
      exact ⟨rfl, rfl⟩
    · have cb : ¬ b < 0 := by omega
      have cs : wrap64 (a + b) < 0 := by unfold wrap64; omega
      have ca' : decide (a < 0) = false := decide_eq_false ca
      have cb' : decide (b < 0) = false := decide_eq_false cb
      have cs' : decide (wrap64 (a + b) < 0) = true := decide_eq_true cs
      clear ca cb cs h
      go_enter Try.func45, Try.ntmps45
      go_wp2
      go_ret2
      exact ⟨rfl, rfl⟩
theorem pminus_any (a b : Int) (ha : inR a) (hb : inR b) (w : World) :
    Calls Try.prog 76 #[.int .i64 a, .int .i64 b] w fun e w' => e = .returned (res (lim (a - b))) ∧ w = w' := by
  obtain ⟨a1, a2⟩ := ha
  obtain ⟨b1, b2⟩ := hb
  by_cases h : inR (a - b)
  · rw [lim_in h]
    obtain ⟨h1, h2⟩ := h
    by_cases ca : a < 0 <;> by_cases cb : b < 0 <;> by_cases cs : a - b < 0 <;> first | (exfalso; omega) | skip
    all_goals
      first | have ca' : decide (a < 0) = true := decide_eq_true ca | have ca' : decide (a < 0) = false := decide_eq_false ca
      first | have cb' : decide (b < 0) = true := decide_eq_true cb | have cb' : decide (b < 0) = false := decide_eq_false cb
      first | have cs' : decide (a - b < 0) = true := decide_eq_true cs | have cs' : decide (a - b < 0) = false := decide_eq_false cs
      clear ca cb cs
      go_enter Try.func76, Try.ntmps76
      go_wp2
      go_ret2
      exact ⟨rfl, rfl⟩
  · rw [lim_out h]
    unfold inR at h
    by_cases ca : a < 0
    · have cb : ¬ b < 0 := by omega
      have cs : ¬ wrap64 (a - b) < 0 := by unfold wrap64; omega
      have ca' : decide (a < 0) = true := decide_eq_true ca
      have cb' : decide (b < 0) = false := decide_eq_false cb
      have cs' : decide (wrap64 (a - b) < 0) = false := decide_eq_false cs
      clear ca cb cs h
      go_enter Try.func76, Try.ntmps76
      go_wp2
      go_ret2
      exact ⟨rfl, rfl⟩
    · have cb : b < 0 := by omega
      have cs : wrap64 (a - b) < 0 := by unfold wrap64; omega
      have ca' : decide (a < 0) = false := decide_eq_false ca
      have cb' : decide (b < 0) = true := decide_eq_true cb
      have cs' : decide (wrap64 (a - b) < 0) = true := decide_eq_true cs
      clear ca cb cs h
      go_enter Try.func76, Try.ntmps76
      go_wp2
      go_ret2
      exact ⟨rfl, rfl⟩

def lays264_ren : Go.Shelf.Ren := ⟨fun | 264 => 83 | n => n, fun | 53 => 110 | 46 => 131 | n => n, fun | n => n⟩
theorem lays264 : Go.Proofs.Lays.n264 Try.prog lays264_ren := {
  mixed := by kernel_rfl
  f264 := Try.func83.trans (congrArg some (by kernel_rfl))
  t46 := Try.underlying131
  a46 := Try.isAgg131
  z46 := Try.sizeOf131
  v46 := Try.zeroValue131
  t53 := Try.underlying110
  a53 := Try.isAgg110
  z53 := Try.sizeOf110
  v53 := Try.zeroValue110 }
theorem mul64_any (x y : Nat) (hx : x < 18446744073709551616) (hy : y < 18446744073709551616) (w : World) :
    Calls Try.prog 83 #[.int .u64 x, .int .u64 y] w fun e w' => e = .returned (.tuple #[.int .u64 ((x * y / 18446744073709551616 : Nat) : Int), .int .u64 ((x * y % 18446744073709551616 : Nat) : Int)]) ∧ w' = w := Any.bits_Mul64 lays264 x y hx hy w

theorem ret_u64 {a b : Int} (h : a = b) : Ending.returned (.int .u64 a) = .returned (.int .u64 b) := by rw [h]
theorem size_neg (a : Int) (h : -9223372036854775808 ≤ a) (c : a < 0) : IntKind.u64.wrap (-IntKind.u64.wrap a) = (a.natAbs : Int) := by
  simp [IntKind.wrap, IntKind.bits, IntKind.signed]; omega
theorem psize_any (a : Int) (ha : inR a) (w : World) :
    Calls Try.prog 81 #[.int .i64 a] w fun e w' => e = .returned (.int .u64 (a.natAbs : Int)) ∧ w = w' := by
  obtain ⟨a1, a2⟩ := ha
  by_cases c : a < 0
  · have c' : decide (a < 0) = true := decide_eq_true c
    go_enter Try.func81, Try.ntmps81
    go_wp2
    go_ret
    exact ⟨ret_u64 (size_neg a a1 c), rfl⟩
  · have c' : decide (a < 0) = false := decide_eq_false c
    go_enter Try.func81, Try.ntmps81
    go_wp2
    go_ret
    exact ⟨ret_u64 (by omega), rfl⟩

theorem pmul_any (x y hi lo : Nat) (hx : x < 18446744073709551616) (hy : y < 18446744073709551616) (hhi : hi = x * y / 18446744073709551616) (hlo : lo = x * y % 18446744073709551616) (w : World) :
    Calls Try.prog 80 #[.int .u64 x, .int .u64 y] w fun e w' => e = .returned (.agg #[.int .u64 hi, .int .u64 lo]) ∧ Below w.heap.size w w' := by
  have HH := Lib.hid hhi
  have HL := Lib.hid hlo
  clear hhi hlo
  go_enter Try.func80, Try.ntmps80
  go_wp2_with (go_at_call 83; refine (mul64_any x y hx hy _).mono ?_; rintro e w1 ⟨rfl, rfl⟩; rw [← HH.out, ← HL.out])
  exact bodyPost_ret (v := .agg #[.int .u64 hi, .int .u64 lo]) (by simp [results, Try.results80, go_sem]) rfl ⟨rfl, (Below.refl _ _).alloc (Nat.le_refl _) _⟩

theorem natAbs_le {a : Int} (h : inR a) : a.natAbs ≤ 9223372036854775808 := by unfold inR at h; omega
theorem lo_pos (lo : Nat) (h : (lo : Int) ≤ 9223372036854775807) : wrap64 (lo : Int) = lo := by unfold wrap64; omega
theorem lo_neg (lo : Nat) (h : (lo : Int) ≤ 9223372036854775808) : wrap64 (-wrap64 (lo : Int)) = -(lo : Int) := by unfold wrap64; omega

/-- What the product of the sizes tells of the product. -/
theorem prod_signs (a b : Int) : a * b = if (decide (a < 0) != decide (b < 0)) = true then -((a.natAbs * b.natAbs : Nat) : Int) else ((a.natAbs * b.natAbs : Nat) : Int) := by
  have e : ((a.natAbs * b.natAbs : Nat) : Int) = (a.natAbs : Int) * (b.natAbs : Int) := by simp
  rw [e]
  by_cases ca : a < 0 <;> by_cases cb : b < 0
  · rw [show (a.natAbs : Int) = -a from by omega, show (b.natAbs : Int) = -b from by omega, Int.neg_mul_neg]; simp [ca, cb]
  · rw [show (a.natAbs : Int) = -a from by omega, show (b.natAbs : Int) = b from by omega]; simp [ca, cb, Int.neg_mul]
  · rw [show (a.natAbs : Int) = a from by omega, show (b.natAbs : Int) = -b from by omega]; simp [ca, cb, Int.mul_neg]
  · rw [show (a.natAbs : Int) = a from by omega, show (b.natAbs : Int) = b from by omega]; simp [ca, cb]

theorem res_neg (lo : Nat) (h : (lo : Int) ≤ 9223372036854775808) : Value.tuple #[.int .i64 (wrap64 (-wrap64 (lo : Int))), .int .i64 0] = res (some (-(lo : Int))) := by rw [lo_neg lo h]; rfl

/-- The walk of Product, all of whose tests are decided. -/
def PProd (a b : Int) (v : Option Int) (w : World) : Prop := Calls Try.prog 66 #[.int .i64 a, .int .i64 b] w fun e w' => e = .returned (res v) ∧ Below w.heap.size w w'
section
variable (a b : Int) (ha : inR a) (hb : inR b) (sa sb : Bool) (h1 : decide (a < 0) = sa) (h2 : decide (b < 0) = sb) (hi lo : Nat)
  (HX : Hid (a.natAbs < 18446744073709551616)) (HY : Hid (b.natAbs < 18446744073709551616)) (HH : Hid (hi = a.natAbs * b.natAbs / 18446744073709551616)) (HL : Hid (lo = a.natAbs * b.natAbs % 18446744073709551616)) (w : World)
include ha hb h1 h2 HX HY HH HL
set_option maxHeartbeats 1000000 in
theorem pprod_hi (h0 : (((hi : Nat) : Int) != 0) = true) : PProd a b none w := by
  unfold PProd
  cases sa <;> cases sb
  all_goals
    go_enter Try.func66, Try.ntmps66
    go_wp2_with (first | (go_at_call 81; refine (psize_any _ (by assumption) _).mono ?_; rintro e w1 ⟨rfl, rfl⟩) | (go_at_call 80; refine (pmul_any _ _ hi lo HX.out HY.out HH.out HL.out _).mono ?_; rintro e w2 ⟨rfl, hb2⟩))
    go_ret2
    exact ⟨rfl, hb2.trans ((Below.refl _ _).alloc hb2.size _)⟩
set_option maxHeartbeats 1000000 in
theorem pprod_up (h0 : (((hi : Nat) : Int) != 0) = false) (hs : (sa == sb) = true) (hm : (lo : Int) ≤ 9223372036854775807) : PProd a b (some lo) w := by
  unfold PProd
  cases sa <;> cases sb <;> first | (exact absurd hs (by decide)) | skip
  all_goals
    clear hs
    go_enter Try.func66, Try.ntmps66
    go_wp2_with (first | (go_at_call 81; refine (psize_any _ (by assumption) _).mono ?_; rintro e w1 ⟨rfl, rfl⟩) | (go_at_call 80; refine (pmul_any _ _ hi lo HX.out HY.out HH.out HL.out _).mono ?_; rintro e w2 ⟨rfl, hb2⟩))
    go_ret2
    exact ⟨rfl, hb2.trans ((Below.refl _ _).alloc hb2.size _)⟩
set_option maxHeartbeats 1000000 in
theorem pprod_up_no (h0 : (((hi : Nat) : Int) != 0) = false) (hs : (sa == sb) = true) (hm : decide ((lo : Int) ≤ 9223372036854775807) = false) : PProd a b none w := by
  unfold PProd
  cases sa <;> cases sb <;> first | (exact absurd hs (by decide)) | skip
  all_goals
    clear hs
    go_enter Try.func66, Try.ntmps66
    go_wp2_with (first | (go_at_call 81; refine (psize_any _ (by assumption) _).mono ?_; rintro e w1 ⟨rfl, rfl⟩) | (go_at_call 80; refine (pmul_any _ _ hi lo HX.out HY.out HH.out HL.out _).mono ?_; rintro e w2 ⟨rfl, hb2⟩))
    go_ret2
    exact ⟨rfl, hb2.trans ((Below.refl _ _).alloc hb2.size _)⟩
set_option maxHeartbeats 1000000 in
theorem pprod_down (h0 : (((hi : Nat) : Int) != 0) = false) (hs : (sa == sb) = false) (hm : (lo : Int) ≤ 9223372036854775808) : PProd a b (some (-(lo : Int))) w := by
  unfold PProd
  rw [← res_neg lo hm]
  cases sa <;> cases sb <;> first | (exact absurd hs (by decide)) | skip
  all_goals
    clear hs
    go_enter Try.func66, Try.ntmps66
    go_wp2_with (first | (go_at_call 81; refine (psize_any _ (by assumption) _).mono ?_; rintro e w1 ⟨rfl, rfl⟩) | (go_at_call 80; refine (pmul_any _ _ hi lo HX.out HY.out HH.out HL.out _).mono ?_; rintro e w2 ⟨rfl, hb2⟩))
    go_ret2
    refine ⟨?_, hb2.trans ((Below.refl _ _).alloc hb2.size _)⟩
    first | rfl | (simp; done)
set_option maxHeartbeats 1000000 in
theorem pprod_down_no (h0 : (((hi : Nat) : Int) != 0) = false) (hs : (sa == sb) = false) (hm : decide ((lo : Int) ≤ 9223372036854775808) = false) : PProd a b none w := by
  unfold PProd
  cases sa <;> cases sb <;> first | (exact absurd hs (by decide)) | skip
  all_goals
    clear hs
    go_enter Try.func66, Try.ntmps66
    go_wp2_with (first | (go_at_call 81; refine (psize_any _ (by assumption) _).mono ?_; rintro e w1 ⟨rfl, rfl⟩) | (go_at_call 80; refine (pmul_any _ _ hi lo HX.out HY.out HH.out HL.out _).mono ?_; rintro e w2 ⟨rfl, hb2⟩))
    go_ret2
    exact ⟨rfl, hb2.trans ((Below.refl _ _).alloc hb2.size _)⟩
end

theorem pproduct_any (a b : Int) (ha : inR a) (hb : inR b) (w : World) : PProd a b (lim (a * b)) w := by
  have hs := prod_signs a b
  have hx := natAbs_le ha
  have hy := natAbs_le hb
  obtain ⟨hi, hhi⟩ : ∃ hi, hi = a.natAbs * b.natAbs / 18446744073709551616 := ⟨_, rfl⟩
  obtain ⟨lo, hlo⟩ : ∃ lo, lo = a.natAbs * b.natAbs % 18446744073709551616 := ⟨_, rfl⟩
  have hpm : a.natAbs * b.natAbs = hi * 18446744073709551616 + lo := by omega
  have HX : Hid (a.natAbs < 18446744073709551616) := Lib.hid (by omega)
  have HY : Hid (b.natAbs < 18446744073709551616) := Lib.hid (by omega)
  have HH := Lib.hid hhi
  have HL := Lib.hid hlo
  rw [hpm] at hs
  clear hx hy hhi hlo hpm
  obtain ⟨sa, h1⟩ : ∃ sa, decide (a < 0) = sa := ⟨_, rfl⟩
  obtain ⟨sb, h2⟩ : ∃ sb, decide (b < 0) = sb := ⟨_, rfl⟩
  rw [h1, h2] at hs
  have hsb : (sa != sb) = !(sa == sb) := rfl
  rw [hsb] at hs
  by_cases h0 : hi = 0
  · have h0' : (((hi : Nat) : Int) != 0) = false := by rw [h0]; rfl
    rw [h0, Nat.zero_mul, Nat.zero_add] at hs
    cases he : (sa == sb)
    · rw [he] at hs
      simp only [Bool.not_false, if_true] at hs
      by_cases hm : (lo : Int) ≤ 9223372036854775808
      · rw [show lim (a * b) = some (-(lo : Int)) from by rw [hs]; exact lim_in ⟨by omega, by omega⟩]
        exact pprod_down a b ha hb sa sb h1 h2 hi lo HX HY HH HL w h0' he hm
      · rw [show lim (a * b) = none from by rw [hs]; exact lim_out (fun h => by unfold inR at h; omega)]
        exact pprod_down_no a b ha hb sa sb h1 h2 hi lo HX HY HH HL w h0' he (decide_eq_false hm)
    · rw [he] at hs
      simp only [Bool.not_true, Bool.false_eq_true, if_false] at hs
      by_cases hm : (lo : Int) ≤ 9223372036854775807
      · rw [show lim (a * b) = some (lo : Int) from by rw [hs]; exact lim_in ⟨by omega, by omega⟩]
        exact pprod_up a b ha hb sa sb h1 h2 hi lo HX HY HH HL w h0' he hm
      · rw [show lim (a * b) = none from by rw [hs]; exact lim_out (fun h => by unfold inR at h; omega)]
        exact pprod_up_no a b ha hb sa sb h1 h2 hi lo HX HY HH HL w h0' he (decide_eq_false hm)
  · rw [show lim (a * b) = none from by rw [hs]; refine lim_out (fun h => ?_); unfold inR at h; split at h <;> omega]
    exact pprod_hi a b ha hb sa sb h1 h2 hi lo HX HY HH HL w (by rw [bne_iff_ne]; omega)
end Go.Proofs.Yteckbgpkoanhfaa.Hb
end

section
/- The walks of layer hist: numbers and moments made one; how a histogram is read. -/
namespace Go.Proofs.Yteckbgpkoanhfaa.Hb
open Go.RowKit

def intE (r : Except Int Int) : Value := .tuple #[.int .i64 (valO 0 r), .int .i64 (errO r)]
def momV (m : Mom) : Value := .agg #[.int .i64 m.c, .int .i64 m.s, .int .i64 m.q]
def momE (r : Except Int Mom) : Value := .tuple #[momV (valO m0 r), .int .i64 (errO r)]

/-- How two numbers are made one: of this program's functions f. -/
structure IsOp (f : Nat) (op : Int → Int → Bool → Except Int Int) : Prop where
  calls : ∀ (a b : Int) (sg : Bool) (w : World), inR a → inR b → Calls Try.prog f #[.int .i64 a, .int .i64 b, .bool sg] w fun e w' => e = .returned (intE (op a b sg)) ∧ w = w'
  ok : ∀ {a b x : Int} {sg : Bool}, op a b sg = .ok x → inR x
  f : ∀ args w, (callFunc f args).run Try.prog w = .ok (.enter f args) w
  err : ∀ {a b e : Int} {sg : Bool}, op a b sg = .error e → e = 5 ∨ e = 6

theorem opP_intE (a b : Int) (sg : Bool) : intE (opP a b sg) = res (lim (a + b)) := by
  unfold intE opP
  cases lim (a + b) <;> rfl
theorem plus_is : IsOp 48 opP where
  calls a b sg w ha hb := by
    rw [opP_intE]
    obtain ⟨x, y, hxy⟩ := res_form (lim (a + b))
    rw [hxy]
    have HXY := Lib.hid hxy
    clear hxy
    go_enter Try.func48, Try.ntmps48
    go_wp2_with (go_at_call 45; refine (pplus_any a b ha hb _).mono ?_; rintro e w1 ⟨rfl, rfl⟩; rw [HXY.out])
    go_ret2
    exact ⟨rfl, rfl⟩
  ok := opP_ok
  f := enters_of Try.func48 (by kernel_rfl) rfl
  err h := by
    unfold opP at h
    cases hl : lim (_ + _) with
    | none => rw [hl] at h; cases h; exact .inr rfl
    | some y => rw [hl] at h; cases h
theorem minus_is : IsOp 54 opM where
  calls a b sg w ha hb := by
    cases hl : lim (a - b) with
    | none =>
      rw [opM_none sg hl]
      have hp := pminus_any a b ha hb w
      rw [hl] at hp
      have HP := Lib.hid hp
      clear hp
      go_enter Try.func54, Try.ntmps54
      go_wp2_with (go_at_call 76; refine HP.out.mono ?_; rintro e w1 ⟨rfl, rfl⟩; simp only [res])
      go_ret2
      exact ⟨rfl, rfl⟩
    | some x =>
      have hp := pminus_any a b ha hb w
      rw [hl] at hp
      have HP := Lib.hid hp
      clear hp
      by_cases hx : x < 0
      · have hx' : decide (x < 0) = true := decide_eq_true hx
        cases sg
        · rw [opM_neg hl hx]
          clear hx hl
          go_enter Try.func54, Try.ntmps54
          go_wp2_with (go_at_call 76; refine HP.out.mono ?_; rintro e w1 ⟨rfl, rfl⟩; simp only [res])
          go_ret2
          exact ⟨rfl, rfl⟩
        · rw [opM_sg hl]
          clear hx hl
          go_enter Try.func54, Try.ntmps54
          go_wp2_with (go_at_call 76; refine HP.out.mono ?_; rintro e w1 ⟨rfl, rfl⟩; simp only [res])
          go_ret2
          exact ⟨rfl, rfl⟩
      · have hx' : decide (x < 0) = false := decide_eq_false hx
        rw [opM_pos sg hl hx]
        clear hx hl
        go_enter Try.func54, Try.ntmps54
        go_wp2_with (go_at_call 76; refine HP.out.mono ?_; rintro e w1 ⟨rfl, rfl⟩; simp only [res])
        go_ret2
        exact ⟨rfl, rfl⟩
  ok := opM_ok
  f := enters_of Try.func54 (by kernel_rfl) rfl
  err h := by
    unfold opM at h
    cases hl : lim (_ - _) with
    | none => rw [hl] at h; cases h; exact .inr rfl
    | some y =>
      rw [hl] at h
      simp only at h
      split at h
      · cases h; exact .inl rfl
      · cases h
end Go.Proofs.Yteckbgpkoanhfaa.Hb
end

section
/- The walks of layer hist: two moments made one; rows made one. -/
namespace Go.Proofs.Yteckbgpkoanhfaa.Hb
open Go.RowKit

def Mom.ok (m : Mom) : Prop := inR m.c ∧ inR m.s ∧ inR m.q
theorem momO_c {op : Int → Int → Bool → Except Int Int} {x y : Mom} {e : Int} (h : op x.c y.c false = .error e) : momO op x y = .error e := by unfold momO; rw [h]
theorem momO_s {op : Int → Int → Bool → Except Int Int} {x y : Mom} {c e : Int} (h : op x.c y.c false = .ok c) (h2 : op x.s y.s true = .error e) : momO op x y = .error e := by unfold momO; rw [h]; simp only [h2]
theorem momO_q {op : Int → Int → Bool → Except Int Int} {x y : Mom} {c s e : Int} (h : op x.c y.c false = .ok c) (h2 : op x.s y.s true = .ok s) (h3 : op x.q y.q false = .error e) : momO op x y = .error e := by unfold momO; rw [h]; simp only [h2, h3]
theorem momO_ok {op : Int → Int → Bool → Except Int Int} {x y : Mom} {c s q : Int} (h : op x.c y.c false = .ok c) (h2 : op x.s y.s true = .ok s) (h3 : op x.q y.q false = .ok q) : momO op x y = .ok ⟨c, s, q⟩ := by unfold momO; rw [h]; simp only [h2, h3]

set_option maxHeartbeats 1000000 in
theorem moments1_any (f : Nat) (op : Int → Int → Bool → Except Int Int) (hop : IsOp f op) (x y : Mom) (hx : x.ok) (hy : y.ok) (g : Nat) (w : World) (hc : w.cell? ⟨g, 0, none⟩ = some (.func (.func f) #[] #[])) :
    Calls Try.prog 67 #[.agg #[.int .i64 x.c, .int .i64 x.s, .int .i64 x.q], .agg #[.int .i64 y.c, .int .i64 y.s, .int .i64 y.q], .pointer (some ⟨g, 0, none⟩)] w fun e w' => e = .returned (momE (momO op x y)) ∧ Below w.heap.size w w' := by
  obtain ⟨x1, x2, x3⟩ := hx
  obtain ⟨y1, y2, y3⟩ := hy
  obtain ⟨c, s, q⟩ := x
  obtain ⟨c', s', q'⟩ := y
  have hg : g < w.heap.size := World.block_lt_of_cell? w _ hc
  have hg1 : g < w.heap.size + 1 := by omega
  have hg2 : g < w.heap.size + 1 + 1 := by omega
  have hg3 : g < w.heap.size + 1 + 1 + 1 := by omega
  have hf := hop.f
  have X1 := Lib.hid x1
  have Y1 := Lib.hid y1
  have X2 := Lib.hid x2
  have Y2 := Lib.hid y2
  have X3 := Lib.hid x3
  have Y3 := Lib.hid y3
  have e0 : ((0 : Int) != 0) = false := rfl
  simp only at X1 Y1 X2 Y2 X3 Y3 ⊢
  clear x1 x2 x3 y1 y2 y3
  cases h1 : op c c' false with
  | error e1 =>
    have k1 := hop.calls c c' false
    rw [h1] at k1
    have K1 := Lib.hid k1
    rw [momO_c (by exact h1)]
    have ee : (e1 != 0) = true := by rcases hop.err h1 with rfl | rfl <;> rfl
    clear k1 h1
    go_enter Try.func67, Try.ntmps67
    go_wp2_with fail
    refine (K1.out _ X1.out Y1.out).mono ?_
    rintro e w1 ⟨rfl, rfl⟩
    simp only [intE, valO, errO]
    go_wp2
    exact bodyPost_ret (v := .tuple #[.agg #[.int .i64 0, .int .i64 0, .int .i64 0], .int .i64 e1]) (by simp [results, Try.results67, go_sem]) rfl ⟨rfl, (by repeat (first | exact Below.refl _ _ | refine Below.alloc ?_ (by first | exact Nat.le_refl _ | (simp; done) | (simp; omega)) _))⟩
  | ok c1 =>
  have k1 := hop.calls c c' false
  rw [h1] at k1
  have K1 := Lib.hid k1
  cases h2 : op s s' true with
  | error e1 =>
    have k2 := hop.calls s s' true
    rw [h2] at k2
    have K2 := Lib.hid k2
    rw [momO_s (by exact h1) (by exact h2)]
    have ee : (e1 != 0) = true := by rcases hop.err h2 with rfl | rfl <;> rfl
    clear k1 h1 k2 h2
    go_enter Try.func67, Try.ntmps67
    go_wp2_with fail
    refine (K1.out _ X1.out Y1.out).mono ?_
    rintro e w1 ⟨rfl, rfl⟩
    simp only [intE, valO, errO]
    go_wp2_with fail
    refine (K2.out _ X2.out Y2.out).mono ?_
    rintro e w1 ⟨rfl, rfl⟩
    simp only [intE, valO, errO]
    go_wp2
    exact bodyPost_ret (v := .tuple #[.agg #[.int .i64 0, .int .i64 0, .int .i64 0], .int .i64 e1]) (by simp [results, Try.results67, go_sem]) rfl ⟨rfl, (by repeat (first | exact Below.refl _ _ | refine Below.alloc ?_ (by first | exact Nat.le_refl _ | (simp; done) | (simp; omega)) _))⟩
  | ok s1 =>
  have k2 := hop.calls s s' true
  rw [h2] at k2
  have K2 := Lib.hid k2
  cases h3 : op q q' false with
  | error e1 =>
    have k3 := hop.calls q q' false
    rw [h3] at k3
    have K3 := Lib.hid k3
    rw [momO_q (by exact h1) (by exact h2) (by exact h3)]
    have ee : (e1 != 0) = true := by rcases hop.err h3 with rfl | rfl <;> rfl
    clear k1 h1 k2 h2 k3 h3
    go_enter Try.func67, Try.ntmps67
    go_wp2_with fail
    refine (K1.out _ X1.out Y1.out).mono ?_
    rintro e w1 ⟨rfl, rfl⟩
    simp only [intE, valO, errO]
    go_wp2_with fail
    refine (K2.out _ X2.out Y2.out).mono ?_
    rintro e w1 ⟨rfl, rfl⟩
    simp only [intE, valO, errO]
    go_wp2_with fail
    refine (K3.out _ X3.out Y3.out).mono ?_
    rintro e w1 ⟨rfl, rfl⟩
    simp only [intE, valO, errO]
    go_wp2
    exact bodyPost_ret (v := .tuple #[.agg #[.int .i64 0, .int .i64 0, .int .i64 0], .int .i64 e1]) (by simp [results, Try.results67, go_sem]) rfl ⟨rfl, (by repeat (first | exact Below.refl _ _ | refine Below.alloc ?_ (by first | exact Nat.le_refl _ | (simp; done) | (simp; omega)) _))⟩
  | ok q1 =>
    have k3 := hop.calls q q' false
    rw [h3] at k3
    have K3 := Lib.hid k3
    rw [momO_ok (by exact h1) (by exact h2) (by exact h3)]
    clear k1 h1 k2 h2 k3 h3
    go_enter Try.func67, Try.ntmps67
    go_wp2_with fail
    refine (K1.out _ X1.out Y1.out).mono ?_
    rintro e w1 ⟨rfl, rfl⟩
    simp only [intE, valO, errO]
    go_wp2_with fail
    refine (K2.out _ X2.out Y2.out).mono ?_
    rintro e w1 ⟨rfl, rfl⟩
    simp only [intE, valO, errO]
    go_wp2_with fail
    refine (K3.out _ X3.out Y3.out).mono ?_
    rintro e w1 ⟨rfl, rfl⟩
    simp only [intE, valO, errO]
    go_wp2
    exact bodyPost_ret (v := .tuple #[.agg #[.int .i64 c1, .int .i64 s1, .int .i64 q1], .int .i64 0]) (by simp [results, Try.results67, go_sem]) rfl ⟨rfl, (by repeat (first | exact Below.refl _ _ | refine Below.alloc ?_ (by first | exact Nat.le_refl _ | (simp; done) | (simp; omega)) _))⟩
end Go.Proofs.Yteckbgpkoanhfaa.Hb
end

section
/- The walks of layer hist: rows made one. -/
namespace Go.Proofs.Yteckbgpkoanhfaa.Hb
open Go.RowKit

/-- A slice of numbers, read. -/
def RdI (w : World) (A : Option Addr) (l : List Int) : Prop := (∀ x ∈ l, inR x) ∧ (l = [] ∨ ∃ ad, A = some ad ∧ ∀ i, i < l.length → w.cell? (ad.add i) = some (.int .i64 (l.getD i 0)))
theorem RdI.below {w w1 : World} {A : Option Addr} {l : List Int} (h : RdI w A l) (hb : Below w.heap.size w w1) : RdI w1 A l :=
  ⟨h.1, h.2.imp id fun ⟨ad, e, hc⟩ => ⟨ad, e, fun i hi => (hb.cell (World.block_lt_of_cell? w _ (hc i hi))).trans (hc i hi)⟩⟩
theorem RdI.at {w : World} {A : Option Addr} {l : List Int} (h : RdI w A l) {k : Nat} (hk : k < l.length) : ∃ ad, A = some ad ∧ ∀ i, i < l.length → w.cell? (ad.add i) = some (.int .i64 (l.getD i 0)) := by
  rcases h.2 with rfl | h
  · simp at hk
  · exact h
theorem RdI.inR {w : World} {A : Option Addr} {l : List Int} (h : RdI w A l) {k : Nat} (hk : k < l.length) : Hb.inR (l.getD k 0) := by
  rw [List.getD_eq_getElem?_getD, List.getElem?_eq_getElem hk]
  exact h.1 _ (List.getElem_mem hk)
/-- A slice of moments, read. -/
def mAt (l : List Mom) (i : Nat) : Mom := l.getD i m0
def RdM (w : World) (A : Option Addr) (l : List Mom) : Prop := (∀ x ∈ l, x.ok) ∧ (l = [] ∨ ∃ ad : Addr, A = some ad ∧ ∀ i, i < l.length →
  w.cell? (ad.add (i * 3)) = some (.int .i64 (mAt l i).c) ∧ w.cell? ⟨(ad.add (i * 3)).block, (ad.add (i * 3)).off + 1, none⟩ = some (.int .i64 (mAt l i).s) ∧ w.cell? ⟨(ad.add (i * 3)).block, (ad.add (i * 3)).off + 2, none⟩ = some (.int .i64 (mAt l i).q))
theorem RdM.below {w w1 : World} {A : Option Addr} {l : List Mom} (h : RdM w A l) (hb : Below w.heap.size w w1) : RdM w1 A l :=
  ⟨h.1, h.2.imp id fun ⟨ad, e, hc⟩ => ⟨ad, e, fun i hi => by
    obtain ⟨c1, c2, c3⟩ := hc i hi
    exact ⟨(hb.cell (World.block_lt_of_cell? w _ c1)).trans c1, (hb.cell (World.block_lt_of_cell? w _ c2)).trans c2, (hb.cell (World.block_lt_of_cell? w _ c3)).trans c3⟩⟩⟩
theorem RdM.at {w : World} {A : Option Addr} {l : List Mom} (h : RdM w A l) {k : Nat} (hk : k < l.length) : ∃ ad : Addr, A = some ad ∧ ∀ i, i < l.length →
  w.cell? (ad.add (i * 3)) = some (.int .i64 (mAt l i).c) ∧ w.cell? ⟨(ad.add (i * 3)).block, (ad.add (i * 3)).off + 1, none⟩ = some (.int .i64 (mAt l i).s) ∧ w.cell? ⟨(ad.add (i * 3)).block, (ad.add (i * 3)).off + 2, none⟩ = some (.int .i64 (mAt l i).q) := by
  rcases h.2 with rfl | h
  · simp at hk
  · exact h
theorem RdM.okAt {w : World} {A : Option Addr} {l : List Mom} (h : RdM w A l) {k : Nat} (hk : k < l.length) : (mAt l k).ok := by
  unfold mAt
  rw [List.getD_eq_getElem?_getD, List.getElem?_eq_getElem hk]
  exact h.1 _ (List.getElem_mem hk)

theorem both1_any (f : Nat) (op : Int → Int → Bool → Except Int Int) (hop : IsOp f op) (x y : Int) (hx : inR x) (hy : inR y) (g : Nat) (w : World) (hc : w.cell? ⟨g, 0, none⟩ = some (.func (.func f) #[] #[])) :
    Calls Try.prog 74 #[.int .i64 x, .int .i64 y, .pointer (some ⟨g, 0, none⟩)] w fun e w' => e = .returned (intE (op x y false)) ∧ w = w' := by
  have hf := hop.f
  have k1 := hop.calls x y false w hx hy
  obtain ⟨a, b, hab⟩ : ∃ a b, intE (op x y false) = .tuple #[.int .i64 a, .int .i64 b] := ⟨_, _, rfl⟩
  rw [hab] at k1 ⊢
  have K1 := Lib.hid k1
  clear k1 hab hx hy
  go_enter Try.func74, Try.ntmps74
  go_wp2_with fail
  refine K1.out.mono ?_
  rintro e w1 ⟨rfl, rfl⟩
  go_wp2
  go_ret2
  exact ⟨rfl, rfl⟩

theorem info_i64 : (Try.prog.info? 2).map (fun i => (i.zero, i.size, i.bytes)) = some (some (.int .i64 0), 1, 8) := by kernel_rfl
def ints (l : List Int) : List Value := l.map (Value.int .i64)
theorem getD_snoc {l : List Int} {x : Int} {i : Nat} (h : i < l.length) : (l ++ [x]).getD i 0 = l.getD i 0 := by
  rw [List.getD_eq_getElem?_getD, List.getElem?_append_left h, List.getD_eq_getElem?_getD]
theorem getD_last {l : List Int} {x : Int} : (l ++ [x]).getD l.length 0 = x := by simp [List.getD_eq_getElem?_getD]

/-- What a row made of two comes to. -/
def RowsI (r : Except Int (List Int)) (w : World) (e : Ending) (w' : World) : Prop :=
  ∃ v, e = .returned (.tuple #[v, .int .i64 (errO r)]) ∧ w'.ownsRow w.heap.size 2 1 v (valO [] r).length (ints (valO [] r)) ∧ Below w.heap.size w w'

set_option maxRecDepth 100000 in
set_option maxHeartbeats 2000000 in
theorem rowsI_any (f : Nat) (op : Int → Int → Bool → Except Int Int) (hop : IsOp f op) (a b : List Int) (A1 A2 : Option Addr) (c1 c2 g : Nat) (hab : a.length ≤ b.length) (hm : a.length ≤ 17592186044416) (w : World) (h1 : RdI w A1 a) (h2 : RdI w A2 b) (hc : w.cell? ⟨g, 0, none⟩ = some (.func (.func f) #[] #[])) :
    Calls Try.prog 73 #[.slice A1 a.length c1, .slice A2 b.length c2, .func (.func 74) #[] #[.pointer (some ⟨g, 0, none⟩)]] w (RowsI (rowsO (fun x y => op x y false) a b) w) := by
  obtain ⟨i0, hi, hz0, hz1, hz2⟩ := info_parts info_i64
  obtain ⟨n, hn⟩ : ∃ n, a.length = n := ⟨_, rfl⟩
  obtain ⟨m, hmm⟩ : ∃ m, b.length = m := ⟨_, rfl⟩
  rw [hn, hmm] at hab
  rw [hn] at hm
  have HN := Lib.hid hn
  have HM := Lib.hid hmm
  rw [hn, hmm]
  clear hn hmm
  have HR1 := Lib.hid h1
  have HR2 := Lib.hid h2
  have HC := Lib.hid hc
  clear h1 h2 hc
  go_enter Try.func73, Try.ntmps73
  go_wp2
  go_loopw [8, 15] (fun o iv wr => ∃ (k : Nat) (l : List Int), k ≤ n ∧ iv = .int .i64 k ∧ Hid (l.length = k) ∧ Hid (∀ i, i < k → op (a.getD i 0) (b.getD i 0) false = .ok (l.getD i 0)) ∧ wr.ownsRow w.heap.size 2 1 o k (ints l) ∧ Below w.heap.size w wr) (fun _ iv _ => n - (intOf iv).toNat)
  case atStart => exact ⟨0, [], Nat.zero_le _, rfl, Lib.hid rfl, Lib.hid (fun i hi => by omega), World.ownsRow_nil _ _ _ _, Below.refl _ _⟩
  case round =>
    obtain ⟨k, l, hk, rfl, HL, HK, hrow, hB⟩ := hrel
    have hBs := hB.size
    by_cases hlt : k < n
    · have ha := (HR1.out.below hB).at (k := k) (by rw [HN.out]; exact hlt)
      obtain ⟨ad1, rfl, ha⟩ := ha
      have hb := (HR2.out.below hB).at (k := k) (by rw [HM.out]; omega)
      obtain ⟨ad2, rfl, hb⟩ := hb
      have x1 := ha k (by rw [HN.out]; exact hlt)
      have x2 := hb k (by rw [HM.out]; omega)
      have i1 := HR1.out.inR (k := k) (by rw [HN.out]; exact hlt)
      have i2 := HR2.out.inR (k := k) (by rw [HM.out]; omega)
      have hkm : k < m := by omega
      have hg := (hB.cell (World.block_lt_of_cell? w _ HC.out)).trans HC.out
      have kc := both1_any f op hop _ _ i1 i2 g wr hg
      obtain ⟨u, hu⟩ : ∃ u, a.getD k 0 = u := ⟨_, rfl⟩
      obtain ⟨u', hu'⟩ : ∃ u', b.getD k 0 = u' := ⟨_, rfl⟩
      rw [hu] at x1
      rw [hu'] at x2
      rw [hu, hu'] at kc
      clear ha hb i1 i2 hg
      cases hop1 : op u u' false with
      | error e1 =>
        rw [hop1] at kc
        have KC := Lib.hid kc
        have ee : (e1 != 0) = true := by rcases hop.err hop1 with rfl | rfl <;> rfl
        have HF := Lib.hid (rows_err (op := fun x y => op x y false) 0 e1 k a b l (by rw [HN.out, HM.out]; exact hab) (by rw [HN.out]; exact hlt) HK.out (by rw [hu, hu']; exact hop1))
        clear kc hop1 hu hu'
        go_wp2_with (go_at_call 74; refine KC.out.mono ?_; rintro e w1 ⟨rfl, rfl⟩; simp only [intE, valO, errO])
        go_ret2
        refine ⟨.slice none 0 0, ?_, ?_, hB⟩
        · rw [HF.out]; rfl
        · rw [HF.out]; exact World.ownsRow_nil _ _ _ _
      | ok z =>
        rw [hop1] at kc
        have KC := Lib.hid kc
        have HK' : Hid (∀ i, i < k + 1 → op (a.getD i 0) (b.getD i 0) false = .ok ((l ++ [z]).getD i 0)) := Lib.hid (fun i hi => by
          by_cases e : i = k
          · subst e
            rw [hu, hu', hop1]
            have := HL.out
            conv => rhs; rw [show i = l.length from this.symm, getD_last]
          · rw [getD_snoc (by rw [HL.out]; omega)]
            exact HK.out i (by omega))
        have HL' : Hid ((l ++ [z]).length = k + 1) := Lib.hid (by simp [HL.out])
        have e0 : ((0 : Int) != 0) = false := rfl
        clear kc hop1 hu hu'
        go_wp2_with (first | (go_at_call 74; refine KC.out.mono ?_; rintro e w1 ⟨rfl, rfl⟩; simp only [intE, valO, errO]) | (at_builtin; refine wpList_append_own _ rfl _ _ 33 rfl w.heap.size 2 i0 (.int .i64 0) 1 8 Try.underlying33 hi hz0 hz1 hz2 rfl (by decide) _ _ _ rfl (hrow.alloc _) ⟨wr.heap.size, 0, none⟩ 1 1 [.int .i64 z] rfl rfl (cell_one_new _ _ _) (by simp [Value.oneCell']) (by unfold maxLen; omega) (by omega) (by simp; omega) ?_; intro v' w1 hown' hgrow _))
        go_roundw
        case rel => exact ⟨k + 1, l ++ [z], hlt, by go_num, HL', HK', by rw [ints, List.map_append]; exact hown', (hB.alloc hBs _).grown hgrow (by simp; omega) (fun j e => (hrow.lt j e).1)⟩
        case measure => simp [intOf]; omega
    · obtain rfl : k = n := by omega
      have HF := Lib.hid (rows_ok (op := fun x y => op x y false) 0 a b l (by rw [HN.out, HM.out]; exact hab) (by rw [HN.out, HL.out]) (by rw [HN.out]; exact HK.out))
      clear hlt
      go_wp2
      go_ret2
      refine ⟨u8, ?_, ?_, hB⟩
      · rw [HF.out]; rfl
      · rw [HF.out]
        show wr.ownsRow _ _ _ _ l.length (ints l)
        rw [HL.out]; exact hrow
end Go.Proofs.Yteckbgpkoanhfaa.Hb
end

section
/- The walks of layer hist: rows of moments made one. -/
namespace Go.Proofs.Yteckbgpkoanhfaa.Hb
open Go.RowKit

theorem info_mom : (Try.prog.info? 52).map (fun i => (i.zero, i.size, i.bytes)) = some (some (.agg #[(.int .i64 0), (.int .i64 0), (.int .i64 0)]), 3, 24) := by kernel_rfl
def momC (l : List Mom) : List Value := l.flatMap fun m => [.int .i64 m.c, .int .i64 m.s, .int .i64 m.q]
theorem momC_snoc (l : List Mom) (m : Mom) : momC (l ++ [m]) = momC l ++ [.int .i64 m.c, .int .i64 m.s, .int .i64 m.q] := by simp [momC]
theorem momO_err {op : Int → Int → Bool → Except Int Int} {f : Nat} (hop : IsOp f op) {x y : Mom} {e : Int} (h : momO op x y = .error e) : (e != 0) = true := by
  unfold momO at h
  cases h1 : op x.c y.c false with
  | error e1 => rw [h1] at h; cases h; rcases hop.err h1 with rfl | rfl <;> rfl
  | ok c =>
    rw [h1] at h; simp only at h
    cases h2 : op x.s y.s true with
    | error e1 => rw [h2] at h; cases h; rcases hop.err h2 with rfl | rfl <;> rfl
    | ok s =>
      rw [h2] at h; simp only at h
      cases h3 : op x.q y.q false with
      | error e1 => rw [h3] at h; cases h; rcases hop.err h3 with rfl | rfl <;> rfl
      | ok q => rw [h3] at h; cases h
theorem mAt_snoc {l : List Mom} {x : Mom} {i : Nat} (h : i < l.length) : mAt (l ++ [x]) i = mAt l i := by
  unfold mAt; rw [List.getD_eq_getElem?_getD, List.getElem?_append_left h, List.getD_eq_getElem?_getD]
theorem mAt_last {l : List Mom} {x : Mom} : mAt (l ++ [x]) l.length = x := by simp [mAt, List.getD_eq_getElem?_getD]

/-- What a row made of two comes to. -/
def RowsM (r : Except Int (List Mom)) (w : World) (e : Ending) (w' : World) : Prop :=
  ∃ v, e = .returned (.tuple #[v, .int .i64 (errO r)]) ∧ w'.ownsRow w.heap.size 52 3 v (valO [] r).length (momC (valO [] r)) ∧ Below w.heap.size w w'

theorem bcell {W w1 : World} (hb : Below W.heap.size W w1) : (∀ b o, b < W.heap.size → w1.cell? ⟨b, o, none⟩ = W.cell? ⟨b, o, none⟩) ∧ (∀ b o, b < W.heap.size → w1.frozen? ⟨b, o, none⟩ = W.frozen? ⟨b, o, none⟩) :=
  ⟨fun b o h => hb.cell (p := ⟨b, o, none⟩) h, fun b o h => hb.frozen (p := ⟨b, o, none⟩) h⟩
theorem keepc {W W' : World} {a : Addr} {v : Value} (hb : Below W.heap.size W W') (h : W.cell? a = some v) : W'.cell? a = some v := (hb.cell (World.block_lt_of_cell? W a h)).trans h
theorem cell_three_new (w : World) (a b c : Value) (t : TypeId) : ∀ j u, [a, b, c][j]? = some u → (w.alloc (.cells #[a, b, c] t)).cell? ((⟨w.heap.size, 0, none⟩ : Addr).add j) = some u := by
  intro j u hj
  match j, hj with
  | 0, hj => simp at hj; subst hj; simp [Addr.add]
  | 1, hj => simp at hj; subst hj; simp [Addr.add]
  | 2, hj => simp at hj; subst hj; simp [Addr.add]
  | j + 3, hj => simp at hj
theorem relA {wr w1 : World} {X : Obj} {t : TypeId} (z0 z1 z2 a b c : Value) (hb : Below ((wr.alloc X).alloc (.cells #[z0, z1, z2] t)).drew.heap.size ((wr.alloc X).alloc (.cells #[z0, z1, z2] t)).drew w1) :
    Blk (((w1.setCell ⟨wr.heap.size + 1, 0, none⟩ a).setCell ⟨wr.heap.size + 1, 1, none⟩ b).setCell ⟨wr.heap.size + 1, 2, none⟩ c) (wr.heap.size + 1) #[a, b, c] t ∧ wr.heap.size ≤ wr.heap.size + 1 ∧
    Below wr.heap.size wr (((w1.setCell ⟨wr.heap.size + 1, 0, none⟩ a).setCell ⟨wr.heap.size + 1, 1, none⟩ b).setCell ⟨wr.heap.size + 1, 2, none⟩ c) := by
  have h0 : Blk ((wr.alloc X).alloc (.cells #[z0, z1, z2] t)).drew (wr.heap.size + 1) #[z0, z1, z2] t := by
    have := Blk.new (wr.alloc X) #[z0, z1, z2] t
    rw [World.size_alloc] at this
    exact this
  have h1 := (((h0.below hb).set 0 a).set 1 b).set 2 c
  have e : (((#[z0, z1, z2] : Array Value).setIfInBounds 0 a).setIfInBounds 1 b).setIfInBounds 2 c = #[a, b, c] := rfl
  rw [e] at h1
  have h2 : Below wr.heap.size wr ((wr.alloc X).alloc (.cells #[z0, z1, z2] t)).drew := (((Below.refl _ wr).alloc (Nat.le_refl _) _).alloc (by simp) _).drew
  exact ⟨h1, by omega, (((h2.trans (hb.mono h2.size)).setCell (p := ⟨wr.heap.size + 1, 0, none⟩) (by show wr.heap.size ≤ wr.heap.size + 1; omega) _).setCell (p := ⟨wr.heap.size + 1, 1, none⟩) (by show wr.heap.size ≤ wr.heap.size + 1; omega) _).setCell (p := ⟨wr.heap.size + 1, 2, none⟩) (by show wr.heap.size ≤ wr.heap.size + 1; omega) _⟩
theorem relB {wr w1 : World} {X : Obj} {t : TypeId} (a b c : Value) (hb : Below (wr.alloc X).drew.heap.size (wr.alloc X).drew w1) :
    Blk (w1.alloc (.cells #[a, b, c] t)) w1.heap.size #[a, b, c] t ∧ wr.heap.size ≤ w1.heap.size ∧ Below wr.heap.size wr (w1.alloc (.cells #[a, b, c] t)) := by
  have h2 : Below wr.heap.size wr (wr.alloc X).drew := ((Below.refl _ wr).alloc (Nat.le_refl _) _).drew
  have h3 := h2.trans (hb.mono h2.size)
  exact ⟨Blk.new _ _ _, h3.size, h3.alloc h3.size _⟩

set_option maxRecDepth 100000 in
set_option maxHeartbeats 2000000 in
theorem rowsM_any (f : Nat) (op : Int → Int → Bool → Except Int Int) (hop : IsOp f op) (a b : List Mom) (A1 A2 : Option Addr) (c1 c2 g : Nat) (hab : a.length ≤ b.length) (hm : a.length ≤ 1099511627776) (w : World) (h1 : RdM w A1 a) (h2 : RdM w A2 b) (hc : w.cell? ⟨g, 0, none⟩ = some (.func (.func f) #[] #[])) :
    Calls Try.prog 75 #[.slice A1 a.length c1, .slice A2 b.length c2, .func (.func 67) #[] #[.pointer (some ⟨g, 0, none⟩)]] w (RowsM (rowsO (momO op) a b) w) := by
  obtain ⟨i0, hi, hz0, hz1, hz2⟩ := info_parts info_mom
  obtain ⟨n, hn⟩ : ∃ n, a.length = n := ⟨_, rfl⟩
  obtain ⟨m, hmm⟩ : ∃ m, b.length = m := ⟨_, rfl⟩
  rw [hn, hmm] at hab
  rw [hn] at hm
  have HN := Lib.hid hn
  have HM := Lib.hid hmm
  rw [hn, hmm]
  clear hn hmm
  have HR1 := Lib.hid h1
  have HR2 := Lib.hid h2
  have HC := Lib.hid hc
  clear h1 h2 hc
  go_enter Try.func75, Try.ntmps75
  go_wp2
  go_loopw [8, 15] (fun o iv wr => ∃ (k : Nat) (l : List Mom), k ≤ n ∧ iv = .int .i64 k ∧ Hid (l.length = k) ∧ Hid (∀ i, i < k → momO op (mAt a i) (mAt b i) = .ok (mAt l i)) ∧ wr.ownsRow w.heap.size 52 3 o k (momC l) ∧ Below w.heap.size w wr) (fun _ iv _ => n - (intOf iv).toNat)
  case atStart => exact ⟨0, [], Nat.zero_le _, rfl, Lib.hid rfl, Lib.hid (fun i hi => by omega), World.ownsRow_nil _ _ _ _, Below.refl _ _⟩
  case round =>
    obtain ⟨k, l, hk, rfl, HL, HK, hrow, hB⟩ := hrel
    have hBs := hB.size
    by_cases hlt : k < n
    · have ha := (HR1.out.below hB).at (k := k) (by rw [HN.out]; exact hlt)
      obtain ⟨ad1, rfl, ha⟩ := ha
      have hb := (HR2.out.below hB).at (k := k) (by rw [HM.out]; omega)
      obtain ⟨ad2, rfl, hb⟩ := hb
      obtain ⟨x1, x2, x3⟩ := ha k (by rw [HN.out]; exact hlt)
      obtain ⟨y1, y2, y3⟩ := hb k (by rw [HM.out]; omega)
      have i1 := HR1.out.okAt (k := k) (by rw [HN.out]; exact hlt)
      have i2 := HR2.out.okAt (k := k) (by rw [HM.out]; omega)
      have hkm : k < m := by omega
      have hg := (hB.cell (World.block_lt_of_cell? w _ HC.out)).trans HC.out
      obtain ⟨u, hu⟩ : ∃ u, mAt a k = u := ⟨_, rfl⟩
      obtain ⟨u', hu'⟩ : ∃ u', mAt b k = u' := ⟨_, rfl⟩
      rw [hu] at x1 x2 x3 i1
      rw [hu'] at y1 y2 y3 i2
      have KC := Lib.hid (fun (W : World) (hW : W.cell? ⟨g, 0, none⟩ = some (.func (.func f) #[] #[])) => moments1_any f op hop u u' i1 i2 g W hW)
      clear ha hb i1 i2
      obtain ⟨z1, z2, z3, z4, hz⟩ : ∃ z1 z2 z3 z4, momE (momO op u u') = .tuple #[.agg #[.int .i64 z1, .int .i64 z2, .int .i64 z3], .int .i64 z4] := ⟨_, _, _, _, rfl⟩
      have HZ := Lib.hid hz
      have HU := Lib.hid hu
      have HU' := Lib.hid hu'
      clear hz hu hu'
      have ad2l : (ad2.add (k * 3)).block < wr.heap.size := World.block_lt_of_cell? wr _ y1
      have gl : g < wr.heap.size := World.block_lt_of_cell? wr _ hg
      have n1 : (ad2.add (k * 3)).block ≠ wr.heap.size + 1 := by omega
      have n2 : wr.heap.size + 1 ≠ (ad2.add (k * 3)).block := by omega
      have n3 : g ≠ wr.heap.size + 1 := by omega
      have n4 : wr.heap.size + 1 ≠ g := by omega
      go_upto_region 5 with (fail)
      go_cut [11, 12] (fun p ev wc => ∃ B, p = .pointer (some ⟨B, 0, none⟩) ∧ ev = .int .i64 z4 ∧ Blk wc B #[.int .i64 z1, .int .i64 z2, .int .i64 z3] 52 ∧ wr.heap.size ≤ B ∧ Below wr.heap.size wr wc)
      case first =>
        go_region_held3 (fun W => W.cell? ⟨wr.heap.size, 0, none⟩ = some (.int .i64 u.c) ∧ W.cell? ⟨wr.heap.size, 1, none⟩ = some (.int .i64 u.s) ∧ W.cell? ⟨wr.heap.size, 2, none⟩ = some (.int .i64 u.q) ∧ W.cell? (ad2.add (k * 3)) = some (.int .i64 u'.c) ∧ W.cell? ⟨(ad2.add (k * 3)).block, (ad2.add (k * 3)).off + 1, none⟩ = some (.int .i64 u'.s) ∧ W.cell? ⟨(ad2.add (k * 3)).block, (ad2.add (k * 3)).off + 2, none⟩ = some (.int .i64 u'.q) ∧ W.cell? ⟨g, 0, none⟩ = some (.func (.func f) #[] #[])) (go_keep)
          (first | (go_at_call 67; refine (KC.out _ (by simp [*])).mono ?_; rintro e w1 ⟨rfl, hb1⟩; rw [HZ.out]; obtain ⟨hcc, hff⟩ := bcell hb1; have q0 : w1.cell? ⟨wr.heap.size, 0, none⟩ = some (.int .i64 u.c) := keepc hb1 (by simp [*]); have q1 : w1.cell? ⟨wr.heap.size, 1, none⟩ = some (.int .i64 u.s) := keepc hb1 (by simp [*]); have q2 : w1.cell? ⟨wr.heap.size, 2, none⟩ = some (.int .i64 u.q) := keepc hb1 (by simp [*]); have q3 : w1.cell? (ad2.add (k * 3)) = some (.int .i64 u'.c) := keepc hb1 (by simp [*]); have q4 : w1.cell? ⟨(ad2.add (k * 3)).block, (ad2.add (k * 3)).off + 1, none⟩ = some (.int .i64 u'.s) := keepc hb1 (by simp [*]); have q5 : w1.cell? ⟨(ad2.add (k * 3)).block, (ad2.add (k * 3)).off + 2, none⟩ = some (.int .i64 u'.q) := keepc hb1 (by simp [*]); have q6 : w1.cell? ⟨g, 0, none⟩ = some (.func (.func f) #[] #[]) := keepc hb1 (by simp [*])))
        all_goals
          go_wp2
          go_meet
          case rel => first | exact ⟨_, rfl, rfl, relA _ _ _ _ _ _ hb1⟩ | exact ⟨_, rfl, rfl, relB _ _ _ hb1⟩
      case rest =>
        obtain ⟨B, rfl, rfl, hBk, hB1, hB2⟩ := hcut
        have hz := HZ.out
        have hrow1 := hrow.kept (row := none) ⟨hB2.os, hB2.tape, hB2.output, hB2.size, fun i hi _ => hB2.block i hi⟩ (by
          rcases hrow.2 with ⟨rfl, _⟩ | ⟨g, cap, cur, rfl, _, hgb, _⟩
          · exact .inl rfl
          · exact .inr (by simp [Value.ownBlock]))
        have hB3 := hB.trans (hB2.mono hBs)
        have hBs3 := hB3.size
        have v1 := hBk.cell 0
        have v2 := hBk.cell 1
        have v3 := hBk.cell 2
        simp only [List.getElem?_toArray, List.getElem?_cons_zero, List.getElem?_cons_succ] at v1 v2 v3
        cases hop1 : momO op u u' with
        | error e1 =>
          rw [hop1] at hz
          simp only [momE, momV, valO, errO, m0, Value.tuple.injEq, Array.mk.injEq, List.cons.injEq, Value.agg.injEq, Value.int.injEq, and_true, true_and] at hz
          obtain ⟨⟨rfl, rfl, rfl⟩, rfl⟩ := hz
          have ee := momO_err hop hop1
          have HF := Lib.hid (rows_err (op := momO op) m0 e1 k a b l (by rw [HN.out, HM.out]; exact hab) (by rw [HN.out]; exact hlt) HK.out (by
            have := hop1
            rw [← HU.out, ← HU'.out] at this
            exact this))
          clear hop1
          go_wp2
          go_ret2
          refine ⟨.slice none 0 0, ?_, ?_, hB3⟩
          · rw [HF.out]; rfl
          · rw [HF.out]; exact World.ownsRow_nil _ _ _ _
        | ok z =>
          rw [hop1] at hz
          simp only [momE, momV, valO, errO, Value.tuple.injEq, Array.mk.injEq, List.cons.injEq, Value.agg.injEq, Value.int.injEq, and_true, true_and] at hz
          obtain ⟨⟨rfl, rfl, rfl⟩, rfl⟩ := hz
          have HK' : Hid (∀ i, i < k + 1 → momO op (mAt a i) (mAt b i) = .ok (mAt (l ++ [z]) i)) := Lib.hid (fun i hi => by
            by_cases e : i = k
            · subst e
              rw [HU.out, HU'.out, hop1]
              have := HL.out
              conv => rhs; rw [show i = l.length from this.symm, mAt_last]
            · rw [mAt_snoc (by rw [HL.out]; omega)]
              exact HK.out i (by omega))
          have HL' : Hid ((l ++ [z]).length = k + 1) := Lib.hid (by simp [HL.out])
          have e0 : ((0 : Int) != 0) = false := rfl
          clear hop1
          go_wp2_with (at_builtin; refine wpList_append_own _ rfl _ _ 34 rfl w.heap.size 52 i0 (.agg #[(.int .i64 0), (.int .i64 0), (.int .i64 0)]) 3 24 Try.underlying34 hi hz0 hz1 hz2 rfl (by decide) _ _ _ rfl (hrow1.alloc _) ⟨wc.heap.size, 0, none⟩ 1 1 [.int .i64 z.c, .int .i64 z.s, .int .i64 z.q] rfl rfl (cell_three_new _ _ _ _ _) (by simp [Value.oneCell']) (by unfold maxLen; omega) (by omega) (by simp; omega) ?_; intro v' w1 hown' hgrow _)
          go_roundw
          case rel => exact ⟨k + 1, l ++ [z], hlt, by go_num, HL', HK', by rw [momC_snoc]; exact hown', (hB3.alloc hBs3 _).grown hgrow (by simp; omega) (fun j e => (hrow1.lt j e).1)⟩
          case measure => simp [intOf]; omega
    · obtain rfl : k = n := by omega
      have HF := Lib.hid (rows_ok (op := momO op) m0 a b l (by rw [HN.out, HM.out]; exact hab) (by rw [HN.out, HL.out]) (by rw [HN.out]; exact HK.out))
      clear hlt
      go_wp2
      go_ret2
      refine ⟨u8, ?_, ?_, hB⟩
      · rw [HF.out]; rfl
      · rw [HF.out]
        show wr.ownsRow _ _ _ _ l.length (momC l)
        rw [HL.out]; exact hrow
end Go.Proofs.Yteckbgpkoanhfaa.Hb
end

section
/- The walks of layer hist: may, Right. -/
namespace Go.Proofs.Yteckbgpkoanhfaa.Hb
open Go.RowKit

theorem ret_bool {a b : Bool} (h : a = b) : Ending.returned (.bool a) = .returned (.bool b) := by rw [h]
set_option maxHeartbeats 1000000 in
theorem may_any (k b c : Int) (w : World) : Calls Try.prog 43 #[.int .i64 k, .int .i64 b, .int .i64 c] w fun e w' => e = .returned (.bool (mayB k b c)) ∧ w = w' := by
  go_enter Try.func43, Try.ntmps43
  go_wp2
  all_goals
    go_ret
    refine ⟨ret_bool ?_, rfl⟩
    unfold mayB mayP
    first
    | (refine (decide_eq_false ?_).symm; omega)
    | (refine (decide_eq_true ?_).symm; omega)
    | (refine decide_eq_decide.2 ?_; omega)
    | (rw [Bool.eq_iff_iff, beq_iff_eq, decide_eq_true_iff]; omega)

/-- A histogram as a value. -/
def hV (h : H) (A1 A2 : Option Addr) (c1 c2 : Nat) : Value := .agg #[.int .i64 h.kind, .int .i64 h.bins, .int .i64 h.classes, .slice A1 h.counts.length c1, .slice A2 h.moms.length c2]
theorem bins_classes {b c : Int} (h1 : 1 ≤ b) (h2 : b ≤ 257) (h3 : 2 ≤ c) (h4 : c ≤ 256) : 0 ≤ b * c ∧ b * c ≤ 65792 :=
  ⟨Int.mul_nonneg (by omega) (by omega), by
    have := Int.mul_le_mul h2 h4 (by omega) (by omega)
    omega⟩
theorem right_may {h : H} (h0 : ¬ mayP h.kind h.bins h.classes) : rightB h = false := decide_eq_false (fun h1 => h0 h1.1)

set_option maxHeartbeats 2000000 in
theorem right_any (h : H) (A1 A2 : Option Addr) (c1 c2 : Nat) (w : World) (hl1 : h.counts.length ≤ 9223372036854775807) (hl2 : h.moms.length ≤ 9223372036854775807) :
    Calls Try.prog 20 #[hV h A1 A2 c1 c2] w fun e w' => e = .returned (.bool (rightB h)) ∧ Below w.heap.size w w' := by
  obtain ⟨k, b, c, cs, ms⟩ := h
  obtain ⟨n, hn⟩ : ∃ n, cs.length = n := ⟨_, rfl⟩
  obtain ⟨m, hm⟩ : ∃ m, ms.length = m := ⟨_, rfl⟩
  have hr : rightB ⟨k, b, c, cs, ms⟩ = decide (mayP k b c ∧ ((k = 0 ∧ (n : Int) = b * c ∧ m = 0) ∨ (¬ k = 0 ∧ n = 0 ∧ (m : Int) = b))) := by
    unfold rightB rightP; simp only [hn, hm]
  rw [hr]
  simp only [hV, hn, hm] at hl1 hl2 ⊢
  clear hr hn hm
  by_cases h0 : mayP k b c
  · have hm0 := may_any k b c
    rw [show mayB k b c = true from decide_eq_true h0] at hm0
    have HM := Lib.hid hm0
    clear hm0
    by_cases hk : k = 0
    · have hk' : (k == 0) = true := beq_iff_eq.2 hk
      obtain ⟨b1, b2, b3⟩ := h0
      have bc := bins_classes b1 b2 (show 2 ≤ c by omega) (show c ≤ 256 by omega)
      have HK := Lib.hid hk
      have H3 := Lib.hid b3
      clear hk b3
      obtain ⟨bc1, bc2⟩ := bc
      go_enter Try.func20, Try.ntmps20
      go_wp2_with (go_at_call 43; refine (HM.out _).mono ?_; rintro e w1 ⟨rfl, rfl⟩)
      all_goals
        go_ret
        refine ⟨ret_bool ?_, (Below.refl _ _).alloc (Nat.le_refl _) _⟩
        have e1 := HK.out
        have e2 := H3.out
        unfold mayP
        first
        | (refine (decide_eq_false ?_).symm; omega)
        | (refine (decide_eq_true ?_).symm; omega)
        | (rw [Bool.eq_iff_iff, beq_iff_eq, decide_eq_true_iff]; omega)
    · have hk' : (k == 0) = false := beq_eq_false_iff_ne.2 hk
      have HK := Lib.hid hk
      have H0 := Lib.hid h0
      clear hk h0
      go_enter Try.func20, Try.ntmps20
      go_wp2_with (go_at_call 43; refine (HM.out _).mono ?_; rintro e w1 ⟨rfl, rfl⟩)
      all_goals
        go_ret
        refine ⟨ret_bool ?_, (Below.refl _ _).alloc (Nat.le_refl _) _⟩
        have e1 := HK.out
        have e2 := H0.out
        unfold mayP at e2 ⊢
        first
        | (refine (decide_eq_false ?_).symm; omega)
        | (refine (decide_eq_true ?_).symm; omega)
        | (rw [Bool.eq_iff_iff, beq_iff_eq, decide_eq_true_iff]; omega)
  · have hm0 := may_any k b c
    rw [show mayB k b c = false from decide_eq_false h0] at hm0
    have HM := Lib.hid hm0
    rw [show decide (mayP k b c ∧ ((k = 0 ∧ (n : Int) = b * c ∧ m = 0) ∨ (¬ k = 0 ∧ n = 0 ∧ (m : Int) = b))) = false from decide_eq_false (fun h1 => h0 h1.1)]
    clear hm0 h0
    go_enter Try.func20, Try.ntmps20
    go_wp2_with (go_at_call 43; refine (HM.out _).mono ?_; rintro e w1 ⟨rfl, rfl⟩)
    go_ret
    exact ⟨rfl, (Below.refl _ _).alloc (Nat.le_refl _) _⟩

/-! Two histograms made one. -/
theorem both_err {op : Int → Int → Bool → Except Int Int} {a b : H} (h : ¬ likeP a b) : bothO op a b = .error 8 := if_neg h
theorem both_err1 {op : Int → Int → Bool → Except Int Int} {a b : H} {e : Int} (h : likeP a b) (h1 : rowsO (fun x y => op x y false) a.counts b.counts = .error e) : bothO op a b = .error e := by unfold bothO; rw [if_pos h, h1]
theorem both_err2 {op : Int → Int → Bool → Except Int Int} {a b : H} {c : List Int} {e : Int} (h : likeP a b) (h1 : rowsO (fun x y => op x y false) a.counts b.counts = .ok c) (h2 : rowsO (momO op) a.moms b.moms = .error e) : bothO op a b = .error e := by unfold bothO; rw [if_pos h, h1]; simp only [h2]
theorem both_ok {op : Int → Int → Bool → Except Int Int} {a b : H} {c : List Int} {m : List Mom} (h : likeP a b) (h1 : rowsO (fun x y => op x y false) a.counts b.counts = .ok c) (h2 : rowsO (momO op) a.moms b.moms = .ok m) : bothO op a b = .ok ⟨a.kind, a.bins, a.classes, c, m⟩ := by unfold bothO; rw [if_pos h, h1]; simp only [h2]
/-- A histogram in new memory. -/
def HNew (base : Nat) (h : H) (w : World) (v : Value) : Prop :=
  ∃ v1 v2, v = .agg #[.int .i64 h.kind, .int .i64 h.bins, .int .i64 h.classes, v1, v2] ∧ w.ownsRow base 2 1 v1 h.counts.length (ints h.counts) ∧ w.ownsRow base 52 3 v2 h.moms.length (momC h.moms)
def ResH (r : Except Int H) (w : World) (e : Ending) (w' : World) : Prop :=
  ∃ v, e = .returned (.tuple #[v, .int .i64 (errO r)]) ∧ HNew w.heap.size (valO h0 r) w' v ∧ Below w.heap.size w w'
theorem HNew.zero (base : Nat) (w : World) : HNew base h0 w (.agg #[.int .i64 0, .int .i64 0, .int .i64 0, .slice none 0 0, .slice none 0 0]) :=
  ⟨_, _, rfl, World.ownsRow_nil _ _ _ _, World.ownsRow_nil _ _ _ _⟩

theorem boxes4 (w : World) (X1 X2 X3 X4 : Array Value) (t1 t2 t3 t4 : TypeId) (W : World) (h : W = (((w.alloc (.cells X1 t1)).alloc (.cells X2 t2)).alloc (.cells X3 t3)).alloc (.cells X4 t4)) :
    Blk W w.heap.size X1 t1 ∧ Blk W (w.heap.size + 1) X2 t2 ∧ Blk W (w.heap.size + 1 + 1) X3 t3 ∧ Blk W (w.heap.size + 1 + 1 + 1) X4 t4 ∧ Below w.heap.size w W ∧ W.heap.size = w.heap.size + 1 + 1 + 1 + 1 := by
  subst h
  refine ⟨?_, ?_, ?_, ?_, ?_, by simp⟩
  · exact (((Blk.new w X1 t1).below ((Below.refl _ _).alloc (Nat.le_refl _) _)).below ((Below.refl _ _).alloc (Nat.le_refl _) _)).below ((Below.refl _ _).alloc (Nat.le_refl _) _)
  · have := ((Blk.new (w.alloc (.cells X1 t1)) X2 t2).below ((Below.refl _ _).alloc (Nat.le_refl _) (.cells X3 t3))).below ((Below.refl _ _).alloc (Nat.le_refl _) (.cells X4 t4))
    simpa using this
  · have := (Blk.new ((w.alloc (.cells X1 t1)).alloc (.cells X2 t2)) X3 t3).below ((Below.refl _ _).alloc (Nat.le_refl _) (.cells X4 t4))
    simpa using this
  · have := Blk.new (((w.alloc (.cells X1 t1)).alloc (.cells X2 t2)).alloc (.cells X3 t3)) X4 t4
    simpa using this
  · exact ((((Below.refl _ w).alloc (Nat.le_refl _) _).alloc (by simp) _).alloc (by simp; omega) _).alloc (by simp; omega) _

/-- The four blocks that a call of both begins with. -/
structure BB (f : Nat) (a b : H) (A1 A2 A3 A4 : Option Addr) (c1 c2 c3 c4 : Nat) (n : Nat) (w W : World) : Prop where
  b0 : Blk W n #[.int .i64 a.kind, .int .i64 a.bins, .int .i64 a.classes, .slice A1 a.counts.length c1, .slice A2 a.moms.length c2] 36
  b1 : Blk W (n + 1) #[.int .i64 b.kind, .int .i64 b.bins, .int .i64 b.classes, .slice A3 b.counts.length c3, .slice A4 b.moms.length c4] 36
  b2 : Blk W (n + 1 + 1) #[.func (.func f) #[] #[]] 109
  b3 : Blk W (n + 1 + 1 + 1) #[.int .i64 0, .int .i64 0, .int .i64 0, .slice none 0 0, .slice none 0 0] 36
  be : Below n w W
  sz : n + 1 + 1 + 1 < W.heap.size
theorem BB.below {f : Nat} {a b : H} {A1 A2 A3 A4 : Option Addr} {c1 c2 c3 c4 n : Nat} {w W W1 : World} (h : BB f a b A1 A2 A3 A4 c1 c2 c3 c4 n w W) (hb : Below W.heap.size W W1) : BB f a b A1 A2 A3 A4 c1 c2 c3 c4 n w W1 :=
  ⟨h.b0.below hb, h.b1.below hb, h.b2.below hb, h.b3.below hb, h.be.trans (hb.mono (by have := h.sz; omega)), Nat.lt_of_lt_of_le h.sz hb.size⟩
/-- The cells of these. -/
theorem BB.cells {f : Nat} {a b : H} {A1 A2 A3 A4 : Option Addr} {c1 c2 c3 c4 n : Nat} {w W : World} (h : BB f a b A1 A2 A3 A4 c1 c2 c3 c4 n w W) :
    (W.cell? ⟨n, 0, none⟩ = some (.int .i64 a.kind) ∧ W.cell? ⟨n, 1, none⟩ = some (.int .i64 a.bins) ∧ W.cell? ⟨n, 2, none⟩ = some (.int .i64 a.classes) ∧ W.cell? ⟨n, 3, none⟩ = some (.slice A1 a.counts.length c1) ∧ W.cell? ⟨n, 4, none⟩ = some (.slice A2 a.moms.length c2)) ∧
    (W.cell? ⟨n + 1, 0, none⟩ = some (.int .i64 b.kind) ∧ W.cell? ⟨n + 1, 1, none⟩ = some (.int .i64 b.bins) ∧ W.cell? ⟨n + 1, 2, none⟩ = some (.int .i64 b.classes) ∧ W.cell? ⟨n + 1, 3, none⟩ = some (.slice A3 b.counts.length c3) ∧ W.cell? ⟨n + 1, 4, none⟩ = some (.slice A4 b.moms.length c4)) ∧
    W.cell? ⟨n + 1 + 1, 0, none⟩ = some (.func (.func f) #[] #[]) ∧
    (W.cell? ⟨n + 1 + 1 + 1, 0, none⟩ = some (.int .i64 0) ∧ W.cell? ⟨n + 1 + 1 + 1, 1, none⟩ = some (.int .i64 0) ∧ W.cell? ⟨n + 1 + 1 + 1, 2, none⟩ = some (.int .i64 0) ∧ W.cell? ⟨n + 1 + 1 + 1, 3, none⟩ = some (.slice none 0 0) ∧ W.cell? ⟨n + 1 + 1 + 1, 4, none⟩ = some (.slice none 0 0)) ∧
    (∀ i, W.frozen? ⟨n + 1 + 1 + 1, i, none⟩ = false) :=
  ⟨h.b0.cells5, h.b1.cells5, h.b2.cells1, h.b3.cells5, h.b3.frozen⟩
/-- The result's block, written whole. -/
theorem set5 {W : World} {g : Nat} {x0 x1 x2 x3 x4 : Value} {t : TypeId} (h : Blk W g #[x0, x1, x2, x3, x4] t) (a b c d e : Value) :
    Blk (((((W.setCell ⟨g, 0, none⟩ a).setCell ⟨g, 1, none⟩ b).setCell ⟨g, 2, none⟩ c).setCell ⟨g, 3, none⟩ d).setCell ⟨g, 4, none⟩ e) g #[a, b, c, d, e] t := by
  have := ((((h.set 0 a).set 1 b).set 2 c).set 3 d).set 4 e
  exact this
theorem below5 {B : Nat} {w W : World} {g : Nat} (h : Below B w W) (hg : B ≤ g) (a b c d e : Value) :
    Below B w (((((W.setCell ⟨g, 0, none⟩ a).setCell ⟨g, 1, none⟩ b).setCell ⟨g, 2, none⟩ c).setCell ⟨g, 3, none⟩ d).setCell ⟨g, 4, none⟩ e) :=
  ((((h.setCell (p := ⟨g, 0, none⟩) hg a).setCell (p := ⟨g, 1, none⟩) hg b).setCell (p := ⟨g, 2, none⟩) hg c).setCell (p := ⟨g, 3, none⟩) hg d).setCell (p := ⟨g, 4, none⟩) hg e
theorem size_hist : (Try.prog.info? 36).map (·.size) = some 5 := by kernel_rfl

set_option maxRecDepth 100000 in
set_option maxHeartbeats 2000000 in
theorem both_unlike (f : Nat) (op : Int → Int → Bool → Except Int Int) (a b : H) (A1 A2 A3 A4 : Option Addr) (c1 c2 c3 c4 : Nat) (w : World) (ha1 : a.counts.length ≤ 9223372036854775807) (ha2 : a.moms.length ≤ 9223372036854775807) (hb1 : b.counts.length ≤ 9223372036854775807) (hb2 : b.moms.length ≤ 9223372036854775807)
    (hu : ¬ likeP a b) : Calls Try.prog 52 #[hV a A1 A2 c1 c2, hV b A3 A4 c3 c4, .func (.func f) #[] #[]] w (ResH (bothO op a b) w) := by
  rw [both_err hu]
  have ra := fun w => right_any a A1 A2 c1 c2 w ha1 ha2
  have rb := fun w => right_any b A3 A4 c3 c4 w hb1 hb2
  unfold hV at ra rb ⊢
  cases h1 : rightB a with
  | false =>
    rw [h1] at ra
    have RA := Lib.hid ra
    clear ra rb h1 hu ha1 ha2 hb1 hb2
    go_enter Try.func52, Try.ntmps52
    go_wp2_with fail
    obtain ⟨W4, e4⟩ : ∃ W4, W4 = (((w.alloc (.cells #[.int .i64 a.kind, .int .i64 a.bins, .int .i64 a.classes, .slice A1 a.counts.length c1, .slice A2 a.moms.length c2] 36)).alloc (.cells #[.int .i64 b.kind, .int .i64 b.bins, .int .i64 b.classes, .slice A3 b.counts.length c3, .slice A4 b.moms.length c4] 36)).alloc (.cells #[.func (.func f) #[] #[]] 109)).alloc (.cells #[.int .i64 0, .int .i64 0, .int .i64 0, .slice none 0 0, .slice none 0 0] 36) := ⟨_, rfl⟩
    rw [← e4]
    obtain ⟨k0, k1, k2, k3, kb, ks⟩ := boxes4 w _ _ _ _ _ _ _ _ W4 e4
    have BB0 : BB f a b A1 A2 A3 A4 c1 c2 c3 c4 w.heap.size w W4 := ⟨k0, k1, k2, k3, kb, by omega⟩
    clear e4 k0 k1 k2 k3 kb ks
    refine (RA.out _).mono ?_
    rintro e w1 ⟨rfl, hb1⟩
    have BB1 := BB0.below hb1
    obtain ⟨⟨p0, p1, p2, p3, p4⟩, ⟨q0, q1, q2, q3, q4⟩, s0, ⟨r0, r1, r2, r3, r4⟩, hfr⟩ := BB1.cells
    go_wp2
    refine bodyPost_ret (results_ct rfl _ _ (w.heap.size + 1 + 1 + 1) 36 _ _ rfl (set5 BB1.b3 _ _ _ _ _) Try.underlying36 rfl size_hist) rfl ?_
    exact ⟨_, rfl, HNew.zero _ _, below5 BB1.be (by omega) _ _ _ _ _⟩
  | true =>
  rw [h1] at ra
  cases h2 : rightB b with
  | false =>
    rw [h2] at rb
    have RA := Lib.hid ra
    have RB := Lib.hid rb
    clear ra rb h1 h2 hu ha1 ha2 hb1 hb2
    go_enter Try.func52, Try.ntmps52
    go_wp2_with fail
    obtain ⟨W4, e4⟩ : ∃ W4, W4 = (((w.alloc (.cells #[.int .i64 a.kind, .int .i64 a.bins, .int .i64 a.classes, .slice A1 a.counts.length c1, .slice A2 a.moms.length c2] 36)).alloc (.cells #[.int .i64 b.kind, .int .i64 b.bins, .int .i64 b.classes, .slice A3 b.counts.length c3, .slice A4 b.moms.length c4] 36)).alloc (.cells #[.func (.func f) #[] #[]] 109)).alloc (.cells #[.int .i64 0, .int .i64 0, .int .i64 0, .slice none 0 0, .slice none 0 0] 36) := ⟨_, rfl⟩
    rw [← e4]
    obtain ⟨k0, k1, k2, k3, kb, ks⟩ := boxes4 w _ _ _ _ _ _ _ _ W4 e4
    have BB0 : BB f a b A1 A2 A3 A4 c1 c2 c3 c4 w.heap.size w W4 := ⟨k0, k1, k2, k3, kb, by omega⟩
    clear e4 k0 k1 k2 k3 kb ks
    refine (RA.out _).mono ?_
    rintro e w1 ⟨rfl, hb1⟩
    have BB1 := BB0.below hb1
    obtain ⟨⟨p0, p1, p2, p3, p4⟩, ⟨q0, q1, q2, q3, q4⟩, s0, ⟨r0, r1, r2, r3, r4⟩, hfr⟩ := BB1.cells
    go_wp2_with fail
    refine (RB.out _).mono ?_
    rintro e w2 ⟨rfl, hb2⟩
    have BB2 := BB1.below hb2
    clear p0 p1 p2 p3 p4 q0 q1 q2 q3 q4 s0 r0 r1 r2 r3 r4 hfr
    obtain ⟨⟨p0, p1, p2, p3, p4⟩, ⟨q0, q1, q2, q3, q4⟩, s0, ⟨r0, r1, r2, r3, r4⟩, hfr⟩ := BB2.cells
    go_wp2
    refine bodyPost_ret (results_ct rfl _ _ (w.heap.size + 1 + 1 + 1) 36 _ _ rfl (set5 BB2.b3 _ _ _ _ _) Try.underlying36 rfl size_hist) rfl ?_
    exact ⟨_, rfl, HNew.zero _ _, below5 BB2.be (by omega) _ _ _ _ _⟩
  | true =>
    rw [h2] at rb
    have RA := Lib.hid ra
    have RB := Lib.hid rb
    have hx : ¬ (a.kind = b.kind ∧ a.bins = b.bins ∧ a.classes = b.classes) := fun h => hu ⟨of_decide_eq_true h1, of_decide_eq_true h2, h⟩
    obtain ⟨x1, hx1⟩ : ∃ x, (a.kind != b.kind) = x := ⟨_, rfl⟩
    obtain ⟨x2, hx2⟩ : ∃ x, (a.bins != b.bins) = x := ⟨_, rfl⟩
    obtain ⟨x3, hx3⟩ : ∃ x, (a.classes != b.classes) = x := ⟨_, rfl⟩
    have hxx : (x1 || (x2 || x3)) = true := by
      rw [← hx1, ← hx2, ← hx3]
      simp only [Bool.or_eq_true, bne_iff_ne]
      omega
    clear ra rb h1 h2 hu ha1 ha2 hb1 hb2 hx
    go_enter Try.func52, Try.ntmps52
    go_wp2_with fail
    obtain ⟨W4, e4⟩ : ∃ W4, W4 = (((w.alloc (.cells #[.int .i64 a.kind, .int .i64 a.bins, .int .i64 a.classes, .slice A1 a.counts.length c1, .slice A2 a.moms.length c2] 36)).alloc (.cells #[.int .i64 b.kind, .int .i64 b.bins, .int .i64 b.classes, .slice A3 b.counts.length c3, .slice A4 b.moms.length c4] 36)).alloc (.cells #[.func (.func f) #[] #[]] 109)).alloc (.cells #[.int .i64 0, .int .i64 0, .int .i64 0, .slice none 0 0, .slice none 0 0] 36) := ⟨_, rfl⟩
    rw [← e4]
    obtain ⟨k0, k1, k2, k3, kb, ks⟩ := boxes4 w _ _ _ _ _ _ _ _ W4 e4
    have BB0 : BB f a b A1 A2 A3 A4 c1 c2 c3 c4 w.heap.size w W4 := ⟨k0, k1, k2, k3, kb, by omega⟩
    clear e4 k0 k1 k2 k3 kb ks
    refine (RA.out _).mono ?_
    rintro e w1 ⟨rfl, hb1⟩
    have BB1 := BB0.below hb1
    obtain ⟨⟨p0, p1, p2, p3, p4⟩, ⟨q0, q1, q2, q3, q4⟩, s0, ⟨r0, r1, r2, r3, r4⟩, hfr⟩ := BB1.cells
    go_wp2_with fail
    refine (RB.out _).mono ?_
    rintro e w2 ⟨rfl, hb2⟩
    have BB2 := BB1.below hb2
    clear p0 p1 p2 p3 p4 q0 q1 q2 q3 q4 s0 r0 r1 r2 r3 r4 hfr
    obtain ⟨⟨p0, p1, p2, p3, p4⟩, ⟨q0, q1, q2, q3, q4⟩, s0, ⟨r0, r1, r2, r3, r4⟩, hfr⟩ := BB2.cells
    cases x1 <;> cases x2 <;> cases x3 <;> first | (exact absurd hxx (by decide)) | skip
    all_goals
      clear hxx
      go_wp2
      refine bodyPost_ret (results_ct rfl _ _ (w.heap.size + 1 + 1 + 1) 36 _ _ rfl (set5 BB2.b3 _ _ _ _ _) Try.underlying36 rfl size_hist) rfl ?_
      exact ⟨_, rfl, HNew.zero _ _, below5 BB2.be (by omega) _ _ _ _ _⟩
end Go.Proofs.Yteckbgpkoanhfaa.Hb
end

section
/- The walks of layer hist: two like histograms made one. -/
namespace Go.Proofs.Yteckbgpkoanhfaa.Hb
open Go.RowKit

theorem moments_any (f : Nat) (w : World) : Calls Try.prog 47 #[.func (.func f) #[] #[]] w fun e w' => e = .returned (.func (.func 67) #[] #[.pointer (some ⟨w.heap.size, 0, none⟩)]) ∧ w' = w.alloc (.cells #[.func (.func f) #[] #[]] 109) := by
  go_enter Try.func47, Try.ntmps47
  go_wp2
  go_ret
  exact ⟨rfl, rfl⟩

theorem rows_errP {α : Type} {op : α → α → Except Int α} {P : Int → Prop} (hop : ∀ x y e, op x y = .error e → P e) : ∀ (a b : List α) (e : Int), a.length ≤ b.length → rowsO op a b = .error e → P e
  | [], _, _, _, h => by cases h
  | _ :: _, [], _, h1, _ => by simp at h1
  | x :: xs, y :: ys, e, h1, h => by
    rw [rowsO] at h
    cases h2 : op x y with
    | error e1 => rw [h2] at h; cases h; exact hop _ _ _ h2
    | ok z =>
      rw [h2] at h
      simp only at h
      cases h3 : rowsO op xs ys with
      | error e1 => rw [h3] at h; cases h; exact rows_errP hop xs ys _ (by simpa using h1) h3
      | ok zs => rw [h3] at h; cases h
/-- A row of one type is not touched by a store into a block of another one. -/
theorem own_set {w : World} {base : Nat} {e t : TypeId} {size n g i : Nat} {v u : Value} {xs : List Value} {cs : Array Value} (h : w.ownsRow base e size v n xs) (hb : Blk w g cs t) (hte : t ≠ e) : (w.setCell ⟨g, i, none⟩ u).ownsRow base e size v n xs := by
  refine h.kept (row := some g) ⟨rfl, rfl, rfl, by simp [World.setCell], fun k _ hk => Below.heap_setCell _ _ _ k (fun e => hk (by rw [e]))⟩ ?_
  rcases h.2 with ⟨rfl, _⟩ | ⟨g', cap, cur, rfl, _, hgb, _⟩
  · exact .inl rfl
  · refine .inr fun e' => ?_
    obtain rfl : g' = g := by simpa [Value.ownBlock] using e'
    have := (show w.heap[g']? = _ from hb).symm.trans hgb
    simp at this
    exact hte this.2

theorem own_set5 {w : World} {base : Nat} {e t : TypeId} {size n g : Nat} {v : Value} {xs : List Value} {cs : Array Value} (h : w.ownsRow base e size v n xs) (hb : Blk w g cs t) (hte : t ≠ e) (x0 x1 x2 x3 x4 : Value) :
    (((((w.setCell ⟨g, 0, none⟩ x0).setCell ⟨g, 1, none⟩ x1).setCell ⟨g, 2, none⟩ x2).setCell ⟨g, 3, none⟩ x3).setCell ⟨g, 4, none⟩ x4).ownsRow base e size v n xs :=
  own_set (own_set (own_set (own_set (own_set h hb hte) (hb.set 0 _) hte) ((hb.set 0 _).set 1 _) hte) (((hb.set 0 _).set 1 _).set 2 _) hte) ((((hb.set 0 _).set 1 _).set 2 _).set 3 _) hte
/-- A right histogram is small. -/
theorem right_small {h : H} (hr : rightP h) : h.counts.length ≤ 65792 ∧ h.moms.length ≤ 257 := by
  obtain ⟨⟨b1, b2, b3⟩, hc⟩ := hr
  rcases hc with ⟨k0, l1, l2⟩ | ⟨k0, l1, l2⟩
  · have := bins_classes b1 b2 (show 2 ≤ h.classes by omega) (show h.classes ≤ 256 by omega)
    rw [← l1] at this
    omega
  · omega

set_option maxRecDepth 100000 in
set_option maxHeartbeats 4000000 in
theorem both_like (f : Nat) (op : Int → Int → Bool → Except Int Int) (hop : IsOp f op) (a b : H) (A1 A2 A3 A4 : Option Addr) (c1 c2 c3 c4 : Nat) (w : World) (ha1 : a.counts.length ≤ 17592186044416) (ha2 : a.moms.length ≤ 1099511627776) (hb1 : b.counts.length ≤ 9223372036854775807) (hb2 : b.moms.length ≤ 9223372036854775807)
    (h1 : RdI w A1 a.counts) (h2 : RdM w A2 a.moms) (h3 : RdI w A3 b.counts) (h4 : RdM w A4 b.moms) (hab1 : a.counts.length ≤ b.counts.length) (hab2 : a.moms.length ≤ b.moms.length)
    (hu : likeP a b) : Calls Try.prog 52 #[hV a A1 A2 c1 c2, hV b A3 A4 c3 c4, .func (.func f) #[] #[]] w (ResH (bothO op a b) w) := by
  have ra := fun w => right_any a A1 A2 c1 c2 w (by omega) (by omega)
  have rb := fun w => right_any b A3 A4 c3 c4 w hb1 hb2
  rw [show rightB a = true from decide_eq_true hu.1] at ra
  rw [show rightB b = true from decide_eq_true hu.2.1] at rb
  unfold hV at ra rb ⊢
  have RA := Lib.hid ra
  have RB := Lib.hid rb
  have x1 : (a.kind != b.kind) = false := bne_eq_false_iff_eq.2 hu.2.2.1
  have x2 : (a.bins != b.bins) = false := bne_eq_false_iff_eq.2 hu.2.2.2.1
  have x3 : (a.classes != b.classes) = false := bne_eq_false_iff_eq.2 hu.2.2.2.2
  have HU := Lib.hid hu
  have R1 := Lib.hid h1
  have R2 := Lib.hid h2
  have R3 := Lib.hid h3
  have R4 := Lib.hid h4
  have e0 : ((0 : Int) != 0) = false := rfl
  clear ra rb hu h1 h2 h3 h4 hb1 hb2
  go_enter Try.func52, Try.ntmps52
  go_wp2_with fail
  obtain ⟨W4, e4⟩ : ∃ W4, W4 = (((w.alloc (.cells #[.int .i64 a.kind, .int .i64 a.bins, .int .i64 a.classes, .slice A1 a.counts.length c1, .slice A2 a.moms.length c2] 36)).alloc (.cells #[.int .i64 b.kind, .int .i64 b.bins, .int .i64 b.classes, .slice A3 b.counts.length c3, .slice A4 b.moms.length c4] 36)).alloc (.cells #[.func (.func f) #[] #[]] 109)).alloc (.cells #[.int .i64 0, .int .i64 0, .int .i64 0, .slice none 0 0, .slice none 0 0] 36) := ⟨_, rfl⟩
  rw [← e4]
  obtain ⟨k0, k1, k2, k3, kb, ks⟩ := boxes4 w _ _ _ _ _ _ _ _ W4 e4
  have BB0 : BB f a b A1 A2 A3 A4 c1 c2 c3 c4 w.heap.size w W4 := ⟨k0, k1, k2, k3, kb, by omega⟩
  clear e4 k0 k1 k2 k3 kb ks
  refine (RA.out _).mono ?_
  rintro e w1 ⟨rfl, hb1⟩
  have BB1 := BB0.below hb1
  obtain ⟨⟨p0, p1, p2, p3, p4⟩, ⟨q0, q1, q2, q3, q4⟩, s0, ⟨r0, r1, r2, r3, r4⟩, hfr⟩ := BB1.cells
  go_wp2_with fail
  refine (RB.out _).mono ?_
  rintro e w2 ⟨rfl, hb2⟩
  have BB2 := BB1.below hb2
  clear p0 p1 p2 p3 p4 q0 q1 q2 q3 q4 s0 r0 r1 r2 r3 r4 hfr
  obtain ⟨⟨p0, p1, p2, p3, p4⟩, ⟨q0, q1, q2, q3, q4⟩, s0, ⟨r0, r1, r2, r3, r4⟩, hfr⟩ := BB2.cells
  clear hb1 hb2 BB0 BB1
  have sz2 := BB2.sz
  have sza : w.heap.size + 1 + 1 < w2.heap.size := by omega
  have szb : w.heap.size + 1 < w2.heap.size := by omega
  have szc : w.heap.size < w2.heap.size := by omega
  go_wp2_with fail
  obtain ⟨W5, e5⟩ : ∃ W5, W5 = w2.alloc (.cells #[.int .i64 a.kind, .int .i64 a.bins, .int .i64 a.classes, .slice none 0 0, .slice none 0 0] 36) := ⟨_, rfl⟩
  rw [← e5]
  have kB : Blk W5 w2.heap.size #[.int .i64 a.kind, .int .i64 a.bins, .int .i64 a.classes, .slice none 0 0, .slice none 0 0] 36 := by rw [e5]; exact Blk.new _ _ _
  have bl5 : Below w2.heap.size w2 W5 := by rw [e5]; exact (Below.refl _ _).alloc (Nat.le_refl _) _
  have BB5 := BB2.below bl5
  obtain ⟨B, hB⟩ : ∃ B, w2.heap.size = B := ⟨_, rfl⟩
  rw [hB] at sz2 sza szb szc kB ⊢
  clear e5 bl5 BB2 hB
  clear p0 p1 p2 p3 p4 q0 q1 q2 q3 q4 s0 r0 r1 r2 r3 r4 hfr
  obtain ⟨⟨p0, p1, p2, p3, p4⟩, ⟨q0, q1, q2, q3, q4⟩, s0, ⟨r0, r1, r2, r3, r4⟩, hfr⟩ := BB5.cells
  refine (rowsI_any f op hop a.counts b.counts A1 A3 c1 c3 _ hab1 ha1 W5 (R1.out.below BB5.be) (R3.out.below BB5.be) s0).mono ?_
  rintro e w6 ⟨v1, rfl, ho1, hb6⟩
  obtain ⟨a1', cap1, rfl⟩ := own_slice ho1
  have BB6 := BB5.below hb6
  have kB6 := kB.below hb6
  replace ho1 := World.ownsRow.mono ho1 (base' := w.heap.size) (by have := BB5.sz; omega)
  clear hb6 BB5 kB
  clear p0 p1 p2 p3 p4 q0 q1 q2 q3 q4 s0 r0 r1 r2 r3 r4 hfr
  obtain ⟨⟨p0, p1, p2, p3, p4⟩, ⟨q0, q1, q2, q3, q4⟩, s0, ⟨r0, r1, r2, r3, r4⟩, hfr⟩ := BB6.cells
  obtain ⟨u0, u1, u2, u3, u4⟩ := kB6.cells5
  have uf := kB6.frozen
  have n0 : w.heap.size ≠ B := by omega
  have n1 : w.heap.size + 1 ≠ B := by omega
  have n2 : w.heap.size + 1 + 1 ≠ B := by omega
  have n3 : w.heap.size + 1 + 1 + 1 ≠ B := by omega
  have m0 : B ≠ w.heap.size := by omega
  have m1 : B ≠ w.heap.size + 1 := by omega
  have m2 : B ≠ w.heap.size + 1 + 1 := by omega
  have m3 : B ≠ w.heap.size + 1 + 1 + 1 := by omega
  have HO1 := Lib.hid ho1
  clear ho1
  cases hr1 : rowsO (fun x y => op x y false) a.counts b.counts with
  | error e1 =>
    have ee : (e1 != 0) = true := rows_errP (P := fun e => (e != 0) = true) (fun x y e h => by rcases hop.err h with rfl | rfl <;> rfl) _ _ _ hab1 hr1
    have HR1 := Lib.hid hr1
    simp only [errO, valO, List.length_nil]
    clear hr1
    go_wp2
    refine bodyPost_ret (results_ct rfl _ _ (w.heap.size + 1 + 1 + 1) 36 _ _ rfl (set5 (BB6.b3.other (p := ⟨B, 3, none⟩) n3 _) _ _ _ _ _) Try.underlying36 rfl size_hist) rfl ?_
    rw [both_err1 HU.out HR1.out]
    exact ⟨_, rfl, HNew.zero _ _, below5 (BB6.be.setCell (p := ⟨B, 3, none⟩) (by show w.heap.size ≤ B; omega) _) (by omega) _ _ _ _ _⟩
  | ok l1 =>
    have HR1 := Lib.hid hr1
    rw [hr1] at HO1
    simp only [errO, valO] at HO1 ⊢
    clear hr1
    have kB7 := kB6.set 3 (.slice a1' l1.length cap1)
    go_upto_region 8 with (fail)
    obtain ⟨rr, hr2⟩ : ∃ rr, rowsO (momO op) a.moms b.moms = rr := ⟨_, rfl⟩
    have HR2 := Lib.hid hr2
    have KM := Lib.hid (fun (W : World) (g : Nat) (h1 : RdM W A2 a.moms) (h2 : RdM W A4 b.moms) (hc : W.cell? ⟨g, 0, none⟩ = some (.func (.func f) #[] #[])) => rowsM_any f op hop a.moms b.moms A2 A4 c2 c4 g hab2 ha2 W h1 h2 hc)
    rw [hr2] at KM
    have BB7 : BB f a b A1 A2 A3 A4 c1 c2 c3 c4 w.heap.size w (w6.setCell ⟨B, 3, none⟩ (.slice a1' l1.length cap1)) := ⟨BB6.b0.other (p := ⟨B, 3, none⟩) n0 _, BB6.b1.other (p := ⟨B, 3, none⟩) n1 _, BB6.b2.other (p := ⟨B, 3, none⟩) n2 _, BB6.b3.other (p := ⟨B, 3, none⟩) n3 _, BB6.be.setCell (p := ⟨B, 3, none⟩) (by show w.heap.size ≤ B; omega) _, by simpa using BB6.sz⟩
    have HO7 := Lib.hid (own_set (i := 3) (u := .slice a1' l1.length cap1) HO1.out kB6 (by decide))
    obtain ⟨W7, e7⟩ : ∃ W7, W7 = w6.setCell ⟨B, 3, none⟩ (.slice a1' l1.length cap1) := ⟨_, rfl⟩
    rw [← e7] at BB7 kB7 HO7 ⊢
    clear e7 hr2 p0 p1 p2 p3 p4 q0 q1 q2 q3 q4 s0 r0 r1 r2 r3 r4 hfr u0 u1 u2 u3 u4 uf kB6 BB6 HO1
    obtain ⟨⟨p0, p1, p2, p3, p4⟩, ⟨q0, q1, q2, q3, q4⟩, s0, ⟨r0, r1, r2, r3, r4⟩, hfr⟩ := BB7.cells
    obtain ⟨u0, u1, u2, u3, u4⟩ := kB7.cells5
    have uf := kB7.frozen
    go_cut [9] (fun ev wc => ∃ a2' cap2, ev = .int .i64 (errO rr) ∧ BB f a b A1 A2 A3 A4 c1 c2 c3 c4 w.heap.size w wc ∧ wc.ownsRow w.heap.size 2 1 (.slice a1' l1.length cap1) l1.length (ints l1) ∧ wc.ownsRow w.heap.size 52 3 (.slice a2' (valO [] rr).length cap2) (valO [] rr).length (momC (valO [] rr)) ∧ Blk wc B #[.int .i64 a.kind, .int .i64 a.bins, .int .i64 a.classes, .slice a1' l1.length cap1, .slice a2' (valO [] rr).length cap2] 36)
    case first =>
      have b8 : Below W7.heap.size W7 (W7.alloc (.cells #[.func (.func f) #[] #[]] 109)).drew := ((Below.refl _ W7).alloc (Nat.le_refl _) _).drew
      have BB8 := BB7.below b8
      have kB8 := kB7.below b8
      have c8 := BB8.cells.2.2.1
      have HO8 := Lib.hid (own_below HO7.out b8)
      have g8 := (KM.out _ W7.heap.size (R2.out.below BB8.be) (R4.out.below BB8.be) (by
        have := (Blk.new W7 #[.func (.func f) #[] #[]] 109).below ((Below.refl _ _).drew)
        exact this.cells1))
      have G8 := Lib.hid g8
      clear g8 c8
      go_region_held3 (fun W => W.cell? ⟨w.heap.size, 4, none⟩ = some (.slice A2 a.moms.length c2) ∧ W.cell? ⟨w.heap.size + 1, 4, none⟩ = some (.slice A4 b.moms.length c4) ∧ W.cell? ⟨w.heap.size + 1 + 1, 0, none⟩ = some (.func (.func f) #[] #[])) (go_keep)
        (first
        | (go_at_call 47; refine (moments_any f _).mono ?_; rintro e w1 ⟨rfl, rfl⟩)
        | (go_at_call 75; refine G8.out.mono ?_; rintro e w1 ⟨v2, rfl, ho2, hb2⟩; obtain ⟨a2', cap2, rfl⟩ := own_slice ho2; obtain ⟨hcc, hff⟩ := bcell hb2; have BB9 := BB8.below hb2; have kB9 := kB8.below hb2; obtain ⟨⟨p0, p1, p2, p3, p4⟩, ⟨q0, q1, q2, q3, q4⟩, s0, ⟨r0, r1, r2, r3, r4⟩, hfr⟩ := BB9.cells; obtain ⟨u0, u1, u2, u3, u4⟩ := kB9.cells5; have uf := kB9.frozen))
      have BBx : BB f a b A1 A2 A3 A4 c1 c2 c3 c4 w.heap.size w (w1.setCell ⟨B, 4, none⟩ (.slice a2' (valO [] rr).length cap2)) := ⟨BB9.b0.other (p := ⟨B, 4, none⟩) n0 _, BB9.b1.other (p := ⟨B, 4, none⟩) n1 _, BB9.b2.other (p := ⟨B, 4, none⟩) n2 _, BB9.b3.other (p := ⟨B, 4, none⟩) n3 _, BB9.be.setCell (p := ⟨B, 4, none⟩) (by show w.heap.size ≤ B; omega) _, by simpa using BB9.sz⟩
      have HOx := own_set (i := 4) (u := .slice a2' (valO [] rr).length cap2) (own_below HO8.out hb2) kB9 (by decide)
      have HOy := own_set (i := 4) (u := .slice a2' (valO [] rr).length cap2) (World.ownsRow.mono ho2 (base' := w.heap.size) BB8.be.size) kB9 (by decide)
      have kBx := kB9.set 4 (.slice a2' (valO [] rr).length cap2)
      go_wp2
      go_meet
      case rel => exact ⟨_, _, rfl, BBx, HOx, HOy, kBx⟩
    case rest =>
      obtain ⟨a2', cap2, rfl, BB9, HO9, HO9', kB9⟩ := hcut
      clear p0 p1 p2 p3 p4 q0 q1 q2 q3 q4 s0 r0 r1 r2 r3 r4 hfr u0 u1 u2 u3 u4 uf
      obtain ⟨⟨p0, p1, p2, p3, p4⟩, ⟨q0, q1, q2, q3, q4⟩, s0, ⟨r0, r1, r2, r3, r4⟩, hfr⟩ := BB9.cells
      obtain ⟨u0, u1, u2, u3, u4⟩ := kB9.cells5
      have uf := kB9.frozen
      have HRo := Lib.hid HO9
      have HRm := Lib.hid HO9'
      clear HO9 HO9' HO7
      cases rr with
      | error e1 =>
        have ee : (e1 != 0) = true := rows_errP (P := fun e => (e != 0) = true) (fun x y e h => momO_err hop h) _ _ _ hab2 HR2.out
        simp only [errO]
        go_wp2
        refine bodyPost_ret (results_ct rfl _ _ (w.heap.size + 1 + 1 + 1) 36 _ _ rfl (set5 BB9.b3 _ _ _ _ _) Try.underlying36 rfl size_hist) rfl ?_
        rw [both_err2 HU.out HR1.out HR2.out]
        exact ⟨_, rfl, HNew.zero _ _, below5 BB9.be (by omega) _ _ _ _ _⟩
      | ok l2 =>
        simp only [errO, valO] at HRm u4 ⊢
        go_wp2
        refine bodyPost_ret (results_ct rfl _ _ (w.heap.size + 1 + 1 + 1) 36 _ _ rfl (set5 BB9.b3 _ _ _ _ _) Try.underlying36 rfl size_hist) rfl ?_
        rw [both_ok HU.out HR1.out HR2.out]
        exact ⟨_, rfl, ⟨_, _, rfl, own_set5 HRo.out BB9.b3 (by decide) _ _ _ _ _, own_set5 HRm.out BB9.b3 (by decide) _ _ _ _ _⟩, below5 BB9.be (by omega) _ _ _ _ _⟩
/-- Two histograms made one, like or not. -/
theorem both_any (f : Nat) (op : Int → Int → Bool → Except Int Int) (hop : IsOp f op) (a b : H) (A1 A2 A3 A4 : Option Addr) (c1 c2 c3 c4 : Nat) (w : World) (ha1 : a.counts.length ≤ 9223372036854775807) (ha2 : a.moms.length ≤ 9223372036854775807) (hb1 : b.counts.length ≤ 9223372036854775807) (hb2 : b.moms.length ≤ 9223372036854775807)
    (h1 : RdI w A1 a.counts) (h2 : RdM w A2 a.moms) (h3 : RdI w A3 b.counts) (h4 : RdM w A4 b.moms) : Calls Try.prog 52 #[hV a A1 A2 c1 c2, hV b A3 A4 c3 c4, .func (.func f) #[] #[]] w (ResH (bothO op a b) w) := by
  by_cases hu : likeP a b
  · have ⟨ra, rb, e1, e2, e3⟩ := hu
    have sa := right_small ra
    have sb := right_small rb
    refine both_like f op hop a b A1 A2 A3 A4 c1 c2 c3 c4 w (by omega) (by omega) hb1 hb2 h1 h2 h3 h4 ?_ ?_ hu
    · rcases ra.2 with ⟨k1, l1, m1⟩ | ⟨k1, l1, m1⟩
      · rcases rb.2 with ⟨k2, l2, m2⟩ | ⟨k2, l2, m2⟩
        · rw [e2, e3] at l1; omega
        · omega
      · omega
    · rcases ra.2 with ⟨k1, l1, m1⟩ | ⟨k1, l1, m1⟩
      · omega
      · rcases rb.2 with ⟨k2, l2, m2⟩ | ⟨k2, l2, m2⟩
        · omega
        · omega
  · exact both_unlike f op a b A1 A2 A3 A4 c1 c2 c3 c4 w ha1 ha2 hb1 hb2 hu
end Go.Proofs.Yteckbgpkoanhfaa.Hb
end

section
/- The walks of layer hist: New, moment, Add. -/
namespace Go.Proofs.Yteckbgpkoanhfaa.Hb
open Go.RowKit

/-- A histogram of zeros. -/
def newO (k b c : Int) : Except Int H := if mayP k b c then
    (if k = 0 then .ok ⟨k, b, c, List.replicate (b * c).toNat 0, []⟩ else .ok ⟨k, b, c, [], List.replicate b.toNat m0⟩)
  else .error 1
theorem new_not {k b c : Int} (h : ¬ mayP k b c) : newO k b c = .error 1 := if_neg h
theorem new_0 {k b c : Int} (h : mayP k b c) (hk : k = 0) : newO k b c = .ok ⟨k, b, c, List.replicate (b * c).toNat 0, []⟩ := by unfold newO; rw [if_pos h, if_pos hk]
theorem new_1 {k b c : Int} (h : mayP k b c) (hk : ¬ k = 0) : newO k b c = .ok ⟨k, b, c, [], List.replicate b.toNat m0⟩ := by unfold newO; rw [if_pos h, if_neg hk]
theorem info_int : (Try.prog.info? 2).map (fun i => (i.zero, i.size, i.bytes)) = some (some (.int .i64 0), 1, 8) := by kernel_rfl


theorem below_grown {w w' : World} (h : w.grownBy w' none) (B : Nat) (hB : B ≤ w.heap.size) : Below B w w' := ⟨h.os, h.tape, h.output, h.size, fun k hk => h.block k (Nat.lt_of_lt_of_le hk hB) (by simp)⟩
theorem boxes2 {w w' : World} {X1 X2 : Array Value} {t1 t2 : TypeId} (h : ((w.alloc (.cells X1 t1)).alloc (.cells X2 t2)).grownBy w' none) :
    Blk w' w.heap.size X1 t1 ∧ Blk w' (w.heap.size + 1) X2 t2 ∧ Below w.heap.size w w' ∧ w.heap.size + 1 < w'.heap.size := by
  have hb := below_grown h _ (Nat.le_refl _)
  refine ⟨?_, ?_, ?_, ?_⟩
  · exact ((Blk.new w X1 t1).below ((Below.refl _ _).alloc (Nat.le_refl _) _)).below hb
  · have := (Blk.new (w.alloc (.cells X1 t1)) X2 t2).below hb
    simpa using this
  · exact (((Below.refl _ w).alloc (Nat.le_refl _) _).alloc (by simp) _).trans (below_grown h _ (by simp; omega))
  · have := h.size; simp at this; omega
theorem ints_zeros (n : Nat) : ints (List.replicate n 0) = List.replicate n (.int .i64 0) := by simp [ints]
theorem momC_zeros (n : Nat) : momC (List.replicate n m0) = (madeCells (Value.agg #[(.int .i64 0), (.int .i64 0), (.int .i64 0)]).cells (n * 3)).toList := by
  apply List.ext_getElem
  · simp [momC, madeCells]
  · intro i h1 h2
    have e1 : ∀ x ∈ momC (List.replicate n m0), x = .int .i64 0 := by
      intro x hx
      simp only [momC, List.mem_flatMap, List.mem_replicate] at hx
      obtain ⟨y, ⟨_, rfl⟩, hx⟩ := hx
      simpa [m0] using hx
    rw [e1 _ (List.getElem_mem h1)]
    have hm : i % 3 < 3 := Nat.mod_lt _ (by omega)
    simp only [madeCells, Value.cells, Array.toList_map, Array.toList_range, List.getElem_map, List.getElem_range]
    obtain e | e | e : i % 3 = 0 ∨ i % 3 = 1 ∨ i % 3 = 2 := by omega
    all_goals simp [e]

set_option maxRecDepth 100000 in
set_option maxHeartbeats 4000000 in
theorem new_any (k b c : Int) (w : World) : Calls Try.prog 17 #[.int .i64 k, .int .i64 b, .int .i64 c] w (ResH (newO k b c) w) := by
  have hm0 := may_any k b c
  by_cases h0 : mayP k b c
  · rw [show mayB k b c = true from decide_eq_true h0] at hm0
    have HM := Lib.hid hm0
    have H0 := Lib.hid h0
    clear hm0
    by_cases hk : k = 0
    · rw [new_0 h0 hk]
      obtain ⟨i0, hi, hz0, hz1, hz2⟩ := info_parts info_int
      have hk' : (k == 0) = true := beq_iff_eq.2 hk
      obtain ⟨b1, b2, b3⟩ := h0
      have bc := bins_classes b1 b2 (show 2 ≤ c by omega) (show c ≤ 256 by omega)
      obtain ⟨n, hn⟩ : ∃ n : Nat, b * c = n := ⟨(b * c).toNat, by omega⟩
      clear hk b3 b1 b2
      go_enter Try.func17, Try.ntmps17
      go_wp2_with (first
        | (go_at_call 43; refine (HM.out _).mono ?_; rintro e w1 ⟨rfl, rfl⟩)
        | (at_make; refine wpList_make_full _ rfl _ _ 33 rfl w.heap.size 2 i0 (.int .i64 0) 1 Try.underlying33 hi hz0 hz1 .i64 .i64 _ _ n rfl rfl rfl rfl (by rw [hz2]; omega) (by unfold maxLen; omega) (by simp; omega) ?_; intro w' hown hgrow; obtain ⟨kA, kB, hbe, hsz⟩ := boxes2 hgrow; obtain ⟨p0, p1, p2, p3, p4⟩ := kA.cells5; obtain ⟨q0, q1, q2, q3, q4⟩ := kB.cells5; have pf := kA.frozen; have qf := kB.frozen))
      simp only [World.size_alloc] at hown
      have hrow : w'.ownsRow w.heap.size 2 1 (.slice (some ⟨w.heap.size + 1 + 1, 0, none⟩) n n) (List.replicate n (0 : Int)).length (ints (List.replicate n 0)) := by
        rw [Nat.mul_one] at hown
        rw [List.length_replicate, ints_zeros, ← toList_madeCells_one]
        exact hown
      have hl : (List.replicate n (0 : Int)).length = n := List.length_replicate
      have hne : w.heap.size ≠ w.heap.size + 1 := by omega
      refine bodyPost_ret (results_ct rfl _ _ w.heap.size 36 _ _ rfl (set5 (kA.other (p := ⟨w.heap.size + 1, 3, none⟩) hne _) _ _ _ _ _) Try.underlying36 rfl size_hist) rfl ?_
      rw [hn, Int.toNat_natCast]
      exact ⟨_, rfl, ⟨_, _, rfl, own_set5 (own_set hrow kB (by decide)) (kA.other (p := ⟨w.heap.size + 1, 3, none⟩) hne _) (by decide) _ _ _ _ _, World.ownsRow_nil _ _ _ _⟩, below5 (hbe.setCell (p := ⟨w.heap.size + 1, 3, none⟩) (by show w.heap.size ≤ w.heap.size + 1; omega) _) (Nat.le_refl _) _ _ _ _ _⟩
    · rw [new_1 h0 hk]
      obtain ⟨i0, hi, hz0, hz1, hz2⟩ := info_parts info_mom
      have hk' : (k == 0) = false := beq_eq_false_iff_ne.2 hk
      obtain ⟨b1, b2, b3⟩ := h0
      obtain ⟨n, hn⟩ : ∃ n : Nat, b = n := ⟨b.toNat, by omega⟩
      clear hk b3
      subst hn
      go_enter Try.func17, Try.ntmps17
      go_wp2_with (first
        | (go_at_call 43; refine (HM.out _).mono ?_; rintro e w1 ⟨rfl, rfl⟩)
        | (at_make; refine wpList_make_full _ rfl _ _ 34 rfl w.heap.size 52 i0 (.agg #[(.int .i64 0), (.int .i64 0), (.int .i64 0)]) 3 Try.underlying34 hi hz0 hz1 .i64 .i64 _ _ n rfl rfl rfl rfl (by rw [hz2]; omega) (by unfold maxLen; omega) (by simp; omega) ?_; intro w' hown hgrow; obtain ⟨kA, kB, hbe, hsz⟩ := boxes2 hgrow; obtain ⟨p0, p1, p2, p3, p4⟩ := kA.cells5; obtain ⟨q0, q1, q2, q3, q4⟩ := kB.cells5; have pf := kA.frozen; have qf := kB.frozen))
      simp only [World.size_alloc] at hown
      have hrow : w'.ownsRow w.heap.size 52 3 (.slice (some ⟨w.heap.size + 1 + 1, 0, none⟩) n n) (List.replicate n m0).length (momC (List.replicate n m0)) := by
        rw [List.length_replicate, momC_zeros]
        exact hown
      have hne : w.heap.size ≠ w.heap.size + 1 := by omega
      refine bodyPost_ret (results_ct rfl _ _ w.heap.size 36 _ _ rfl (set5 (kA.other (p := ⟨w.heap.size + 1, 4, none⟩) hne _) _ _ _ _ _) Try.underlying36 rfl size_hist) rfl ?_
      rw [Int.toNat_natCast]
      exact ⟨_, rfl, ⟨_, _, rfl, World.ownsRow_nil _ _ _ _, own_set5 (own_set hrow kB (by decide)) (kA.other (p := ⟨w.heap.size + 1, 4, none⟩) hne _) (by decide) _ _ _ _ _⟩, below5 (hbe.setCell (p := ⟨w.heap.size + 1, 4, none⟩) (by show w.heap.size ≤ w.heap.size + 1; omega) _) (Nat.le_refl _) _ _ _ _ _⟩
  · rw [show mayB k b c = false from decide_eq_false h0] at hm0
    have HM := Lib.hid hm0
    clear hm0
    rw [new_not h0]
    clear h0
    go_enter Try.func17, Try.ntmps17
    go_wp2_with (go_at_call 43; refine (HM.out _).mono ?_; rintro e w1 ⟨rfl, rfl⟩)
    refine bodyPost_ret (results_ct rfl _ _ w.heap.size 36 _ _ rfl (Blk.new w _ _) Try.underlying36 rfl size_hist) rfl ?_
    exact ⟨_, rfl, HNew.zero _ _, (Below.refl _ _).alloc (Nat.le_refl _) _⟩
end Go.Proofs.Yteckbgpkoanhfaa.Hb
end

section
/- The walks of layer hist: moment, Add. -/
namespace Go.Proofs.Yteckbgpkoanhfaa.Hb
open Go.RowKit

/-- What a target of a weight comes to. -/
def momentO (t k : Int) : Except Int Mom := match lim (t * k) with
  | none => .error 6
  | some s => match lim (t * s) with
    | none => .error 6
    | some q => .ok ⟨k, s, q⟩
theorem momentO_1 {t k : Int} (h : lim (t * k) = none) : momentO t k = .error 6 := by unfold momentO; rw [h]
theorem momentO_2 {t k s : Int} (h : lim (t * k) = some s) (h2 : lim (t * s) = none) : momentO t k = .error 6 := by unfold momentO; rw [h]; simp only [h2]
theorem momentO_3 {t k s q : Int} (h : lim (t * k) = some s) (h2 : lim (t * s) = some q) : momentO t k = .ok ⟨k, s, q⟩ := by unfold momentO; rw [h]; simp only [h2]
theorem cells3 {w : World} {g : Nat} {a b c : Value} {t : TypeId} (h : Blk w g #[a, b, c] t) :
    w.cell? ⟨g, 0, none⟩ = some a ∧ w.cell? ⟨g, 1, none⟩ = some b ∧ w.cell? ⟨g, 2, none⟩ = some c := ⟨h.cell 0, h.cell 1, h.cell 2⟩
theorem set3 {W : World} {g : Nat} {x0 x1 x2 : Value} {t : TypeId} (h : Blk W g #[x0, x1, x2] t) (a b c : Value) :
    Blk (((W.setCell ⟨g, 0, none⟩ a).setCell ⟨g, 1, none⟩ b).setCell ⟨g, 2, none⟩ c) g #[a, b, c] t := ((h.set 0 a).set 1 b).set 2 c
theorem below3 {B : Nat} {w W : World} {g : Nat} (h : Below B w W) (hg : B ≤ g) (a b c : Value) :
    Below B w (((W.setCell ⟨g, 0, none⟩ a).setCell ⟨g, 1, none⟩ b).setCell ⟨g, 2, none⟩ c) :=
  ((h.setCell (p := ⟨g, 0, none⟩) hg a).setCell (p := ⟨g, 1, none⟩) hg b).setCell (p := ⟨g, 2, none⟩) hg c
theorem size_mom : (Try.prog.info? 52).map (·.size) = some 3 := by kernel_rfl
theorem new3 (w : World) : Blk (w.alloc (.cells #[.int .i64 0, .int .i64 0, .int .i64 0] 52)) w.heap.size #[.int .i64 0, .int .i64 0, .int .i64 0] 52 ∧ Below w.heap.size w (w.alloc (.cells #[.int .i64 0, .int .i64 0, .int .i64 0] 52)) ∧ w.heap.size < (w.alloc (.cells #[.int .i64 0, .int .i64 0, .int .i64 0] 52)).heap.size :=
  ⟨Blk.new _ _ _, (Below.refl _ _).alloc (Nat.le_refl _) _, by simp⟩
set_option maxHeartbeats 1000000 in
theorem moment_any (t k : Int) (ht : inR t) (hk : inR k) (w : World) : Calls Try.prog 46 #[.int .i64 t, .int .i64 k] w fun e w' => e = .returned (momE (momentO t k)) ∧ Below w.heap.size w w' := by
  have hn3 := new3 w
  cases h1 : lim (t * k) with
  | none =>
    rw [momentO_1 h1]
    have hp := fun w => pproduct_any t k ht hk w
    unfold PProd at hp
    rw [h1] at hp
    have HP := Lib.hid hp
    have e6 : ((6 : Int) != 0) = true := rfl
    clear hp ht hk h1
    go_enter Try.func46, Try.ntmps46
    go_wp2_with fail
    obtain ⟨kA, bA, sA⟩ := hn3
    refine (HP.out _).mono ?_
    rintro e w1 ⟨rfl, hb1⟩
    have kA1 := kA.below hb1
    obtain ⟨p0, p1, p2⟩ := cells3 kA1
    have pf := kA1.frozen
    simp only [res]
    go_wp2_with fail
    refine bodyPost_ret (results_ct rfl _ _ w.heap.size 52 _ _ rfl (set3 kA1 _ _ _) Try.underlying52 rfl size_mom) rfl ?_
    exact ⟨rfl, below3 (bA.trans (hb1.mono (by omega))) (Nat.le_refl _) _ _ _⟩
  | some s =>
    have hs := lim_some h1
    have hp := fun w => pproduct_any t k ht hk w
    have hp2 := fun w => pproduct_any t s ht (by rw [hs.1]; exact hs.2) w
    unfold PProd at hp hp2
    rw [h1] at hp
    have e6 : ((6 : Int) != 0) = true := rfl
    have e0 : ((0 : Int) != 0) = false := rfl
    cases h2 : lim (t * s) with
    | none =>
      rw [momentO_2 h1 h2]
      rw [h2] at hp2
      have HP := Lib.hid hp
      have HP2 := Lib.hid hp2
      clear hp hp2 ht hk h1 h2 hs
      go_enter Try.func46, Try.ntmps46
      go_wp2_with fail
      obtain ⟨kA, bA, sA⟩ := hn3
      refine (HP.out _).mono ?_
      rintro e w1 ⟨rfl, hb1⟩
      have kA1 := kA.below hb1
      have sA1 := Nat.lt_of_lt_of_le sA hb1.size
      simp only [res]
      go_wp2_with fail
      refine (HP2.out _).mono ?_
      rintro e w2 ⟨rfl, hb2⟩
      have kA2 := kA1.below hb2
      obtain ⟨p0, p1, p2⟩ := cells3 kA2
      have pf := kA2.frozen
      simp only [res]
      go_wp2_with fail
      refine bodyPost_ret (results_ct rfl _ _ w.heap.size 52 _ _ rfl (set3 kA2 _ _ _) Try.underlying52 rfl size_mom) rfl ?_
      exact ⟨rfl, below3 (bA.trans ((hb1.mono (by omega)).trans (hb2.mono (by omega)))) (Nat.le_refl _) _ _ _⟩
    | some q =>
      rw [momentO_3 h1 h2]
      rw [h2] at hp2
      have HP := Lib.hid hp
      have HP2 := Lib.hid hp2
      clear hp hp2 ht hk h1 h2 hs
      go_enter Try.func46, Try.ntmps46
      go_wp2_with fail
      obtain ⟨kA, bA, sA⟩ := hn3
      refine (HP.out _).mono ?_
      rintro e w1 ⟨rfl, hb1⟩
      have kA1 := kA.below hb1
      have sA1 := Nat.lt_of_lt_of_le sA hb1.size
      simp only [res]
      go_wp2_with fail
      refine (HP2.out _).mono ?_
      rintro e w2 ⟨rfl, hb2⟩
      have kA2 := kA1.below hb2
      obtain ⟨p0, p1, p2⟩ := cells3 kA2
      have pf := kA2.frozen
      simp only [res]
      go_wp2_with fail
      refine bodyPost_ret (results_ct rfl _ _ w.heap.size 52 _ _ rfl (set3 kA2 _ _ _) Try.underlying52 rfl size_mom) rfl ?_
      exact ⟨rfl, below3 (bA.trans ((hb1.mono (by omega)).trans (hb2.mono (by omega)))) (Nat.le_refl _) _ _ _⟩
end Go.Proofs.Yteckbgpkoanhfaa.Hb
end

section
/- The walks of layer hist: Add. -/
namespace Go.Proofs.Yteckbgpkoanhfaa.Hb
open Go.RowKit

def addBad (h : H) (bin t : Int) : Prop := bin < 0 ∨ bin ≥ h.bins ∨ (h.kind = 0 ∧ (t < 0 ∨ t ≥ h.classes))
instance (h : H) (bin t : Int) : Decidable (addBad h bin t) := inferInstanceAs (Decidable (_ ∨ _))
/-- A histogram with targets more. -/
def addO (h : H) (bin t k : Int) : Except Int H :=
  if rightP h then
    (if addBad h bin t then .error 5
    else if k < 0 then .error 1
    else if h.kind = 0 then
      match lim (h.counts.getD (bin * h.classes + t).toNat 0 + k) with
      | none => .error 6
      | some n => .ok { h with counts := h.counts.set (bin * h.classes + t).toNat n }
    else match momentO t k with
      | .error e => .error e
      | .ok m => match momO opP (h.moms.getD bin.toNat m0) m with
        | .error e => .error e
        | .ok m' => .ok { h with moms := h.moms.set bin.toNat m' })
  else .error 8
theorem add_8 {h : H} {bin t k : Int} (hr : ¬ rightP h) : addO h bin t k = .error 8 := if_neg hr
theorem add_5 {h : H} {bin t k : Int} (hr : rightP h) (hb : addBad h bin t) : addO h bin t k = .error 5 := by unfold addO; rw [if_pos hr]; exact if_pos hb
theorem add_1 {h : H} {bin t k : Int} (hr : rightP h) (hb : ¬ addBad h bin t) (hk : k < 0) : addO h bin t k = .error 1 := by unfold addO; rw [if_pos hr, if_neg hb, if_pos hk]
theorem add_c {h : H} {bin t k : Int} (hr : rightP h) (hb : ¬ addBad h bin t) (hk : ¬ k < 0) (h0 : h.kind = 0) : addO h bin t k = match lim (h.counts.getD (bin * h.classes + t).toNat 0 + k) with
      | none => .error 6
      | some n => .ok { h with counts := h.counts.set (bin * h.classes + t).toNat n } := by unfold addO; rw [if_pos hr, if_neg hb, if_neg hk, if_pos h0]
theorem add_m {h : H} {bin t k : Int} (hr : rightP h) (hb : ¬ addBad h bin t) (hk : ¬ k < 0) (h0 : ¬ h.kind = 0) : addO h bin t k = match momentO t k with
      | .error e => .error e
      | .ok m => match momO opP (h.moms.getD bin.toNat m0) m with
        | .error e => .error e
        | .ok m' => .ok { h with moms := h.moms.set bin.toNat m' } := by unfold addO; rw [if_pos hr, if_neg hb, if_neg hk, if_neg h0]
/-- A histogram in memory, behind a pointer. -/
structure HM (base g : Nat) (h : H) (v1 v2 : Value) (W : World) : Prop where
  blk : Blk W g #[.int .i64 h.kind, .int .i64 h.bins, .int .i64 h.classes, v1, v2] 36
  r1 : W.ownsRow base 2 1 v1 h.counts.length (ints h.counts)
  r2 : W.ownsRow base 52 3 v2 h.moms.length (momC h.moms)
theorem HM.below {base g : Nat} {h : H} {v1 v2 : Value} {W W1 : World} (m : HM base g h v1 v2 W) (hb : Below W.heap.size W W1) : HM base g h v1 v2 W1 := ⟨m.blk.below hb, own_below m.r1 hb, own_below m.r2 hb⟩

set_option maxRecDepth 100000 in
set_option maxHeartbeats 4000000 in
theorem add_bad (h : H) (base g : Nat) (v1 v2 : Value) (bin t k : Int) (w : World) (hm : HM base g h v1 v2 w) (hl1 : h.counts.length ≤ 9223372036854775807) (hl2 : h.moms.length ≤ 9223372036854775807) (hr : ¬ rightP h) :
    Calls Try.prog 21 #[.pointer (some ⟨g, 0, none⟩), .int .i64 bin, .int .i64 t, .int .i64 k] w fun e w' => e = .returned (.int .i64 8) ∧ Below w.heap.size w w' := by
  obtain ⟨A1, c1, rfl⟩ := own_slice hm.r1
  obtain ⟨A2, c2, rfl⟩ := own_slice hm.r2
  have ra := fun w => right_any h A1 A2 c1 c2 w hl1 hl2
  rw [show rightB h = false from decide_eq_false hr] at ra
  unfold hV at ra
  have RA := Lib.hid ra
  obtain ⟨p0, p1, p2, p3, p4⟩ := hm.blk.cells5
  clear ra hr hl1 hl2
  go_enter Try.func21, Try.ntmps21
  go_wp2_with (go_at_call 20; refine (RA.out _).mono ?_; rintro e w1 ⟨rfl, hb⟩)
  go_ret
  exact ⟨rfl, hb⟩
set_option maxRecDepth 100000 in
set_option maxHeartbeats 4000000 in
theorem add_range (h : H) (base g : Nat) (v1 v2 : Value) (bin t k : Int) (w : World) (hm : HM base g h v1 v2 w) (hl1 : h.counts.length ≤ 9223372036854775807) (hl2 : h.moms.length ≤ 9223372036854775807) (hr : rightP h) (hbad : addBad h bin t) :
    Calls Try.prog 21 #[.pointer (some ⟨g, 0, none⟩), .int .i64 bin, .int .i64 t, .int .i64 k] w fun e w' => e = .returned (.int .i64 5) ∧ Below w.heap.size w w' := by
  obtain ⟨A1, c1, rfl⟩ := own_slice hm.r1
  obtain ⟨A2, c2, rfl⟩ := own_slice hm.r2
  have ra := fun w => right_any h A1 A2 c1 c2 w hl1 hl2
  rw [show rightB h = true from decide_eq_true hr] at ra
  unfold hV at ra
  have RA := Lib.hid ra
  have hmay := hr.1
  have hcs : h.kind = 0 → 2 ≤ h.classes ∧ h.classes ≤ 256 := fun e => by have := hmay.2.2; omega
  have hx : (bin < 0) ∨ (¬ bin < 0 ∧ bin ≥ h.bins) ∨ (¬ bin < 0 ∧ ¬ bin ≥ h.bins ∧ h.kind = 0 ∧ t < 0) ∨ (¬ bin < 0 ∧ ¬ bin ≥ h.bins ∧ h.kind = 0 ∧ ¬ t < 0 ∧ t ≥ h.classes) := by
    unfold addBad at hbad; omega
  clear ra hr hl1 hl2 hmay hbad
  rcases hx with x1 | ⟨x1, x2⟩ | ⟨x1, x2, x3, x4⟩ | ⟨x1, x2, x3, x4, x5⟩
  · go_enter Try.func21, Try.ntmps21
    obtain ⟨p0, p1, p2, p3, p4⟩ := hm.blk.cells5
    clear hcs
    go_wp2_with (go_at_call 20; refine (RA.out _).mono ?_; rintro e w1 ⟨rfl, hb⟩; obtain ⟨q0, q1, q2, q3, q4⟩ := (hm.blk.below hb).cells5)
    go_ret
    exact ⟨rfl, hb⟩
  · go_enter Try.func21, Try.ntmps21
    obtain ⟨p0, p1, p2, p3, p4⟩ := hm.blk.cells5
    clear hcs
    go_wp2_with (go_at_call 20; refine (RA.out _).mono ?_; rintro e w1 ⟨rfl, hb⟩; obtain ⟨q0, q1, q2, q3, q4⟩ := (hm.blk.below hb).cells5)
    go_ret
    exact ⟨rfl, hb⟩
  · have k0 : (h.kind == 0) = true := beq_iff_eq.2 x3
    obtain ⟨z1, z2⟩ := hcs x3
    have zw : IntKind.i64.wrap h.classes = h.classes := by rw [IntKind.wrap_i64]; omega
    clear hcs x3
    go_enter Try.func21, Try.ntmps21
    obtain ⟨p0, p1, p2, p3, p4⟩ := hm.blk.cells5
    go_wp2_with (go_at_call 20; refine (RA.out _).mono ?_; rintro e w1 ⟨rfl, hb⟩; obtain ⟨q0, q1, q2, q3, q4⟩ := (hm.blk.below hb).cells5)
    go_ret
    exact ⟨rfl, hb⟩
  · have k0 : (h.kind == 0) = true := beq_iff_eq.2 x3
    obtain ⟨z1, z2⟩ := hcs x3
    have zw : IntKind.i64.wrap h.classes = h.classes := by rw [IntKind.wrap_i64]; omega
    clear hcs x3
    go_enter Try.func21, Try.ntmps21
    obtain ⟨p0, p1, p2, p3, p4⟩ := hm.blk.cells5
    go_wp2_with (go_at_call 20; refine (RA.out _).mono ?_; rintro e w1 ⟨rfl, hb⟩; obtain ⟨q0, q1, q2, q3, q4⟩ := (hm.blk.below hb).cells5)
    go_ret
    exact ⟨rfl, hb⟩
theorem may_le {k b c : Int} (h : mayP k b c) : 1 ≤ b ∧ b ≤ 257 ∧ 0 ≤ c ∧ c ≤ 256 := by unfold mayP at h; omega
set_option maxRecDepth 100000 in
set_option maxHeartbeats 4000000 in
theorem add_neg (h : H) (base g : Nat) (v1 v2 : Value) (bin t k : Int) (w : World) (hm : HM base g h v1 v2 w) (hl1 : h.counts.length ≤ 9223372036854775807) (hl2 : h.moms.length ≤ 9223372036854775807) (hr : rightP h) (hbad : ¬ addBad h bin t) (hk : k < 0) :
    Calls Try.prog 21 #[.pointer (some ⟨g, 0, none⟩), .int .i64 bin, .int .i64 t, .int .i64 k] w fun e w' => e = .returned (.int .i64 1) ∧ Below w.heap.size w w' := by
  obtain ⟨A1, c1, rfl⟩ := own_slice hm.r1
  obtain ⟨A2, c2, rfl⟩ := own_slice hm.r2
  have ra := fun w => right_any h A1 A2 c1 c2 w hl1 hl2
  rw [show rightB h = true from decide_eq_true hr] at ra
  unfold hV at ra
  have RA := Lib.hid ra
  obtain ⟨_, _, z1, z2⟩ := may_le hr.1
  have zw : IntKind.i64.wrap h.classes = h.classes := by rw [IntKind.wrap_i64]; omega
  have x1 : ¬ bin < 0 := fun e => hbad (.inl e)
  have x2 : ¬ bin ≥ h.bins := fun e => hbad (.inr (.inl e))
  by_cases h0 : h.kind = 0
  · have k0 : (h.kind == 0) = true := beq_iff_eq.2 h0
    have x3 : ¬ t < 0 := fun e => hbad (.inr (.inr ⟨h0, .inl e⟩))
    have x4 : ¬ t ≥ h.classes := fun e => hbad (.inr (.inr ⟨h0, .inr e⟩))
    clear ra hr hl1 hl2 hbad h0
    go_enter Try.func21, Try.ntmps21
    obtain ⟨p0, p1, p2, p3, p4⟩ := hm.blk.cells5
    go_wp2_with (go_at_call 20; refine (RA.out _).mono ?_; rintro e w1 ⟨rfl, hb⟩; obtain ⟨q0, q1, q2, q3, q4⟩ := (hm.blk.below hb).cells5)
    go_ret
    exact ⟨rfl, hb⟩
  · have k0 : (h.kind == 0) = false := beq_eq_false_iff_ne.2 h0
    clear ra hr hl1 hl2 hbad h0
    go_enter Try.func21, Try.ntmps21
    obtain ⟨p0, p1, p2, p3, p4⟩ := hm.blk.cells5
    go_wp2_with (go_at_call 20; refine (RA.out _).mono ?_; rintro e w1 ⟨rfl, hb⟩; obtain ⟨q0, q1, q2, q3, q4⟩ := (hm.blk.below hb).cells5)
    go_ret
    exact ⟨rfl, hb⟩
end Go.Proofs.Yteckbgpkoanhfaa.Hb
end

section
/- The walks of layer hist: Add of classes. -/
namespace Go.Proofs.Yteckbgpkoanhfaa.Hb
open Go.RowKit

theorem own_other {w : World} {base base' : Nat} {e e' : TypeId} {size size' n n' g i c : Nat} {v u : Value} {xs xs' : List Value} (h : w.ownsRow base e size v n xs) (h2 : w.ownsRow base' e' size' (.slice (some ⟨g, 0, none⟩) n' c) n' xs') (hte : e' ≠ e) : (w.setCell ⟨g, i, none⟩ u).ownsRow base e size v n xs := by
  rcases h2.2 with ⟨h', _⟩ | ⟨g', cap', cur, h', hb, hg, _⟩
  · simp at h'
  · simp only [Value.slice.injEq, Option.some.injEq, Addr.mk.injEq, and_true, true_and] at h'
    obtain ⟨rfl, rfl⟩ := h'
    exact own_set h hg hte
theorem own_cell {w : World} {base : Nat} {e : TypeId} {size n g c : Nat} {xs : List Value} (h : w.ownsRow base e size (.slice (some ⟨g, 0, none⟩) n c) n xs) {j : Nat} {u : Value} (hj : xs[j]? = some u) : w.cell? ⟨g, j, none⟩ = some u := by
  have := World.ownsRow.cells h (g := g) rfl j u hj
  rw [show (⟨g, 0, none⟩ : Addr).add j = ⟨g, j, none⟩ from by unfold Addr.add; split <;> simp_all] at this
  exact this
theorem row_ne {w : World} {base' : Nat} {e' t : TypeId} {size' n' g gb c : Nat} {cs : Array Value} {xs' : List Value} (hb : Blk w gb cs t) (h2 : w.ownsRow base' e' size' (.slice (some ⟨g, 0, none⟩) n' c) n' xs') (hte : e' ≠ t) : gb ≠ g := by
  rintro rfl
  rcases h2.2 with ⟨h', _⟩ | ⟨g', cap', cur, h', _, hg, _⟩
  · simp at h'
  · simp only [Value.slice.injEq, Option.some.injEq, Addr.mk.injEq, and_true, true_and] at h'
    obtain ⟨rfl, rfl⟩ := h'
    have := (show w.heap[gb]? = _ from hb).symm.trans hg
    simp at this
    exact hte this.2.symm
/-- The numbers of a histogram are within. -/
structure okH (h : H) : Prop where
  o1 : ∀ x ∈ h.counts, inR x
  o2 : ∀ m ∈ h.moms, m.ok
theorem below_row {w w1 w2 : World} {row : Option Nat} (hb : Below w.heap.size w w1) (hg : w1.grownBy w2 row) : w.grownBy w2 row :=
  ⟨hg.os.trans hb.os, hg.tape.trans hb.tape, hg.output.trans hb.output, Nat.le_trans hb.size hg.size, fun k hk hne => (hg.block k (Nat.lt_of_lt_of_le hk hb.size) hne).trans (hb.block k hk)⟩
/-- What Add answers, and what it leaves. -/
def AddP (h : H) (bin t k : Int) (base g : Nat) (v1 v2 : Value) (w : World) (e : Ending) (w' : World) : Prop :=
  ∃ row, e = .returned (.int .i64 (errO (addO h bin t k))) ∧ HM base g (valO h (addO h bin t k)) v1 v2 w' ∧ w.grownBy w' row ∧ (row = none ∨ row = v1.ownBlock ∨ row = v2.ownBlock)
theorem AddP.err {h : H} {bin t k : Int} {base g : Nat} {v1 v2 : Value} {w w' : World} {e : Ending} {x : Int} (hx : addO h bin t k = .error x) (hm : HM base g h v1 v2 w) (h1 : e = .returned (.int .i64 x)) (hb : Below w.heap.size w w') : AddP h bin t k base g v1 v2 w e w' := by
  refine ⟨none, ?_, ?_, ⟨hb.os, hb.tape, hb.output, hb.size, fun k hk _ => hb.block k hk⟩, .inl rfl⟩
  · rw [hx, h1]; rfl
  · rw [hx]; exact hm.below hb
theorem ints_set (l : List Int) (i : Nat) (x : Int) : (ints l).set i (.int .i64 x) = ints (l.set i x) := by simp [ints]

set_option maxRecDepth 100000 in
set_option maxHeartbeats 4000000 in
theorem add_count (h : H) (base g : Nat) (v1 v2 : Value) (bin t k : Int) (w : World) (hm : HM base g h v1 v2 w) (ho : okH h) (hkR : inR k) (hl1 : h.counts.length ≤ 9223372036854775807) (hl2 : h.moms.length ≤ 9223372036854775807) (hr : rightP h) (hbad : ¬ addBad h bin t) (hk : ¬ k < 0) (h0 : h.kind = 0) :
    Calls Try.prog 21 #[.pointer (some ⟨g, 0, none⟩), .int .i64 bin, .int .i64 t, .int .i64 k] w (AddP h bin t k base g v1 v2 w) := by
  have hadd := add_c hr hbad hk h0
  obtain ⟨A1, c1, rfl⟩ := own_slice hm.r1
  obtain ⟨A2, c2, rfl⟩ := own_slice hm.r2
  have ra := fun w => right_any h A1 A2 c1 c2 w hl1 hl2
  rw [show rightB h = true from decide_eq_true hr] at ra
  unfold hV at ra
  obtain ⟨y1, y2, z1, z2⟩ := may_le hr.1
  have zw : IntKind.i64.wrap h.classes = h.classes := by rw [IntKind.wrap_i64]; omega
  have x1 : ¬ bin < 0 := fun e => hbad (.inl e)
  have x2 : ¬ bin ≥ h.bins := fun e => hbad (.inr (.inl e))
  have k0 : (h.kind == 0) = true := beq_iff_eq.2 h0
  have x3 : ¬ t < 0 := fun e => hbad (.inr (.inr ⟨h0, .inl e⟩))
  have x4 : ¬ t ≥ h.classes := fun e => hbad (.inr (.inr ⟨h0, .inr e⟩))
  have hlen : (h.counts.length : Int) = h.bins * h.classes := by rcases hr.2 with ⟨_, e, _⟩ | ⟨e, _⟩ <;> first | exact e | exact absurd h0 e
  obtain ⟨P, hP⟩ : ∃ P : Nat, bin * h.classes = P := ⟨(bin * h.classes).toNat, by have := Int.mul_nonneg (show 0 ≤ bin by omega) z1; omega⟩
  have hPB : (P : Int) + h.classes ≤ h.bins * h.classes := by
    have := Int.mul_le_mul_of_nonneg_right (show bin + 1 ≤ h.bins by omega) z1
    rw [Int.add_mul, hP] at this
    omega
  obtain ⟨tn, rfl⟩ : ∃ tn : Nat, t = tn := ⟨t.toNat, by omega⟩
  obtain ⟨n, hn⟩ : ∃ n, h.counts.length = n := ⟨_, rfl⟩
  have hlt : P + tn < n := by omega
  have hti : (P : Int) + (tn : Int) = ((P + tn : Nat) : Int) := by omega
  obtain ⟨at', hat⟩ : ∃ q, P + tn = q := ⟨_, rfl⟩
  rw [hat] at hti hlt
  have hat2 : (bin * h.classes + (tn : Int)).toNat = at' := by rw [hP, hti]; rfl
  rw [hat2] at hadd
  obtain ⟨x, hx⟩ : ∃ x, h.counts.getD at' 0 = x := ⟨_, rfl⟩
  rw [hx] at hadd
  have hxm : h.counts[at']? = some x := by
    rw [List.getD_eq_getElem?_getD] at hx
    rw [List.getElem?_eq_getElem (by omega)] at hx ⊢
    simpa using hx
  have hxR : inR x := ho.o1 x (List.mem_of_getElem? hxm)
  have hp := fun w => pplus_any x k hxR hkR w
  have hn257 : n ≤ 65792 := by have := right_small hr; omega
  obtain ⟨gr, cap, hv, _, _, _, _⟩ := own_open hm.r1 (by omega)
  simp only [Value.slice.injEq, true_and] at hv
  obtain ⟨rfl, -⟩ := hv
  have HADD := Lib.hid hadd
  have HLEN := Lib.hid hlen
  have HX := Lib.hid hxm
  have RA := Lib.hid ra
  have HR := Lib.hid hr
  have hn1 : (at' : Int) < n := by omega
  rw [hn] at RA
  have HM0 := Lib.hid hm
  have qb := hm.blk
  rw [hn] at qb
  obtain ⟨p0, p1, p2, p3, p4⟩ := qb.cells5
  have x5 : ¬ h.bins ≤ bin := by omega
  have x6 : ¬ h.classes ≤ (tn : Int) := by omega
  have d1 : decide (bin < 0) = false := decide_eq_false x1
  have d2 : decide (h.bins ≤ bin) = false := decide_eq_false x5
  have d3 : decide ((tn : Int) < 0) = false := decide_eq_false x3
  have d4 : decide (h.classes ≤ (tn : Int)) = false := decide_eq_false x6
  clear hm qb hadd hlen hxm hx hat2 hPB ra hr hbad h0 hl1 hl2 ho hkR hxR x2 x4
  cases hlim : lim (x + k) with
  | none =>
    rw [hlim] at hp HADD
    have HP := Lib.hid hp
    clear hp hlim
    go_enter Try.func21, Try.ntmps21
    go_wp2_with (first
      | (go_at_call 20; refine (RA.out _).mono ?_; rintro e w1 ⟨rfl, hb⟩; have hm1 := HM0.out.below hb; have qb := hm1.blk; rw [hn] at qb; obtain ⟨q0, q1, q2, q3, q4⟩ := qb.cells5; have rr := own_cell hm1.r1 (j := at') (u := .int .i64 x) (by have := HX.out; simp [ints, this]); have rn := row_ne hm1.blk hm1.r1 (by decide); have fr := fun i => World.ownsRow.frozenAt hm1.r1 i; have HM1 := Lib.hid hm1; clear hm1 qb)
      | (go_at_call 45; refine (HP.out _).mono ?_; rintro e w2 ⟨rfl, rfl⟩; simp only [res]))
    go_ret
    exact AddP.err HADD.out HM0.out rfl hb
  | some y =>
    rw [hlim] at hp HADD
    have HP := Lib.hid hp
    clear hp hlim
    have e0 : ((0 : Int) == 0) = true := rfl
    go_enter Try.func21, Try.ntmps21
    go_wp2_with (first
      | (go_at_call 20; refine (RA.out _).mono ?_; rintro e w1 ⟨rfl, hb⟩; have hm1 := HM0.out.below hb; have qb := hm1.blk; rw [hn] at qb; obtain ⟨q0, q1, q2, q3, q4⟩ := qb.cells5; have rr := own_cell hm1.r1 (j := at') (u := .int .i64 x) (by have := HX.out; simp [ints, this]); have rn := row_ne hm1.blk hm1.r1 (by decide); have fr := fun i => World.ownsRow.frozenAt hm1.r1 i; have HM1 := Lib.hid hm1; clear hm1 qb)
      | (go_at_call 45; refine (HP.out _).mono ?_; rintro e w2 ⟨rfl, rfl⟩; simp only [res]))
    go_ret
    have hst := World.ownsRow.stored HM1.out.r1 at' (.int .i64 y)
    refine ⟨some gr, by rw [HADD.out]; rfl, ?_, below_row hb hst.2, .inr (.inl rfl)⟩
    rw [HADD.out]
    refine ⟨?_, ?_, ?_⟩
    · exact HM1.out.blk.other (p := ⟨gr, at', none⟩) rn _
    · have := hst.1
      rw [ints_set] at this
      simpa [valO] using this
    · exact own_other HM1.out.r2 HM1.out.r1 (by decide)
end Go.Proofs.Yteckbgpkoanhfaa.Hb
end

section
/- How a histogram among the arguments is read. -/
namespace Go.Proofs.Yteckbgpkoanhfaa.Hb
open Go.RowKit Go.ChangeShapes Go.WideShapes Go.Deep

theorem momC_cons' (m : Mom) (l : List Mom) : momC (m :: l) = .int .i64 m.c :: .int .i64 m.s :: .int .i64 m.q :: momC l := by simp [momC]
theorem momC_at' : ∀ (l : List Mom) (i : Nat) (x : Mom), l[i]? = some x → (momC l)[i * 3]? = some (.int .i64 x.c) ∧ (momC l)[i * 3 + 1]? = some (.int .i64 x.s) ∧ (momC l)[i * 3 + 2]? = some (.int .i64 x.q)
  | [], i, x, h => by simp at h
  | m :: l, 0, x, h => by
    simp at h; subst h
    rw [momC_cons']; exact ⟨rfl, rfl, rfl⟩
  | m :: l, i + 1, x, h => by
    have ih := momC_at' l i x (by simpa using h)
    rw [momC_cons', show (i + 1) * 3 = i * 3 + 3 by omega]
    exact ih
/-- A histogram, read. -/
def RdH (w : World) (h : H) (v : Value) : Prop := ∃ A1 A2 c1 c2, v = hV h A1 A2 c1 c2 ∧ RdI w A1 h.counts ∧ RdM w A2 h.moms ∧ h.counts.length ≤ 9223372036854775807 ∧ h.moms.length ≤ 9223372036854775807
theorem RdH.below {w w1 : World} {h : H} {v : Value} (r : RdH w h v) (hb : Below w.heap.size w w1) : RdH w1 h v := by
  obtain ⟨A1, A2, c1, c2, e, r1, r2, l⟩ := r
  exact ⟨A1, A2, c1, c2, e, r1.below hb, r2.below hb, l⟩
theorem RdH.ok {w : World} {h : H} {v : Value} (r : RdH w h v) : okH h := by
  obtain ⟨A1, A2, c1, c2, e, r1, r2, l⟩ := r
  exact ⟨r1.1, r2.1⟩
theorem momC_len (l : List Mom) : (momC l).length = l.length * 3 := by
  induction l with
  | nil => rfl
  | cons x l ih => rw [momC_cons', List.length_cons, List.length_cons, List.length_cons, ih, List.length_cons]; omega
/-- What is owned is read. -/
theorem RdI.own {w : World} {base n c : Nat} {A : Option Addr} {l : List Int} (h : w.ownsRow base 2 1 (.slice A n c) l.length (ints l)) (ho : ∀ x ∈ l, Hb.inR x) : RdI w A l := by
  refine ⟨ho, ?_⟩
  by_cases h0 : l = []
  · exact .inl h0
  · obtain ⟨g, cap, hv, _, _, _, hc⟩ := own_open h (List.length_pos_iff.2 h0)
    simp only [Value.slice.injEq] at hv
    obtain ⟨rfl, _, _⟩ := hv
    refine .inr ⟨_, rfl, fun i hi => ?_⟩
    rw [show (⟨g, 0, none⟩ : Addr).add i = ⟨g, i, none⟩ from by unfold Addr.add; split <;> simp_all]
    refine hc i _ ?_
    simp [ints, List.getD_eq_getElem?_getD, List.getElem?_eq_getElem hi]
theorem RdM.own {w : World} {base n c : Nat} {A : Option Addr} {l : List Mom} (h : w.ownsRow base 52 3 (.slice A n c) l.length (momC l)) (ho : ∀ x ∈ l, x.ok) : RdM w A l := by
  refine ⟨ho, ?_⟩
  by_cases h0 : l = []
  · exact .inl h0
  · obtain ⟨g, cap, hv, _, _, _, hc⟩ := own_open h (List.length_pos_iff.2 h0)
    simp only [Value.slice.injEq] at hv
    obtain ⟨rfl, _, _⟩ := hv
    refine .inr ⟨_, rfl, fun i hi => ?_⟩
    rw [show (⟨g, 0, none⟩ : Addr).add (i * 3) = ⟨g, i * 3, none⟩ from by unfold Addr.add; split <;> simp_all]
    have hx : l[i]? = some (mAt l i) := by simp [mAt, List.getD_eq_getElem?_getD, List.getElem?_eq_getElem hi]
    obtain ⟨x1, x2, x3⟩ := momC_at' l i _ hx
    exact ⟨hc _ _ x1, hc _ _ x2, hc _ _ x3⟩
theorem HNew.rd {base : Nat} {h : H} {w : World} {v : Value} (n : HNew base h w v) (ho : okH h) (h1 : h.counts.length ≤ 9223372036854775807) (h2 : h.moms.length ≤ 9223372036854775807) : RdH w h v := by
  obtain ⟨v1, v2, rfl, r1, r2⟩ := n
  obtain ⟨A1, c1, rfl⟩ := own_slice r1
  obtain ⟨A2, c2, rfl⟩ := own_slice r2
  exact ⟨A1, A2, c1, c2, rfl, RdI.own r1 ho.o1, RdM.own r2 ho.o2, h1, h2⟩

section
variable {T : Type} {enc : TypeId × Value → T} {W : World} {base : Nat} {sp : Nat → Bool} {held : Bool}
theorem lit_inR {n : Int} (h : (Lit.int .i64 n).wf = true) : inR n := by
  simp [Lit.wf, IntKind.min, IntKind.max, IntKind.signed, IntKind.bits] at h
  unfold inR; omega
theorem read_ints {fuel : Nat} {c : Value} {x : DataW T × List MemPlace} (h : DataW.trod enc Try.prog W base sp held fuel 33 [c] = some x) : ∃ A l cap, c = .slice A l.length cap ∧ RdI W A l ∧ l.length ≤ 9223372036854775807 := by
  rcases open_slice1 Try.underlying33 (by kernel_rfl) h with ⟨hc, _⟩ | ⟨a, len, cap, m, n, V, D, Pl, hc, hb, hl, hm, hmm, _, hx⟩
  · cases hc
    exact ⟨none, [], 0, rfl, ⟨by simp, .inl rfl⟩, by simp⟩
  · cases hc
    have hml : len ≤ m := by rw [hmm]; split <;> omega
    have hv : ∀ i, i < len → ∃ n, V i = .int .i64 n ∧ inR n := fun i hi => by
      obtain ⟨_, h2⟩ := hx i (by omega)
      obtain ⟨z, hz, _, hw⟩ := DataW.trod_int Try.underlying2 h2
      simp only [List.cons.injEq, and_true] at hz
      exact ⟨z, hz, lit_inR hw⟩
    refine ⟨some a, (List.range len).map fun i => match V i with | .int _ z => z | _ => 0, cap, by simp, ⟨?_, .inr ⟨a, rfl, fun i hi => ?_⟩⟩, by simp; unfold maxLen at hm; omega⟩
    · intro x hx'
      obtain ⟨i, hi, rfl⟩ := List.mem_map.1 hx'
      obtain ⟨z, hz, hw⟩ := hv i (by simpa using hi)
      rw [hz]; exact hw
    · have hi' : i < len := by simpa using hi
      obtain ⟨z, hz, hw⟩ := hv i hi'
      rw [(hx i (by omega)).1, hz]
      simp [List.getD_eq_getElem?_getD, hi', hz]
instance : Inhabited Mom := ⟨m0⟩
theorem list3 {α : Type} {l : List α} (h : l.length = 3) : ∃ a b c, l = [a, b, c] := by
  match l, h with
  | [a, b, c], _ => exact ⟨a, b, c, rfl⟩
theorem cells_hist : Try.prog.cellsOf 36 = 5 := by kernel_rfl
theorem read_mom {fuel : Nat} {cs : List Value} {x : DataW T × List MemPlace} (h : DataW.trod enc Try.prog W base sp held fuel 52 cs = some x) : ∃ m : Mom, m.ok ∧ cs = [.int .i64 m.c, .int .i64 m.s, .int .i64 m.q] := by
  obtain ⟨xs, n, _, _, hl, hlen, hf⟩ := DataW.trod_struct Try.underlying52 h
  rw [show Try.prog.cellsOf 52 = 3 from by kernel_rfl] at hl
  obtain ⟨a, b, c, rfl⟩ := list3 hl
  have k1 : Try.prog.cellsOf 2 = 1 := by kernel_rfl
  have hx : xs.length = 3 := hlen
  have g0 : DataW.trod enc Try.prog W base sp held n 2 ((List.drop 0 [a, b, c]).take (Try.prog.cellsOf 2)) = xs[0]? := hf 0 _ rfl
  have g1 : DataW.trod enc Try.prog W base sp held n 2 ((List.drop 1 [a, b, c]).take (Try.prog.cellsOf 2)) = xs[1]? := hf 1 _ rfl
  have g2 : DataW.trod enc Try.prog W base sp held n 2 ((List.drop 2 [a, b, c]).take (Try.prog.cellsOf 2)) = xs[2]? := hf 2 _ rfl
  rw [List.getElem?_eq_getElem (by omega), k1] at g0 g1 g2
  obtain ⟨z0, hz0, _, w0⟩ := DataW.trod_int Try.underlying2 g0
  obtain ⟨z1, hz1, _, w1⟩ := DataW.trod_int Try.underlying2 g1
  obtain ⟨z2, hz2, _, w2⟩ := DataW.trod_int Try.underlying2 g2
  have hz0 : [a] = [.int .i64 z0] := hz0
  have hz1 : [b] = [.int .i64 z1] := hz1
  have hz2 : [c] = [.int .i64 z2] := hz2
  simp only [List.cons.injEq, and_true] at hz0 hz1 hz2
  exact ⟨⟨z0, z1, z2⟩, ⟨lit_inR w0, lit_inR w1, lit_inR w2⟩, by rw [hz0, hz1, hz2]⟩
theorem read_moms {fuel : Nat} {c : Value} {x : DataW T × List MemPlace} (h : DataW.trod enc Try.prog W base sp held fuel 34 [c] = some x) : ∃ A l cap, c = .slice A l.length cap ∧ RdM W A l ∧ l.length ≤ 9223372036854775807 := by
  rcases open_slice Try.underlying34 h with ⟨hc, _⟩ | ⟨a, len, cap, m, n, D, Pl, hc, hb, hl, hm, hmm, _, hx⟩
  · cases hc
    exact ⟨none, [], 0, rfl, ⟨by simp, .inl rfl⟩, by simp⟩
  · cases hc
    have hml : len ≤ m := by rw [hmm]; split <;> omega
    have hv : ∀ i, i < len → ∃ m : Mom, m.ok ∧ W.cell? (a.add (i * 3)) = some (.int .i64 m.c) ∧ W.cell? ⟨(a.add (i * 3)).block, (a.add (i * 3)).off + 1, none⟩ = some (.int .i64 m.s) ∧ W.cell? ⟨(a.add (i * 3)).block, (a.add (i * 3)).off + 2, none⟩ = some (.int .i64 m.q) := fun i hi => by
      obtain ⟨cs', h1, h2⟩ := hx i (by omega)
      obtain ⟨mm, hok, rfl⟩ := read_mom h2
      rw [show Try.prog.cellsOf 52 = 3 from by kernel_rfl] at h1
      obtain ⟨_, _, hcell⟩ := World.cells?_some h1
      have c0 := hcell 0 (by omega)
      have c1 := hcell 1 (by omega)
      have c2 := hcell 2 (by omega)
      refine ⟨mm, hok, ?_, ?_, ?_⟩
      · simpa [Addr.add] using c0
      · have hs := World.cell?_spot c1
        simpa [Addr.add] using c1
      · simpa [Addr.add] using c2
    obtain ⟨M, hM⟩ := choose_lt (α := Mom) (p := fun i m => m.ok ∧ W.cell? (a.add (i * 3)) = some (.int .i64 m.c) ∧ W.cell? ⟨(a.add (i * 3)).block, (a.add (i * 3)).off + 1, none⟩ = some (.int .i64 m.s) ∧ W.cell? ⟨(a.add (i * 3)).block, (a.add (i * 3)).off + 2, none⟩ = some (.int .i64 m.q)) hv
    refine ⟨some a, (List.range len).map M, cap, by simp, ⟨?_, .inr ⟨a, rfl, fun i hi => ?_⟩⟩, by simp; unfold maxLen at hm; omega⟩
    · intro x hx'
      obtain ⟨i, hi, rfl⟩ := List.mem_map.1 hx'
      exact (hM i (by simpa using hi)).1
    · have hi' : i < len := by simpa using hi
      have : mAt ((List.range len).map M) i = M i := by simp [mAt, List.getD_eq_getElem?_getD, hi']
      rw [this]
      exact (hM i hi').2
theorem array5 {α : Type} {cs : Array α} (h : cs.size = 5) : ∃ c0 c1 c2 c3 c4, cs = #[c0, c1, c2, c3, c4] := by
  obtain ⟨l⟩ := cs
  match l, h with
  | [c0, c1, c2, c3, c4], _ => exact ⟨c0, c1, c2, c3, c4, rfl⟩
set_option maxRecDepth 100000 in
theorem read_hist {r : Reach} {b0 : Nat} {v : Value} {d : DataW T} {p : List MemPlace} (hv : Value.okWide Try.prog W r b0 36 v) (h : DataW.Trod enc Try.prog W base sp held 36 v d p) : ∃ hh : H, RdH W hh v := by
  obtain ⟨cs, rfl, hsz⟩ := okWide_struct Try.underlying36 hv
  obtain ⟨c0, c1, c2, c3, c4, rfl⟩ := array5 (hsz.trans cells_hist)
  obtain ⟨fuel, hfu⟩ := h
  obtain ⟨xs, n, _, _, hl, hlen, hf⟩ := DataW.trod_struct Try.underlying36 hfu
  have k1 : Try.prog.cellsOf 3 = 1 := by kernel_rfl
  have k3 : Try.prog.cellsOf 33 = 1 := by kernel_rfl
  have k4 : Try.prog.cellsOf 34 = 1 := by kernel_rfl
  have hx : xs.length = 5 := hlen
  have g0 : DataW.trod enc Try.prog W base sp held n 3 ((List.drop 0 [c0, c1, c2, c3, c4]).take (Try.prog.cellsOf 3)) = xs[0]? := hf 0 _ rfl
  have g1 : DataW.trod enc Try.prog W base sp held n 3 ((List.drop 1 [c0, c1, c2, c3, c4]).take (Try.prog.cellsOf 3)) = xs[1]? := hf 1 _ rfl
  have g2 : DataW.trod enc Try.prog W base sp held n 3 ((List.drop 2 [c0, c1, c2, c3, c4]).take (Try.prog.cellsOf 3)) = xs[2]? := hf 2 _ rfl
  have g3 : DataW.trod enc Try.prog W base sp held n 33 ((List.drop 3 [c0, c1, c2, c3, c4]).take (Try.prog.cellsOf 33)) = xs[3]? := hf 3 _ rfl
  have g4 : DataW.trod enc Try.prog W base sp held n 34 ((List.drop 4 [c0, c1, c2, c3, c4]).take (Try.prog.cellsOf 34)) = xs[4]? := hf 4 _ rfl
  rw [List.getElem?_eq_getElem (by omega), k1] at g0 g1 g2
  rw [List.getElem?_eq_getElem (by omega), k3] at g3
  rw [List.getElem?_eq_getElem (by omega), k4] at g4
  obtain ⟨z0, hz0, _, _⟩ := DataW.trod_int Try.underlying3 g0
  obtain ⟨z1, hz1, _, _⟩ := DataW.trod_int Try.underlying3 g1
  obtain ⟨z2, hz2, _, _⟩ := DataW.trod_int Try.underlying3 g2
  have e0 : [c0] = [.int .i64 z0] := hz0
  have e1 : [c1] = [.int .i64 z1] := hz1
  have e2 : [c2] = [.int .i64 z2] := hz2
  simp only [List.cons.injEq, and_true] at e0 e1 e2
  obtain ⟨A1, l1, cap1, rfl, r1, b1⟩ := read_ints (c := c3) g3
  obtain ⟨A2, l2, cap2, rfl, r2, b2⟩ := read_moms (c := c4) g4
  subst e0 e1 e2
  exact ⟨⟨z0, z1, z2, l1, l2⟩, A1, A2, cap1, cap2, rfl, r1, r2, b1, b2⟩
end
end Go.Proofs.Yteckbgpkoanhfaa.Hb
end

section
/- How arguments are read, kind by kind; rows between two vocabularies. -/
namespace Go.Proofs.Yteckbgpkoanhfaa.Hy
open Go.RowKit Go.ChangeShapes Go.WideShapes Go.Deep Go.Proofs.YteckbgpkoanhfaaW.PrintWords

theorem list_of {α : Type} {p : Nat → α → Prop} : ∀ (n : Nat), (∀ i, i < n → ∃ y, p i y) → ∃ l : List α, l.length = n ∧ ∀ i y, l[i]? = some y → p i y
  | 0, _ => ⟨[], rfl, by simp⟩
  | n + 1, h => by
    obtain ⟨l, hl, hp⟩ := list_of n (fun i hi => h i (by omega))
    obtain ⟨y, hy⟩ := h n (by omega)
    refine ⟨l ++ [y], by simp [hl], fun i z hz => ?_⟩
    rcases Nat.lt_or_ge i n with hi | hi
    · rw [List.getElem?_append_left (by omega)] at hz
      exact hp i z hz
    · rw [List.getElem?_append_right (by omega)] at hz
      have e : i = n := by
        have := (List.getElem?_eq_some_iff.1 hz).1
        simp at this
        omega
      subst e
      rw [hl, Nat.sub_self] at hz
      simp at hz
      subst hz
      exact hy
section
variable {T : Type} (enc : TypeId × Value → T) (W : World) (base : Nat) (sp : Nat → Bool) (held : Bool)
/-- What reads as data of a type has a kind's cells, and is within. -/
def Rd {α : Type} (d : Kd α) (t : TypeId) (P : α → Prop) : Prop :=
  ∀ fuel cs x, DataW.trod enc Try.prog W base sp held fuel t cs = some x → ∃ y, d.K W y cs ∧ P y
def okN (k : IntKind) (x : Int) : Prop := (Lit.int k x).wf = true
theorem rd_int {t : TypeId} {k : IntKind} (hu : Try.prog.underlying t = some (.int k)) : Rd enc W base sp held (Kd.int k) t (okN k) := by
  intro fuel cs x h
  obtain ⟨z, hz, _, hw⟩ := DataW.trod_int hu h
  exact ⟨z, hz, hw⟩
theorem rd_bool {t : TypeId} (hu : Try.prog.underlying t = some .bool) : Rd enc W base sp held Kd.bool t (fun _ => True) := by
  intro fuel cs x h
  obtain ⟨z, hz, _⟩ := DataW.trod_bool hu h
  exact ⟨z, hz, trivial⟩
theorem rd_slice {α : Type} {d : Kd α} {t e : TypeId} {P : α → Prop} (hu : Try.prog.underlying t = some (.slice e)) (hs : Try.prog.cellsOf e = d.sz) (r : Rd enc W base sp held d e P) :
    Rd enc W base sp held (Kd.slice e d) t (fun l : List α => ∀ (i : Nat) (y : α), l[i]? = some y → P y) := by
  intro fuel cs x h
  rcases open_slice hu h with ⟨hc, _⟩ | ⟨a, len, cap, m, n, D, Pl, hc, hb, hl, hm, hmm, _, hx⟩
  · exact ⟨[], ⟨none, 0, hc, Nat.le_refl _, rfl, by simp, fun h => by simp at h⟩, by simp⟩
  · have hml : len ≤ m := by rw [hmm]; split <;> omega
    obtain ⟨l, hll, hp⟩ := list_of (p := fun i y => ∃ c, c.length = d.sz ∧ d.K W y c ∧ (∀ j u, c[j]? = some u → W.cell? (a.add (i * d.sz + j)) = some u) ∧ P y) len (fun i hi => by
      obtain ⟨cs', h1, h2⟩ := hx i (by omega)
      obtain ⟨y, hk, hy⟩ := r _ _ _ h2
      rw [hs] at h1
      obtain ⟨_, hlen, hcell⟩ := World.cells?_some h1
      refine ⟨y, cs', hlen, hk, fun j u hj => ?_, hy⟩
      have hj' : j < d.sz := by rw [← hlen]; exact (List.getElem?_eq_some_iff.1 hj).1
      have := hcell j hj'
      rw [hj] at this
      rw [Go.Addr.add_add] at this
      exact this)
    subst hll
    refine ⟨l, ⟨some a, cap, hc, hl, rfl, by unfold maxLen at hm; omega, fun _ => ⟨a, rfl, fun j p hj => ?_⟩⟩, fun i y hi => ?_⟩
    · obtain ⟨c, h1, h2, h3, _⟩ := hp j p hj
      exact ⟨c, h1, h2, h3⟩
    · obtain ⟨c, _, _, _, h4⟩ := hp i y hi
      exact h4
theorem fld {fs : Array Field} {n : Nat} {cs : List Value} {xs : List (DataW T × List MemPlace)} (hlen : xs.length = fs.size)
    (hf : ∀ (i : Nat) (f : Field), fs[i]? = some f → DataW.trod enc Try.prog W base sp held n f.type ((cs.drop f.offset).take (Try.prog.cellsOf f.type)) = xs[i]?) (i : Nat) (f : Field) (hi : fs[i]? = some f) :
    ∃ y, DataW.trod enc Try.prog W base sp held n f.type ((cs.drop f.offset).take (Try.prog.cellsOf f.type)) = some y := by
  have h1 := (Array.getElem?_eq_some_iff.1 hi).1
  have h2 := hf i f hi
  rw [List.getElem?_eq_getElem (by omega)] at h2
  exact ⟨_, h2⟩
end
theorem wf_inR {x : Int} (h : okN .i64 x) : Hb.inR x := Hb.lit_inR h
/-! Rows of numbers. -/
theorem rdI_of_C {w : World} {A : Option Addr} {n : Nat} {l : List Int} (h : Kd.C (Kd.int .i64) w A n l) (hr : ∀ x ∈ l, Hb.inR x) : Hb.RdI w A l := by
  refine ⟨hr, ?_⟩
  rcases l with _ | ⟨x, l⟩
  · exact .inl rfl
  · obtain ⟨ad, e, hc⟩ := h.2.2 (by have := h.1; simp at this; omega)
    refine .inr ⟨ad, e, fun i hi => ?_⟩
    obtain ⟨c, hl, hk, hcell⟩ := hc i _ (List.getElem?_eq_getElem hi)
    have hk' : c = [.int .i64 (x :: l)[i]] := hk
    have := hcell 0 (.int .i64 (x :: l)[i]) (by rw [hk']; rfl)
    rw [show (Kd.int .i64).sz = 1 from rfl, Nat.mul_one, Nat.add_zero] at this
    rw [this, List.getD_eq_getElem?_getD, List.getElem?_eq_getElem hi]
    rfl
theorem len_of_C {α : Type} {d : Kd α} {w : World} {A : Option Addr} {n : Nat} {l : List α} (h : Kd.C d w A n l) : l.length ≤ 9223372036854775807 := by rw [h.1]; exact h.2.1
theorem R_of_ints {w : World} {base : Nat} {v : Value} {l : List Int} (h : w.ownsRow base 2 1 v l.length (Hb.ints l)) : Kd.R (Kd.int .i64) 2 w base (fun _ => True) v l :=
  Kd.R_of_own h (fun _ _ => trivial)
end Go.Proofs.Yteckbgpkoanhfaa.Hy
end

section
/- Digits of 65536, the lowest first. No Go. -/
namespace Go.Proofs.Yteckbgpkoanhfaa.Hb

/-- What the first n digits come to. -/
def val (D : Nat → Nat) : Nat → Nat
  | 0 => 0
  | n + 1 => val D n + D n * 65536 ^ n
theorem val_congr {D E : Nat → Nat} : ∀ n, (∀ j, j < n → D j = E j) → val D n = val E n
  | 0, _ => rfl
  | n + 1, h => by rw [val, val, val_congr n (fun j hj => h j (by omega)), h n (by omega)]
theorem val_put (D : Nat → Nat) (k v : Nat) : ∀ n, k < n → val (fun j => if j = k then v else D j) n + D k * 65536 ^ k = val D n + v * 65536 ^ k
  | 0, h => by omega
  | n + 1, h => by
    by_cases e : k = n
    · subst e
      have : val (fun j => if j = k then v else D j) k = val D k := val_congr k (fun j hj => by rw [if_neg (by omega)])
      simp only [val, if_true, this]; omega
    · have := val_put D k v n (by omega)
      simp only [val, if_neg (show ¬ n = k by omega)]; omega
theorem val_lt (D : Nat → Nat) (h : ∀ j, D j < 65536) : ∀ n, val D n < 65536 ^ n
  | 0 => by simp [val]
  | n + 1 => by
    have h1 := val_lt D h n
    have h2 : D n * 65536 ^ n ≤ 65535 * 65536 ^ n := Nat.mul_le_mul_right _ (by have := h n; omega)
    rw [val, Nat.pow_succ]; omega
theorem val_le_more (D : Nat → Nat) (n : Nat) : ∀ m, n ≤ m → val D n ≤ val D m
  | 0, h => by obtain rfl : n = 0 := by omega
               exact Nat.le_refl _
  | m + 1, h => by
    by_cases e : n = m + 1
    · subst e; exact Nat.le_refl _
    · have := val_le_more D n m (by omega); rw [val]; omega
theorem val_zeros (D : Nat → Nat) (n : Nat) : ∀ m, n ≤ m → (∀ j, n ≤ j → j < m → D j = 0) → val D m = val D n
  | 0, h, _ => by obtain rfl : n = 0 := by omega
                  rfl
  | m + 1, h, hz => by
    by_cases e : n = m + 1
    · subst e; rfl
    · rw [val, val_zeros D n m (by omega) (fun j h1 h2 => hz j h1 (by omega)), hz m (by omega) (by omega)]; simp
theorem val_big (D : Nat → Nat) (n j : Nat) (h1 : j < n) (h2 : D j ≠ 0) : 65536 ^ j ≤ val D n := by
  have h3 := val_le_more D (j + 1) n h1
  have h4 : 1 * 65536 ^ j ≤ D j * 65536 ^ j := Nat.mul_le_mul_right _ (by omega)
  rw [val] at h3; omega
theorem carry_step (n P : Nat) : n % 65536 * P + n / 65536 * (P * 65536) = n * P := by
  have h := Nat.mod_add_div n 65536
  calc n % 65536 * P + n / 65536 * (P * 65536) = (n % 65536 + 65536 * (n / 65536)) * P := by rw [Nat.add_mul, Nat.mul_comm P 65536, ← Nat.mul_assoc, Nat.mul_comm (n / 65536) 65536]
    _ = n * P := by rw [h]
/-- Four digits of a number. -/
def dig (n : Nat) (j : Nat) : Nat := if j = 0 then n % 65536 else if j = 1 then n / 65536 % 65536 else if j = 2 then n / 4294967296 % 65536 else if j = 3 then n / 281474976710656 else 0
theorem dig_lt (n : Nat) (h : n < 18446744073709551616) (j : Nat) : dig n j < 65536 := by unfold dig; (repeat' split) <;> omega
theorem dig_val (n : Nat) : val (dig n) 4 = n := by simp only [val, dig]; simp; omega
theorem val4 (D : Nat → Nat) : val D 4 = D 0 + D 1 * 65536 + D 2 * 4294967296 + D 3 * 281474976710656 := by simp [val]
/-- The step of a sum. -/
theorem sum_step (E D1 D2 : Nat → Nat) (k c : Nat) (h : val E k + c * 65536 ^ k = val D1 k + val D2 k) :
    val (fun j => if j = k then (D1 k + D2 k + c) % 65536 else E j) (k + 1) + (D1 k + D2 k + c) / 65536 * 65536 ^ (k + 1) = val D1 (k + 1) + val D2 (k + 1) := by
  have e1 : val (fun j => if j = k then (D1 k + D2 k + c) % 65536 else E j) k = val E k := val_congr k (fun j hj => by rw [if_neg (by omega)])
  have e2 := carry_step (D1 k + D2 k + c) (65536 ^ k)
  rw [Nat.add_mul, Nat.add_mul] at e2
  simp only [val, if_true, e1, Nat.pow_succ]
  omega
/-- The steps of a product: a digit; a row's end. -/
theorem prod_step (O D2 : Nat → Nat) (i k a c X : Nat) (hk : i + k < 8) (h : val O 8 + c * 65536 ^ (i + k) = X + a * 65536 ^ i * val D2 k) :
    val (fun j => if j = i + k then (O (i + k) + a * D2 k + c) % 65536 else O j) 8 + (O (i + k) + a * D2 k + c) / 65536 * 65536 ^ (i + (k + 1)) = X + a * 65536 ^ i * val D2 (k + 1) := by
  have e1 := val_put O (i + k) ((O (i + k) + a * D2 k + c) % 65536) 8 hk
  have e2 := carry_step (O (i + k) + a * D2 k + c) (65536 ^ (i + k))
  rw [Nat.add_mul, Nat.add_mul] at e2
  have e3 : a * 65536 ^ i * val D2 (k + 1) = a * 65536 ^ i * val D2 k + a * D2 k * 65536 ^ (i + k) := by
    rw [val, Nat.mul_add, Nat.pow_add]; congr 1
    rw [Nat.mul_assoc, Nat.mul_assoc, Nat.mul_left_comm (65536 ^ i)]
  have e4 : 65536 ^ (i + (k + 1)) = 65536 ^ (i + k) * 65536 := by rw [← Nat.add_assoc, Nat.pow_succ]
  rw [e3, e4]
  omega
theorem prod_end (O D1 D2 : Nat → Nat) (i c : Nat) (hi : i + 4 < 8) (h0 : O (i + 4) = 0) (h : val O 8 + c * 65536 ^ (i + 4) = val D1 i * val D2 4 + D1 i * 65536 ^ i * val D2 4) :
    val (fun j => if j = i + 4 then c else O j) 8 = val D1 (i + 1) * val D2 4 := by
  have e1 := val_put O (i + 4) c 8 hi
  rw [h0] at e1
  rw [show val D1 (i + 1) = val D1 i + D1 i * 65536 ^ i from rfl, Nat.add_mul]
  omega
theorem prod_fits (o a b c : Nat) (ho : o < 65536) (ha : a < 65536) (hb : b < 65536) (hc : c < 65536) : a * b ≤ 4294836225 ∧ (o + a * b + c) / 65536 < 65536 := by
  have : a * b ≤ 65535 * 65535 := Nat.mul_le_mul (by omega) (by omega)
  exact ⟨by omega, by omega⟩
end Go.Proofs.Yteckbgpkoanhfaa.Hb
end

section
/- The walks of the reference of layer 4: sums, differences and products by digits. -/
namespace Go.Proofs.Yteckbgpkoanhfaa.Hb
open Go.RowKit

theorem rsize_neg (a : Int) (h : -9223372036854775808 ≤ a) (c : a < 0) : IntKind.u64.wrap (-(a + 1) + 1) = (a.natAbs : Int) := by
  simp [IntKind.wrap, IntKind.bits, IntKind.signed]; omega
theorem ret_u64' {a b : Int} (h : a = b) : Ending.returned (.int .u64 a) = .returned (.int .u64 b) := by rw [h]
theorem rsize_any (a : Int) (ha : inR a) (w : World) :
    Calls Try.prog 68 #[.int .i64 a] w fun e w' => e = .returned (.int .u64 (a.natAbs : Int)) ∧ w = w' := by
  obtain ⟨a1, a2⟩ := ha
  by_cases c : a < 0
  · have c' : decide (0 ≤ a) = false := decide_eq_false (by omega)
    go_enter Try.func68, Try.ntmps68
    go_wp2
    go_ret
    exact ⟨ret_u64' (by omega), rfl⟩
  · have c' : decide (0 ≤ a) = true := decide_eq_true (by omega)
    go_enter Try.func68, Try.ntmps68
    go_wp2
    go_ret
    exact ⟨ret_u64' (by omega), rfl⟩

/-- A slice of n digits, in new memory. -/
def DigRow (B : Nat) (n : Nat) (D : Nat → Nat) (v : Value) (w : World) : Prop :=
  (∀ j, D j < 65536) ∧ ∃ g c, v = .slice (some ⟨g, 0, none⟩) n c ∧ n ≤ c ∧ B ≤ g ∧ g < w.heap.size ∧ ∀ j, j < n → w.cell? ⟨g, j, none⟩ = some (.int .u64 (D j : Nat))
theorem DigRow.below {B n : Nat} {D : Nat → Nat} {v : Value} {w w1 : World} (h : DigRow B n D v w) (hb : Below w.heap.size w w1) : DigRow B n D v w1 := by
  obtain ⟨h0, g, c, h1, h2, h3, h4, h5⟩ := h
  exact ⟨h0, g, c, h1, h2, h3, Nat.lt_of_lt_of_le h4 hb.size, fun j hj => (hb.cell (p := ⟨g, j, none⟩) h4).trans (h5 j hj)⟩
/-- What a call that makes digits comes to. -/
def Digs (B n N : Nat) (w : World) (e : Ending) (w' : World) : Prop := ∃ D v, e = .returned v ∧ val D n = N ∧ DigRow B n D v w' ∧ Below w.heap.size w w'

theorem rdigits_any (n : Nat) (hn : n < 18446744073709551616) (w : World) :
    Calls Try.prog 71 #[.int .u64 n] w (Digs w.heap.size 4 n w) := by
  go_enter Try.func71, Try.ntmps71
  go_wp2
  go_ret
  refine ⟨dig n, _, rfl, dig_val n, ⟨dig_lt n hn, w.heap.size, _, rfl, by omega, by omega, by simp, ?_⟩, (Below.refl _ _).alloc (Nat.le_refl _) _⟩
  intro j hj
  match j, hj with
  | 0, _ => simp [dig]
  | 1, _ => simp [dig]
  | 2, _ => simp [dig]
  | 3, _ => simp [dig]

set_option maxHeartbeats 1000000 in
theorem rnumber_any (c : Nat) (D : Nat → Nat) (g : Nat) (hD : ∀ j, D j < 65536) (w : World) (hc : ∀ j, j < 4 → w.cell? ⟨g, j, none⟩ = some (.int .u64 (D j : Nat))) :
    Calls Try.prog 82 #[.slice (some ⟨g, 0, none⟩) 4 c] w fun e w' => e = .returned (.int .u64 (val D 4 : Nat)) ∧ Below w.heap.size w w' := by
  have c0 := hc 0 (by omega)
  have c1 := hc 1 (by omega)
  have c2 := hc 2 (by omega)
  have c3 := hc 3 (by omega)
  have b0 := hD 0
  have b1 := hD 1
  have b2 := hD 2
  have b3 := hD 3
  clear hc hD
  rw [val4]
  go_enter Try.func82, Try.ntmps82
  go_wp2
  go_quiet (fail)
  go_wp2
  go_ret
  exact ⟨ret_u64' (by omega), below_drewN (Below.refl _ _) _⟩

set_option maxHeartbeats 1000000 in
theorem rwhole_big (bel : Bool) (len c g : Nat) (D : Nat → Nat) (hl : 4 ≤ len) (hl8 : len ≤ 8) (w : World) (hc : ∀ j, j < len → w.cell? ⟨g, j, none⟩ = some (.int .u64 (D j : Nat))) (jj : Nat) (hj : 4 ≤ jj) (hj2 : jj < len) (hj3 : D jj ≠ 0) :
    Calls Try.prog 69 #[.bool bel, .slice (some ⟨g, 0, none⟩) len c] w fun e w' => e = .returned (res none) ∧ Below w.heap.size w w' := by
  have HC := Lib.hid hc
  have HJ := Lib.hid hj3
  clear hc hj3
  go_enter Try.func69, Try.ntmps69
  go_wp2
  go_loop [6] (fun i => ∃ k : Nat, 4 ≤ k ∧ k ≤ len ∧ i = .int .i64 k ∧ Hid (∀ j, 4 ≤ j → j < k → D j = 0)) (fun i => len - (intOf i).toNat)
  case atStart => exact ⟨4, by omega, hl, rfl, Lib.hid (fun j h1 h2 => by omega)⟩
  case round =>
    obtain ⟨k, hk4, hk, rfl, HZ⟩ := hrel
    by_cases hlt : k < len
    · have ck := HC.out k hlt
      by_cases h0 : D k = 0
      · rw [h0] at ck
        go_wp2
        go_round
        case rel => exact ⟨k + 1, by omega, by omega, by go_num, Lib.hid (fun j h1 h2 => by
          by_cases e : j = k
          · rw [e]; exact h0
          · exact HZ.out j h1 (by omega))⟩
        case measure => simp [intOf]; omega
      · have h1 : 0 < D k := by omega
        have h2 : decide (0 < D k) = true := decide_eq_true h1
        clear h0
        go_wp2
        go_ret2
        exact ⟨rfl, Below.refl _ _⟩
    · exact absurd (HZ.out jj hj (by omega)) HJ.out

def RWhole (bel : Bool) (len c g : Nat) (v : Option Int) (w : World) : Prop :=
  Calls Try.prog 69 #[.bool bel, .slice (some ⟨g, 0, none⟩) len c] w fun e w' => e = .returned (res v) ∧ Below w.heap.size w w'

set_option maxHeartbeats 4000000 in
theorem rwhole_small (bel : Bool) (len c g n : Nat) (D : Nat → Nat) (hl : 4 ≤ len) (hl8 : len ≤ 8) (hlc : len ≤ c) (hD : ∀ j, D j < 65536) (w : World) (hc : ∀ j, j < len → w.cell? ⟨g, j, none⟩ = some (.int .u64 (D j : Nat)))
    (hz : ∀ j, 4 ≤ j → j < len → D j = 0) (hn : val D 4 = n) (hn2 : (n : Int) ≤ 18446744073709551615) (v : Option Int)
    (hv : (((n : Int) == 0) = true ∧ v = some 0) ∨ (((n : Int) == 0) = false ∧ 0 < n ∧
      ((bel = false ∧ (n : Int) ≤ 9223372036854775807 ∧ v = some n) ∨ (bel = false ∧ decide ((n : Int) ≤ 9223372036854775807) = false ∧ v = none) ∨
       (bel = true ∧ (n : Int) ≤ 9223372036854775808 ∧ v = some (-(n : Int))) ∨ (bel = true ∧ decide ((n : Int) ≤ 9223372036854775808) = false ∧ v = none)))) : RWhole bel len c g v w := by
  unfold RWhole
  have HC := Lib.hid hc
  have HZ := Lib.hid hz
  have HN := Lib.hid hn
  have hcn : ∀ W, Below w.heap.size w W → Calls Try.prog 82 #[.slice (some ⟨g, 0, none⟩) 4 c] w fun e w' => e = .returned (.int .u64 (n : Nat)) ∧ Below w.heap.size w w' := fun _ _ => by
    have := rnumber_any c D g hD w (fun j hj => hc j (by omega))
    rwa [hn] at this
  have HV := Lib.hid hcn
  clear hc hz hn hcn hD
  go_enter Try.func69, Try.ntmps69
  go_wp2
  go_loop [6] (fun i => ∃ k : Nat, 4 ≤ k ∧ k ≤ len ∧ i = .int .i64 k) (fun i => len - (intOf i).toNat)
  case atStart => exact ⟨4, by omega, hl, rfl⟩
  case round =>
    obtain ⟨k, hk4, hk, rfl⟩ := hrel
    by_cases hlt : k < len
    · have ck := HC.out k hlt
      rw [HZ.out k hk4 hlt] at ck
      clear hv
      go_wp2
      go_round
      case rel => exact ⟨k + 1, by omega, by omega, by go_num⟩
      case measure => simp [intOf]; omega
    · obtain rfl : k = len := by omega
      clear hlt
      rcases hv with ⟨h1, rfl⟩ | ⟨h1, h0, ⟨rfl, h2, rfl⟩ | ⟨rfl, h2, rfl⟩ | ⟨rfl, h2, rfl⟩ | ⟨rfl, h2, rfl⟩⟩
      · go_wp2_with (go_at_call 82; refine (HV.out w (Below.refl _ _)).mono ?_; rintro e w1 ⟨rfl, hb⟩)
        go_ret2
        exact ⟨rfl, hb⟩
      · go_wp2_with (go_at_call 82; refine (HV.out w (Below.refl _ _)).mono ?_; rintro e w1 ⟨rfl, hb⟩)
        go_ret2
        exact ⟨rfl, hb⟩
      · go_wp2_with (go_at_call 82; refine (HV.out w (Below.refl _ _)).mono ?_; rintro e w1 ⟨rfl, hb⟩)
        go_ret2
        exact ⟨rfl, hb⟩
      · go_wp2_with (go_at_call 82; refine (HV.out w (Below.refl _ _)).mono ?_; rintro e w1 ⟨rfl, hb⟩)
        go_ret2
        refine ⟨?_, hb⟩
        rw [show (-(n : Int)) = -((n : Int) - 1) - 1 from by omega]
        rfl
      · go_wp2_with (go_at_call 82; refine (HV.out w (Below.refl _ _)).mono ?_; rintro e w1 ⟨rfl, hb⟩)
        go_ret2
        exact ⟨rfl, hb⟩

/-- whole, of any digits. -/
theorem rwhole_any (bel : Bool) (len : Nat) (hl : 4 ≤ len) (hl8 : len ≤ 8) (B : Nat) (D : Nat → Nat) (v : Value) (w : World) (h : DigRow B len D v w) :
    Calls Try.prog 69 #[.bool bel, v] w fun e w' => e = .returned (res (lim (if bel = true then -((val D len : Nat) : Int) else (val D len : Nat)))) ∧ Below w.heap.size w w' := by
  obtain ⟨hD, g, c, rfl, hlc, _, _, hc⟩ := h
  by_cases hz : ∀ j, 4 ≤ j → j < len → D j = 0
  · have hn := val_zeros D 4 len hl hz
    have hlt := val_lt D hD 4
    rw [hn]
    obtain ⟨n, e⟩ : ∃ n, val D 4 = n := ⟨_, rfl⟩
    rw [e]
    rw [e] at hlt
    refine rwhole_small bel len c g n D hl hl8 hlc hD w hc hz e (by omega) _ ?_
    by_cases h0 : n = 0
    · left; subst h0; exact ⟨by simp, by cases bel <;> rfl⟩
    · right
      refine ⟨beq_eq_false_iff_ne.2 (by omega), by omega, ?_⟩
      cases bel
      · simp only [Bool.false_eq_true, if_false, false_and, or_false, true_and]
        by_cases h1 : (n : Int) ≤ 9223372036854775807
        · exact .inl ⟨h1, lim_in ⟨by omega, h1⟩⟩
        · exact .inr ⟨decide_eq_false h1, lim_out (fun h => h1 h.2)⟩
      · simp only [if_true, false_and, false_or, true_and, Bool.true_eq_false]
        by_cases h1 : (n : Int) ≤ 9223372036854775808
        · exact .inl ⟨h1, lim_in ⟨by omega, by omega⟩⟩
        · exact .inr ⟨decide_eq_false h1, lim_out (fun h => h1 (by have := h.1; omega))⟩
  · obtain ⟨j, h4, hj, h0⟩ : ∃ j, 4 ≤ j ∧ j < len ∧ D j ≠ 0 := by
      refine Classical.byContradiction fun hno => hz fun j h1 h2 => Classical.byContradiction fun h3 => hno ⟨j, h1, h2, h3⟩
    have hb := val_big D len j hj h0
    have hp : 65536 ^ 4 ≤ 65536 ^ j := Nat.pow_le_pow_right (by omega) h4
    rw [show lim (if bel = true then -((val D len : Nat) : Int) else (val D len : Nat)) = none from lim_out (fun h => by unfold inR at h; split at h <;> omega)]
    exact rwhole_big bel len c g D hl hl8 w hc j h4 hj h0

def digL (D : Nat → Nat) (n : Nat) : List Value := (List.range n).map fun j => Value.int .u64 (D j : Nat)
theorem digL_snoc (D : Nat → Nat) (n d : Nat) : digL D n ++ [Value.int .u64 (d : Nat)] = digL (fun j => if j = n then d else D j) (n + 1) := by
  unfold digL
  rw [List.range_succ, List.map_append]
  congr 1
  · refine List.map_congr_left fun j hj => ?_
    have := List.mem_range.1 hj
    show _ = Value.int .u64 ((if j = n then d else D j : Nat) : Int)
    rw [if_neg (by omega)]
  · simp
theorem digL_get (D : Nat → Nat) (n j : Nat) (h : j < n) : (digL D n)[j]? = some (.int .u64 (D j : Nat)) := by simp [digL, h]
theorem digs_of_own {B n : Nat} {E : Nat → Nat} {v : Value} {w1 : World} (hE : ∀ j, E j < 65536) (h : w1.ownsRow B 110 1 v n (digL E n)) (hn : 0 < n) : DigRow B n E v w1 := by
  obtain ⟨g, c, rfl, h1, h2, h3, h4⟩ := own_open h hn
  exact ⟨hE, g, c, rfl, h1, h2, h3, fun j hj => h4 _ _ (digL_get E n j hj)⟩
theorem info_u64 : (Try.prog.info? 110).map (fun i => (i.zero, i.size, i.bytes)) = some (some (.int .u64 0), 1, 8) := by kernel_rfl

set_option maxRecDepth 100000 in
set_option maxHeartbeats 2000000 in
theorem rsum_any (B1 B2 : Nat) (D1 D2 : Nat → Nat) (v1 v2 : Value) (w : World) (h1 : DigRow B1 4 D1 v1 w) (h2 : DigRow B2 4 D2 v2 w) :
    Calls Try.prog 70 #[v1, v2] w (Digs w.heap.size 5 (val D1 4 + val D2 4) w) := by
  obtain ⟨i0, hi, hz0, hz1, hz2⟩ := info_parts info_u64
  obtain ⟨hD1, g1, c1, rfl, hlc1, _, hg1, hc1⟩ := h1
  obtain ⟨hD2, g2, c2, rfl, hlc2, _, hg2, hc2⟩ := h2
  have HC1 := Lib.hid hc1
  have HC2 := Lib.hid hc2
  have HD1 := Lib.hid hD1
  have HD2 := Lib.hid hD2
  clear hc1 hc2 hD1 hD2
  go_enter Try.func70, Try.ntmps70
  go_wp2
  go_loopw [5, 6, 7] (fun o cv i wr => ∃ (k c : Nat) (E : Nat → Nat), k ≤ 4 ∧ i = .int .i64 k ∧ cv = .int .u64 c ∧ c < 65536 ∧ Hid (∀ j, E j < 65536) ∧ Hid (val E k + c * 65536 ^ k = val D1 k + val D2 k) ∧ wr.ownsRow w.heap.size 110 1 o k (digL E k) ∧ Below w.heap.size w wr) (fun _ _ i _ => 4 - (intOf i).toNat)
  case atStart => exact ⟨0, 0, fun _ => 0, by omega, rfl, rfl, by omega, Lib.hid (fun _ => (by decide : 0 < 65536)), Lib.hid (by simp [val]), World.ownsRow_made w #[] 0 (Nat.le_refl _) (by unfold maxLen; omega) rfl, (Below.refl _ _).alloc (Nat.le_refl _) _⟩
  case round =>
    obtain ⟨k, c, E, hk, rfl, rfl, hc, HE, HV, hrow, hB⟩ := hrel
    have hBs := hB.size
    by_cases hlt : k < 4
    · have x1 := (hB.cell (p := ⟨g1, k, none⟩) hg1).trans (HC1.out k hlt)
      have x2 := (hB.cell (p := ⟨g2, k, none⟩) hg2).trans (HC2.out k hlt)
      have b1 := HD1.out k
      have b2 := HD2.out k
      have hstep := Lib.hid (sum_step E D1 D2 k c HV.out)
      have hfit : (D1 k + D2 k + c) / 65536 < 65536 := by omega
      obtain ⟨n, hn⟩ : ∃ n, n = D1 k + D2 k + c := ⟨_, rfl⟩
      have hE : ∀ j, (fun j => if j = k then n % 65536 else E j) j < 65536 := fun j => by
        show (if j = k then n % 65536 else E j) < 65536
        split
        · omega
        · exact HE.out j
      rw [← hn] at hstep hfit
      have hnb : n ≤ 196605 := by omega
      have e0 := Lib.hid (show (D1 k : Int) + D2 k + c = (n : Int) by omega)
      have HE' := Lib.hid hE
      have HF := Lib.hid hfit
      clear hn hE hfit
      go_wp2
      go_quiet (fail)
      rw [e0.out]
      go_wp2_with (at_builtin; refine wpList_append_own _ rfl _ _ 113 rfl w.heap.size 110 i0 (.int .u64 0) 1 8 Try.underlying113 hi hz0 hz1 hz2 rfl (by decide) _ _ _ rfl (World.ownsRow.alloc (own_drewN hrow _) _) ⟨wr.heap.size, 0, none⟩ 1 1 [.int .u64 ((n : Int) % 65536)] rfl rfl (cell_one_new _ _ _) (by simp [Value.oneCell']) (by unfold maxLen; omega) (by omega) (by simp; omega) ?_; intro v' w1 hown' hgrow _)
      go_roundw
      case rel => exact ⟨k + 1, n / 65536, fun j => if j = k then n % 65536 else E j, hlt, by go_num, by simp, HF.out, HE', hstep, by rw [← digL_snoc]; simpa using hown', ((below_drewN hB _).alloc (by simp; omega) _).grown hgrow (by simp; omega) (fun j e => (hrow.lt j e).1)⟩
      case measure => simp [intOf]; omega
    · obtain rfl : k = 4 := by omega
      go_wp2_with (at_builtin; refine wpList_append_own _ rfl _ _ 113 rfl w.heap.size 110 i0 (.int .u64 0) 1 8 Try.underlying113 hi hz0 hz1 hz2 rfl (by decide) _ _ _ rfl (hrow.alloc _) ⟨wr.heap.size, 0, none⟩ 1 1 [.int .u64 (c : Int)] rfl rfl (cell_one_new _ _ _) (by simp [Value.oneCell']) (by unfold maxLen; omega) (by omega) (by simp; omega) ?_; intro v' w1 hown' hgrow _)
      go_ret
      refine ⟨fun j => if j = 4 then c else E j, v', rfl, ?_, digs_of_own (fun j => ?_) (by rw [← digL_snoc]; exact hown') (by omega), (hB.alloc hBs _).grown hgrow (by simp; omega) (fun j e => (hrow.lt j e).1)⟩
      · have e1 : val (fun j => if j = 4 then c else E j) 4 = val E 4 := val_congr 4 (fun j hj => by show (if j = 4 then c else E j) = E j; rw [if_neg (by omega)])
        have e2 := HV.out
        rw [val, e1]
        simpa using e2
      · show (if j = 4 then c else E j) < 65536
        split
        · exact hc
        · exact HE.out j

theorem val_nil8 (X : Nat) : val (fun _ => 0) 8 = 0 * X := by rw [Nat.zero_mul]; simp only [val, Nat.zero_mul, Nat.add_zero]
def digA (D : Nat → Nat) : Array Value := (digL D 8).toArray
theorem digA_get (D : Nat → Nat) (j : Nat) (h : j < 8) : (digA D)[j]? = some (.int .u64 (D j : Nat)) := by rw [digA, List.getElem?_toArray]; exact digL_get D 8 j h
theorem digA_set (D : Nat → Nat) (k v : Nat) : (digA D).setIfInBounds k (.int .u64 (v : Nat)) = digA (fun j => if j = k then v else D j) := by
  unfold digA
  rw [List.setIfInBounds_toArray]
  congr 1
  refine List.ext_getElem? fun j => ?_
  rw [List.getElem?_set]
  by_cases hj : j < 8
  · rw [digL_get D 8 j hj]
    by_cases e : k = j
    · subst e; simp [digL, hj]
    · rw [if_neg e, digL_get _ 8 j hj]; simp [show ¬ j = k by omega]
  · have h1 : (digL D 8)[j]? = none := List.getElem?_eq_none (by simp [digL]; omega)
    have h2 : (digL (fun j => if j = k then v else D j) 8)[j]? = none := List.getElem?_eq_none (by simp [digL]; omega)
    rw [h1, h2]
    split
    · rw [if_neg (by simp [digL]; omega)]
    · rfl

theorem make8 (w : World) : (Instr.makeSlice 113 (.int .i64 8) (.int .i64 8)).run Try.prog w = .ok (.slice (some ⟨w.heap.size, 0, none⟩) 8 8) (w.alloc (.cells (digA fun _ => 0) 110)) := by kernel_rfl
theorem val_start (D1 D2 O : Nat → Nat) (i : Nat) (h : val O 8 = val D1 i * val D2 4) : val O 8 + 0 * 65536 ^ (i + 0) = val D1 i * val D2 4 + D1 i * 65536 ^ i * val D2 0 := by
  rw [h, Nat.zero_mul]; rfl

set_option maxRecDepth 100000 in
set_option maxHeartbeats 4000000 in
theorem rproduct_any (B1 B2 : Nat) (D1 D2 : Nat → Nat) (v1 v2 : Value) (w : World) (h1 : DigRow B1 4 D1 v1 w) (h2 : DigRow B2 4 D2 v2 w) :
    Calls Try.prog 72 #[v1, v2] w (Digs w.heap.size 8 (val D1 4 * val D2 4) w) := by
  obtain ⟨hD1, g1, c1, rfl, hlc1, _, hg1, hc1⟩ := h1
  obtain ⟨hD2, g2, c2, rfl, hlc2, _, hg2, hc2⟩ := h2
  have HC1 := Lib.hid hc1
  have HC2 := Lib.hid hc2
  have HD1 := Lib.hid hD1
  have HD2 := Lib.hid hD2
  clear hc1 hc2 hD1 hD2
  have hmk := make8
  go_enter Try.func72, Try.ntmps72
  go_wp2
  clear hmk
  have hblk := Blk.new w (digA fun _ => 0) 110
  have hB0 : Below w.heap.size w (w.alloc (.cells (digA fun _ => 0) 110)) := (Below.refl _ _).alloc (Nat.le_refl _) _
  go_loopw [6] (fun iv wr => ∃ (i : Nat) (O : Nat → Nat), i ≤ 4 ∧ iv = .int .i64 i ∧ Hid (∀ j, O j < 65536) ∧ Hid (∀ j, i + 4 ≤ j → O j = 0) ∧ Hid (val O 8 = val D1 i * val D2 4) ∧ Blk wr w.heap.size (digA O) 110 ∧ Below w.heap.size w wr) (fun iv _ => 4 - (intOf iv).toNat)
  case atStart => exact ⟨0, fun _ => 0, by omega, rfl, Lib.hid (fun _ => (by decide : 0 < 65536)), Lib.hid (fun _ _ => rfl), Lib.hid (val_nil8 _), hblk, hB0⟩
  case round =>
    obtain ⟨i, O, hi, rfl, HO, HZ, HV, hb, hB⟩ := hrel
    by_cases hlt : i < 4
    · have x1 := (hB.cell (p := ⟨g1, i, none⟩) hg1).trans (HC1.out i hlt)
      obtain ⟨wo, rfl⟩ : ∃ wo : World, wo = wr := ⟨_, rfl⟩
      go_wp2
      go_loopw [7, 8] (fun cv kv wr => ∃ (k c : Nat) (O : Nat → Nat), k ≤ 4 ∧ kv = .int .i64 k ∧ cv = .int .u64 c ∧ c < 65536 ∧ Hid (∀ j, O j < 65536) ∧ Hid (∀ j, i + 4 ≤ j → O j = 0) ∧ Hid (val O 8 + c * 65536 ^ (i + k) = val D1 i * val D2 4 + D1 i * 65536 ^ i * val D2 k) ∧ Blk wr w.heap.size (digA O) 110 ∧ Below w.heap.size w wr) (fun _ kv _ => 4 - (intOf kv).toNat)
      case atStart => exact ⟨0, 0, O, by omega, rfl, rfl, by omega, HO, HZ, Lib.hid (val_start _ _ _ _ HV.out), hb, hB⟩
      case round =>
        obtain ⟨k, c, P, hk, rfl, rfl, hc, HP, HPZ, HPV, hb1, hB1⟩ := hrel
        by_cases hlk : k < 4
        · have y1 := (hB1.cell (p := ⟨g1, i, none⟩) hg1).trans (HC1.out i hlt)
          have y2 := (hB1.cell (p := ⟨g2, k, none⟩) hg2).trans (HC2.out k hlk)
          have y3 := (hb1.cell (i + k)).trans (digA_get P (i + k) (by omega))
          have y4 := hb1.frozen (i + k)
          have hik : i + k < 8 := by omega
          have hik' : (i : Int) + (k : Int) < 8 := by omega
          obtain ⟨f1, f2⟩ := prod_fits (P (i + k)) (D1 i) (D2 k) c (HP.out _) (HD1.out _) (HD2.out _) hc
          have hstep := Lib.hid (prod_step P D2 i k (D1 i) c _ hik HPV.out)
          have F2 := Lib.hid f2
          have b1 := HP.out (i + k)
          have f3 : 0 ≤ (D1 i : Int) * (D2 k : Int) := Int.mul_nonneg (Int.natCast_nonneg _) (Int.natCast_nonneg _)
          have f4 : (D1 i : Int) * (D2 k : Int) ≤ 4294836225 := by rw [← Int.natCast_mul]; omega
          clear f1 f2
          have q1 : IntKind.i64.wrap ((i : Int) + (k : Int)) = (i : Int) + k := IntWalk.i64_in _ (by omega)
          have q2 : ((i : Int) + (k : Int)).toNat = i + k := by omega
          have q3 : 0 ≤ (i : Int) + (k : Int) := by omega
          go_wp2
          go_quiet (fail)
          clear q1 q2 q3
          obtain ⟨n, hn⟩ : ∃ n, n = P (i + k) + D1 i * D2 k + c := ⟨_, rfl⟩
          have e0 : (P (i + k) : Int) + (D1 i : Int) * (D2 k : Int) + (c : Int) = (n : Int) := by rw [hn]; simp
          have hnb : (n : Int) ≤ 4294967295 := by omega
          rw [← hn] at hstep F2
          have HE' : Hid (∀ j, (fun j => if j = i + k then n % 65536 else P j) j < 65536) := Lib.hid (fun j => by
            show (if j = i + k then n % 65536 else P j) < 65536
            split
            · omega
            · exact HP.out j)
          have HZ' : Hid (∀ j, i + 4 ≤ j → (fun j => if j = i + k then n % 65536 else P j) j = 0) := Lib.hid (fun j hj => by
            show (if j = i + k then n % 65536 else P j) = 0
            rw [if_neg (by omega)]
            exact HPZ.out j hj)
          have E0 := Lib.hid e0
          have EM := Lib.hid (show ((n % 65536 : Nat) : Int) = (n : Int) % 65536 by omega)
          have EN := Lib.hid (show ((n / 65536 : Nat) : Int) = (n : Int) / 65536 by omega)
          clear e0 hn f3 f4 b1
          rw [E0.out]
          go_wp2
          rw [← EM.out, ← EN.out]
          go_roundw
          case rel => exact ⟨k + 1, n / 65536, fun j => if j = i + k then n % 65536 else P j, hlk, by go_num, rfl, F2.out, HE', HZ', hstep, by rw [← digA_set]; exact (hb1.drewN _).set _ _, (below_drewN hB1 _).setCell (p := ⟨w.heap.size, i + k, none⟩) (Nat.le_refl _) _⟩
          case measure => simp [intOf]; omega
        · obtain rfl : k = 4 := by omega
          have y4 := hb1.frozen (i + 4)
          have y3 := (hb1.cell (i + 4)).trans (digA_get P (i + 4) (by omega))
          have hi4 : i + 4 < 8 := by omega
          have hi4' : (i : Int) + 4 < 8 := by omega
          have HQ := Lib.hid (prod_end P D1 D2 i c hi4 (HPZ.out _ (Nat.le_refl _)) HPV.out)
          have HE' : Hid (∀ j, (fun j => if j = i + 4 then c else P j) j < 65536) := Lib.hid (fun j => by
            show (if j = i + 4 then c else P j) < 65536
            split
            · exact hc
            · exact HP.out j)
          have HZ' : Hid (∀ j, i + 1 + 4 ≤ j → (fun j => if j = i + 4 then c else P j) j = 0) := Lib.hid (fun j hj => by
            show (if j = i + 4 then c else P j) = 0
            rw [if_neg (by omega)]
            exact HPZ.out j (by omega))
          go_wp2
          go_roundw
          case rel => exact ⟨i + 1, fun j => if j = i + 4 then c else P j, hlt, by go_num, HE', HZ', HQ, by rw [← digA_set]; exact hb1.set _ _, hB1.setCell (p := ⟨w.heap.size, i + 4, none⟩) (Nat.le_refl _) _⟩
          case measure => simp [intOf]; omega
    · obtain rfl : i = 4 := by omega
      go_wp2
      go_ret
      exact ⟨O, _, rfl, HV.out, ⟨HO.out, w.heap.size, 8, rfl, by omega, Nat.le_refl _, hb.lt, fun j hj => (hb.cell j).trans (digA_get O j hj)⟩, hB⟩
end Go.Proofs.Yteckbgpkoanhfaa.Hb
end

section
/- The walks of the reference of layer 4: Plus, Minus, Times64. -/
namespace Go.Proofs.Yteckbgpkoanhfaa.Hb
open Go.RowKit

/-- What an operation of the reference on two numbers comes to. -/
def RefOp (f : Nat) (a b : Int) (v : Option Int) (w : World) : Prop := Calls Try.prog f #[.int .i64 a, .int .i64 b] w fun e w' => e = .returned (res v) ∧ Below w.heap.size w w'
theorem rsize_x (a : Int) (X : Nat) (ha : inR a) (hX : Hid (a.natAbs = X)) (w : World) :
    Calls Try.prog 68 #[.int .i64 a] w fun e w' => e = .returned (.int .u64 (X : Int)) ∧ w = w' := by
  have := rsize_any a ha w
  rwa [hX.out] at this

section
variable (a b : Int) (X Y : Nat) (ha : inR a) (hb : inR b) (hx : X < 18446744073709551616) (hy : Y < 18446744073709551616) (HX : Hid (a.natAbs = X)) (HY : Hid (b.natAbs = Y)) (s t : Bool) (h1 : decide (a < 0) = s) (h2 : decide (b < 0) = t) (v : Option Int) (w : World)
include ha hb hx hy HX HY h1 h2

set_option maxHeartbeats 1000000 in
theorem rplus_same (hst : s = t) (hv : v = lim (if s = true then -((X + Y : Nat) : Int) else ((X + Y : Nat) : Int))) : RefOp 49 a b v w := by
  subst hst
  unfold RefOp
  obtain ⟨x, y, hxy⟩ := res_form v
  rw [hxy]
  rw [hv] at hxy
  have HXY := Lib.hid hxy
  clear hv hxy
  go_enter Try.func49, Try.ntmps49
  go_wp2_with (go_at_call 68; refine (rsize_x _ _ (by assumption) (by assumption) _).mono ?_; rintro e w1 ⟨rfl, rfl⟩)
  refine (rdigits_any X hx _).mono ?_
  rintro e w1 ⟨D1, v1, rfl, e1, r1, b1⟩
  have E1 := Lib.hid e1
  clear e1
  go_wp2_with fail
  refine (rdigits_any Y hy _).mono ?_
  rintro e w2 ⟨D2, v2, rfl, e2, r2, b2⟩
  have E2 := Lib.hid e2
  clear e2
  replace r1 := r1.below b2
  go_wp2_with fail
  refine (rsum_any _ _ D1 D2 v1 v2 _ r1 r2).mono ?_
  rintro e w3 ⟨D3, v3, rfl, e3, r3, b3⟩
  rw [E1.out, E2.out] at e3
  have E3 := Lib.hid e3
  clear e3
  go_wp2_with fail
  refine (rwhole_any s 5 (by omega) (by omega) _ D3 v3 _ r3).mono ?_
  rintro e w4 ⟨rfl, b4⟩
  rw [E3.out, HXY.out]
  go_wp2
  go_ret2
  exact ⟨rfl, b1.trans ((b2.trans ((b3.trans (b4.mono b3.size)).mono b2.size)).mono b1.size)⟩
set_option maxHeartbeats 1000000 in
theorem rplus_ge (hst : (s == t) = false) (hge : Y ≤ X) (hv : v = lim (if s = true then -((X - Y : Nat) : Int) else ((X - Y : Nat) : Int))) : RefOp 49 a b v w := by
  unfold RefOp
  obtain ⟨x, y, hxy⟩ := res_form v
  rw [hxy]
  rw [hv] at hxy
  have HXY := Lib.hid hxy
  clear hv hxy
  have g1 : decide ((Y : Int) ≤ (X : Int)) = true := decide_eq_true (by omega)
  have g2 : decide (Y ≤ X) = true := decide_eq_true hge
  have EI := Lib.hid (show ((X : Nat) : Int) - (Y : Nat) = ((X - Y : Nat) : Int) by omega)
  go_enter Try.func49, Try.ntmps49
  go_wp2_with (go_at_call 68; refine (rsize_x _ _ (by assumption) (by assumption) _).mono ?_; rintro e w1 ⟨rfl, rfl⟩)
  rw [EI.out]
  refine (rdigits_any (X - Y) (by omega) _).mono ?_
  rintro e w1 ⟨D1, v1, rfl, e1, r1, b1⟩
  have E1 := Lib.hid e1
  clear e1
  go_wp2_with fail
  refine (rwhole_any s 4 (by omega) (by omega) _ D1 v1 _ r1).mono ?_
  rintro e w4 ⟨rfl, b4⟩
  rw [E1.out, HXY.out]
  go_wp2
  go_ret2
  exact ⟨rfl, b1.trans (b4.mono b1.size)⟩
set_option maxHeartbeats 1000000 in
theorem rplus_lt (hst : (s == t) = false) (hge : X < Y) (hv : v = lim (if t = true then -((Y - X : Nat) : Int) else ((Y - X : Nat) : Int))) : RefOp 49 a b v w := by
  unfold RefOp
  obtain ⟨x, y, hxy⟩ := res_form v
  rw [hxy]
  rw [hv] at hxy
  have HXY := Lib.hid hxy
  clear hv hxy
  have g1 : decide ((Y : Int) ≤ (X : Int)) = false := decide_eq_false (by omega)
  have g2 : decide (Y ≤ X) = false := decide_eq_false (by omega)
  have EI := Lib.hid (show ((Y : Nat) : Int) - (X : Nat) = ((Y - X : Nat) : Int) by omega)
  go_enter Try.func49, Try.ntmps49
  go_wp2_with (go_at_call 68; refine (rsize_x _ _ (by assumption) (by assumption) _).mono ?_; rintro e w1 ⟨rfl, rfl⟩)
  rw [EI.out]
  refine (rdigits_any (Y - X) (by omega) _).mono ?_
  rintro e w1 ⟨D1, v1, rfl, e1, r1, b1⟩
  have E1 := Lib.hid e1
  clear e1
  go_wp2_with fail
  refine (rwhole_any t 4 (by omega) (by omega) _ D1 v1 _ r1).mono ?_
  rintro e w4 ⟨rfl, b4⟩
  rw [E1.out, HXY.out]
  go_wp2
  go_ret2
  exact ⟨rfl, b1.trans (b4.mono b1.size)⟩
set_option maxHeartbeats 1000000 in
theorem rminus_diff (hst : t = !s) (hv : v = lim (if s = true then -((X + Y : Nat) : Int) else ((X + Y : Nat) : Int))) : RefOp 55 a b v w := by
  subst hst
  unfold RefOp
  obtain ⟨x, y, hxy⟩ := res_form v
  rw [hxy]
  rw [hv] at hxy
  have HXY := Lib.hid hxy
  clear hv hxy
  go_enter Try.func55, Try.ntmps55
  go_wp2_with (go_at_call 68; refine (rsize_x _ _ (by assumption) (by assumption) _).mono ?_; rintro e w1 ⟨rfl, rfl⟩)
  refine (rdigits_any X hx _).mono ?_
  rintro e w1 ⟨D1, v1, rfl, e1, r1, b1⟩
  have E1 := Lib.hid e1
  clear e1
  go_wp2_with fail
  refine (rdigits_any Y hy _).mono ?_
  rintro e w2 ⟨D2, v2, rfl, e2, r2, b2⟩
  have E2 := Lib.hid e2
  clear e2
  replace r1 := r1.below b2
  go_wp2_with fail
  refine (rsum_any _ _ D1 D2 v1 v2 _ r1 r2).mono ?_
  rintro e w3 ⟨D3, v3, rfl, e3, r3, b3⟩
  rw [E1.out, E2.out] at e3
  have E3 := Lib.hid e3
  clear e3
  go_wp2_with fail
  refine (rwhole_any s 5 (by omega) (by omega) _ D3 v3 _ r3).mono ?_
  rintro e w4 ⟨rfl, b4⟩
  rw [E3.out, HXY.out]
  go_wp2
  go_ret2
  exact ⟨rfl, b1.trans ((b2.trans ((b3.trans (b4.mono b3.size)).mono b2.size)).mono b1.size)⟩
set_option maxHeartbeats 1000000 in
theorem rminus_ge (hst : s = t) (hge : Y ≤ X) (hv : v = lim (if s = true then -((X - Y : Nat) : Int) else ((X - Y : Nat) : Int))) : RefOp 55 a b v w := by
  subst hst
  unfold RefOp
  obtain ⟨x, y, hxy⟩ := res_form v
  rw [hxy]
  rw [hv] at hxy
  have HXY := Lib.hid hxy
  clear hv hxy
  have g1 : decide ((Y : Int) ≤ (X : Int)) = true := decide_eq_true (by omega)
  have g2 : decide (Y ≤ X) = true := decide_eq_true hge
  have EI := Lib.hid (show ((X : Nat) : Int) - (Y : Nat) = ((X - Y : Nat) : Int) by omega)
  go_enter Try.func55, Try.ntmps55
  go_wp2_with (go_at_call 68; refine (rsize_x _ _ (by assumption) (by assumption) _).mono ?_; rintro e w1 ⟨rfl, rfl⟩)
  rw [EI.out]
  refine (rdigits_any (X - Y) (by omega) _).mono ?_
  rintro e w1 ⟨D1, v1, rfl, e1, r1, b1⟩
  have E1 := Lib.hid e1
  clear e1
  go_wp2_with fail
  refine (rwhole_any s 4 (by omega) (by omega) _ D1 v1 _ r1).mono ?_
  rintro e w4 ⟨rfl, b4⟩
  rw [E1.out, HXY.out]
  go_wp2
  go_ret2
  exact ⟨rfl, b1.trans (b4.mono b1.size)⟩
set_option maxHeartbeats 1000000 in
theorem rminus_lt (hst : s = t) (hge : X < Y) (u : Bool) (h3 : decide (0 ≤ a) = u) (hv : v = lim (if u = true then -((Y - X : Nat) : Int) else ((Y - X : Nat) : Int))) : RefOp 55 a b v w := by
  subst hst
  unfold RefOp
  obtain ⟨x, y, hxy⟩ := res_form v
  rw [hxy]
  rw [hv] at hxy
  have HXY := Lib.hid hxy
  clear hv hxy
  have g1 : decide ((Y : Int) ≤ (X : Int)) = false := decide_eq_false (by omega)
  have g2 : decide (Y ≤ X) = false := decide_eq_false (by omega)
  have EI := Lib.hid (show ((Y : Nat) : Int) - (X : Nat) = ((Y - X : Nat) : Int) by omega)
  go_enter Try.func55, Try.ntmps55
  go_wp2_with (go_at_call 68; refine (rsize_x _ _ (by assumption) (by assumption) _).mono ?_; rintro e w1 ⟨rfl, rfl⟩)
  rw [EI.out]
  refine (rdigits_any (Y - X) (by omega) _).mono ?_
  rintro e w1 ⟨D1, v1, rfl, e1, r1, b1⟩
  have E1 := Lib.hid e1
  clear e1
  go_wp2_with fail
  refine (rwhole_any u 4 (by omega) (by omega) _ D1 v1 _ r1).mono ?_
  rintro e w4 ⟨rfl, b4⟩
  rw [E1.out, HXY.out]
  go_wp2
  go_ret2
  exact ⟨rfl, b1.trans (b4.mono b1.size)⟩
set_option maxHeartbeats 1000000 in
theorem rtimes_same (hst : s = t) (hv : v = lim (if false = true then -((X * Y : Nat) : Int) else ((X * Y : Nat) : Int))) : RefOp 50 a b v w := by
  subst hst
  unfold RefOp
  obtain ⟨x, y, hxy⟩ := res_form v
  rw [hxy]
  rw [hv] at hxy
  have HXY := Lib.hid hxy
  clear hv hxy
  go_enter Try.func50, Try.ntmps50
  go_wp2_with (go_at_call 68; refine (rsize_x _ _ (by assumption) (by assumption) _).mono ?_; rintro e w1 ⟨rfl, rfl⟩)
  refine (rdigits_any X hx _).mono ?_
  rintro e w1 ⟨D1, v1, rfl, e1, r1, b1⟩
  have E1 := Lib.hid e1
  clear e1
  go_wp2_with (go_at_call 68; refine (rsize_x _ _ (by assumption) (by assumption) _).mono ?_; rintro e w1 ⟨rfl, rfl⟩)
  refine (rdigits_any Y hy _).mono ?_
  rintro e w2 ⟨D2, v2, rfl, e2, r2, b2⟩
  have E2 := Lib.hid e2
  clear e2
  replace r1 := r1.below b2
  go_wp2_with fail
  refine (rproduct_any _ _ D1 D2 v1 v2 _ r1 r2).mono ?_
  rintro e w3 ⟨D3, v3, rfl, e3, r3, b3⟩
  rw [E1.out, E2.out] at e3
  have E3 := Lib.hid e3
  clear e3
  go_wp2_with fail
  refine (rwhole_any false 8 (by omega) (by omega) _ D3 v3 _ r3).mono ?_
  rintro e w4 ⟨rfl, b4⟩
  rw [E3.out, HXY.out]
  go_wp2
  go_ret2
  exact ⟨rfl, b1.trans ((b2.trans ((b3.trans (b4.mono b3.size)).mono b2.size)).mono b1.size)⟩
set_option maxHeartbeats 1000000 in
theorem rtimes_diff (hst : t = !s) (hv : v = lim (-((X * Y : Nat) : Int))) : RefOp 50 a b v w := by
  subst hst
  unfold RefOp
  obtain ⟨x, y, hxy⟩ := res_form v
  rw [hxy]
  rw [hv] at hxy
  have HXY := Lib.hid hxy
  clear hv hxy
  go_enter Try.func50, Try.ntmps50
  go_wp2_with (go_at_call 68; refine (rsize_x _ _ (by assumption) (by assumption) _).mono ?_; rintro e w1 ⟨rfl, rfl⟩)
  refine (rdigits_any X hx _).mono ?_
  rintro e w1 ⟨D1, v1, rfl, e1, r1, b1⟩
  have E1 := Lib.hid e1
  clear e1
  go_wp2_with (go_at_call 68; refine (rsize_x _ _ (by assumption) (by assumption) _).mono ?_; rintro e w1 ⟨rfl, rfl⟩)
  refine (rdigits_any Y hy _).mono ?_
  rintro e w2 ⟨D2, v2, rfl, e2, r2, b2⟩
  have E2 := Lib.hid e2
  clear e2
  replace r1 := r1.below b2
  go_wp2_with fail
  refine (rproduct_any _ _ D1 D2 v1 v2 _ r1 r2).mono ?_
  rintro e w3 ⟨D3, v3, rfl, e3, r3, b3⟩
  rw [E1.out, E2.out] at e3
  have E3 := Lib.hid e3
  clear e3
  go_wp2_with fail
  refine (rwhole_any true 8 (by omega) (by omega) _ D3 v3 _ r3).mono ?_
  rintro e w4 ⟨rfl, b4⟩
  rw [E3.out, if_pos rfl, HXY.out]
  go_wp2
  go_ret2
  exact ⟨rfl, b1.trans ((b2.trans ((b3.trans (b4.mono b3.size)).mono b2.size)).mono b1.size)⟩
end

theorem rplus_any (a b : Int) (ha : inR a) (hb : inR b) (w : World) : RefOp 49 a b (lim (a + b)) w := by
  have hx := natAbs_le ha
  have hy := natAbs_le hb
  have HX : Hid (a.natAbs = a.natAbs) := Lib.hid rfl
  have HY : Hid (b.natAbs = b.natAbs) := Lib.hid rfl
  by_cases ca : a < 0 <;> by_cases cb : b < 0
  · exact rplus_same a b _ _ ha hb (by omega) (by omega) HX HY true true (decide_eq_true ca) (decide_eq_true cb) _ w rfl (by simp only [if_true]; congr 1; omega)
  · rcases Nat.lt_or_ge a.natAbs b.natAbs with h | h
    · exact rplus_lt a b _ _ ha hb (by omega) (by omega) HX HY true false (decide_eq_true ca) (decide_eq_false cb) _ w rfl h (by simp only [Bool.false_eq_true, if_false]; congr 1; omega)
    · exact rplus_ge a b _ _ ha hb (by omega) (by omega) HX HY true false (decide_eq_true ca) (decide_eq_false cb) _ w rfl h (by simp only [if_true]; congr 1; omega)
  · rcases Nat.lt_or_ge a.natAbs b.natAbs with h | h
    · exact rplus_lt a b _ _ ha hb (by omega) (by omega) HX HY false true (decide_eq_false ca) (decide_eq_true cb) _ w rfl h (by simp only [if_true]; congr 1; omega)
    · exact rplus_ge a b _ _ ha hb (by omega) (by omega) HX HY false true (decide_eq_false ca) (decide_eq_true cb) _ w rfl h (by simp only [Bool.false_eq_true, if_false]; congr 1; omega)
  · exact rplus_same a b _ _ ha hb (by omega) (by omega) HX HY false false (decide_eq_false ca) (decide_eq_false cb) _ w rfl (by simp only [Bool.false_eq_true, if_false]; congr 1; omega)

theorem rminus_any (a b : Int) (ha : inR a) (hb : inR b) (w : World) : RefOp 55 a b (lim (a - b)) w := by
  have hx := natAbs_le ha
  have hy := natAbs_le hb
  have HX : Hid (a.natAbs = a.natAbs) := Lib.hid rfl
  have HY : Hid (b.natAbs = b.natAbs) := Lib.hid rfl
  by_cases ca : a < 0 <;> by_cases cb : b < 0
  · rcases Nat.lt_or_ge a.natAbs b.natAbs with h | h
    · exact rminus_lt a b _ _ ha hb (by omega) (by omega) HX HY true true (decide_eq_true ca) (decide_eq_true cb) _ w rfl h false (decide_eq_false (by omega)) (by simp only [Bool.false_eq_true, if_false]; congr 1; omega)
    · exact rminus_ge a b _ _ ha hb (by omega) (by omega) HX HY true true (decide_eq_true ca) (decide_eq_true cb) _ w rfl h (by simp only [if_true]; congr 1; omega)
  · exact rminus_diff a b _ _ ha hb (by omega) (by omega) HX HY true false (decide_eq_true ca) (decide_eq_false cb) _ w rfl (by simp only [if_true]; congr 1; omega)
  · exact rminus_diff a b _ _ ha hb (by omega) (by omega) HX HY false true (decide_eq_false ca) (decide_eq_true cb) _ w rfl (by simp only [Bool.false_eq_true, if_false]; congr 1; omega)
  · rcases Nat.lt_or_ge a.natAbs b.natAbs with h | h
    · exact rminus_lt a b _ _ ha hb (by omega) (by omega) HX HY false false (decide_eq_false ca) (decide_eq_false cb) _ w rfl h true (decide_eq_true (by omega)) (by simp only [if_true]; congr 1; omega)
    · exact rminus_ge a b _ _ ha hb (by omega) (by omega) HX HY false false (decide_eq_false ca) (decide_eq_false cb) _ w rfl h (by simp only [Bool.false_eq_true, if_false]; congr 1; omega)

theorem rtimes_any (a b : Int) (ha : inR a) (hb : inR b) (w : World) : RefOp 50 a b (lim (a * b)) w := by
  have hx := natAbs_le ha
  have hy := natAbs_le hb
  have HX : Hid (a.natAbs = a.natAbs) := Lib.hid rfl
  have HY : Hid (b.natAbs = b.natAbs) := Lib.hid rfl
  have hs := prod_signs a b
  by_cases ca : a < 0 <;> by_cases cb : b < 0
  · exact rtimes_same a b _ _ ha hb (by omega) (by omega) HX HY true true (decide_eq_true ca) (decide_eq_true cb) _ w rfl (by rw [hs, decide_eq_true ca, decide_eq_true cb]; rfl)
  · exact rtimes_diff a b _ _ ha hb (by omega) (by omega) HX HY true false (decide_eq_true ca) (decide_eq_false cb) _ w rfl (by rw [hs, decide_eq_true ca, decide_eq_false cb]; rfl)
  · exact rtimes_diff a b _ _ ha hb (by omega) (by omega) HX HY false true (decide_eq_false ca) (decide_eq_true cb) _ w rfl (by rw [hs, decide_eq_false ca, decide_eq_true cb]; rfl)
  · exact rtimes_same a b _ _ ha hb (by omega) (by omega) HX HY false false (decide_eq_false ca) (decide_eq_false cb) _ w rfl (by rw [hs, decide_eq_false ca, decide_eq_false cb]; rfl)
end Go.Proofs.Yteckbgpkoanhfaa.Hb
end

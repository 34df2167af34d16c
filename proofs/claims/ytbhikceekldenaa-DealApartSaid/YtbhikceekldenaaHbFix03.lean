/- The chapter's examples of layer 3. -/
import Derived.Test.YtbhikceekldenaaHbLaw03
namespace Go.Proofs.Ytbhikceekldenaa.Hb
set_option linter.unusedVariables false
open Go.RowKit

theorem fixP : runO (numL []) (stepPerm 3) (bndPerm 3) 0 (rowI 3) 0 = (some [1, 2, 0], 2) := by kernel_rfl
theorem fixC : mapR (fun q => sortedO (q.take 2)) (runO (numL []) stepChoose (bndChoose 3 2) 0 (rowI 3) 0) = (some [0, 1], 2) := by kernel_rfl
theorem fixD : runO (numL []) stepDeal (List.replicate 3 ((3 : Nat) : Int)) 0 (List.replicate 3 0) 0 = (some [3, 0, 0], 3) := by kernel_rfl
/-- An empty list, boxed: a source. -/
theorem srcE (w : World) : Src (.iface 60 (.pointer (some ⟨w.heap.size, 0, none⟩))) w.heap.size (w.heap.size + 1) (numL []) (LstAt w.heap.size none 0 []) ∧
    LstAt w.heap.size none 0 [] 0 (w.alloc (.cells #[.slice none 0 0, .int .i64 0] 62)) :=
  ⟨srcL _ _ none 0 [] (Nat.lt_succ_self _) (by simp) (by simp) (fun ad e => by cases e), Blk.new _ _ _, .inl rfl⟩
theorem own_rd {W : World} {base g n c : Nat} {l : List Int} (h : OwnI W base g n c l) (hr : ∀ x ∈ l, inR x) : RdI W (some ⟨g, 0, none⟩) l := RdI.own (n := n) (c := c) (by rw [h.len]; exact h) hr
theorem blk_rd {W : World} {g : Nat} {l : List Int} {t : TypeId} (h : Blk W g (ints l).toArray t) (hr : ∀ x ∈ l, inR x) : RdI W (some ⟨g, 0, none⟩) l :=
  ⟨hr, .inr ⟨_, rfl, fun i hi => by
    rw [show (⟨g, 0, none⟩ : Addr).add i = ⟨g, i, none⟩ from by unfold Addr.add; split <;> simp_all, h.cell i, List.getElem?_toArray, ints_get hi]⟩⟩
/-- Behind a call that turns the source alone. -/
theorem grown_below' {N : Nat} {w0 w w' : World} {b : Nat} (h : Below N w0 w) (hg : w.grownBy w' (some b)) (hN : N ≤ w.heap.size) (hb : N ≤ b) : Below N w0 w' := h.grown hg hN (fun k e => by have := Option.some.inj e; omega)
set_option maxRecDepth 100000 in
set_option maxHeartbeats 2000000 in
theorem fixed3_any (w : World) : Calls Try.prog 25 #[] w (True0 w) := by
  have kp := fun W k hk hN hJ => perm_any (srcE W).1 3 (by omega) k hk (W.alloc (.cells #[.slice none 0 0, .int .i64 0] 62)) hN hJ
  have kc := fun W k hk hN hJ => choose_any (srcE W).1 3 2 (by omega) (by omega) k hk (W.alloc (.cells #[.slice none 0 0, .int .i64 0] 62)) hN hJ
  have kd := fun W k hk hN hJ => deal_any (srcE W).1 3 (by omega) k hk (W.alloc (.cells #[.slice none 0 0, .int .i64 0] 62)) hN hJ
  have KP := Lib.hid kp
  have KC := Lib.hid kc
  have KD := Lib.hid kd
  clear kp kc kd
  go_enter Try.func25, Try.ntmps25
  go_wp2_with fail
  refine (KP.out w 0 (by omega) (by simp) (srcE w).2).mono ?_
  rw [fixP]
  rintro e w1 ⟨hg1, _, g1, c1, rfl, ho1⟩
  have b1 : Below w.heap.size w w1 := grown_below' ((Below.refl _ w).alloc (Nat.le_refl _) _) hg1 (by simp) (Nat.le_refl _)
  have HO1 := Lib.hid ho1
  have l1 := (World.ownsRow.lt ho1 g1 rfl).2
  clear hg1 ho1
  go_wp2_with fail
  refine (KC.out w1 0 (by omega) (by simp) (srcE w1).2).mono ?_
  rw [fixC]
  rintro e w2 ⟨hg2, _, g2, c2, rfl, ho2⟩
  have b2 : Below w.heap.size w w2 := grown_below' (b1.alloc b1.size _) hg2 (by have := b1.size; simp; omega) b1.size
  have HO1' : Hid (OwnI w2 _ g1 [1, 2, 0].length c1 [1, 2, 0]) := Lib.hid (World.ownsRow.kept (HO1.out.alloc _) hg2 (.inr (fun e => by have := Option.some.inj e; simp at this; omega)))
  have HO2 := Lib.hid ho2
  have l2 := (World.ownsRow.lt ho2 g2 rfl).2
  have l12 := (World.ownsRow.lt HO1'.out g1 rfl).2
  clear hg2 ho2 HO1
  go_wp2_with fail
  refine (KD.out w2 0 (by omega) (by simp) (srcE w2).2).mono ?_
  rw [fixD]
  rintro e w3 ⟨hg3, _, g3, c3, rfl, ho3⟩
  have b3 : Below w.heap.size w w3 := grown_below' (b2.alloc b2.size _) hg3 (by have := b2.size; simp; omega) b2.size
  have HO1 : Hid (OwnI w3 _ g1 [1, 2, 0].length c1 [1, 2, 0]) := Lib.hid (World.ownsRow.kept (HO1'.out.alloc _) hg3 (.inr (fun e => by have := Option.some.inj e; simp at this; omega)))
  have HO2' : Hid (OwnI w3 _ g2 [0, 1].length c2 [0, 1]) := Lib.hid (World.ownsRow.kept (HO2.out.alloc _) hg3 (.inr (fun e => by have := Option.some.inj e; simp at this; omega)))
  have HO3 := Lib.hid ho3
  clear hg3 ho3 HO1' HO2 l1 l2 l12
  go_wp2_with fail
  have x1 := Blk.new w3 #[.int .i64 1, .int .i64 2, .int .i64 0] 3
  refine (same3_any (some ⟨g1, 0, none⟩) (some ⟨w3.heap.size, 0, none⟩) c1 3 [1, 2, 0] [1, 2, 0] _ (own_rd (HO1.out.alloc _) (by decide)) (blk_rd (l := [1, 2, 0]) x1 (by decide)) (by decide) (by decide)).mono ?_
  rw [decide_eq_true rfl]
  rintro e w4 ⟨rfl, hb4⟩
  have b4 : Below w.heap.size w w4 := (b3.alloc b3.size _).trans (hb4.mono (by have := b3.size; simp; omega))
  have HO24 : Hid (OwnI w4 _ g2 [0, 1].length c2 [0, 1]) := Lib.hid (own_below (HO2'.out.alloc _) hb4)
  have HO34 : Hid (OwnI w4 _ g3 [3, 0, 0].length c3 [3, 0, 0]) := Lib.hid (own_below (HO3.out.alloc _) hb4)
  clear hb4 x1 HO1 HO2' HO3
  go_wp2_with fail
  have x1 := Blk.new w4 #[.int .i64 0, .int .i64 1] 3
  refine (same3_any (some ⟨g2, 0, none⟩) (some ⟨w4.heap.size, 0, none⟩) c2 2 [0, 1] [0, 1] _ (own_rd (HO24.out.alloc _) (by decide)) (blk_rd (l := [0, 1]) x1 (by decide)) (by decide) (by decide)).mono ?_
  rw [decide_eq_true rfl]
  rintro e w5 ⟨rfl, hb5⟩
  have b5 : Below w.heap.size w w5 := (b4.alloc b4.size _).trans (hb5.mono (by have := b4.size; simp; omega))
  have HO35 : Hid (OwnI w5 _ g3 [3, 0, 0].length c3 [3, 0, 0]) := Lib.hid (own_below (HO34.out.alloc _) hb5)
  clear hb5 x1 HO24 HO34
  go_wp2_with fail
  have x1 := Blk.new w5 #[.int .i64 3, .int .i64 0, .int .i64 0] 3
  refine (same3_any (some ⟨g3, 0, none⟩) (some ⟨w5.heap.size, 0, none⟩) c3 3 [3, 0, 0] [3, 0, 0] _ (own_rd (HO35.out.alloc _) (by decide)) (blk_rd (l := [3, 0, 0]) x1 (by decide)) (by decide) (by decide)).mono ?_
  rw [decide_eq_true rfl]
  rintro e w6 ⟨rfl, hb6⟩
  have b6 : Below w.heap.size w w6 := (b5.alloc b5.size _).trans (hb6.mono (by have := b5.size; simp; omega))
  clear hb6 x1 HO35
  go_wp2_with fail
  go_ret
  exact ⟨rfl, b6⟩
end Go.Proofs.Ytbhikceekldenaa.Hb

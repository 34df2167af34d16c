/- The program's weights. -/
import Derived.Test.YtbhikceekldenaaHbDealPg
import Derived.Test.YtbhikceekldenaaHbDealRd
import Derived.Test.YtbhikceekldenaaHbRep
namespace Go.Proofs.Ytbhikceekldenaa.Hb
set_option linter.unusedVariables false
open Go.RowKit

theorem isFn_Deal : ∀ (args : Array Value) (w : World), (callFunc 59 args).run Try.prog w = .ok (.enter 59 args) w := isFn_of Try.func59 (by kernel_rfl) (by kernel_rfl)
theorem rep_in (n : Nat) (hn : n ≤ 1048576) : ∀ z ∈ List.replicate n (n : Int), 0 < z ∧ z ≤ 1048576 := by
  intro z hz
  obtain ⟨h0, rfl⟩ := List.mem_replicate.1 hz
  omega
set_option maxRecDepth 100000 in
set_option maxHeartbeats 2000000 in
theorem deal_any {v : Value} {b N0 : Nat} {num : Nat → Int} {J : Nat → World → Prop} (S : Src v b N0 num J) (n : Nat) (hn : n ≤ 1048576) (k : Nat) (hk : k ≤ 1048576) (w : World) (hN : N0 ≤ w.heap.size) (hJ : J k w) :
    Calls Try.prog 31 #[v, .int .i64 n] w (RetD (runO num stepDeal (List.replicate n (n : Int)) 0 (List.replicate n 0) k) J b w) := by
  obtain ⟨i0, hi, hz0, hz1, hz2⟩ := info_parts info_int
  have h1 : decide ((n : Int) < 0) = false := decide_eq_false (by omega)
  have h2 : decide (1048576 < (n : Int)) = false := decide_eq_false (by omega)
  have HJ := Lib.hid hJ
  have HS := Lib.hid S
  have HNN := Lib.hid hN
  have HKK := Lib.hid hk
  obtain ⟨R, hR⟩ : ∃ R, runO num stepDeal (List.replicate n (n : Int)) 0 (List.replicate n 0) k = R := ⟨_, rfl⟩
  rw [hR]
  have HRR := Lib.hid hR
  clear hJ S hN hk hR
  go_enter Try.func31, Try.ntmps31
  go_wp2_with (at_make; refine wpList_make_full _ rfl _ _ 54 rfl w.heap.size 3 i0 (.int .i64 0) 1 Try.underlying54 hi hz0 hz1 .i64 .i64 _ _ n rfl rfl rfl rfl (by rw [hz2]; omega) (by unfold maxLen; omega) (by simp) ?_; intro w1 hown hgrow)
  have hrow : OwnI w1 w.heap.size w.heap.size n n (List.replicate n 0) := by
    rw [Nat.mul_one] at hown
    show w1.ownsRow _ _ _ _ _ (ints (List.replicate n 0))
    rw [ints_zeros, ← toList_madeCells_one]
    exact hown
  have hb1 : Below w.heap.size w w1 := ⟨hgrow.os, hgrow.tape, hgrow.output, hgrow.size, fun k hk => hgrow.block k hk (by simp)⟩
  have n0 := World.ownsRow.lt hrow w.heap.size rfl
  have s1 := hb1.size
  obtain ⟨W2, e2⟩ : ∃ W, W = (w1.alloc (.cells #[.slice (some ⟨w.heap.size, 0, none⟩) n n] 54)).alloc (.cells #[.int .i64 n] 3) := ⟨_, rfl⟩
  rw [← e2]
  have kP : Blk W2 w1.heap.size #[.slice (some ⟨w.heap.size, 0, none⟩) n n] 54 := by rw [e2]; exact (Blk.new w1 _ _).below ((Below.refl _ _).alloc (Nat.le_refl _) _)
  have kB : Blk W2 (w1.heap.size + 1) #[.int .i64 n] 3 := by rw [e2]; have := Blk.new (w1.alloc (.cells #[.slice (some ⟨w.heap.size, 0, none⟩) n n] 54)) #[.int .i64 n] 3; simpa using this
  have hb2 : Below w1.heap.size w1 W2 := by rw [e2]; exact ((Below.refl _ w1).alloc (Nat.le_refl _) _).alloc (by simp) _
  have ho2 : OwnI W2 w.heap.size w.heap.size n n (List.replicate n 0) := own_below hrow hb2
  have hbw : Below w.heap.size w W2 := hb1.trans (hb2.mono s1)
  have s2 := hb2.size
  have kc := kB.cell 0
  simp only [List.getElem?_toArray, List.getElem?_cons_zero] at kc
  clear e2 hb2 hown hgrow kB
  obtain ⟨gp, hgp⟩ : ∃ gp, w1.heap.size = gp := ⟨_, rfl⟩
  rw [hgp] at kP kc n0 s1 s2 ⊢
  have HKC := Lib.hid kc
  have HKP := Lib.hid kP
  have HOW := Lib.hid ho2
  clear hgp kc kP ho2 hrow hb1
  refine (repeat_any (gp + 1) n n hn W2 HKC.out).mono ?_
  rintro e w3 ⟨gr, cr, rfl, hor, hb3⟩
  rw [List.length_replicate] at hor ⊢
  have kP3 := HKP.out.below hb3
  have ho3 : OwnI w3 w.heap.size w.heap.size n n (List.replicate n 0) := own_below HOW.out hb3
  have hbw3 : Below w.heap.size w w3 := hbw.trans (hb3.mono hbw.size)
  have grl := (World.ownsRow.lt hor gr rfl).1
  have hjl : (List.replicate n (n : Int)).length = n := List.length_replicate
  have hrd : RdI w3 (some ⟨gr, 0, none⟩) (List.replicate n (n : Int)) := RdI.own (n := n) (c := cr) (by rw [hjl]; exact hor) (fun x hx => by have := rep_in n hn x hx; unfold inR; omega)
  have hsz := HKP.out.lt
  have f : IPf w b N0 w.heap.size gp (some ⟨gr, 0, none⟩) := ⟨HS.out.hb, HNN.out, Nat.le_refl _, s1, by omega, fun ad e => by
    have := Option.some.inj e
    subst this
    show gr ≠ w.heap.size ∧ w.heap.size ≤ gr
    omega⟩
  have hp : IP w b N0 w.heap.size n n gp (some ⟨gr, 0, none⟩) (List.replicate n (n : Int)) (List.replicate n 0) w3 := ⟨Nat.le_trans HNN.out hbw3.size, ho3, by have := kP3.cell 0; exact this, hrd, grown_below hbw3⟩
  have KD := draws_any HS.out 59 isFn_Deal #[.pointer (some ⟨gp, 0, none⟩)] (List.replicate n (n : Int)) (some ⟨gr, 0, none⟩) cr stepDeal
    (fun i q W => IP w b N0 w.heap.size n n gp (some ⟨gr, 0, none⟩) (List.replicate n (n : Int)) q W ∧ small q i ∧ i ≤ n) (rep_in n hn) (by rw [hjl]; exact hn)
    (fun _ _ _ h => h.1.hN) (fun _ _ _ _ h hg => ⟨h.1.src f hg, h.2⟩) (fun _ _ _ h => h.1.rd)
    (fun i q x W hi h0 h1 h => by
      obtain ⟨y, rfl⟩ : ∃ y : Nat, x = y := ⟨x.toNat, by omega⟩
      rw [hjl] at hi
      rw [rep_get n i hi] at h1
      have hy := h.2.1 y
      refine (doDeal_any w.heap.size w.heap.size gp n n q i y W (by omega) hn ⟨hy.1, by omega⟩ h.1.own h.1.cp).mono ?_
      rintro e2 W' ⟨hu, ho, hg⟩
      have hput := h.1.put f (q' := stepDeal q i (y : Int)) ho hg
      exact ⟨hu, ⟨hput.1, small_step h.2.1, hi⟩, hput.2⟩)
    k HKK.out (List.replicate n 0) w3 (HS.out.keep _ _ _ HJ.out (hbw3.mono HNN.out)) ⟨hp, small_zero n, Nat.zero_le _⟩
  rw [hjl, HRR.out] at KD
  have KDH := Lib.hid KD
  clear KD hrd hp hjl f hor hb3 kP3 ho3 hbw3 hbw HRR
  go_wp2_with fail
  refine KDH.out.mono ?_
  rintro e w5 ⟨rfl, hJ5, i5, q5, hI5, hq5⟩
  clear KDH
  obtain ⟨Ro, Rk⟩ := R
  cases Ro with
  | none =>
    have HH : Hid (w.grownBy w5 (some b) ∧ J Rk w5) := Lib.hid ⟨hI5.1.gr, hJ5⟩
    clear hI5 hq5 hJ5
    unfold errR
    go_wp2_with fail
    go_ret2
    exact ⟨HH.out.1, HH.out.2, rfl⟩
  | some q =>
    obtain ⟨rfl, _⟩ := hq5 q rfl
    have HH : Hid (w.grownBy w5 (some b) ∧ J Rk w5 ∧ OwnI w5 w.heap.size w.heap.size n n q5) := Lib.hid ⟨hI5.1.gr, hJ5, hI5.1.own⟩
    have c5 := hI5.1.cp
    clear hI5 hq5 hJ5
    unfold errR
    go_wp2_with fail
    go_ret2
    have hql := HH.out.2.2.len
    exact ⟨HH.out.1, HH.out.2.1, w.heap.size, n, by rw [hql]; rfl, by rw [hql]; exact HH.out.2.2⟩
end Go.Proofs.Ytbhikceekldenaa.Hb

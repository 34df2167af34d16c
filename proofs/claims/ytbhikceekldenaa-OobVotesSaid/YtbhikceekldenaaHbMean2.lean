/- The walks of vote.Mean. -/
import Derived.Test.YtbhikceekldenaaHbMean
namespace Go.Proofs.Ytbhikceekldenaa.Hb
set_option linter.unusedVariables false
set_option linter.unusedSimpArgs false
open Go.RowKit

set_option maxRecDepth 100000 in
set_option maxHeartbeats 2000000 in
theorem mean_any (l : List Nd) (A : Option Addr) (cap : Nat) (w : World) (hr : RN w A l) (hl : l.length ≤ 9223372036854775807) :
    Calls Try.prog 64 #[.slice A l.length cap] w fun e w' => e = .returned (resP (meanO l)) ∧ Below w.heap.size w w' := by
  obtain ⟨n, hn⟩ : ∃ n, l.length = n := ⟨_, rfl⟩
  rw [hn] at hl ⊢
  unfold resP
  by_cases h0 : n = 0
  · subst h0
    have e0 : l = [] := List.length_eq_zero_iff.1 hn
    have e : meanO l = (0, 1) := if_pos e0
    rw [e]
    clear hn hr e e0
    go_enter Try.func64, Try.ntmps64
    go_wp2_with fail
    go_ret2
    exact ⟨rfl, Below.refl _ _⟩
  have e : meanO l = meanGo l 0 0 := if_neg (fun e => h0 (by rw [← hn, e]; rfl))
  obtain ⟨⟨rv, re⟩, hR⟩ : ∃ R, meanO l = R := ⟨_, rfl⟩
  rw [hR]
  rw [e] at hR
  have HGO := Lib.hid hR
  have HN := Lib.hid hn
  have HRN := Lib.hid hr
  have hn0 : ((n : Int) == 0) = false := beq_eq_false_iff_ne.2 (by omega)
  have hn0' : (n == 0) = false := beq_eq_false_iff_ne.2 h0
  clear hR hn hr e h0
  go_enter Try.func64, Try.ntmps64
  go_wp2_with fail
  clear hn0 hn0'
  go_loopw [4, 5, 14] (fun sv cv iv wr => ∃ (k : Nat) (s c : Int), k ≤ n ∧ iv = .int .i64 k ∧ sv = .int .i64 s ∧ cv = .int .i64 c ∧ Hid (meanGo (l.drop k) c s = (rv, re) ∧ inR s ∧ inR c ∧ Below w.heap.size w wr)) (fun _ _ iv _ => n - (intOf iv).toNat)
  case atStart => exact ⟨0, 0, 0, Nat.zero_le _, rfl, rfl, rfl, Lib.hid ⟨by rw [List.drop_zero]; exact HGO.out, by unfold inR; omega, by unfold inR; omega, Below.refl _ _⟩⟩
  case round =>
    obtain ⟨k, s, c, hk, rfl, rfl, rfl, HI⟩ := hrel
    by_cases hlt : k < n
    · have hlt' : (k : Int) < n := by omega
      obtain ⟨ad, rfl, x, hx, hxok, hat⟩ := (HRN.out.below HI.out.2.2.2).at (i := k) (by rw [HN.out]; exact hlt)
      have HDR := Lib.hid (drop_nd hx)
      obtain ⟨p0, p1, p2, p3, p4, p5⟩ := hat
      have HXO := Lib.hid hxok
      have hbe : Hid (∀ o, Below w.heap.size w (wr.alloc o)) := Lib.hid (fun o => HI.out.2.2.2.alloc HI.out.2.2.2.size o)
      clear hx hxok
      by_cases h1 : x.k < 1
      · have HE := Lib.hid h1
        obtain ⟨f, b, ll, cc, sx, q⟩ := x
        simp only at p0 p1 p2 p3 p4 p5 h1
        have hres : Hid ((rv, re) = (0, 5)) := Lib.hid (by rw [← HI.out.1, HDR.out]; exact mean_5 HE.out)
        go_wp2_with fail
        go_ret2
        refine ⟨ret_pair ?_ ?_, hbe.out _⟩
        · have := congrArg Prod.fst hres.out; exact this.symm
        · have := congrArg Prod.snd hres.out; exact this.symm
      · have KP := Lib.hid (pplus_any c x.k HI.out.2.2.1 HXO.out.2.2.2.2.2)
        have KQ := Lib.hid (pplus_any s x.s HI.out.2.1 HXO.out.2.2.2.2.1)
        have HE := Lib.hid h1
        have h2 : decide (x.k < 1) = false := decide_eq_false h1
        cases hc : lim (c + x.k) with
        | none =>
          rw [hc] at KP
          have hres : Hid ((rv, re) = (0, 6)) := Lib.hid (by rw [← HI.out.1, HDR.out]; exact mean_6 HE.out hc)
          obtain ⟨f, b, ll, cc, sx, q⟩ := x
          simp only [res] at p0 p1 p2 p3 p4 p5 h2 KP
          clear hc h1 KQ
          go_wp2_with fail
          refine (KP.out _).mono ?_
          rintro e w1 ⟨rfl, rfl⟩
          go_wp2_with fail
          go_ret2
          refine ⟨ret_pair ?_ ?_, hbe.out _⟩
          · have := congrArg Prod.fst hres.out; exact this.symm
          · have := congrArg Prod.snd hres.out; exact this.symm
        | some c' =>
          rw [hc] at KP
          have hc1 := lim_some hc
          cases hs : lim (s + x.s) with
          | none =>
            rw [hs] at KQ
            have hres : Hid ((rv, re) = (0, 6)) := Lib.hid (by rw [← HI.out.1, HDR.out]; exact mean_6' HE.out hc hs)
            obtain ⟨f, b, ll, cc, sx, q⟩ := x
            simp only [res] at p0 p1 p2 p3 p4 p5 h2 KP KQ
            clear hc h1 hc1 hs
            go_wp2_with fail
            refine (KP.out _).mono ?_
            rintro e w1 ⟨rfl, rfl⟩
            go_wp2_with fail
            refine (KQ.out _).mono ?_
            rintro e w1 ⟨rfl, rfl⟩
            go_wp2_with fail
            go_ret2
            refine ⟨ret_pair ?_ ?_, hbe.out _⟩
            · have := congrArg Prod.fst hres.out; exact this.symm
            · have := congrArg Prod.snd hres.out; exact this.symm
          | some s' =>
            rw [hs] at KQ
            have hs1 := lim_some hs
            have hnew : Hid (meanGo (l.drop (k + 1)) c' s' = (rv, re) ∧ inR s' ∧ inR c') := Lib.hid (by
              refine ⟨?_, by rw [hs1.1]; exact hs1.2, by rw [hc1.1]; exact hc1.2⟩
              rw [← HI.out.1, HDR.out]; exact (mean_go HE.out hc hs).symm)
            obtain ⟨f, b, ll, cc, sx, q⟩ := x
            simp only [res] at p0 p1 p2 p3 p4 p5 h2 KP KQ
            clear hc h1 hc1 hs hs1
            go_wp2_with fail
            refine (KP.out _).mono ?_
            rintro e w1 ⟨rfl, rfl⟩
            go_wp2_with fail
            refine (KQ.out _).mono ?_
            rintro e w1 ⟨rfl, rfl⟩
            go_wp2_with fail
            go_roundw
            case rel => exact ⟨k + 1, s', c', hlt, by go_num, rfl, rfl, Lib.hid ⟨hnew.out.1, hnew.out.2.1, hnew.out.2.2, hbe.out _⟩⟩
            case measure => simp [intOf]; omega
    · obtain rfl : k = n := by omega
      have KF := Lib.hid (pfloor_any s c HI.out.2.1 HI.out.2.2.1)
      have hres : Hid (floorO s c = (rv, re)) := Lib.hid (by
        have := HI.out.1
        rwa [List.drop_of_length_le (by rw [HN.out]; exact Nat.le_refl _), meanGo] at this)
      rw [hres.out] at KF
      unfold resP at KF
      go_wp2_with fail
      refine (KF.out _).mono ?_
      rintro e w1 ⟨rfl, rfl⟩
      go_wp2_with fail
      go_ret2
      exact ⟨rfl, HI.out.2.2.2⟩
end Go.Proofs.Ytbhikceekldenaa.Hb

/- The walks of vote.Vote, ref24.Class, ref24.Vote. -/
import Derived.Test.YtbhikceekldenaaHbMean3
import Derived.Test.YtbhikceekldenaaHbClass
namespace Go.Proofs.Ytbhikceekldenaa.Hb
set_option linter.unusedVariables false
set_option linter.unusedSimpArgs false
open Go.RowKit

def cfgA (k cl b t d l p : Int) : Array Value := #[.int .i64 k, .int .i64 cl, .int .i64 b, .int .i64 t, .int .i64 d, .int .i64 l, .int .i64 p]
set_option maxRecDepth 100000 in
set_option maxHeartbeats 2000000 in
theorem vote_any (k cl b t d l p : Int) (xs : List Nd) (A : Option Addr) (cap : Nat) (w : World) (hr : RN w A xs) (hl : xs.length ≤ 9223372036854775806) :
    Calls Try.prog 37 #[.agg (cfgA k cl b t d l p), .slice A xs.length cap] w fun e w' => e = .returned (resP (voteO k cl xs)) ∧ Below w.heap.size w w' := by
  have KC := Lib.hid (fun w hr => class_any xs cl A cap w hr hl)
  have KM := Lib.hid (fun w hr => mean_any xs A cap w hr (by omega))
  have HR := Lib.hid hr
  obtain ⟨n, hn⟩ : ∃ n, xs.length = n := ⟨_, rfl⟩
  rw [hn] at KC KM ⊢
  clear hr hn hl
  unfold cfgA resP
  by_cases h0 : k = 0
  · have e : voteO k cl xs = classO xs cl := if_pos h0
    rw [e]
    obtain ⟨⟨rv, re⟩, hR⟩ : ∃ R, classO xs cl = R := ⟨_, rfl⟩
    rw [hR] at KC ⊢
    unfold resP at KC
    have k1 : (k == 0) = true := beq_iff_eq.2 h0
    clear h0 hR e KM
    go_enter Try.func37, Try.ntmps37
    go_wp2_with fail
    refine (KC.out _ (HR.out.below ((Below.refl _ w).alloc (Nat.le_refl _) _))).mono ?_
    rintro e w1 ⟨rfl, hb⟩
    have be : Below w.heap.size w w1 := ((Below.refl _ w).alloc (Nat.le_refl _) _).trans (hb.mono (by simp))
    clear hb
    go_wp2_with fail
    go_ret2
    exact ⟨rfl, be⟩
  · have k1 : (k == 0) = false := beq_eq_false_iff_ne.2 h0
    by_cases h1 : k = 1
    · have e : voteO k cl xs = meanO xs := (if_neg h0).trans (if_pos h1)
      rw [e]
      obtain ⟨⟨rv, re⟩, hR⟩ : ∃ R, meanO xs = R := ⟨_, rfl⟩
      rw [hR] at KM ⊢
      unfold resP at KM
      have k2 : (k == 1) = true := beq_iff_eq.2 h1
      clear h0 h1 hR e KC
      go_enter Try.func37, Try.ntmps37
      go_wp2_with fail
      refine (KM.out _ (HR.out.below ((Below.refl _ w).alloc (Nat.le_refl _) _))).mono ?_
      rintro e w1 ⟨rfl, hb⟩
      have be : Below w.heap.size w w1 := ((Below.refl _ w).alloc (Nat.le_refl _) _).trans (hb.mono (by simp))
      clear hb
      go_wp2_with fail
      go_ret2
      exact ⟨rfl, be⟩
    · have e : voteO k cl xs = (0, 1) := (if_neg h0).trans (if_neg h1)
      rw [e]
      have k2 : (k == 1) = false := beq_eq_false_iff_ne.2 h1
      clear h0 h1 e
      go_enter Try.func37, Try.ntmps37
      go_wp2_with fail
      go_ret2
      exact ⟨rfl, (Below.refl _ w).alloc (Nat.le_refl _) _⟩
set_option maxRecDepth 100000 in
set_option maxHeartbeats 4000000 in
theorem rclass_any (l : List Nd) (classes : Int) (A : Option Addr) (cap : Nat) (w : World) (hr : RN w A l) (hl : l.length ≤ 9223372036854775806) :
    Calls Try.prog 66 #[.slice A l.length cap, .int .i64 classes] w fun e w' => e = .returned (resP (classO l classes)) ∧ w = w' := by
  obtain ⟨n, hn⟩ : ∃ n, l.length = n := ⟨_, rfl⟩
  rw [hn] at hl ⊢
  unfold resP
  by_cases h0 : n = 0
  · subst h0
    have e0 : l = [] := List.length_eq_zero_iff.1 hn
    rw [class_1 (.inl e0)]
    clear hn hr e0
    go_enter Try.func66, Try.ntmps66
    go_wp2_with fail
    go_ret2
    exact ⟨rfl, rfl⟩
  have hn0 : ((n : Int) == 0) = false := beq_eq_false_iff_ne.2 (by omega)
  have hn0' : (n == 0) = false := beq_eq_false_iff_ne.2 h0
  by_cases hc : classes < 1 ∨ 256 < classes
  · rw [class_1 (.inr hc)]
    rcases hc with hc | hc
    · have c1 : decide (classes < 1) = true := decide_eq_true hc
      go_enter Try.func66, Try.ntmps66
      go_wp2_with fail
      go_ret2
      exact ⟨rfl, rfl⟩
    · have c1 : decide (classes < 1) = false := decide_eq_false (by omega)
      have c2 : decide (256 < classes) = true := decide_eq_true hc
      go_enter Try.func66, Try.ntmps66
      go_wp2_with fail
      go_ret2
      exact ⟨rfl, rfl⟩
  have hcl1 : 1 ≤ classes := by omega
  have hcl2 : classes ≤ 256 := by omega
  have hl0 : l ≠ [] := fun e => h0 (by rw [← hn, e]; rfl)
  have HGO : Hid (classO l classes = if l.any (offC classes) = true then ((0, 5) : Int × Int) else (((bestUp (cntC l) 256 : Nat) : Int), 0)) := Lib.hid (class_go (by rintro (h | h); exact hl0 h; exact hc h))
  have HBD : Hid (l.any (offC classes) = false → bestDn (cntC l) classes.toNat 0 (-1) = bestUp (cntC l) 256) := Lib.hid (fun h => (best_both hl0 hcl1 hcl2 h).1)
  obtain ⟨⟨rv, re⟩, hR⟩ : ∃ R, classO l classes = R := ⟨_, rfl⟩
  rw [hR] at HGO ⊢
  have HN := Lib.hid hn
  have HRN := Lib.hid hr
  have c1 : decide (classes < 1) = false := decide_eq_false (by omega)
  have c2 : decide (256 < classes) = false := decide_eq_false (by omega)
  obtain ⟨C, hC⟩ := Int.eq_ofNat_of_zero_le (show 0 ≤ classes by omega)
  subst hC
  have hC1 : 1 ≤ C := by omega
  have hC2 : C ≤ 256 := by omega
  clear hR hn hr h0 hc hl0
  go_enter Try.func66, Try.ntmps66
  go_wp2_with fail
  clear hn0 hn0' c1 c2
  go_loop [6] (fun iv => ∃ k : Nat, k ≤ n ∧ iv = .int .i64 k ∧ Hid ((l.take k).any (offC C) = false)) (fun iv => n - (intOf iv).toNat)
  case atStart => exact ⟨0, Nat.zero_le _, rfl, Lib.hid rfl⟩
  case round =>
    obtain ⟨k, hk, rfl, HI⟩ := hrel
    by_cases hlt : k < n
    · have hlt' : (k : Int) < n := by omega
      obtain ⟨ad, rfl, x, hx, hxok, hat⟩ := HRN.out.at (i := k) (by rw [HN.out]; exact hlt)
      by_cases hoff : x.c < 0 ∨ (C : Int) ≤ x.c
      · have hres : Hid ((rv, re) = (0, 5)) := Lib.hid (by
          rw [HGO.out, if_pos]
          exact List.any_eq_true.2 ⟨x, List.mem_of_getElem? hx, decide_eq_true hoff⟩)
        obtain ⟨p0, p1, p2, p3, p4, p5⟩ := hat
        obtain ⟨f, b, ll, cc, sx, q⟩ := x
        simp only at p0 p1 p2 p3 p4 p5 hoff
        clear hx hxok
        rcases hoff with hoff | hoff
        · have d1 : decide (cc < 0) = true := decide_eq_true hoff
          go_wp2_with fail
          go_ret2
          exact ⟨ret_pair (congrArg Prod.fst hres.out).symm (congrArg Prod.snd hres.out).symm, rfl⟩
        · have d1 : decide (cc < 0) = false := decide_eq_false (by omega)
          have d2 : decide ((C : Int) ≤ cc) = true := decide_eq_true hoff
          go_wp2_with fail
          go_ret2
          exact ⟨ret_pair (congrArg Prod.fst hres.out).symm (congrArg Prod.snd hres.out).symm, rfl⟩
      · have hany : Hid ((l.take (k + 1)).any (offC C) = false) := Lib.hid (by
          rw [take_snocN hx, List.any_append, HI.out]
          simp [offC]; omega)
        obtain ⟨p0, p1, p2, p3, p4, p5⟩ := hat
        obtain ⟨f, b, ll, cc, sx, q⟩ := x
        simp only at p0 p1 p2 p3 p4 p5 hoff
        have d1 : decide (cc < 0) = false := decide_eq_false (by omega)
        have d2 : decide ((C : Int) ≤ cc) = false := decide_eq_false (by omega)
        clear hx hxok hoff
        go_wp2_with fail
        go_round
        case rel => exact ⟨k + 1, hlt, by go_num, hany⟩
        case measure => simp [intOf]; omega
    · obtain rfl : k = n := by omega
      have htk : l.take k = l := List.take_of_length_le (by rw [HN.out]; exact Nat.le_refl _)
      have hany : l.any (offC C) = false := by have := HI.out; rwa [htk] at this
      have hres : Hid (rv = ((bestDn (cntC l) C 0 (-1) : Nat) : Int) ∧ re = 0) := Lib.hid (by
        have e := HGO.out
        rw [hany, if_neg (by simp)] at e
        have e2 := HBD.out hany
        rw [Int.toNat_natCast] at e2
        rw [e2]
        exact ⟨congrArg Prod.fst e, congrArg Prod.snd e⟩)
      clear hany htk
      go_wp2_with fail
      go_loop [7, 8, 9] (fun bv mv cv => ∃ (j b : Nat) (m : Int), j ≤ C ∧ cv = .int .i64 ((j : Int) - 1) ∧ bv = .int .i64 b ∧ mv = .int .i64 m ∧ Hid (bestDn (cntC l) j b m = bestDn (cntC l) C 0 (-1))) (fun _ _ cv => (intOf cv + 1).toNat)
      case atStart => exact ⟨C, 0, -1, Nat.le_refl _, rfl, rfl, rfl, Lib.hid rfl⟩
      case round =>
        obtain ⟨j, b, m, hj, rfl, rfl, rfl, HB⟩ := hrel
        rcases j with _ | j
        · go_wp2_with fail
          go_ret2
          exact ⟨ret_pair (by rw [hres.out.1, ← HB.out]; rfl) hres.out.2.symm, rfl⟩
        · have ej : (((j + 1 : Nat) : Int) - 1) = (j : Int) := by omega
          rw [ej]
          go_wp2_with fail
          go_loop [10, 11] (fun nv iv => ∃ k2 : Nat, k2 ≤ k ∧ iv = .int .i64 k2 ∧ nv = .int .i64 (cntC (l.take k2) j : Nat)) (fun _ iv => k - (intOf iv).toNat)
          case atStart => exact ⟨0, Nat.zero_le _, rfl, rfl⟩
          case round =>
            obtain ⟨k2, hk2, rfl, rfl⟩ := hrel
            by_cases hlt : k2 < k
            · have hlt' : (k2 : Int) < k := by omega
              obtain ⟨ad, rfl, x, hx, hxok, hat⟩ := HRN.out.at (i := k2) (by rw [HN.out]; exact hlt)
              have hle : cntC (l.take k2) j ≤ 9223372036854775806 := by
                have a1 := cnt_le (l.take k2) j
                have a2 : (l.take k2).length ≤ k2 := List.length_take_le _ _
                omega
              have hs : Hid (cntC (l.take (k2 + 1)) j = if x.c = j then cntC (l.take k2) j + 1 else cntC (l.take k2) j) := Lib.hid (by
                rw [take_snocN hx]
                unfold cntC
                rw [List.filter_append, List.length_append]
                by_cases hh : x.c = (j : Int)
                · rw [if_pos hh, List.filter_cons, if_pos (by simpa using hh)]; rfl
                · rw [if_neg hh, List.filter_cons, if_neg (by simpa using hh)]; rfl)
              obtain ⟨u, hu⟩ : ∃ u, cntC (l.take k2) j = u := ⟨_, rfl⟩
              rw [hu] at hs hle ⊢
              obtain ⟨p0, p1, p2, p3, p4, p5⟩ := hat
              obtain ⟨f, b2, ll, cc, sx, q⟩ := x
              simp only at p0 p1 p2 p3 p4 p5 hs
              clear hx hxok hu
              by_cases hcj : cc = (j : Int)
              · have d1 : (cc == (j : Int)) = true := beq_iff_eq.2 hcj
                have HCJ := Lib.hid hcj
                clear hcj
                go_wp2_with fail
                go_round
                case rel => exact ⟨k2 + 1, hlt, by go_num, by rw [hs.out, if_pos HCJ.out]; go_num⟩
                case measure => simp [intOf]; omega
              · have d1 : (cc == (j : Int)) = false := beq_eq_false_iff_ne.2 hcj
                have HCJ := Lib.hid hcj
                clear hcj
                go_wp2_with fail
                go_round
                case rel => exact ⟨k2 + 1, hlt, by go_num, by rw [hs.out, if_neg HCJ.out]⟩
                case measure => simp [intOf]; omega
            · obtain rfl : k2 = k := by omega
              have htk : l.take k2 = l := List.take_of_length_le (by rw [HN.out]; exact Nat.le_refl _)
              rw [htk]
              obtain ⟨u, hu⟩ : ∃ u, cntC l j = u := ⟨_, rfl⟩
              have hs : Hid (bestDn (cntC l) (j + 1) b m = if m ≤ (u : Int) then bestDn (cntC l) j j u else bestDn (cntC l) j b m) := Lib.hid (by rw [bestDn, hu])
              rw [hu]
              clear hu htk
              by_cases hm : m ≤ (u : Int)
              · have d1 : decide (m ≤ (u : Int)) = true := decide_eq_true hm
                have HM := Lib.hid hm
                clear hm
                go_wp2_with fail
                go_round
                case rel => exact ⟨j, j, u, by omega, by go_num, rfl, rfl, Lib.hid (by rw [← HB.out, hs.out, if_pos HM.out])⟩
                case measure => simp [intOf]
              · have d1 : decide (m ≤ (u : Int)) = false := decide_eq_false hm
                have HM := Lib.hid hm
                clear hm
                go_wp2_with fail
                go_round
                case rel => exact ⟨j, b, m, by omega, by go_num, rfl, rfl, Lib.hid (by rw [← HB.out, hs.out, if_neg HM.out])⟩
                case measure => simp [intOf]
set_option maxRecDepth 100000 in
set_option maxHeartbeats 2000000 in
theorem rvote_any (k cl b t d l p : Int) (xs : List Nd) (A : Option Addr) (cap : Nat) (w : World) (hr : RN w A xs) (hl : xs.length ≤ 9223372036854775806) :
    Calls Try.prog 40 #[.agg (cfgA k cl b t d l p), .slice A xs.length cap] w fun e w' => e = .returned (resP (voteO k cl xs)) ∧ Below w.heap.size w w' := by
  have KC := Lib.hid (fun w hr => rclass_any xs cl A cap w hr hl)
  have KM := Lib.hid (fun w hr => rmean_any xs A cap w hr (by omega))
  have HR := Lib.hid hr
  obtain ⟨n, hn⟩ : ∃ n, xs.length = n := ⟨_, rfl⟩
  rw [hn] at KC KM ⊢
  clear hr hn hl
  unfold cfgA resP
  by_cases h0 : k = 0
  · have e : voteO k cl xs = classO xs cl := if_pos h0
    rw [e]
    obtain ⟨⟨rv, re⟩, hR⟩ : ∃ R, classO xs cl = R := ⟨_, rfl⟩
    rw [hR] at KC ⊢
    unfold resP at KC
    have k1 : (k == 0) = true := beq_iff_eq.2 h0
    clear h0 hR e KM
    go_enter Try.func40, Try.ntmps40
    go_wp2_with fail
    refine (KC.out _ (HR.out.below ((Below.refl _ w).alloc (Nat.le_refl _) _))).mono ?_
    rintro e w1 ⟨rfl, rfl⟩
    go_wp2_with fail
    go_ret2
    exact ⟨rfl, (Below.refl _ w).alloc (Nat.le_refl _) _⟩
  · have k1 : (k == 0) = false := beq_eq_false_iff_ne.2 h0
    by_cases h1 : k = 1
    · have e : voteO k cl xs = meanO xs := (if_neg h0).trans (if_pos h1)
      rw [e]
      obtain ⟨⟨rv, re⟩, hR⟩ : ∃ R, meanO xs = R := ⟨_, rfl⟩
      rw [hR] at KM ⊢
      unfold resP at KM
      have k2 : (k == 1) = true := beq_iff_eq.2 h1
      clear h0 h1 hR e KC
      go_enter Try.func40, Try.ntmps40
      go_wp2_with fail
      refine (KM.out _ (HR.out.below ((Below.refl _ w).alloc (Nat.le_refl _) _))).mono ?_
      rintro e w1 ⟨rfl, hb⟩
      have be : Below w.heap.size w w1 := ((Below.refl _ w).alloc (Nat.le_refl _) _).trans (hb.mono (by simp))
      clear hb
      go_wp2_with fail
      go_ret2
      exact ⟨rfl, be⟩
    · have e : voteO k cl xs = (0, 1) := (if_neg h0).trans (if_neg h1)
      rw [e]
      have k2 : (k == 1) = false := beq_eq_false_iff_ne.2 h1
      clear h0 h1 e
      go_enter Try.func40, Try.ntmps40
      go_wp2_with fail
      go_ret2
      exact ⟨rfl, (Below.refl _ w).alloc (Nat.le_refl _) _⟩
end Go.Proofs.Ytbhikceekldenaa.Hb

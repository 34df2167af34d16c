/- The walks of ref18.parent, ref18.Deep and ref18.Right. -/
import Derived.Test.YtbhikceekldenaaHbROne
import Derived.Test.YtbhikceekldenaaHbNode3
namespace Go.Proofs.Ytbhikceekldenaa.Hb
set_option linter.unusedVariables false
set_option linter.unusedSimpArgs false
open Go.RowKit

theorem par_yes {p : Nat} {n : Nd} {r : List Nd} {k : Nat} (h : 0 ≤ n.f ∧ (n.l = p ∨ n.l + 1 = p)) : parGo p (n :: r) k = k := by rw [parGo, if_pos h]
theorem par_no {p : Nat} {n : Nd} {r : List Nd} {k : Nat} (h : ¬ (0 ≤ n.f ∧ (n.l = p ∨ n.l + 1 = p))) : parGo p (n :: r) k = parGo p r (k + 1) := by rw [parGo, if_neg h]
theorem wrapI_64 (x : Int) : IntKind.i64.wrap x = wrap64 x := by rw [IntKind.wrap_i64]; unfold wrap64; omega
theorem wrap_next {l : Int} (h : in64 l) {p : Nat} (hp : p ≤ 1099511627776) : (wrap64 (l + 1) == (p : Int)) = decide (l + 1 = p) := by
  obtain ⟨h1, h2⟩ := h
  rw [Bool.eq_iff_iff, beq_iff_eq, decide_eq_true_iff, ← wrapI_64, IntKind.wrap_i64]
  omega
set_option maxRecDepth 100000 in
set_option maxHeartbeats 1000000 in
theorem rparent_any (t : List Nd) (A : Option Addr) (cap p : Nat) (w : World) (hr : RN w A t) (hl : t.length ≤ 1099511627776) (hp : p ≤ t.length) :
    Calls Try.prog 93 #[.slice A t.length cap, .int .i64 p] w fun e w' => e = .returned (.int .i64 (parO t p)) ∧ w = w' := by
  obtain ⟨P, hP⟩ : ∃ P, parO t p = P := ⟨_, rfl⟩
  rw [hP]
  have HP : Hid (parGo p ((t.take p).drop 0) 0 = P) := Lib.hid hP
  obtain ⟨n, hn⟩ : ∃ n, t.length = n := ⟨_, rfl⟩
  have HN := Lib.hid hn
  have HR := Lib.hid hr
  rw [hn] at hl hp ⊢
  clear hP hn hr
  go_enter Try.func93, Try.ntmps93
  go_wp2_with fail
  go_loopw [5] (fun iv wr => ∃ k : Nat, k ≤ p ∧ iv = .int .i64 k ∧ Hid (parGo p ((t.take p).drop k) k = P) ∧ Hid (w = wr)) (fun iv _ => p - (intOf iv).toNat)
  case atStart => exact ⟨0, Nat.zero_le _, rfl, HP, Lib.hid rfl⟩
  case round =>
    obtain ⟨k, hk, rfl, HI, HW⟩ := hrel
    by_cases hlt : k < p
    · have hlt' : (k : Int) < p := by omega
      have hkn : k < n := by omega
      have hkn' : (k : Int) < n := by omega
      obtain ⟨ad, rfl, x, hx, hxok, hat⟩ := (HR.out).at (i := k) (by rw [HN.out]; exact hkn)
      rw [HW.out] at hat
      have HDR : Hid ((t.take p).drop k = x :: (t.take p).drop (k + 1)) := Lib.hid (drop_nd (by rw [List.getElem?_take, if_pos hlt]; exact hx))
      obtain ⟨p0, p1, p2, p3, p4, p5⟩ := hat
      obtain ⟨f, b, l, c, s, q⟩ := x
      simp only at p0 p1 p2 p3 p4 p5
      obtain ⟨x0, hx0⟩ : ∃ x0, decide (0 ≤ f) = x0 := ⟨_, rfl⟩
      obtain ⟨x1, hx1⟩ : ∃ x1, (l == (p : Int)) = x1 := ⟨_, rfl⟩
      obtain ⟨x2, hx2⟩ : ∃ x2, (wrap64 (l + 1) == (p : Int)) = x2 := ⟨_, rfl⟩
      have hdec : Hid ((0 ≤ f ∧ (l = p ∨ l + 1 = p)) ↔ (x0 && (x1 || x2)) = true) := Lib.hid (by
        rw [← hx0, ← hx1, ← hx2, wrap_next hxok.2.2.1 (by omega)]
        simp)
      clear hx hxok
      cases x0 <;> cases x1 <;> cases x2
      all_goals
        go_wp2_with fail
        first
        | (go_ret
           refine ⟨ret_i64 ?_, HW.out⟩
           rw [← HI.out, HDR.out, par_yes (hdec.out.2 rfl)])
        | (go_roundw
           case rel => exact ⟨k + 1, hlt, by go_num, Lib.hid (by have := HI.out; rw [HDR.out, par_no (fun h => by have := hdec.out.1 h; simp at this)] at this; exact this), HW⟩
           case measure => simp [intOf]; omega)
    · obtain rfl : k = p := by omega
      have hfin : Hid (P = -1) := Lib.hid (by rw [← HI.out, List.drop_of_length_le (by rw [List.length_take]; omega)]; rfl)
      go_wp2_with fail
      go_ret
      exact ⟨ret_i64 hfin.out.symm, HW.out⟩

theorem refLeft_no {n : Nd} {r : List Nd} {i left : Nat} (h : 0 ≤ n.f) (h2 : n.l ≠ left ∨ left ≤ i) : refLeft (n :: r) i left = none := by rw [refLeft, if_pos h, if_pos h2]
theorem refLeft_two {n : Nd} {r : List Nd} {i left : Nat} (h : 0 ≤ n.f) (h2 : ¬ (n.l ≠ left ∨ left ≤ i)) : refLeft (n :: r) i left = refLeft r (i + 1) (left + 2) := by rw [refLeft, if_pos h, if_neg h2]
theorem refLeft_leaf {n : Nd} {r : List Nd} {i left : Nat} (h : ¬ 0 ≤ n.f) : refLeft (n :: r) i left = refLeft r (i + 1) left := by rw [refLeft, if_neg h]
theorem maxO_snoc (l : List Int) (x : Int) : maxO (l ++ [x]) = if maxO l < x then x else maxO l := by
  unfold maxO
  rw [List.foldl_append]
  show max _ _ = _
  split <;> omega
theorem maxO_le {m : Int} : ∀ (l : List Int) (a : Int), a ≤ m → (∀ x ∈ l, x ≤ m) → l.foldl max a ≤ m
  | [], a, h, _ => h
  | x :: r, a, h, hl => maxO_le r _ (by have := hl x (List.mem_cons_self ..); omega) (fun y hy => hl y (List.mem_cons_of_mem _ hy))
theorem maxO_ge : ∀ (l : List Int) (a : Int), a ≤ l.foldl max a
  | [], a => Int.le_refl _
  | x :: r, a => Int.le_trans (Int.le_max_left a x) (maxO_ge r _)
def deepO (t : List Nd) : Int := if (depGo t.length t 0 [0]).isSome then maxO (depthsO t) else -1
theorem rightT_deep (cols bins kind classes : Int) (t : List Nd) :
    rightT cols bins kind classes t = (decide (mayS cols bins kind classes) && (!decide (t = []) && ((t.all fun n => decide (oneP cols bins kind classes n)) && (decide (0 ≤ deepO t) && decide (deepO t ≤ 32))))) := by
  unfold rightT
  by_cases h1 : mayS cols bins kind classes
  case neg => simp [h1]
  by_cases h2 : t = []
  · subst h2; simp [h1, depthsO]
  by_cases h3 : (t.all fun n => decide (oneP cols bins kind classes n)) = true
  case neg => simp [h1, h3]
  rw [h3]
  have h0 : depthsO t = (depGo t.length t 0 [0]).getD [] := by unfold depthsO; rw [if_neg h2]
  have hg : 0 ≤ maxO (depthsO t) := maxO_ge _ _
  unfold deepO
  cases hd : depGo t.length t 0 [0] with
  | none =>
    rw [hd] at h0
    simp [h0]
  | some ds =>
    rw [hd, Option.getD_some] at h0
    have hl := (dep_front _ _ _ _ hd).2
    have hne : ds ≠ [] := fun e => h2 (List.length_eq_zero_iff.1 (by rw [← hl, e]; rfl))
    rw [h0] at hg ⊢
    simp [h1, h2, hne, hg]
set_option maxRecDepth 100000 in
set_option maxHeartbeats 4000000 in
theorem rdeep_any (t : List Nd) (A : Option Addr) (cap : Nat) (w : World) (hr : RN w A t) (hl : t.length ≤ 1099511627776) (hf : ∀ n ∈ t, -1 ≤ n.f) :
    Calls Try.prog 78 #[.slice A t.length cap] w fun e w' => e = .returned (.int .i64 (deepO t)) ∧ Below w.heap.size w w' := by
  obtain ⟨n, hn⟩ : ∃ n, t.length = n := ⟨_, rfl⟩
  obtain ⟨D, hD⟩ : ∃ D, deepO t = D := ⟨_, rfl⟩
  rw [hD]
  have hiff := dep_ref (L := n) t 0 [0] hf (by rw [hn]; omega)
  simp only [List.length_cons, List.length_nil, Nat.zero_add] at hiff
  have hbad : Hid (refLeft t 0 1 ≠ some n → D = -1) := Lib.hid (fun h => by
    rw [← hD]; unfold deepO
    rw [hn, if_neg (fun h2 => h (hiff.1 h2))])
  have HGOOD : Hid (refLeft t 0 1 = some n → ∃ ds : List Int, ds.length = n ∧ (∀ k : Nat, k < n → 0 ≤ ds.getD k 0 ∧ ds.getD k 0 ≤ (n : Int)) ∧ ds.getD 0 0 = 0 ∧ (∀ p, 0 < p → p < n → ∃ k : Nat, parO t p = k ∧ k < p ∧ ds.getD p 0 = ds.getD k 0 + 1) ∧ D = maxO ds) := Lib.hid (fun h => by
    have h2 := hiff.2 h
    obtain ⟨ds, hds⟩ := Option.isSome_iff_exists.1 h2
    have h3 := dep_of hf (by rw [hn]; exact hds)
    obtain ⟨e1, e2, e3⟩ := h3
    rw [hn] at e1 e3
    have hne : t ≠ [] := fun e => by subst e; simp at hn; subst hn; simp [depGo] at hds
    have hdo : depthsO t = ds := by unfold depthsO; rw [if_neg hne, hn, hds]; rfl
    refine ⟨ds, e1, fun k hk => ?_, e2, e3, ?_⟩
    · have := depths_low t (ds.getD k 0) (by rw [hdo, List.getD_eq_getElem?_getD, List.getElem?_eq_getElem (by omega)]; exact List.getElem_mem _)
      rw [hdo, e1] at this
      exact this
    · rw [← hD]; unfold deepO
      rw [hn, hds, hdo]; rfl)
  have KP := Lib.hid (fun (p : Nat) w hr (hp : p ≤ n) => rparent_any t A cap p w hr hl (by rw [hn]; exact hp))
  have HF : Hid (∀ (k : Nat) (x : Nd), t[k]? = some x → -1 ≤ x.f) := Lib.hid (fun k x h => hf x (List.mem_of_getElem? h))
  have HN := Lib.hid hn
  have HR := Lib.hid hr
  rw [hn] at hl KP ⊢
  obtain ⟨i0, hi0, hz0, hz1, hz2⟩ := info_parts info_int
  clear hn hr hiff hf hD
  go_enter Try.func78, Try.ntmps78
  go_wp2_with fail
  go_loopw [3, 4] (fun lv iv wr => ∃ (k m : Nat), k ≤ n ∧ iv = .int .i64 k ∧ lv = .int .i64 m ∧ m ≤ 1 + 2 * k ∧ Hid (refLeft (t.drop k) k m = refLeft t 0 1) ∧ Hid (w = wr)) (fun _ iv _ => n - (intOf iv).toNat)
  case atStart => exact ⟨0, 1, Nat.zero_le _, rfl, rfl, by omega, Lib.hid rfl, Lib.hid rfl⟩
  case round =>
    obtain ⟨k, m, hk, rfl, rfl, hm, HI, HW⟩ := hrel
    by_cases hlt : k < n
    · have hlt' : (k : Int) < n := by omega
      obtain ⟨ad, rfl, x, hx, hxok, hat⟩ := (HR.out).at (i := k) (by rw [HN.out]; exact hlt)
      rw [HW.out] at hat
      have HDR := Lib.hid (drop_nd hx)
      obtain ⟨p0, p1, p2, p3, p4, p5⟩ := hat
      obtain ⟨f, b, l, c, s, q⟩ := x
      simp only at p0 p1 p2 p3 p4 p5
      clear hx hxok
      by_cases hff : 0 ≤ f
      · have d0 : decide (0 ≤ f) = true := decide_eq_true hff
        have HFF := Lib.hid hff
        clear hff
        by_cases hno : l ≠ m ∨ m ≤ k
        · have hfin : Hid (D = -1) := Lib.hid (hbad.out (by rw [← HI.out, HDR.out, refLeft_no HFF.out hno]; simp))
          by_cases h1 : l = m
          · have e1 : (l != (m : Int)) = false := by simpa using h1
            have e2 : decide ((m : Int) ≤ k) = true := decide_eq_true (by omega)
            have e3 : decide (m ≤ k) = true := decide_eq_true (by omega)
            clear h1 hno
            go_wp2_with fail
            go_ret
            exact ⟨ret_i64 hfin.out.symm, by rw [← HW.out]; exact Below.refl _ _⟩
          · have e1 : (l != (m : Int)) = true := by simpa using h1
            clear h1 hno
            go_wp2_with fail
            go_ret
            exact ⟨ret_i64 hfin.out.symm, by rw [← HW.out]; exact Below.refl _ _⟩
        · have h1 : l = m := by omega
          have e1 : (l != (m : Int)) = false := by simpa using h1
          have e2 : decide ((m : Int) ≤ k) = false := decide_eq_false (by omega)
          have e3 : decide (m ≤ k) = false := decide_eq_false (by omega)
          have HI2 : Hid (refLeft (t.drop (k + 1)) (k + 1) (m + 2) = refLeft t 0 1) := Lib.hid (by have := HI.out; rw [HDR.out, refLeft_two HFF.out hno] at this; exact this)
          clear h1 hno
          go_wp2_with fail
          go_roundw
          case rel => exact ⟨k + 1, m + 2, hlt, by go_num, by go_num, by omega, HI2, HW⟩
          case measure => simp [intOf]; omega
      · have d0 : decide (0 ≤ f) = false := decide_eq_false hff
        have HI2 : Hid (refLeft (t.drop (k + 1)) (k + 1) m = refLeft t 0 1) := Lib.hid (by have := HI.out; rw [HDR.out, refLeft_leaf hff] at this; exact this)
        clear hff
        go_wp2_with fail
        go_roundw
        case rel => exact ⟨k + 1, m, hlt, by go_num, rfl, by omega, HI2, HW⟩
        case measure => simp [intOf]; omega
    · obtain rfl : k = n := by omega
      have hend : Hid (refLeft t 0 1 = some m) := Lib.hid (by rw [← HI.out, List.drop_of_length_le (by rw [HN.out]; exact Nat.le_refl _)]; rfl)
      by_cases hmk : m = k
      case neg =>
        have hfin : Hid (D = -1) := Lib.hid (hbad.out (by rw [hend.out]; simpa using hmk))
        have e1 : ((m : Int) != k) = true := bne_iff_ne.2 (by omega)
        have e2 : (m != k) = true := bne_iff_ne.2 hmk
        clear hmk
        go_wp2_with fail
        go_ret
        exact ⟨ret_i64 hfin.out.symm, by rw [← HW.out]; exact Below.refl _ _⟩
      obtain ⟨ds, hlen, hlow, h00, hpar, hmax⟩ := HGOOD.out (by rw [hend.out, hmk])
      have HL := Lib.hid hlen
      have HLOW := Lib.hid hlow
      have H00 := Lib.hid h00
      have HPAR := Lib.hid hpar
      have HMAX := Lib.hid hmax
      have e1 : ((m : Int) != k) = false := by rw [hmk]; simp
      have e2 : (m != k) = false := by simpa using hmk
      obtain ⟨n, hkn⟩ : ∃ n, n = k := ⟨_, rfl⟩
      clear hlen hlow h00 hpar hmax hmk HI hk hlt
      subst hkn
      obtain ⟨wo, hwo⟩ : ∃ x, x = wr := ⟨_, rfl⟩
      subst hwo
      have HW0 := HW.out
      subst HW0
      go_wp2_with fail
      go_loopw [5, 6, 7] (fun o mv jv wr => ∃ (k : Nat) (a : Option Addr) (c : Nat) (M : Int), k ≤ n ∧ jv = .int .i64 k ∧ o = .slice a k c ∧ mv = .int .i64 M ∧ Hid (maxO (ds.take k) = M) ∧ Hid (wr.ownsRow w.heap.size 3 1 (.slice a k c) k (ints (ds.take k))) ∧ Hid (Below w.heap.size w wr)) (fun _ _ jv _ => n - (intOf jv).toNat)
      case atStart =>
        refine ⟨0, _, _, 0, Nat.zero_le _, rfl, rfl, rfl, Lib.hid rfl, Lib.hid ?_, Lib.hid ((Below.refl _ _).alloc (Nat.le_refl _) _)⟩
        exact World.ownsRow_made w #[] 0 (Nat.le_refl _) (Nat.zero_le _) rfl
      case round =>
        obtain ⟨k, a, c, M, hk, rfl, rfl, rfl, HM, HO, HBe⟩ := hrel
        by_cases hlt : k < n
        · have hlt' : (k : Int) < n := by omega
          obtain ⟨d, hd⟩ : ∃ d, ds.getD k 0 = d := ⟨_, rfl⟩
          have hdb := HLOW.out k hlt
          rw [hd] at hdb
          have HX := Lib.hid hd
          have HDB := Lib.hid hdb
          clear hd hdb
          by_cases hk0 : k = 0
          · have q1 : decide ((0 : Int) < k) = false := decide_eq_false (by omega)
            have q2 : decide (0 < k) = false := decide_eq_false (by omega)
            have hd0 : Hid (d = 0) := Lib.hid (by rw [← HX.out, hk0]; exact H00.out)
            have hm0 : Hid (M = 0) := Lib.hid (by rw [← HM.out, hk0]; rfl)
            have HX : Hid (ds.getD k 0 = 0) := Lib.hid (by rw [HX.out, hd0.out])
            have q3 : decide (M < 0) = false := decide_eq_false (by rw [hm0.out]; omega)
            have MC : Hid (¬ M < 0) := Lib.hid (by rw [hm0.out]; omega)
            have HO1 := HO
            have HBe1 := HBe
            have hl1 : w.heap.size ≤ wr.heap.size := HBe1.out.size
            clear hk0
            obtain ⟨wA, hwA⟩ : ∃ x, x = wr := ⟨_, rfl⟩
            subst hwA
            go_wp2_with (at_builtin; refine wpList_append_lies _ rfl _ _ 54 rfl w.heap.size 3 i0 (.int .i64 0) 1 8 Try.underlying54 hi0 hz0 hz1 hz2 rfl (by decide) _ _ _ rfl (HO1.out.alloc _) ⟨wA.heap.size, 0, none⟩ 1 1 [.int .i64 0] rfl rfl (cell_one_new _ _ _) (by simp [Value.oneCell']) (by decide) (by unfold maxLen; omega) (by omega) (by simp; omega) _ rfl ?_; intro g2 c2 w2 hown2 hg2 hat2 hlt2)
            go_roundw
            case rel =>
              refine ⟨k + 1, _, c2, M, hlt, by go_num, rfl, rfl, Lib.hid ?_, Lib.hid ?_, Lib.hid ?_⟩
              · have e := take_snocI (l := ds) (k := k) (by rw [HL.out]; exact hlt)
                rw [HX.out] at e
                rw [e, maxO_snoc, HM.out, if_neg (by have := MC.out; omega)]
              · rw [take_snocI (by rw [HL.out]; exact hlt), HX.out, ints_snoc]; exact hown2
              · exact (HBe1.out.alloc HBe1.out.size _).grown hg2 (by have := HBe1.out.size; simp; omega) (fun q e => by have := (World.ownsRow.lt HO1.out q e).1; omega)
            case measure => simp [intOf]; omega
          · have q1 : decide ((0 : Int) < k) = true := decide_eq_true (by omega)
            have q2 : decide (0 < k) = true := decide_eq_true (by omega)
            obtain ⟨p, hp1, hp2, hp3⟩ := HPAR.out k (by omega) hlt
            have KC := Lib.hid (KP.out k wr (HR.out.below HBe.out) (by omega))
            rw [hp1] at KC
            obtain ⟨g, c', hv, h1, h2, h3, h4⟩ := own_open HO.out (by omega)
            cases hv
            have hy := HLOW.out p (by omega)
            obtain ⟨y, hyy⟩ : ∃ y, ds.getD p 0 = y := ⟨_, rfl⟩
            rw [hyy] at hy hp3
            have z0 : wr.cell? ⟨g, p, none⟩ = some (.int .i64 y) := h4 p _ (by rw [ints_get (by rw [List.length_take, HL.out]; omega), ← hyy, List.getD_eq_getElem?_getD, List.getD_eq_getElem?_getD, List.getElem?_take, if_pos hp2])
            have HD1 : Hid (y + 1 = d) := Lib.hid (by rw [← HX.out]; exact hp3.symm)
            have hw1 : IntKind.i64.wrap (y + 1) = d := by rw [IntKind.wrap_i64, HD1.out]; have := HDB.out; omega
            have hpk : p < k := hp2
            have hpk' : (p : Int) < k := by omega
            have hp0 : decide ((p : Int) < 0) = false := decide_eq_false (by omega)
            clear hp1 hp2 hp3 hyy hy h1 h2 h3 h4 hk0
            go_wp2_with fail
            refine KC.out.mono ?_
            rintro e w1 ⟨rfl, rfl⟩
            have HO1 := HO
            have HBe1 := HBe
            have hl1 : w.heap.size ≤ wr.heap.size := HBe1.out.size
            obtain ⟨wA, hwA⟩ : ∃ x, x = wr := ⟨_, rfl⟩
            subst hwA
            by_cases hMd : M < d
            · have q3 : decide (M < d) = true := decide_eq_true hMd
              have MC := Lib.hid hMd
              clear hMd
              go_wp2_with (at_builtin; refine wpList_append_lies _ rfl _ _ 54 rfl w.heap.size 3 i0 (.int .i64 0) 1 8 Try.underlying54 hi0 hz0 hz1 hz2 rfl (by decide) _ _ _ rfl (HO1.out.alloc _) ⟨wA.heap.size, 0, none⟩ 1 1 [.int .i64 d] rfl rfl (cell_one_new _ _ _) (by simp [Value.oneCell']) (by decide) (by unfold maxLen; omega) (by omega) (by simp; omega) _ rfl ?_; intro g2 c2 w2 hown2 hg2 hat2 hlt2)
              go_roundw
              case rel =>
                refine ⟨k + 1, _, c2, d, hlt, by go_num, rfl, rfl, Lib.hid ?_, Lib.hid ?_, Lib.hid ?_⟩
                · have e := take_snocI (l := ds) (k := k) (by rw [HL.out]; exact hlt)
                  rw [HX.out] at e
                  rw [e, maxO_snoc, HM.out, if_pos MC.out]
                · rw [take_snocI (by rw [HL.out]; exact hlt), HX.out, ints_snoc]; exact hown2
                · exact (HBe1.out.alloc HBe1.out.size _).grown hg2 (by have := HBe1.out.size; simp; omega) (fun q e => by have := (World.ownsRow.lt HO1.out q e).1; omega)
              case measure => simp [intOf]; omega
            · have q3 : decide (M < d) = false := decide_eq_false hMd
              have MC := Lib.hid hMd
              clear hMd
              go_wp2_with (at_builtin; refine wpList_append_lies _ rfl _ _ 54 rfl w.heap.size 3 i0 (.int .i64 0) 1 8 Try.underlying54 hi0 hz0 hz1 hz2 rfl (by decide) _ _ _ rfl (HO1.out.alloc _) ⟨wA.heap.size, 0, none⟩ 1 1 [.int .i64 d] rfl rfl (cell_one_new _ _ _) (by simp [Value.oneCell']) (by decide) (by unfold maxLen; omega) (by omega) (by simp; omega) _ rfl ?_; intro g2 c2 w2 hown2 hg2 hat2 hlt2)
              go_roundw
              case rel =>
                refine ⟨k + 1, _, c2, M, hlt, by go_num, rfl, rfl, Lib.hid ?_, Lib.hid ?_, Lib.hid ?_⟩
                · have e := take_snocI (l := ds) (k := k) (by rw [HL.out]; exact hlt)
                  rw [HX.out] at e
                  rw [e, maxO_snoc, HM.out, if_neg (by have := MC.out; omega)]
                · rw [take_snocI (by rw [HL.out]; exact hlt), HX.out, ints_snoc]; exact hown2
                · exact (HBe1.out.alloc HBe1.out.size _).grown hg2 (by have := HBe1.out.size; simp; omega) (fun q e => by have := (World.ownsRow.lt HO1.out q e).1; omega)
              case measure => simp [intOf]; omega
        · obtain rfl : n = k := by omega
          have hfin : Hid (D = M) := Lib.hid (by rw [HMAX.out, ← HM.out, List.take_of_length_le (by rw [HL.out]; exact Nat.le_refl _)])
          go_wp2_with fail
          go_ret
          exact ⟨ret_i64 hfin.out.symm, HBe.out⟩
set_option maxRecDepth 100000 in
set_option maxHeartbeats 1000000 in
theorem rtright_any (cols bins kind classes : Int) (t : List Nd) (A : Option Addr) (cap : Nat) (w : World) (hr : RN w A t) (hl : t.length ≤ 1099511627776) :
    Calls Try.prog 47 #[.slice A t.length cap, .int .i64 cols, .int .i64 bins, .int .i64 kind, .int .i64 classes] w fun e w' => e = .returned (.bool (rightT cols bins kind classes t)) ∧ Below w.heap.size w w' := by
  rw [rightT_deep]
  obtain ⟨n, hn⟩ : ∃ n, t.length = n := ⟨_, rfl⟩
  obtain ⟨R0, hR0⟩ : ∃ R0, decide (mayS cols bins kind classes) = R0 := ⟨_, rfl⟩
  have KM := Lib.hid (fun w => rmayT_any cols bins kind classes w)
  have KO := Lib.hid (fun x hx w => rone_any cols bins kind classes x hx w)
  have KD := Lib.hid (fun w hr hf => rdeep_any t A cap w hr hl hf)
  have HF : Hid (∀ (x : Nd), oneP cols bins kind classes x → -1 ≤ x.f) := Lib.hid (fun x h => oneP_f h)
  have hnil : (decide (t = [])) = decide (n = 0) := by rw [← hn]; exact decide_eq_decide.2 List.length_eq_zero_iff.symm
  rw [hn] at hl KD
  rw [hnil, hR0, hn]
  rw [hR0] at KM
  have HN := Lib.hid hn
  have HR := Lib.hid hr
  clear hn hr hnil hR0
  cases R0 with
  | false =>
    go_enter Try.func47, Try.ntmps47
    go_wp2_with fail
    refine (KM.out _).mono ?_
    rintro e w1 ⟨rfl, rfl⟩
    go_wp2_with fail
    go_ret
    exact ⟨ret_bool (by rw [Bool.false_and]), Below.refl _ _⟩
  | true =>
    by_cases h0 : n = 0
    · subst h0
      go_enter Try.func47, Try.ntmps47
      go_wp2_with fail
      refine (KM.out _).mono ?_
      rintro e w1 ⟨rfl, rfl⟩
      go_wp2_with fail
      go_ret
      exact ⟨ret_bool (by simp), Below.refl _ _⟩
    have n0 : (n == 0) = false := beq_eq_false_iff_ne.2 h0
    have n1 : ((n : Int) == 0) = false := beq_eq_false_iff_ne.2 (by omega)
    obtain ⟨R1, hR1⟩ : ∃ R1, (true && (!decide (n = 0) && ((t.all fun n => decide (oneP cols bins kind classes n)) && (decide (0 ≤ deepO t) && decide (deepO t ≤ 32))))) = R1 := ⟨_, rfl⟩
    rw [hR1]
    have HR1 : Hid (R1 = ((t.all fun n => decide (oneP cols bins kind classes n)) && (decide (0 ≤ deepO t) && decide (deepO t ≤ 32)))) := Lib.hid (by rw [← hR1, decide_eq_false h0]; rfl)
    have HN0 := Lib.hid h0
    clear hR1 h0
    go_enter Try.func47, Try.ntmps47
    go_wp2_with fail
    refine (KM.out _).mono ?_
    rintro e w1 ⟨rfl, rfl⟩
    go_wp2_with fail
    go_loopw [11] (fun iv wr => ∃ (k : Nat), k ≤ n ∧ iv = .int .i64 k ∧ Hid (∀ j x, j < k → t[j]? = some x → oneP cols bins kind classes x) ∧ Hid (Below w.heap.size w wr)) (fun iv _ => n - (intOf iv).toNat)
    case atStart => exact ⟨0, Nat.zero_le _, rfl, Lib.hid (fun j x h => by omega), Lib.hid (Below.refl _ _)⟩
    case round =>
      obtain ⟨k, hk, rfl, HI, HB⟩ := hrel
      by_cases hlt : k < n
      · have hlt' : (k : Int) < n := by omega
        obtain ⟨ad, rfl, x, hx, hxok, hat⟩ := (HR.out.below HB.out).at (i := k) (by rw [HN.out]; exact hlt)
        have HX := Lib.hid hx
        obtain ⟨p0, p1, p2, p3, p4, p5⟩ := hat
        have KC := Lib.hid (KO.out x hxok wr)
        obtain ⟨R2, hR2⟩ : ∃ R2, decide (oneP cols bins kind classes x) = R2 := ⟨_, rfl⟩
        rw [hR2] at KC
        have HR2 := Lib.hid hR2
        obtain ⟨f, b, l, c, s, q⟩ := x
        simp only [ndV] at p0 p1 p2 p3 p4 p5 KC
        clear hx hxok hR2
        go_wp2_with fail
        refine KC.out.mono ?_
        rintro e w1 ⟨rfl, hb⟩
        have HB1 := Lib.hid (HB.out.trans (hb.mono HB.out.size))
        clear hb p0 p1 p2 p3 p4 p5
        cases R2 with
        | false =>
          go_wp2_with fail
          go_ret
          refine ⟨ret_bool ?_, HB1.out⟩
          rw [HR1.out]
          have : (t.all fun n => decide (oneP cols bins kind classes n)) = false := by
            rw [Bool.eq_false_iff]
            intro h
            rw [List.all_eq_true] at h
            have := h _ (List.mem_of_getElem? HX.out)
            rw [HR2.out] at this
            cases this
          rw [this, Bool.false_and]
        | true =>
          go_wp2_with fail
          go_roundw
          case rel =>
            refine ⟨k + 1, hlt, by go_num, Lib.hid (fun j x hj hx => ?_), HB1⟩
            by_cases hjk : j = k
            · subst hjk
              rw [HX.out] at hx
              cases hx
              exact decide_eq_true_iff.1 HR2.out
            · exact HI.out j x (by omega) hx
          case measure => simp [intOf]; omega
      · obtain rfl : k = n := by omega
        have hall : Hid (∀ x ∈ t, oneP cols bins kind classes x) := Lib.hid (fun x hx => by
          obtain ⟨j, hj⟩ := List.getElem?_of_mem hx
          exact HI.out j x (by have := (List.getElem?_eq_some_iff.1 hj).1; have := HN.out; omega) hj)
        have KC := Lib.hid (KD.out wr (HR.out.below HB.out) (fun x hx => HF.out x (hall.out x hx)))
        obtain ⟨D, hD⟩ : ∃ D, deepO t = D := ⟨_, rfl⟩
        rw [hD] at KC
        have hfin : Hid (R1 = (decide (0 ≤ D) && decide (D ≤ 32))) := Lib.hid (by
          rw [HR1.out, hD, List.all_eq_true.2 (fun x hx => decide_eq_true (hall.out x hx)), Bool.true_and])
        obtain ⟨d1, hd1⟩ : ∃ d1, decide (0 ≤ D) = d1 := ⟨_, rfl⟩
        obtain ⟨d2, hd2⟩ : ∃ d2, decide (D ≤ 32) = d2 := ⟨_, rfl⟩
        rw [hd1, hd2] at hfin
        clear hD
        cases d1 <;> cases d2
        all_goals
          go_wp2_with fail
          refine KC.out.mono ?_
          rintro e w1 ⟨rfl, hb⟩
          go_wp2_with fail
          go_ret
          exact ⟨ret_bool hfin.out.symm, HB.out.trans (hb.mono HB.out.size)⟩
end Go.Proofs.Ytbhikceekldenaa.Hb

/- The walk of node.Right. -/
import Derived.Test.YtbhikceekldenaaHbDepth
namespace Go.Proofs.Ytbhikceekldenaa.Hb
set_option linter.unusedVariables false
set_option linter.unusedSimpArgs false
open Go.RowKit

theorem dep_low {L : Nat} : ∀ (r : List Nd) (i : Nat) (out ds : List Int), depGo L r i out = some ds → (∀ x ∈ out, 0 ≤ x ∧ x ≤ out.length) → ∀ x ∈ ds, 0 ≤ x ∧ x ≤ ds.length
  | [], i, out, ds, h, ho => by
    unfold depGo at h
    split at h
    · cases h; exact ho
    · cases h
  | n :: r, i, out, ds, h, ho => by
    unfold depGo at h
    split at h
    · cases h
    · rename_i h1
      split at h
      · exact dep_low r _ _ _ h ho
      · split at h
        · cases h
        · refine dep_low r _ _ _ h (fun x hx => ?_)
          have hy := ho (out.getD i 0) (by rw [List.getD_eq_getElem?_getD, List.getElem?_eq_getElem (by omega)]; exact List.getElem_mem _)
          simp only [List.length_append, List.length_cons, List.length_nil]
          rcases List.mem_append.1 hx with hx | hx
          · have := ho x hx; omega
          · have hx' : x = out.getD i 0 + 1 := by simpa using hx
            subst hx'; omega
theorem depths_low (t : List Nd) : ∀ x ∈ depthsO t, 0 ≤ x ∧ x ≤ (depthsO t).length := by
  unfold depthsO
  split
  · simp
  · cases h : depGo t.length t 0 [0] with
    | none => simp
    | some ds => exact dep_low t 0 [0] ds h (by simp)
theorem depths_len (t : List Nd) : (depthsO t).length ≤ t.length := by
  unfold depthsO
  split
  · simp
  · cases h : depGo t.length t 0 [0] with
    | none => simp
    | some ds => exact Nat.le_of_eq (dep_front _ _ _ _ h).2
theorem take_snocI {l : List Int} {k : Nat} (h : k < l.length) : l.take (k + 1) = l.take k ++ [l.getD k 0] := by
  rw [List.take_succ_eq_append_getElem h, List.getD_eq_getElem?_getD, List.getElem?_eq_getElem h]; rfl
def maxF (l : List Int) : Int := l.foldl max (l.getD 0 0)
theorem maxF_O {l : List Int} (h : l.getD 0 0 = 0) : maxF l = maxO l := by unfold maxF maxO; rw [h]
set_option maxRecDepth 100000 in
set_option maxHeartbeats 1000000 in
theorem smax_any (l : List Int) (A : Option Addr) (cap : Nat) (w : World) (hr : RdI w A l) (h0 : l ≠ []) (hl : l.length ≤ 9223372036854775807) : Calls Try.prog 72 #[.slice A l.length cap] w fun e w' => e = .returned (.int .i64 (maxF l)) ∧ w = w' := by
  obtain ⟨n, hn⟩ : ∃ n, l.length = n := ⟨_, rfl⟩
  have hpos : 0 < l.length := List.length_pos_iff.2 h0
  obtain ⟨ad, rfl, ha⟩ := hr.at hpos
  obtain ⟨z, hz⟩ : ∃ z, l.getD 0 0 = z := ⟨_, rfl⟩
  have y0 := ha 0 hpos
  have e0 : ad.add 0 = ad := by unfold Addr.add; simp
  rw [e0, hz] at y0
  have HA := Lib.hid ha
  have HZ := Lib.hid hz
  have HM : Hid (maxF l = l.foldl max z) := Lib.hid (by unfold maxF; rw [hz])
  obtain ⟨M, hM⟩ : ∃ M, maxF l = M := ⟨_, rfl⟩
  rw [hM] at HM ⊢
  rw [hn] at hl hpos ⊢
  have HN := Lib.hid hn
  have h1 : decide (n < 1) = false := decide_eq_false (by omega)
  have h2 : decide ((n : Int) < 1) = false := decide_eq_false (by omega)
  clear ha hn hz hM h0 hr
  go_enter Try.func72, Try.ntmps72
  go_wp2_with fail
  go_loop [3, 4] (fun m iv => ∃ k : Nat, 1 ≤ k ∧ k ≤ n ∧ iv = .int .i64 k ∧ ∃ x, m = .int .i64 x ∧ Hid ((l.take k).foldl max z = x)) (fun _ iv => n - (intOf iv).toNat)
  case atStart =>
    refine ⟨1, Nat.le_refl _, hpos, rfl, _, rfl, Lib.hid ?_⟩
    have := take_snocI (l := l) (k := 0) (by rw [HN.out]; exact hpos)
    rw [this, HZ.out]; simp
  case round =>
    obtain ⟨k, hk1, hk, rfl, x, rfl, HX⟩ := hrel
    by_cases hlt : k < n
    · have hlt' : (k : Int) < n := by omega
      have y := HA.out k (by rw [HN.out]; exact hlt)
      obtain ⟨v, hv⟩ : ∃ v, l.getD k 0 = v := ⟨_, rfl⟩
      rw [hv] at y
      have HS : Hid ((l.take (k + 1)).foldl max z = if x < v then v else x) := Lib.hid (by rw [take_snocI (by rw [HN.out]; exact hlt), List.foldl_append, HX.out, hv]; show max x v = _; split <;> omega)
      clear hv HX
      go_wp2_with fail
      go_round
      case rel => exact ⟨k + 1, by omega, hlt, by go_num, _, rfl, HS⟩
      case measure => simp [intOf]; omega
    · obtain rfl : k = n := by omega
      go_wp2_with fail
      go_ret
      refine ⟨ret_i64 ?_, rfl⟩
      have := HX.out
      rw [List.take_of_length_le (by rw [HN.out]; exact Nat.le_refl _)] at this
      rw [HM.out, this]
def shpA (cols bins kind classes : Int) : Array Value := #[.int .i64 cols, .int .i64 bins, .int .i64 kind, .int .i64 classes]
set_option maxRecDepth 100000 in
set_option maxHeartbeats 1000000 in
theorem nr1_any (cols bins kind classes : Int) (x : Nd) (hx : x.ok) (B : Nat) (w : World) (hB : Blk w B (shpA cols bins kind classes) 94) : Calls Try.prog 74 #[ndV x, .pointer (some ⟨B, 0, none⟩)] w fun e w' => e = .returned (.bool (!decide (oneP cols bins kind classes x))) ∧ Below w.heap.size w w' := by
  have KR := Lib.hid (fun w => nright_any cols bins kind classes x hx w)
  obtain ⟨R, hR⟩ : ∃ R, decide (oneP cols bins kind classes x) = R := ⟨_, rfl⟩
  rw [hR] at KR ⊢
  obtain ⟨f, b, l, c, s, k⟩ := x
  simp only [ndV] at KR ⊢
  unfold shpA at hB
  have p0 := hB.cell 0
  have p1 := hB.cell 1
  have p2 := hB.cell 2
  have p3 := hB.cell 3
  have hl := hB.lt
  simp only [List.getElem?_toArray, List.getElem?_cons_zero, List.getElem?_cons_succ] at p0 p1 p2 p3
  clear hR hB hx
  cases R with
  | true =>
    go_enter Try.func74, Try.ntmps74
    go_wp2_with fail
    refine (KR.out _).mono ?_
    rintro e w1 ⟨rfl, hb⟩
    have be : Below w.heap.size w w1 := ((Below.refl _ w).alloc (Nat.le_refl _) _).trans (hb.mono (by simp))
    clear hb
    go_wp2_with fail
    go_ret
    exact ⟨rfl, be⟩
  | false =>
    go_enter Try.func74, Try.ntmps74
    go_wp2_with fail
    refine (KR.out _).mono ?_
    rintro e w1 ⟨rfl, hb⟩
    have be : Below w.heap.size w w1 := ((Below.refl _ w).alloc (Nat.le_refl _) _).trans (hb.mono (by simp))
    clear hb
    go_wp2_with fail
    go_ret
    exact ⟨rfl, be⟩
def idxR (p : Nd → Bool) : List Nd → Nat → Int
  | [], _ => -1
  | n :: r, k => if p n then idxR p r (k + 1) else k
theorem idx_sign (p : Nd → Bool) : ∀ (l : List Nd) (k : Nat), decide (0 ≤ idxR p l k) = !l.all p
  | [], _ => rfl
  | n :: r, k => by
    rw [idxR]
    cases h : p n with
    | true => simp only [if_true, List.all_cons, h, Bool.true_and]; exact idx_sign p r (k + 1)
    | false => simp [h]
set_option maxRecDepth 100000 in
set_option maxHeartbeats 1000000 in
theorem nidx_any (cols bins kind classes : Int) (t : List Nd) (A : Option Addr) (cap : Nat) (B : Nat) (w : World) (hr : RN w A t) (hl : t.length ≤ 1099511627776) (hB : Blk w B (shpA cols bins kind classes) 94) :
    Calls Try.prog 91 #[.slice A t.length cap, .func (.func 74) #[] #[.pointer (some ⟨B, 0, none⟩)]] w fun e w' => e = .returned (.int .i64 (idxR (fun n => decide (oneP cols bins kind classes n)) t 0)) ∧ Below w.heap.size w w' := by
  obtain ⟨n, hn⟩ : ∃ n, t.length = n := ⟨_, rfl⟩
  rw [hn] at hl ⊢
  obtain ⟨p, hp⟩ : ∃ p : Nd → Bool, (fun n => decide (oneP cols bins kind classes n)) = p := ⟨_, rfl⟩
  rw [hp]
  have HP := Lib.hid (fun x => congrFun hp x)
  obtain ⟨R, hR⟩ : ∃ R, idxR p t 0 = R := ⟨_, rfl⟩
  rw [hR]
  have HR := Lib.hid hR
  have HN := Lib.hid hn
  have HRN := Lib.hid hr
  have HB := Lib.hid hB
  clear hp hR hn hr hB
  go_enter Try.func91, Try.ntmps91
  go_wp2_with fail
  go_loopw [8] (fun iv wr => ∃ k : Nat, k ≤ n ∧ iv = .int .i64 k ∧ Hid (idxR p (t.drop k) k = R) ∧ Below w.heap.size w wr) (fun iv _ => n - (intOf iv).toNat)
  case atStart => exact ⟨0, Nat.zero_le _, rfl, Lib.hid (by rw [List.drop_zero]; exact HR.out), Below.refl _ _⟩
  case round =>
    obtain ⟨k, hk, rfl, HT, hbe⟩ := hrel
    by_cases hlt : k < n
    · have hlt' : (k : Int) < n := by omega
      obtain ⟨ad, rfl, x, hx, hxok, hat⟩ := (HRN.out.below hbe).at (i := k) (by rw [HN.out]; exact hlt)
      have HDR := Lib.hid (drop_nd hx)
      obtain ⟨p0, p1, p2, p3, p4, p5⟩ := hat
      have KR := Lib.hid (nr1_any cols bins kind classes x hxok B wr (HB.out.below hbe))
      have hpx := HP.out x
      obtain ⟨z, hz⟩ : ∃ z, p x = z := ⟨_, rfl⟩
      rw [hpx, hz] at KR
      have HZ := Lib.hid hz
      obtain ⟨f, b, l, cc, s, q⟩ := x
      simp only [ndV] at KR
      simp only at p0 p1 p2 p3 p4 p5
      clear hx hxok hpx hz
      cases z with
      | true =>
        go_wp2_with fail
        refine KR.out.mono ?_
        rintro e w1 ⟨rfl, hb⟩
        have hb2 := hbe.trans (hb.mono hbe.size)
        clear hb
        go_wp2_with fail
        go_roundw
        case rel => exact ⟨k + 1, hlt, by go_num, Lib.hid (by have := HT.out; rw [HDR.out, idxR, if_pos HZ.out] at this; exact this), hb2⟩
        case measure => simp [intOf]; omega
      | false =>
        go_wp2_with fail
        refine KR.out.mono ?_
        rintro e w1 ⟨rfl, hb⟩
        have hb2 := hbe.trans (hb.mono hbe.size)
        clear hb
        go_wp2_with fail
        go_ret
        refine ⟨ret_i64 ?_, hb2⟩
        have := HT.out
        rw [HDR.out, idxR, if_neg (by rw [HZ.out]; simp)] at this
        exact this
    · obtain rfl : k = n := by omega
      go_wp2_with fail
      go_ret
      refine ⟨ret_i64 ?_, hbe⟩
      have := HT.out
      rw [List.drop_of_length_le (by rw [HN.out]; exact Nat.le_refl _), idxR] at this
      exact this
theorem ncont_any (cols bins kind classes : Int) (t : List Nd) (A : Option Addr) (cap : Nat) (B : Nat) (w : World) (hr : RN w A t) (hl : t.length ≤ 1099511627776) (hB : Blk w B (shpA cols bins kind classes) 94) :
    Calls Try.prog 73 #[.slice A t.length cap, .func (.func 74) #[] #[.pointer (some ⟨B, 0, none⟩)]] w fun e w' => e = .returned (.bool (!t.all fun n => decide (oneP cols bins kind classes n))) ∧ Below w.heap.size w w' := by
  have KI := Lib.hid (nidx_any cols bins kind classes t A cap B w hr hl hB)
  have hs := idx_sign (fun n => decide (oneP cols bins kind classes n)) t 0
  obtain ⟨R, hR⟩ : ∃ R, idxR (fun n => decide (oneP cols bins kind classes n)) t 0 = R := ⟨_, rfl⟩
  obtain ⟨z, hz⟩ : ∃ z, (!t.all fun n => decide (oneP cols bins kind classes n)) = z := ⟨_, rfl⟩
  obtain ⟨n, hn⟩ : ∃ n, t.length = n := ⟨_, rfl⟩
  rw [hR] at KI hs
  rw [hz] at hs ⊢
  rw [hn] at KI ⊢
  clear hR hz hn hr hl hB
  go_enter Try.func73, Try.ntmps73
  go_wp2_with fail
  refine KI.out.mono ?_
  rintro e w1 ⟨rfl, hb⟩
  go_wp2_with fail
  go_ret
  exact ⟨rfl, hb⟩
theorem dep_zero {t : List Nd} (h : depthsO t ≠ []) : (depthsO t).getD 0 0 = 0 := by
  unfold depthsO at h ⊢
  split
  · rfl
  · rename_i ht
    rw [if_neg ht] at h
    cases hd : depGo t.length t 0 [0] with
    | none => rfl
    | some ds => rw [Option.getD_some]; exact pre_getD (dep_front _ _ _ _ hd).1 (by simp)
set_option maxRecDepth 100000 in
set_option maxHeartbeats 1000000 in
theorem tright_any (cols bins kind classes : Int) (t : List Nd) (A : Option Addr) (cap : Nat) (w : World) (hr : RN w A t) (hl : t.length ≤ 1099511627776) :
    Calls Try.prog 43 #[.slice A t.length cap, .agg (shpA cols bins kind classes)] w fun e w' => e = .returned (.bool (rightT cols bins kind classes t)) ∧ Below w.heap.size w w' := by
  have KD := Lib.hid (fun w hr => depths_any t A cap w hr hl)
  have KM := Lib.hid (fun w => nmay_any cols bins kind classes w)
  have KX := Lib.hid (fun A c w hr h0 => smax_any (depthsO t) A c w hr h0 (by have := depths_len t; omega))
  have KC := Lib.hid (fun B w hr hB => ncont_any cols bins kind classes t A cap B w hr hl hB)
  have HR : Hid (rightT cols bins kind classes t = (decide (mayS cols bins kind classes) && (!(depthsO t).isEmpty && (decide (maxO (depthsO t) ≤ 32) && t.all fun n => decide (oneP cols bins kind classes n))))) := Lib.hid rfl
  obtain ⟨R, hR⟩ : ∃ R, rightT cols bins kind classes t = R := ⟨_, rfl⟩
  obtain ⟨al, hal⟩ : ∃ z, (t.all fun n => decide (oneP cols bins kind classes n)) = z := ⟨_, rfl⟩
  obtain ⟨ma, hma⟩ : ∃ z, decide (mayS cols bins kind classes) = z := ⟨_, rfl⟩
  obtain ⟨n, hn⟩ : ∃ n, t.length = n := ⟨_, rfl⟩
  rw [hR, hal, hma] at HR
  rw [hal] at KC
  rw [hma] at KM
  rw [hn] at KD KC hl ⊢
  rw [hR]
  have HLow := Lib.hid (depths_low t)
  have HLen := Lib.hid (depths_len t)
  have HZero := Lib.hid (dep_zero (t := t))
  obtain ⟨ds, hds⟩ : ∃ ds, depthsO t = ds := ⟨_, rfl⟩
  rw [hds] at KD KX HR HLow HLen HZero
  rw [hn] at HLen
  have HRN := Lib.hid hr
  clear hR hal hma hn hds hr
  unfold shpA at KC ⊢
  go_enter Try.func43, Try.ntmps43
  go_wp2_with fail
  refine (KD.out _ (HRN.out.below ((Below.refl _ w).alloc (Nat.le_refl _) _))).mono ?_
  rintro e w1 ⟨v, rfl, ho, hb⟩
  have be : Below w.heap.size w w1 := ((Below.refl _ w).alloc (Nat.le_refl _) _).trans (hb.mono (by simp))
  have kB := (Blk.new w #[.int .i64 cols, .int .i64 bins, .int .i64 kind, .int .i64 classes] 94).below hb
  have p0 := kB.cell 0
  have p1 := kB.cell 1
  have p2 := kB.cell 2
  have p3 := kB.cell 3
  have hlB := kB.lt
  simp only [List.getElem?_toArray, List.getElem?_cons_zero, List.getElem?_cons_succ] at p0 p1 p2 p3
  clear hb
  obtain ⟨va, vc, rfl⟩ := own_slice ho
  have HO := Lib.hid ho
  clear ho
  obtain ⟨m, hm⟩ : ∃ m, ds.length = m := ⟨_, rfl⟩
  rw [hm] at HO ⊢
  have HM := Lib.hid hm
  clear hm
  cases ma with
  | false =>
    go_wp2_with fail
    refine (KM.out _).mono ?_
    rintro e w2 ⟨rfl, hb⟩
    replace be := be.trans (hb.mono be.size)
    clear hb
    go_wp2_with fail
    go_ret
    exact ⟨ret_bool (by rw [HR.out]; rfl), be⟩
  | true =>
    go_wp2_with fail
    refine (KM.out _).mono ?_
    rintro e w2 ⟨rfl, hb⟩
    have hb1 := hb
    replace be := be.trans (hb.mono be.size)
    replace kB := kB.below hb
    clear p0 p1 p2 p3 hlB hb
    have HO2 := Lib.hid (own_below HO.out hb1)
    by_cases hm0 : m = 0
    · subst hm0
      go_wp2_with fail
      go_ret
      refine ⟨ret_bool ?_, be⟩
      rw [HR.out, List.length_eq_zero_iff.1 HM.out]; rfl
    · have e1 : ((m : Int) == 0) = false := beq_eq_false_iff_ne.2 (by omega)
      have e2 : (m == 0) = false := beq_eq_false_iff_ne.2 hm0
      have hds0 : ds ≠ [] := fun e => hm0 (by rw [← HM.out, e]; rfl)
      have KX2 := Lib.hid (KX.out va vc w2 (RdI.own (by have := HO2.out; rw [← HM.out] at this; exact this) (fun x hx => by have := HLow.out x hx; have := HLen.out; unfold inR; omega)) hds0)
      have hme : maxF ds = maxO ds := maxF_O (HZero.out hds0)
      obtain ⟨M, hM⟩ : ∃ M, maxO ds = M := ⟨_, rfl⟩
      have hie : ds.isEmpty = false := by cases ds with | nil => exact absurd rfl hds0 | cons _ _ => rfl
      rw [hme, hM] at KX2
      rw [HM.out] at KX2
      have HR2 : Hid (R = (decide (M ≤ 32) && al)) := Lib.hid (by rw [HR.out, hM, hie]; rfl)
      clear hds0 hme hM hm0 hie KX HR
      by_cases hbig : M ≤ 32
      · have e3 : decide (32 < M) = false := decide_eq_false (by omega)
        have HR3 : Hid (R = al) := Lib.hid (by rw [HR2.out, decide_eq_true hbig]; rfl)
        have hlB := kB.lt
        have KC2 := Lib.hid (KC.out w.heap.size w2 (HRN.out.below be) kB)
        clear hbig HR2
        go_wp2_with fail
        refine KX2.out.mono ?_
        rintro e w3 ⟨rfl, rfl⟩
        go_wp2_with fail
        refine KC2.out.mono ?_
        rintro e w3 ⟨rfl, hb⟩
        replace be := be.trans (hb.mono be.size)
        clear hb
        cases al with
        | true =>
          go_wp2_with fail
          go_ret
          exact ⟨ret_bool (by rw [HR3.out]), be⟩
        | false =>
          go_wp2_with fail
          go_ret
          exact ⟨ret_bool (by rw [HR3.out]), be⟩
      · have e3 : decide (32 < M) = true := decide_eq_true (by omega)
        have HR3 : Hid (R = false) := Lib.hid (by rw [HR2.out, decide_eq_false hbig]; rfl)
        clear hbig HR2
        go_wp2_with fail
        refine KX2.out.mono ?_
        rintro e w3 ⟨rfl, rfl⟩
        go_wp2_with fail
        go_ret
        exact ⟨ret_bool (by rw [HR3.out]), be⟩
end Go.Proofs.Ytbhikceekldenaa.Hb

/- The plain law: what is added to all of it is what is added to a part of it. -/
import Derived.Test.YteckbgpkoanhfaaHbHistJ
namespace Go.Proofs.Yteckbgpkoanhfaa.Hb
set_option linter.unusedVariables false
open Go.RowKit

/-- One histogram is two others together, of m facts. -/
structure PP (a f r : H) (m : Nat) : Prop where
  ra : rightP a
  rf : rightP f
  rr : rightP r
  kf : f.kind = a.kind ∧ f.bins = a.bins ∧ f.classes = a.classes
  kr : r.kind = a.kind ∧ r.bins = a.bins ∧ r.classes = a.classes
  c1 : f.counts.length = a.counts.length ∧ r.counts.length = a.counts.length
  c2 : f.moms.length = a.moms.length ∧ r.moms.length = a.moms.length
  hc : ∀ i, i < a.counts.length → a.counts.getD i 0 = f.counts.getD i 0 + r.counts.getD i 0 ∧ 0 ≤ f.counts.getD i 0 ∧ 0 ≤ r.counts.getD i 0 ∧ a.counts.getD i 0 ≤ 32768 * m
  hm : ∀ i, i < a.moms.length → (mAt a.moms i).c = (mAt f.moms i).c + (mAt r.moms i).c ∧ 0 ≤ (mAt f.moms i).c ∧ 0 ≤ (mAt r.moms i).c ∧ (mAt a.moms i).c ≤ 32768 * m ∧
    (mAt a.moms i).s = (mAt f.moms i).s + (mAt r.moms i).s ∧ (mAt f.moms i).s.natAbs ≤ 34359738368 * m ∧ (mAt r.moms i).s.natAbs ≤ 34359738368 * m ∧
    (mAt a.moms i).q = (mAt f.moms i).q + (mAt r.moms i).q ∧ 0 ≤ (mAt f.moms i).q ∧ 0 ≤ (mAt r.moms i).q ∧ (mAt a.moms i).q ≤ 36028797018963968 * m
theorem PP.more {a f r : H} {m m' : Nat} (p : PP a f r m) (h : m ≤ m') : PP a f r m' :=
  ⟨p.ra, p.rf, p.rr, p.kf, p.kr, p.c1, p.c2, fun i hi => by have := p.hc i hi; omega, fun i hi => by have := p.hm i hi; omega⟩
theorem PP.swap {a f r : H} {m : Nat} (p : PP a f r m) : PP a r f m :=
  ⟨p.ra, p.rr, p.rf, p.kr, p.kf, ⟨p.c1.2, p.c1.1⟩, ⟨p.c2.2, p.c2.1⟩, fun i hi => by have := p.hc i hi; omega, fun i hi => by have := p.hm i hi; omega⟩
theorem PP.new {k b c : Int} {h : H} (e : newO k b c = .ok h) : PP h h h 0 := by
  have hr : rightP h := by
    rcases new_right k b c with ⟨_, hr⟩ | h1
    · rw [e] at hr; exact hr
    · rw [e] at h1; cases h1
  have hz : (∀ i, h.counts.getD i 0 = 0) ∧ ∀ i, mAt h.moms i = m0 := by
    by_cases hm : mayP k b c
    · by_cases hk : k = 0
      · rw [new_0 hm hk] at e
        cases e
        refine ⟨fun i => ?_, fun i => by simp [mAt]⟩
        simp only [List.getD_eq_getElem?_getD, List.getElem?_replicate]
        split <;> rfl
      · rw [new_1 hm hk] at e
        cases e
        refine ⟨fun i => by simp, fun i => ?_⟩
        simp only [mAt, List.getD_eq_getElem?_getD, List.getElem?_replicate]
        split <;> rfl
    · rw [new_not hm] at e; cases e
  refine ⟨hr, hr, hr, ⟨rfl, rfl, rfl⟩, ⟨rfl, rfl, rfl⟩, ⟨rfl, rfl⟩, ⟨rfl, rfl⟩, fun i _ => by rw [hz.1 i]; omega, fun i _ => by rw [hz.2 i]; simp [m0]⟩
theorem natAbs_mul_le {a b : Int} {A B : Nat} (ha : a.natAbs ≤ A) (hb : b.natAbs ≤ B) : (a * b).natAbs ≤ A * B := by
  rw [Int.natAbs_mul]; exact Nat.mul_le_mul ha hb
theorem set_getD (l : List Int) (i j : Nat) (x : Int) (hj : j < l.length) : (l.set i x).getD j 0 = if i = j then x else l.getD j 0 := by
  simp only [List.getD_eq_getElem?_getD, List.getElem?_set]
  by_cases h : i = j
  · subst h; simp [hj]
  · simp [h]
theorem set_mAt (l : List Mom) (i j : Nat) (x : Mom) (hj : j < l.length) : mAt (l.set i x) j = if i = j then x else mAt l j := by
  simp only [mAt, List.getD_eq_getElem?_getD, List.getElem?_set]
  by_cases h : i = j
  · subst h; simp [hj]
  · simp [h]
/-- What is added to all of it and to the first part. -/
theorem PP.add {a f r : H} {m : Nat} (p : PP a f r m) (hm : m < 100) (bin t k : Int) (ht : t.natAbs ≤ 1048576) (hk : k ≤ 32768) :
    (∃ e, e ≠ 6 ∧ addO a bin t k = .error e ∧ addO f bin t k = .error e) ∨ (∃ a' f', addO a bin t k = .ok a' ∧ addO f bin t k = .ok f' ∧ PP a' f' r (m + 1)) := by
  have hbf : addBad f bin t ↔ addBad a bin t := by unfold addBad; rw [p.kf.1, p.kf.2.1, p.kf.2.2]
  by_cases hb : addBad a bin t
  · exact .inl ⟨5, by decide, add_5 p.ra hb, add_5 p.rf (hbf.2 hb)⟩
  · have hb' : ¬ addBad f bin t := fun h => hb (hbf.1 h)
    by_cases hn : k < 0
    · exact .inl ⟨1, by decide, add_1 p.ra hb hn, add_1 p.rf hb' hn⟩
    · right
      have hx1 : ¬ bin < 0 := fun e => hb (.inl e)
      have hx2 : ¬ bin ≥ a.bins := fun e => hb (.inr (.inl e))
      by_cases h0 : a.kind = 0
      · have h0' : f.kind = 0 := by rw [p.kf.1]; exact h0
        obtain ⟨y1, y2, z1, z2⟩ := may_le p.ra.1
        have hlen : (a.counts.length : Int) = a.bins * a.classes := by rcases p.ra.2 with ⟨_, e, _⟩ | ⟨e, _⟩ <;> first | exact e | exact absurd h0 e
        have hx3 : ¬ t < 0 := fun e => hb (.inr (.inr ⟨h0, .inl e⟩))
        have hx4 : ¬ t ≥ a.classes := fun e => hb (.inr (.inr ⟨h0, .inr e⟩))
        have hP0 := Int.mul_nonneg (show 0 ≤ bin by omega) z1
        have hPB : bin * a.classes + a.classes ≤ a.bins * a.classes := by
          have := Int.mul_le_mul_of_nonneg_right (show bin + 1 ≤ a.bins by omega) z1
          rw [Int.add_mul] at this
          omega
        obtain ⟨q, hq⟩ : ∃ q : Nat, bin * a.classes + t = q := ⟨(bin * a.classes + t).toNat, by omega⟩
        have hlt : q < a.counts.length := by omega
        have h3 := p.hc q hlt
        have ha := add_c p.ra hb hn h0
        have hf := add_c p.rf hb' hn h0'
        have hq' : bin * f.classes + t = q := by rw [p.kf.2.2]; exact hq
        rw [hq, Int.toNat_natCast] at ha
        rw [hq', Int.toNat_natCast] at hf
        rw [lim_in (show inR (a.counts.getD q 0 + k) by unfold inR; omega)] at ha
        rw [lim_in (show inR (f.counts.getD q 0 + k) by unfold inR; omega)] at hf
        refine ⟨_, _, ha, hf, ?_⟩
        refine ⟨?_, ?_, p.rr, p.kf, p.kr, by simp only [List.length_set]; exact p.c1, p.c2, fun i hi => ?_, fun i hi => by simp only at hi ⊢; have := p.hm i hi; omega⟩
        · have := p.ra; unfold rightP at this ⊢; simpa only [List.length_set] using this
        · have := p.rf; unfold rightP at this ⊢; simpa only [List.length_set] using this
        · simp only [List.length_set] at hi
          have h4 := p.hc i hi
          simp only [set_getD _ _ _ _ hi, set_getD _ _ _ _ (show i < f.counts.length by rw [p.c1.1]; exact hi)]
          by_cases e : q = i
          · subst e; rw [if_pos rfl, if_pos rfl]; omega
          · rw [if_neg e, if_neg e]; omega
      · have h0' : ¬ f.kind = 0 := by rw [p.kf.1]; exact h0
        have hlen : (a.moms.length : Int) = a.bins := by rcases p.ra.2 with ⟨e, _⟩ | ⟨_, _, e⟩ <;> first | exact e | exact absurd e h0
        obtain ⟨q, rfl⟩ : ∃ q : Nat, bin = q := ⟨bin.toNat, by omega⟩
        have hlt : q < a.moms.length := by omega
        have h3 := p.hm q hlt
        have hkn : k.natAbs ≤ 32768 := by omega
        have b1 := natAbs_mul_le ht hkn
        have b2 := natAbs_mul_le ht b1
        have b3 : 0 ≤ t * (t * k) := by
          rw [← Int.mul_assoc]
          exact Int.mul_nonneg (by rcases Int.le_total 0 t with h | h; exact Int.mul_nonneg h h; exact Int.mul_nonneg_of_nonpos_of_nonpos h h) (by omega)
        have hmo := momentO_3 (t := t) (k := k) (lim_in (show inR (t * k) by unfold inR; omega)) (lim_in (show inR (t * (t * k)) by unfold inR; omega))
        obtain ⟨s, hs⟩ : ∃ s, t * k = s := ⟨_, rfl⟩
        obtain ⟨z, hz⟩ : ∃ z, t * (t * k) = z := ⟨_, rfl⟩
        rw [hz, hs] at hmo
        rw [hs] at b1
        rw [hz] at b2 b3
        have ha := add_m p.ra hb hn h0
        have hf := add_m p.rf hb' hn h0'
        rw [hmo, Int.toNat_natCast] at ha hf
        simp only at ha hf
        rw [show a.moms.getD q m0 = mAt a.moms q from rfl] at ha
        rw [show f.moms.getD q m0 = mAt f.moms q from rfl] at hf
        have ea : momO opP (mAt a.moms q) ⟨k, s, z⟩ = .ok ⟨(mAt a.moms q).c + k, (mAt a.moms q).s + s, (mAt a.moms q).q + z⟩ := by
          refine momO_ok ?_ ?_ ?_
          · show opP (mAt a.moms q).c k false = _
            unfold opP; rw [lim_in (by unfold inR; omega)]
          · show opP (mAt a.moms q).s s true = _
            unfold opP; rw [lim_in (by unfold inR; omega)]
          · show opP (mAt a.moms q).q z false = _
            unfold opP; rw [lim_in (by unfold inR; omega)]
        have ef : momO opP (mAt f.moms q) ⟨k, s, z⟩ = .ok ⟨(mAt f.moms q).c + k, (mAt f.moms q).s + s, (mAt f.moms q).q + z⟩ := by
          refine momO_ok ?_ ?_ ?_
          · show opP (mAt f.moms q).c k false = _
            unfold opP; rw [lim_in (by unfold inR; omega)]
          · show opP (mAt f.moms q).s s true = _
            unfold opP; rw [lim_in (by unfold inR; omega)]
          · show opP (mAt f.moms q).q z false = _
            unfold opP; rw [lim_in (by unfold inR; omega)]
        rw [ea] at ha
        rw [ef] at hf
        refine ⟨_, _, ha, hf, ?_⟩
        refine ⟨?_, ?_, p.rr, p.kf, p.kr, p.c1, by simp only [List.length_set]; exact p.c2, fun i hi => by simp only at hi ⊢; have := p.hc i hi; omega, fun i hi => ?_⟩
        · have := p.ra; unfold rightP at this ⊢; simpa only [List.length_set] using this
        · have := p.rf; unfold rightP at this ⊢; simpa only [List.length_set] using this
        · simp only [List.length_set] at hi
          have h4 := p.hm i hi
          simp only [set_mAt _ _ _ _ hi, set_mAt _ _ _ _ (show i < f.moms.length by rw [p.c2.1]; exact hi)]
          by_cases e : q = i
          · subst e
            rw [if_pos rfl, if_pos rfl]
            simp only
            omega
          · rw [if_neg e, if_neg e]
            omega
theorem PP.merge {a f r : H} {m : Nat} (p : PP a f r m) (hm : m ≤ 100) : bothO opP f r = .ok a := by
  have hl : likeP f r := ⟨p.rf, p.rr, by rw [p.kf.1, p.kr.1], by rw [p.kf.2.1, p.kr.2.1], by rw [p.kf.2.2, p.kr.2.2]⟩
  have h1 : rowsO (fun x y => opP x y false) f.counts r.counts = .ok a.counts := by
    refine rows_ok 0 _ _ _ (by rw [p.c1.1, p.c1.2]; exact Nat.le_refl _) p.c1.1.symm (fun i hi => ?_)
    have h := p.hc i (by rw [← p.c1.1]; exact hi)
    simp only [opP]
    rw [← h.1, lim_in (by unfold inR; omega)]
  have h2 : rowsO (momO opP) f.moms r.moms = .ok a.moms := by
    refine rows_ok m0 _ _ _ (by rw [p.c2.1, p.c2.2]; exact Nat.le_refl _) p.c2.1.symm (fun i hi => ?_)
    have h := p.hm i (by rw [← p.c2.1]; exact hi)
    show momO opP (mAt f.moms i) (mAt r.moms i) = .ok (mAt a.moms i)
    have := momO_ok (op := opP) (x := mAt f.moms i) (y := mAt r.moms i) (c := (mAt a.moms i).c) (s := (mAt a.moms i).s) (q := (mAt a.moms i).q)
      (by unfold opP; rw [← h.1, lim_in (by unfold inR; omega)]) (by unfold opP; rw [← h.2.2.2.2.1, lim_in (by unfold inR; omega)]) (by unfold opP; rw [← h.2.2.2.2.2.2.2.1, lim_in (by unfold inR; omega)])
    exact this
  rw [both_ok hl h1 h2, p.kf.1, p.kf.2.1, p.kf.2.2]
theorem opM_of {x y : Int} (sg : Bool) (h1 : inR (x - y)) (h2 : 0 ≤ x - y ∨ sg = true) : opM x y sg = .ok (x - y) := by
  unfold opM
  rw [lim_in h1]
  exact if_neg (fun h => by rcases h2 with e | e; omega; rw [e] at h; cases h.2)
theorem PP.less {a f r : H} {m : Nat} (p : PP a f r m) (hm : m ≤ 100) : bothO opM a f = .ok r := by
  have hl : likeP a f := ⟨p.ra, p.rf, p.kf.1.symm, p.kf.2.1.symm, p.kf.2.2.symm⟩
  have h1 : rowsO (fun x y => opM x y false) a.counts f.counts = .ok r.counts := by
    refine rows_ok 0 _ _ _ (by rw [p.c1.1]; exact Nat.le_refl _) p.c1.2 (fun i hi => ?_)
    have h := p.hc i hi
    show opM (a.counts.getD i 0) (f.counts.getD i 0) false = .ok (r.counts.getD i 0)
    rw [show r.counts.getD i 0 = a.counts.getD i 0 - f.counts.getD i 0 by omega]
    exact opM_of false (by unfold inR; omega) (by omega)
  have h2 : rowsO (momO opM) a.moms f.moms = .ok r.moms := by
    refine rows_ok m0 _ _ _ (by rw [p.c2.1]; exact Nat.le_refl _) p.c2.2 (fun i hi => ?_)
    have h := p.hm i hi
    show momO opM (mAt a.moms i) (mAt f.moms i) = .ok (mAt r.moms i)
    have := momO_ok (op := opM) (x := mAt a.moms i) (y := mAt f.moms i) (c := (mAt a.moms i).c - (mAt f.moms i).c) (s := (mAt a.moms i).s - (mAt f.moms i).s) (q := (mAt a.moms i).q - (mAt f.moms i).q)
      (opM_of false (by unfold inR; omega) (by omega)) (opM_of true (by unfold inR; omega) (.inr rfl)) (opM_of false (by unfold inR; omega) (by omega))
    rw [this, show (mAt a.moms i).c - (mAt f.moms i).c = (mAt r.moms i).c by omega, show (mAt a.moms i).s - (mAt f.moms i).s = (mAt r.moms i).s by omega, show (mAt a.moms i).q - (mAt f.moms i).q = (mAt r.moms i).q by omega]
  rw [both_ok hl h1 h2, ← p.kr.1, ← p.kr.2.1, ← p.kr.2.2]
end Go.Proofs.Yteckbgpkoanhfaa.Hb

/- What two histograms made one come to; the law HistTurns. -/
import Derived.Test.YteckbgpkoanhfaaHbSame2
namespace Go.Proofs.Yteckbgpkoanhfaa.Hb
open Go.RowKit

theorem rows_len {α : Type} {op : α → α → Except Int α} : ∀ (a b l : List α), rowsO op a b = .ok l → l.length = a.length
  | [], _, l, h => by cases h; rfl
  | _ :: _, [], l, h => by cases h
  | x :: xs, y :: ys, l, h => by
    rw [rowsO] at h
    cases h2 : op x y with
    | error e1 => rw [h2] at h; cases h
    | ok z =>
      rw [h2] at h; simp only at h
      cases h3 : rowsO op xs ys with
      | error e1 => rw [h3] at h; cases h
      | ok zs => rw [h3] at h; cases h; simpa using rows_len xs ys zs h3
theorem rows_all {α : Type} {op : α → α → Except Int α} {P : α → Prop} (hop : ∀ x y z, op x y = .ok z → P z) : ∀ (a b l : List α), rowsO op a b = .ok l → ∀ x ∈ l, P x
  | [], _, l, h => by cases h; simp
  | _ :: _, [], l, h => by cases h
  | x :: xs, y :: ys, l, h => by
    rw [rowsO] at h
    cases h2 : op x y with
    | error e1 => rw [h2] at h; cases h
    | ok z =>
      rw [h2] at h; simp only at h
      cases h3 : rowsO op xs ys with
      | error e1 => rw [h3] at h; cases h
      | ok zs =>
        rw [h3] at h; cases h
        intro u hu
        rcases List.mem_cons.1 hu with rfl | hu
        · exact hop _ _ _ h2
        · exact rows_all hop xs ys zs h3 u hu
theorem rows_comm {α : Type} {op : α → α → Except Int α} (hop : ∀ x y, op x y = op y x) : ∀ (a b : List α), a.length = b.length → rowsO op a b = rowsO op b a
  | [], [], _ => rfl
  | [], _ :: _, h => by simp at h
  | _ :: _, [], h => by simp at h
  | x :: xs, y :: ys, h => by rw [rowsO, rowsO, hop x y, rows_comm hop xs ys (by simpa using h)]
theorem rows_assoc {α : Type} {op : α → α → Except Int α} (hop : ∀ {x y z u v s t : α}, op x y = .ok u → op u z = .ok v → op y z = .ok s → op x s = .ok t → v = t) :
    ∀ (a b c x l z r : List α), rowsO op a b = .ok x → rowsO op x c = .ok l → rowsO op b c = .ok z → rowsO op a z = .ok r → l = r
  | [], _, _, x, l, _, r, h1, h2, _, h4 => by cases h1; cases h2; cases h4; rfl
  | _ :: _, [], _, _, _, _, _, h1, _, _, _ => by cases h1
  | a :: as0, b :: bs, c, x, l, z, r, h1, h2, h3, h4 => by
    rw [rowsO] at h1
    cases e1 : op a b with
    | error e => rw [e1] at h1; cases h1
    | ok u =>
      rw [e1] at h1; simp only at h1
      cases e2 : rowsO op as0 bs with
      | error e => rw [e2] at h1; cases h1
      | ok us =>
        rw [e2] at h1; cases h1
        cases c with
        | nil => cases h2
        | cons c cs =>
          rw [rowsO] at h2 h3
          cases f1 : op u c with
          | error e => rw [f1] at h2; cases h2
          | ok v =>
            rw [f1] at h2; simp only at h2
            cases f2 : rowsO op us cs with
            | error e => rw [f2] at h2; cases h2
            | ok vs =>
              rw [f2] at h2; cases h2
              cases g1 : op b c with
              | error e => rw [g1] at h3; cases h3
              | ok s =>
                rw [g1] at h3; simp only at h3
                cases g2 : rowsO op bs cs with
                | error e => rw [g2] at h3; cases h3
                | ok ss =>
                  rw [g2] at h3; cases h3
                  rw [rowsO] at h4
                  cases k1 : op a s with
                  | error e => rw [k1] at h4; cases h4
                  | ok t =>
                    rw [k1] at h4; simp only at h4
                    cases k2 : rowsO op as0 ss with
                    | error e => rw [k2] at h4; cases h4
                    | ok ts0 =>
                      rw [k2] at h4; cases h4
                      rw [hop e1 f1 g1 k1, rows_assoc hop as0 bs cs us vs ss ts0 e2 f2 g2 k2]
theorem opP_comm (a b : Int) (s : Bool) : opP a b s = opP b a s := by unfold opP; rw [Int.add_comm]
theorem opP_val {a b x : Int} {s : Bool} (h : opP a b s = .ok x) : x = a + b := by
  unfold opP at h
  cases hl : lim (a + b) with
  | none => rw [hl] at h; cases h
  | some y => rw [hl] at h; cases h; exact (lim_some hl).1
theorem opP_assoc {s : Bool} {x y z u v p t : Int} (h1 : opP x y s = .ok u) (h2 : opP u z s = .ok v) (h3 : opP y z s = .ok p) (h4 : opP x p s = .ok t) : v = t := by
  rw [opP_val h2, opP_val h1, opP_val h4, opP_val h3, Int.add_assoc]
theorem momO_comm (x y : Mom) : momO opP x y = momO opP y x := by unfold momO; rw [opP_comm x.c, opP_comm x.s, opP_comm x.q]
theorem momO_val {x y m : Mom} (h : momO opP x y = .ok m) : m = ⟨x.c + y.c, x.s + y.s, x.q + y.q⟩ := by
  unfold momO at h
  cases h1 : opP x.c y.c false with
  | error e1 => rw [h1] at h; cases h
  | ok c =>
    rw [h1] at h; simp only at h
    cases h2 : opP x.s y.s true with
    | error e1 => rw [h2] at h; cases h
    | ok s =>
      rw [h2] at h; simp only at h
      cases h3 : opP x.q y.q false with
      | error e1 => rw [h3] at h; cases h
      | ok q => rw [h3] at h; cases h; rw [opP_val h1, opP_val h2, opP_val h3]
theorem momO_assoc {x y z u v p t : Mom} (h1 : momO opP x y = .ok u) (h2 : momO opP u z = .ok v) (h3 : momO opP y z = .ok p) (h4 : momO opP x p = .ok t) : v = t := by
  rw [momO_val h2, momO_val h1, momO_val h4, momO_val h3]
  simp only [Int.add_assoc]
theorem like_symm {a b : H} (h : likeP a b) : likeP b a := ⟨h.2.1, h.1, h.2.2.1.symm, h.2.2.2.1.symm, h.2.2.2.2.symm⟩
theorem like_len {a b : H} (h : likeP a b) : a.counts.length = b.counts.length ∧ a.moms.length = b.moms.length := by
  obtain ⟨ra, rb, e1, e2, e3⟩ := h
  rcases ra.2 with ⟨k1, l1, m1⟩ | ⟨k1, l1, m1⟩ <;> rcases rb.2 with ⟨k2, l2, m2⟩ | ⟨k2, l2, m2⟩
  · rw [e2, e3] at l1; omega
  · omega
  · omega
  · omega
theorem both_parts {op : Int → Int → Bool → Except Int Int} {a b x : H} (h : bothO op a b = .ok x) : likeP a b ∧ rowsO (fun x y => op x y false) a.counts b.counts = .ok x.counts ∧ rowsO (momO op) a.moms b.moms = .ok x.moms ∧ x.kind = a.kind ∧ x.bins = a.bins ∧ x.classes = a.classes := by
  unfold bothO at h
  split at h
  · next hl =>
    cases h1 : rowsO (fun x y => op x y false) a.counts b.counts with
    | error e => rw [h1] at h; cases h
    | ok c =>
      rw [h1] at h; simp only at h
      cases h2 : rowsO (momO op) a.moms b.moms with
      | error e => rw [h2] at h; cases h
      | ok m => rw [h2] at h; cases h; exact ⟨hl, rfl, rfl, rfl, rfl, rfl⟩
  · cases h
theorem both_comm (a b : H) : bothO opP a b = bothO opP b a := by
  by_cases h : likeP a b
  · have hl := like_len h
    unfold bothO
    rw [if_pos h, if_pos (like_symm h), rows_comm (fun x y => opP_comm x y false) _ _ hl.1, rows_comm momO_comm _ _ hl.2, h.2.2.1, h.2.2.2.1, h.2.2.2.2]
  · rw [both_err h, both_err (fun e => h (like_symm e))]
theorem both_assoc {a b c x l z r : H} (h1 : bothO opP a b = .ok x) (h2 : bothO opP x c = .ok l) (h3 : bothO opP b c = .ok z) (h4 : bothO opP a z = .ok r) : l = r := by
  obtain ⟨_, c1, m1, k1, b1, s1⟩ := both_parts h1
  obtain ⟨_, c2, m2, k2, b2, s2⟩ := both_parts h2
  obtain ⟨_, c3, m3, k3, b3, s3⟩ := both_parts h3
  obtain ⟨_, c4, m4, k4, b4, s4⟩ := both_parts h4
  have e1 := rows_assoc (fun h1 h2 h3 h4 => opP_assoc h1 h2 h3 h4) _ _ _ _ _ _ _ c1 c2 c3 c4
  have e2 := rows_assoc (fun h1 h2 h3 h4 => momO_assoc h1 h2 h3 h4) _ _ _ _ _ _ _ m1 m2 m3 m4
  obtain ⟨k, bi, cl, cs, ms⟩ := l
  obtain ⟨k', bi', cl', cs', ms'⟩ := r
  simp only at *
  rw [k2, b2, s2, k4, b4, s4, k1, b1, s1, e1, e2]
theorem okH_both {f : Nat} {op : Int → Int → Bool → Except Int Int} (hop : IsOp f op) (a b : H) : okH (valO h0 (bothO op a b)) := by
  cases h : bothO op a b with
  | error e => exact ⟨by simp [valO, h0], by simp [valO, h0]⟩
  | ok x =>
    obtain ⟨_, c1, m1, _⟩ := both_parts h
    exact ⟨rows_all (fun x y z e => hop.ok e) _ _ _ c1, rows_all (fun x y z e => momO_in hop e) _ _ _ m1⟩
theorem len_both {op : Int → Int → Bool → Except Int Int} (a b : H) : (valO h0 (bothO op a b)).counts.length ≤ a.counts.length ∧ (valO h0 (bothO op a b)).moms.length ≤ a.moms.length := by
  cases h : bothO op a b with
  | error e => simp [valO, h0]
  | ok x =>
    obtain ⟨_, c1, m1, _⟩ := both_parts h
    have e1 := rows_len _ _ _ c1
    have e2 := rows_len _ _ _ m1
    simp only [valO]; omega
theorem both_no0 {f : Nat} {op : Int → Int → Bool → Except Int Int} (hop : IsOp f op) {a b : H} {e : Int} (h : bothO op a b = .error e) : (e != 0) = true := by
  by_cases hl : likeP a b
  · have hn := like_len hl
    unfold bothO at h
    rw [if_pos hl] at h
    cases h1 : rowsO (fun x y => op x y false) a.counts b.counts with
    | error e1 =>
      rw [h1] at h; cases h
      exact rows_errP (P := fun e => (e != 0) = true) (fun x y e h => by rcases hop.err h with rfl | rfl <;> rfl) _ _ _ (by omega) h1
    | ok c =>
      rw [h1] at h; simp only at h
      cases h2 : rowsO (momO op) a.moms b.moms with
      | error e1 =>
        rw [h2] at h; cases h
        exact rows_errP (P := fun e => (e != 0) = true) (fun x y e h => momO_err hop h) _ _ _ (by omega) h2
      | ok m => rw [h2] at h; cases h
  · rw [both_err hl] at h; cases h; rfl
theorem RdH.lens {w : World} {h : H} {v : Value} (r : RdH w h v) : h.counts.length ≤ 9223372036854775807 ∧ h.moms.length ≤ 9223372036854775807 := by
  obtain ⟨A1, A2, c1, c2, e, r1, r2, l⟩ := r
  exact l
/-- What comes back: read again. -/
def ResR (r : Except Int H) (w : World) (e : Ending) (w' : World) : Prop := ∃ v, e = .returned (.tuple #[v, .int .i64 (errO r)]) ∧ RdH w' (valO h0 r) v ∧ Below w.heap.size w w'
theorem merge_rd {a b : H} {va vb : Value} {w : World} (ra : RdH w a va) (rb : RdH w b vb) : Calls Try.prog 24 #[va, vb] w (ResR (bothO opP a b) w) :=
  (merge_any ra rb).mono fun _ _ ⟨v, h1, h2, h3⟩ => ⟨v, h1, h2.rd (okH_both plus_is a b) (Nat.le_trans (len_both a b).1 ra.lens.1) (Nat.le_trans (len_both a b).2 ra.lens.2), h3⟩
theorem less_rd {a b : H} {va vb : Value} {w : World} (ra : RdH w a va) (rb : RdH w b vb) : Calls Try.prog 30 #[va, vb] w (ResR (bothO opM a b) w) :=
  (less_any ra rb).mono fun _ _ ⟨v, h1, h2, h3⟩ => ⟨v, h1, h2.rd (okH_both minus_is a b) (Nat.le_trans (len_both a b).1 ra.lens.1) (Nat.le_trans (len_both a b).2 ra.lens.2), h3⟩

def greatB (h : H) : Bool := decide (1000 < h.counts.length) || decide (300 < h.moms.length)
set_option maxRecDepth 100000 in
theorem great_any {a : H} {va : Value} {w : World} (ra : RdH w a va) : Calls Try.prog 23 #[va] w fun e w' => e = .returned (.bool (greatB a)) ∧ Below w.heap.size w w' := by
  obtain ⟨A1, A2, c1, c2, rfl, r1, r2, l1, l2⟩ := ra
  unfold hV greatB
  obtain ⟨n, hn⟩ : ∃ n, a.counts.length = n := ⟨_, rfl⟩
  obtain ⟨m, hm⟩ : ∃ m, a.moms.length = m := ⟨_, rfl⟩
  rw [hn, hm] at *
  clear hn hm r1 r2
  by_cases h1 : 1000 < n
  · rw [decide_eq_true h1]
    have e1 : decide (1000 < (n : Int)) = true := decide_eq_true (by omega)
    go_enter Try.func23, Try.ntmps23
    go_wp2
    go_ret
    exact ⟨rfl, (Below.refl _ _).alloc (Nat.le_refl _) _⟩
  · rw [decide_eq_false h1]
    have e1 : decide (1000 < (n : Int)) = false := decide_eq_false (by omega)
    by_cases h2 : 300 < m
    · rw [decide_eq_true h2]
      have e2 : decide (300 < (m : Int)) = true := decide_eq_true (by omega)
      go_enter Try.func23, Try.ntmps23
      go_wp2
      go_ret
      exact ⟨rfl, (Below.refl _ _).alloc (Nat.le_refl _) _⟩
    · rw [decide_eq_false h2]
      have e2 : decide (300 < (m : Int)) = false := decide_eq_false (by omega)
      go_enter Try.func23, Try.ntmps23
      go_wp2
      go_ret
      exact ⟨rfl, (Below.refl _ _).alloc (Nat.le_refl _) _⟩
end Go.Proofs.Yteckbgpkoanhfaa.Hb

/- Histograms merged of parts: plain functions. -/
import Derived.Test.YteckbgpkoanhfaaHbKeep
import Derived.Test.YteckbgpkoanhfaaHbShHist
namespace Go.Proofs.Yteckbgpkoanhfaa.Hb
set_option linter.unusedVariables false
open Go.RowKit

def cutI (is : List Int) (x : Int × Int) : List Int := (is.drop x.1.toNat).take (x.2 - x.1).toNat
def collO {α : Type} (f : α → Except Int H) : List α → Except Int (List H)
  | [] => .ok []
  | x :: xs => match f x with
    | .error e => .error e
    | .ok h => match collO f xs with
      | .error e => .error e
      | .ok hs => .ok (h :: hs)
def mergeO : H → List H → Except Int H
  | a, [] => .ok a
  | a, b :: bs => match bothO opP a b with
    | .error e => .error e
    | .ok m => mergeO m bs
def joinO : Except Int (List H) → Except Int H
  | .error e => .error e
  | .ok [] => .error 0
  | .ok (a :: bs) => mergeO a bs
def partsO (s : Smp) (col : Int) (is : List Int) (p : Int) : Except Int H :=
  if 1 ≤ p ∧ p ≤ 64 then joinO (collO (fun x => histO s col (cutI is x)) (upto is.length p p.toNat)) else .error 1
theorem coll_ok {α : Type} {f : α → Except Int H} : ∀ {xs : List α} {hs : List H}, xs.map f = hs.map .ok → collO f xs = .ok hs
  | [], [], _ => rfl
  | [], _ :: _, h => by cases h
  | _ :: _, [], h => by cases h
  | x :: xs, y :: hs, h => by
    simp only [List.map_cons, List.cons.injEq] at h
    rw [collO, h.1]
    simp only [coll_ok h.2]
theorem coll_err {α : Type} {f : α → Except Int H} {x : α} {e : Int} (hx : f x = .error e) : ∀ {pre : List α} {hs : List H} {xs : List α}, pre.map f = hs.map .ok → (pre ++ [x]) <+: xs → collO f xs = .error e
  | [], [], xs, _, hp => by
    obtain ⟨r, rfl⟩ := hp
    show collO f (x :: r) = _
    rw [collO, hx]
  | [], _ :: _, _, h, _ => by cases h
  | _ :: _, [], _, h, _ => by cases h
  | y :: pre, z :: hs, xs, h, hp => by
    obtain ⟨r, rfl⟩ := hp
    simp only [List.map_cons, List.cons.injEq] at h
    show collO f (y :: (pre ++ [x] ++ r)) = _
    rw [collO, h.1]
    simp only [coll_err hx h.2 ⟨r, rfl⟩]
theorem hist_ne {s : Smp} {col : Int} {is : List Int} {e : Int} (h : histO s col is = .error e) : (e != 0) = true := by
  by_cases hy : rightS s = true ∧ 0 ≤ col ∧ col < s.cols
  · obtain ⟨h0, hn⟩ := new_yes (chk_may (rightS_is hy.1).1).1
    rw [hist_go hy hn] at h
    exact fill_ne h
  · rw [hist_8 hy] at h; cases h; rfl
theorem opP_err {x y e : Int} {b : Bool} (h : opP x y b = .error e) : e = 6 := by
  unfold opP at h
  cases hl : lim (x + y) with
  | none => rw [hl] at h; cases h; rfl
  | some z => rw [hl] at h; cases h
theorem rows_ne {α : Type} {op : α → α → Except Int α} (hop : ∀ x y e, op x y = .error e → e = 6) : ∀ {a b : List α} {e : Int}, a.length = b.length → rowsO op a b = .error e → e = 6
  | [], _, e, _, h => by cases h
  | _ :: _, [], e, hl, _ => by simp at hl
  | x :: xs, y :: ys, e, hl, h => by
    rw [rowsO] at h
    cases h1 : op x y with
    | error e1 => rw [h1] at h; cases h; exact hop _ _ _ h1
    | ok z =>
      rw [h1] at h; simp only at h
      cases h2 : rowsO op xs ys with
      | error e2 => rw [h2] at h; cases h; exact rows_ne hop (by simpa using hl) h2
      | ok zs => rw [h2] at h; cases h
theorem momP_err {x y : Mom} {e : Int} (h : momO opP x y = .error e) : e = 6 := by
  unfold momO at h
  cases h1 : opP x.c y.c false with
  | error e1 => rw [h1] at h; cases h; exact opP_err h1
  | ok c =>
    rw [h1] at h; simp only at h
    cases h2 : opP x.s y.s true with
    | error e1 => rw [h2] at h; cases h; exact opP_err h2
    | ok c2 =>
      rw [h2] at h; simp only at h
      cases h3 : opP x.q y.q false with
      | error e1 => rw [h3] at h; cases h; exact opP_err h3
      | ok c3 => rw [h3] at h; cases h
theorem like_lens {a b : H} (h : likeP a b) : a.counts.length = b.counts.length ∧ a.moms.length = b.moms.length := by
  obtain ⟨⟨_, h1⟩, ⟨_, h2⟩, e1, e2, e3⟩ := h
  rw [e1, e2, e3] at h1
  rcases h1 with ⟨k, x1, x2⟩ | ⟨k, x1, x2⟩ <;> rcases h2 with ⟨k', y1, y2⟩ | ⟨k', y1, y2⟩ <;> first | omega | exact absurd k k' | exact absurd k' k
theorem both_ne {a b : H} {e : Int} (h : bothO opP a b = .error e) : (e != 0) = true := by
  by_cases hl : likeP a b
  · obtain ⟨l1, l2⟩ := like_lens hl
    cases h1 : rowsO (fun x y => opP x y false) a.counts b.counts with
    | error e1 =>
      rw [both_err1 hl h1] at h; cases h
      rw [rows_ne (fun x y e h => opP_err h) l1 h1]; rfl
    | ok c =>
      cases h2 : rowsO (momO opP) a.moms b.moms with
      | error e2 =>
        rw [both_err2 hl h1 h2] at h; cases h
        rw [rows_ne (fun x y e h => momP_err h) l2 h2]; rfl
      | ok m => rw [both_ok hl h1 h2] at h; cases h
  · rw [both_err hl] at h; cases h; rfl
/-- What is merged stays within. -/
theorem rowsP_all {α : Type} {op : α → α → Except Int α} {P : α → Prop} (hop : ∀ x y z, op x y = .ok z → P z) : ∀ {a b l : List α}, rowsO op a b = .ok l → ∀ x ∈ l, P x
  | [], _, l, h => by cases h; simp
  | _ :: _, [], l, h => by cases h
  | x :: xs, y :: ys, l, h => by
    rw [rowsO] at h
    cases h1 : op x y with
    | error e1 => rw [h1] at h; cases h
    | ok z =>
      rw [h1] at h; simp only at h
      cases h2 : rowsO op xs ys with
      | error e2 => rw [h2] at h; cases h
      | ok zs =>
        rw [h2] at h; cases h
        intro u hu
        rcases List.mem_cons.1 hu with rfl | hu
        · exact hop _ _ _ h1
        · exact rowsP_all hop h2 u hu
theorem rowsP_len {α : Type} {op : α → α → Except Int α} : ∀ {a b l : List α}, rowsO op a b = .ok l → l.length = a.length
  | [], _, l, h => by cases h; rfl
  | _ :: _, [], l, h => by cases h
  | x :: xs, y :: ys, l, h => by
    rw [rowsO] at h
    cases h1 : op x y with
    | error e1 => rw [h1] at h; cases h
    | ok z =>
      rw [h1] at h; simp only at h
      cases h2 : rowsO op xs ys with
      | error e2 => rw [h2] at h; cases h
      | ok zs => rw [h2] at h; cases h; simp [rowsP_len h2]
theorem momP_ok {x y z : Mom} (h : momO opP x y = .ok z) : z.ok := by
  unfold momO at h
  cases h1 : opP x.c y.c false with
  | error e1 => rw [h1] at h; cases h
  | ok c =>
    rw [h1] at h; simp only at h
    cases h2 : opP x.s y.s true with
    | error e1 => rw [h2] at h; cases h
    | ok c2 =>
      rw [h2] at h; simp only at h
      cases h3 : opP x.q y.q false with
      | error e1 => rw [h3] at h; cases h
      | ok c3 => rw [h3] at h; cases h; exact ⟨opP_ok h1, opP_ok h2, opP_ok h3⟩
/-- A histogram that may be read. -/
def fine (h : H) : Prop := okH h ∧ h.counts.length ≤ 9223372036854775807 ∧ h.moms.length ≤ 9223372036854775807
theorem both_fine {a b m : H} (ha : fine a) (h : bothO opP a b = .ok m) : fine m := by
  by_cases hl : likeP a b
  · cases h1 : rowsO (fun x y => opP x y false) a.counts b.counts with
    | error e1 => rw [both_err1 hl h1] at h; cases h
    | ok c =>
      cases h2 : rowsO (momO opP) a.moms b.moms with
      | error e2 => rw [both_err2 hl h1 h2] at h; cases h
      | ok m' =>
        rw [both_ok hl h1 h2] at h; cases h
        exact ⟨⟨rowsP_all (fun x y z h => opP_ok h) h1, rowsP_all (fun x y z h => momP_ok h) h2⟩, by show c.length ≤ _; rw [rowsP_len h1]; exact ha.2.1, by show m'.length ≤ _; rw [rowsP_len h2]; exact ha.2.2⟩
  · rw [both_err hl] at h; cases h
theorem fill_fine {s : Smp} (h2 : ∀ x ∈ s.tgt, inR x) (h3 : ∀ x ∈ s.wgt, inR x) {col : Int} : ∀ {is : List Int} {h x : H}, fine h → fillO s col is h = .ok x → fine x
  | [], h, x, hf, e => by cases e; exact hf
  | i :: is, h, x, hf, e => by
    by_cases hi : i < 0 ∨ i ≥ s.rows
    · rw [fill_out hi] at e; cases e
    · cases ha : addO h (celAt s col i) (s.tgt.getD i.toNat 0) (s.wgt.getD i.toNat 0) with
      | error e1 => rw [fill_err hi ha] at e; cases e
      | ok h1 =>
        rw [fill_go hi ha] at e
        have l := add_lens h (celAt s col i) (s.tgt.getD i.toNat 0) (s.wgt.getD i.toNat 0)
        rw [ha] at l
        exact fill_fine h2 h3 ⟨okH_add hf.1 ha, by rw [show h1.counts.length = _ from l.1]; exact hf.2.1, by rw [show h1.moms.length = _ from l.2]; exact hf.2.2⟩ e
theorem hist_fine {s : Smp} (h2 : ∀ x ∈ s.tgt, inR x) (h3 : ∀ x ∈ s.wgt, inR x) {col : Int} {is : List Int} {x : H} (e : histO s col is = .ok x) : fine x := by
  by_cases hy : rightS s = true ∧ 0 ≤ col ∧ col < s.cols
  · obtain ⟨h0, hn⟩ := new_yes (chk_may (rightS_is hy.1).1).1
    rw [hist_go hy hn] at e
    have l := new_lens s.k (s.b + 1) s.cl
    rw [hn] at l
    exact fill_fine h2 h3 ⟨okH_new hn, by have := l.1; simp only [valO] at this; omega, by have := l.2; simp only [valO] at this; omega⟩ e
  · rw [hist_8 hy] at e; cases e
end Go.Proofs.Yteckbgpkoanhfaa.Hb

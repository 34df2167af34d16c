/- Groves: whether one may be, the votes on its rows, its error: pure. -/
import Derived.Test.YtbhikceekldenaaHbVoteP
import Derived.Test.YtbhikceekldenaaHbMat
namespace Go.Proofs.Ytbhikceekldenaa.Hb
set_option linter.unusedVariables false
open Go.RowKit

theorem chk_shape {k cl b t d l p : Int} (h : checkO k cl b t d l p = 0) : 2 ≤ b ∧ b ≤ 256 ∧ ((k = 0 ∧ 2 ≤ cl ∧ cl ≤ 256) ∨ (k = 1 ∧ cl = 0)) := by
  unfold checkO lowC stepC at h
  repeat' split at h
  all_goals omega
structure Grv where
  k : Int
  cl : Int
  b : Int
  t : Int
  d : Int
  l : Int
  p : Int
  rows : Int
  cols : Int
  cells : List Int
  trees : List (List Nd)
  weights : List (List Int)
  tgt : List Int
def tgtB (kind classes t : Int) : Bool := if kind = 0 then decide (0 ≤ t ∧ t < classes) else decide (-1048576 ≤ t ∧ t ≤ 1048576)
def treesB (g : Grv) : List (List Nd) → List (List Int) → Bool
  | t :: ts, w :: ws => (decide ((w.length : Int) = g.rows) && rightT g.cols g.b g.k g.cl t) && treesB g ts ws
  | _, _ => true
def headB (g : Grv) : Bool := (checkO g.k g.cl g.b g.t g.d g.l g.p == 0) && (matB g.rows g.cols g.cells.length && decide (1 ≤ g.cols ∧ g.cols ≤ 1024 ∧ g.weights.length = g.trees.length ∧ (g.tgt.length : Int) = g.rows))
def mayG (g : Grv) : Bool := headB g && (treesB g g.trees g.weights && g.tgt.all (tgtB g.k g.cl))
def rowO (rows cols : Int) (cells : List Int) (i : Nat) : List Int := (List.range cols.toNat).map fun j => cells.getD (j * rows.toNat + i) 0
theorem row_len (rows cols : Int) (cells : List Int) (i : Nat) : (rowO rows cols cells i).length = cols.toNat := by simp [rowO]
def leavesGo (row : List Int) (i : Nat) : List (List Nd) → List (List Int) → List Nd
  | t :: ts, w :: ws => if w.getD i 0 ≠ 0 then leavesGo row i ts ws else ndAt t (placeO t row) :: leavesGo row i ts ws
  | _, _ => []
def leavesO (g : Grv) (i : Nat) : List Nd := leavesGo (rowO g.rows g.cols g.cells i) i g.trees g.weights
def voteAt (g : Grv) (i : Nat) : Option Int := if leavesO g i = [] then none else some (voteO g.k g.cl (leavesO g i)).1
def votesO (g : Grv) : List (Option Int) := (List.range g.rows.toNat).map (voteAt g)
def errGo (kind : Int) : List (Option Int) → List Int → Int × Int
  | some v :: vs, t :: ts => let r := errGo kind vs ts; (r.1 + (if kind = 1 then (v - t) * (v - t) else if v ≠ t then 1 else 0), r.2 + 1)
  | none :: vs, _ :: ts => errGo kind vs ts
  | _, _ => (0, 0)
theorem trees_is {g : Grv} : ∀ {ts : List (List Nd)} {ws : List (List Int)}, treesB g ts ws = true → ∀ (i : Nat) (t : List Nd) (w : List Int), ts[i]? = some t → ws[i]? = some w → (w.length : Int) = g.rows ∧ rightT g.cols g.b g.k g.cl t = true
  | [], _, _, i, t, w, h1, _ => by simp at h1
  | _ :: _, [], _, i, t, w, _, h2 => by simp at h2
  | t0 :: ts, w0 :: ws, h, i, t, w, h1, h2 => by
    rw [treesB] at h
    simp only [Bool.and_eq_true, decide_eq_true_eq] at h
    rcases i with _ | i
    · simp at h1 h2; subst h1 h2; exact h.1
    · exact trees_is h.2 i t w (by simpa using h1) (by simpa using h2)
theorem head_is {g : Grv} (h : headB g = true) : checkO g.k g.cl g.b g.t g.d g.l g.p = 0 ∧ ((0 ≤ g.rows ∧ g.rows ≤ 16777216) ∧ (0 ≤ g.cols ∧ g.cols ≤ 16777216) ∧ (g.cells.length : Int) = g.rows * g.cols) ∧ 1 ≤ g.cols ∧ g.cols ≤ 1024 ∧ g.weights.length = g.trees.length ∧ (g.tgt.length : Int) = g.rows := by
  unfold headB at h
  simp only [Bool.and_eq_true, decide_eq_true_eq, beq_iff_eq] at h
  exact ⟨h.1, matB_is h.2.1, h.2.2⟩
theorem may_is {g : Grv} (h : mayG g = true) : headB g = true ∧ treesB g g.trees g.weights = true ∧ ∀ t ∈ g.tgt, tgtB g.k g.cl t = true := by
  unfold mayG at h
  simp only [Bool.and_eq_true, List.all_eq_true] at h
  exact ⟨h.1, h.2.1, h.2.2⟩
theorem leaves_mem (row : List Int) (i : Nat) : ∀ (ts : List (List Nd)) (ws : List (List Int)) (n : Nd), n ∈ leavesGo row i ts ws → ∃ (j : Nat) (t : List Nd) (w : List Int), ts[j]? = some t ∧ ws[j]? = some w ∧ n = ndAt t (placeO t row)
  | [], _, n, h => by simp [leavesGo] at h
  | _ :: _, [], n, h => by simp [leavesGo] at h
  | t :: ts, w :: ws, n, h => by
    rw [leavesGo] at h
    split at h
    · obtain ⟨j, t', w', h1, h2, h3⟩ := leaves_mem row i ts ws n h
      exact ⟨j + 1, t', w', by simpa using h1, by simpa using h2, h3⟩
    · rcases List.mem_cons.1 h with rfl | h
      · exact ⟨0, t, w, rfl, rfl, rfl⟩
      · obtain ⟨j, t', w', h1, h2, h3⟩ := leaves_mem row i ts ws n h
        exact ⟨j + 1, t', w', by simpa using h1, by simpa using h2, h3⟩
theorem leaves_len (row : List Int) (i : Nat) : ∀ (ts : List (List Nd)) (ws : List (List Int)), (leavesGo row i ts ws).length ≤ ts.length
  | [], _ => by simp [leavesGo]
  | _ :: _, [] => by simp [leavesGo]
  | t :: ts, w :: ws => by
    rw [leavesGo]
    have := leaves_len row i ts ws
    split <;> simp <;> omega
theorem leaves_nil (row : List Int) (i : Nat) : ∀ (ts : List (List Nd)) (ws : List (List Int)), ts.length = ws.length → (leavesGo row i ts ws = [] ↔ ∀ w ∈ ws, w.getD i 0 ≠ 0)
  | [], [], _ => by simp [leavesGo]
  | [], _ :: _, h => by simp at h
  | _ :: _, [], h => by simp at h
  | t :: ts, w :: ws, h => by
    have ih := leaves_nil row i ts ws (by simpa using h)
    rw [leavesGo]
    split
    · rename_i hw
      rw [ih]
      exact ⟨fun hh x hx => by rcases List.mem_cons.1 hx with rfl | hx; exact hw; exact hh x hx, fun hh x hx => hh x (List.mem_cons_of_mem _ hx)⟩
    · rename_i hw
      exact ⟨fun hh => (by cases hh), fun hh => absurd (hh w (List.mem_cons_self ..)) hw⟩
theorem mayS_of {g : Grv} (h : headB g = true) : mayS g.cols g.b g.k g.cl := by
  obtain ⟨h1, _, h3, h4, _⟩ := head_is h
  obtain ⟨a1, a2, a3⟩ := chk_shape h1
  unfold mayS
  exact ⟨h3, h4, a1, a2, a3⟩
theorem vote_at {g : Grv} (h : mayG g = true) (hl : ∀ t ∈ g.trees, t.length ≤ 9223372036854775807) (hn : g.trees.length ≤ 1048576) {i : Nat} (h0 : leavesO g i ≠ []) :
    ∃ v, voteO g.k g.cl (leavesO g i) = (v, 0) ∧ (g.k = 0 → 0 ≤ v ∧ v < g.cl) ∧ (g.k = 1 → -1048576 ≤ v ∧ v ≤ 1048576) := by
  obtain ⟨a1, a2, _⟩ := may_is h
  obtain ⟨_, _, c1, c2, _⟩ := head_is a1
  refine vote_right (mayS_of a1) h0 (Nat.le_trans (leaves_len _ _ _ _) hn) (fun n hn => ?_)
  obtain ⟨j, t, w, e1, e2, rfl⟩ := leaves_mem _ _ _ _ _ hn
  obtain ⟨_, hr⟩ := trees_is a2 j t w e1 e2
  obtain ⟨p1, p2, p3⟩ := place_right hr (hl t (List.mem_of_getElem? e1)) (rowO g.rows g.cols g.cells i) (by rw [row_len]; omega)
  exact ⟨(rightT_is hr).2.2.2.2 _ (List.mem_of_getElem? (ndAt_get p1 p2)), p3⟩
end Go.Proofs.Ytbhikceekldenaa.Hb

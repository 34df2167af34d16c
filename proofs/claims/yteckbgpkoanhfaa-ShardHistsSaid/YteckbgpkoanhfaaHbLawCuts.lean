/- The walk of the law ShardCuts, and of its chapter's example. -/
import Derived.Test.YteckbgpkoanhfaaHbRefCut
import Derived.Deep.QuietTactic
import Derived.BigQuiet
namespace Go.Proofs.Yteckbgpkoanhfaa.Hb
open Go.RowKit

theorem eq_span (d : Nat) (w : World) (x0 y0 x1 y1 : Int) :
    (Op.equalIn (d + 2) 25 (.agg #[.int .i64 x0, .int .i64 x1]) (.agg #[.int .i64 y0, .int .i64 y1])).run Try.prog w = .ok (x0 == y0 && (x1 == y1 && true)) w := by
  refine eqs_of Try.underlying25 (by kernel_rfl) ?_
  refine eqf_cons (by rfl) (by go_simp; rfl) (by go_simp; rfl) (by go_simp) ?_
  exact eqf_cons (by rfl) (by go_simp; rfl) (by go_simp; rfl) (by go_simp) eqf_nil

theorem spanCells_get (l : List (Int × Int)) : ∀ (i : Nat) (x : Int × Int), l[i]? = some x → (spanCells l)[i * 2]? = some (.int .i64 x.1) ∧ (spanCells l)[i * 2 + 1]? = some (.int .i64 x.2) := by
  induction l with
  | nil => intro i x h; simp at h
  | cons y l ih =>
    intro i x h
    cases i with
    | zero => simp at h; subst h; simp [spanCells]
    | succ i =>
      have := ih i x (by simpa using h)
      rw [show (i + 1) * 2 = i * 2 + 2 from by omega]
      simpa [spanCells] using this
theorem upto_get (n p : Int) (m i : Nat) (h : i < m) : (upto n p m)[i]? = some (fromAt n p i, fromAt n p (i + 1)) := by
  simp [upto, h]

/-- What a call that answers true, and leaves what there was, comes to. -/
def True0 (w : World) (e : Ending) (w' : World) : Prop := e = .returned (.bool true) ∧ Below w.heap.size w w'

set_option maxRecDepth 100000 in
set_option maxHeartbeats 1000000 in
theorem fixed13_any (w : World) : Calls Try.prog 15 #[] w (True0 w) := by
  have hq := fun (w : World) x0 y0 x1 y1 => eq_span 9998 w x0 y0 x1 y1
  go_enter Try.func15, Try.ntmps15
  go_wp2_with (go_at_call 13; refine (cut_yes 7 3 (by omega) (by omega) (by omega) (by omega) w).mono ?_; rintro e w1 ⟨v, rfl, ho, hb⟩; obtain ⟨g, cap, rfl, hcap, hg1, hg2, hcell⟩ := own_open ho (by decide); rw [show upto 7 3 (Int.toNat 3) = [(0, 3), (3, 5), (5, 7)] from by decide] at hcell; have k0 := hcell 0 _ rfl; have k1 := hcell 1 _ rfl; have k2 := hcell 2 _ rfl; have k3 := hcell 3 _ rfl; have k4 := hcell 4 _ rfl; have k5 := hcell 5 _ rfl; clear hcell ho)
  go_ret
  exact ⟨rfl, hb⟩

set_option maxRecDepth 100000 in
set_option maxHeartbeats 1000000 in
theorem cuts_yes (n : Int) (m : Nat) (hn : 0 ≤ n) (hn2 : n ≤ 9223372036854775807) (hp : 1 ≤ m) (hp2 : m ≤ 64) (w : World) :
    Calls Try.prog 3 #[.int .i64 n, .int .i64 m] w (True0 w) := by
  have hq := fun (w : World) x0 y0 x1 y1 => eq_span 9998 w x0 y0 x1 y1
  go_enter Try.func3, Try.ntmps3
  go_wp2_with (first | (go_at_call 13; refine (cut_yes n m hn hn2 (by omega) (by omega) w).mono ?_; rintro e w1 ⟨v, rfl, ho, hb⟩; rw [Int.toNat_natCast] at ho) | (go_at_call 14; refine (rcut_yes n m hn hn2 (by omega) (by omega) _).mono ?_; rintro e w2 ⟨v2, rfl, ho2, hb2⟩; rw [Int.toNat_natCast] at ho2; replace ho := own_below ho hb2; obtain ⟨g, cap, rfl, hcap, hg1, hg2, hcell⟩ := own_open ho (by omega); obtain ⟨g', cap', rfl, hcap', hg1', hg2', hcell'⟩ := own_open ho2 (by omega); have HC := Lib.hid hcell; have HC' := Lib.hid hcell'; clear hcell hcell' ho ho2))
  go_loopw [21] (fun c wr => ∃ k : Nat, k ≤ m ∧ c = .int .i64 k ∧ Below w2.heap.size w2 wr) (fun c _ => m - (intOf c).toNat)
  case atStart => exact ⟨0, Nat.zero_le _, rfl, Below.refl _ _⟩
  case round =>
    obtain ⟨k, hk, rfl, hB⟩ := hrel
    by_cases hlt : k < m
    · have hu := upto_get n m m k hlt
      obtain ⟨a1, a2⟩ := spanCells_get _ _ _ hu
      have c1 := (hB.cell (p := ⟨g, k * 2, none⟩) hg2).trans (HC.out _ _ a1)
      have c2 := (hB.cell (p := ⟨g, k * 2 + 1, none⟩) hg2).trans (HC.out _ _ a2)
      have c3 := (hB.cell (p := ⟨g', k * 2, none⟩) hg2').trans (HC'.out _ _ a1)
      have c4 := (hB.cell (p := ⟨g', k * 2 + 1, none⟩) hg2').trans (HC'.out _ _ a2)
      clear a1 a2 hu
      go_wp2
      go_quiet (fail)
      go_wp2
      exact ⟨⟨k + 1, hlt, by go_num, below_drewN hB _⟩, by simp [intOf]; omega⟩
    · obtain rfl : k = m := by omega
      go_wp2_with (go_at_call 15; refine (fixed13_any _).mono ?_; rintro e w3 ⟨rfl, hb3⟩)
      go_ret
      exact ⟨rfl, ((hb.trans (hb2.mono hb.size)).trans (hB.mono (Nat.le_trans hb.size hb2.size))).trans (hb3.mono (Nat.le_trans hb.size (Nat.le_trans hb2.size hB.size)))⟩

set_option maxRecDepth 100000 in
set_option maxHeartbeats 1000000 in
theorem cuts_no (n p : Int) (h : n < 0 ∨ p < 1 ∨ 64 < p) (w : World) :
    Calls Try.prog 3 #[.int .i64 n, .int .i64 p] w (True0 w) := by
  have H := Lib.hid h
  clear h
  go_enter Try.func3, Try.ntmps3
  go_wp2_with (first | (go_at_call 13; refine (cut_no n p H.out w).mono ?_; rintro e w1 ⟨rfl, rfl⟩) | (go_at_call 14; refine (rcut_no n p H.out _).mono ?_; rintro e w2 ⟨⟨a, c, rfl⟩, hb2⟩))
  go_loopw [21] (fun c wr => c = .int .i64 0 ∧ wr = w2) (fun c _ => 0)
  case atStart => exact ⟨rfl, rfl⟩
  case round =>
    obtain ⟨rfl, rfl⟩ := hrel
    go_wp2_with (go_at_call 15; refine (fixed13_any _).mono ?_; rintro e w3 ⟨rfl, hb3⟩)
    go_ret
    exact ⟨rfl, hb2.trans (hb3.mono hb2.size)⟩

theorem wf_i64 {n : Int} (h : (Lit.int .i64 n).wf = true) : -9223372036854775808 ≤ n ∧ n ≤ 9223372036854775807 := by
  simp [Lit.wf, IntKind.min, IntKind.max, IntKind.signed, IntKind.bits] at h
  omega
theorem cuts_any (n : Int) (hw : (Lit.int .i64 n).wf = true) (p : Int) (_ : (Lit.int .i64 p).wf = true) (w : World) : Calls Try.prog 3 #[.int .i64 n, .int .i64 p] w (True0 w) := by
  have hn2 := (wf_i64 hw).2
  by_cases h : n < 0 ∨ p < 1 ∨ 64 < p
  · exact cuts_no n p h w
  · obtain ⟨m, rfl⟩ := Int.eq_ofNat_of_zero_le (show 0 ≤ p by omega)
    exact cuts_yes n m (by omega) hn2 (by omega) (by omega) w
end Go.Proofs.Yteckbgpkoanhfaa.Hb

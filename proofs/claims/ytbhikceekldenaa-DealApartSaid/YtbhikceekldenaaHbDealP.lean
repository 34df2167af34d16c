/- Draws below bounds, and what is dealt by them: plain functions. No Go. -/
import Derived.WalkKit
namespace Go.Proofs.Ytbhikceekldenaa.Hb

/-- Below which number a number serves. -/
def limD (n : Int) : Int := 18446744073709551616 - 18446744073709551616 % n
def drawO (num : Nat → Int) (n : Int) : Nat → Nat → Option Int × Nat
  | 0, k => (none, k)
  | f + 1, k => if num k < limD n then (some (num k % n), k + 1) else drawO num n f (k + 1)
def runO (num : Nat → Int) (step : List Int → Nat → Int → List Int) : List Int → Nat → List Int → Nat → Option (List Int) × Nat
  | [], _, p, k => (some p, k)
  | n :: ns, i, p, k => match drawO num n 64 k with
    | (none, k') => (none, k')
    | (some x, k') => runO num step ns (i + 1) (step p i x) k'
def swapL (p : List Int) (i j : Nat) : List Int := (p.set i (p.getD j 0)).set j (p.getD i 0)
theorem swap_len (p : List Int) (i j : Nat) : (swapL p i j).length = p.length := by simp [swapL]
def stepPerm (n : Nat) (p : List Int) (i : Nat) (x : Int) : List Int := swapL p (n - 1 - i) x.toNat
def stepChoose (p : List Int) (i : Nat) (x : Int) : List Int := swapL p i (i + x.toNat)
def stepDeal (p : List Int) (_ : Nat) (x : Int) : List Int := p.set x.toNat (p.getD x.toNat 0 + 1)
def rowI (n : Nat) : List Int := (List.range n).map fun i : Nat => (i : Int)
def bndPerm (n : Nat) : List Int := (List.range (n - 1)).map fun i : Nat => ((n - i : Nat) : Int)
def bndChoose (n k : Nat) : List Int := (List.range k).map fun i : Nat => ((n - i : Nat) : Int)
theorem draw_hit {num : Nat → Int} {n : Int} {f k : Nat} (h : num k < limD n) : drawO num n (f + 1) k = (some (num k % n), k + 1) := if_pos h
theorem draw_miss {num : Nat → Int} {n : Int} {f k : Nat} (h : ¬ num k < limD n) : drawO num n (f + 1) k = drawO num n f (k + 1) := if_neg h
theorem draw_lt {num : Nat → Int} {n : Int} (hn : 0 < n) : ∀ {f k : Nat} {x : Int} {k' : Nat}, drawO num n f k = (some x, k') → 0 ≤ x ∧ x < n
  | 0, k, x, k', h => by cases h
  | f + 1, k, x, k', h => by
    by_cases hc : num k < limD n
    · rw [draw_hit hc] at h
      cases h
      exact ⟨Int.emod_nonneg _ (by omega), Int.emod_lt_of_pos _ hn⟩
    · rw [draw_miss hc] at h
      exact draw_lt hn h
theorem draw_k {num : Nat → Int} {n : Int} : ∀ {f k : Nat}, k ≤ (drawO num n f k).2 ∧ (drawO num n f k).2 ≤ k + f
  | 0, k => ⟨Nat.le_refl _, Nat.le_refl _⟩
  | f + 1, k => by
    by_cases hc : num k < limD n
    · rw [draw_hit hc]
      exact ⟨Nat.le_succ k, by show k + 1 ≤ k + (f + 1); omega⟩
    · rw [draw_miss hc]
      have := @draw_k num n f (k + 1)
      omega
theorem draw_none {num : Nat → Int} {n : Int} : ∀ {f k k' : Nat}, drawO num n f k = (none, k') → k' = k + f
  | 0, k, k', h => by cases h; rfl
  | f + 1, k, k', h => by
    by_cases hc : num k < limD n
    · rw [draw_hit hc] at h; cases h
    · rw [draw_miss hc] at h
      have := draw_none h
      omega
theorem run_nil {num : Nat → Int} {step : List Int → Nat → Int → List Int} {i k : Nat} {p : List Int} : runO num step [] i p k = (some p, k) := rfl
theorem run_none {num : Nat → Int} {step : List Int → Nat → Int → List Int} {n : Int} {ns : List Int} {i k k' : Nat} {p : List Int} (h : drawO num n 64 k = (none, k')) : runO num step (n :: ns) i p k = (none, k') := by rw [runO, h]
theorem run_some {num : Nat → Int} {step : List Int → Nat → Int → List Int} {n x : Int} {ns : List Int} {i k k' : Nat} {p : List Int} (h : drawO num n 64 k = (some x, k')) : runO num step (n :: ns) i p k = runO num step ns (i + 1) (step p i x) k' := by rw [runO, h]
/-- What holds of what is dealt, ever. -/
theorem run_inv {num : Nat → Int} {step : List Int → Nat → Int → List Int} (P : Nat → List Int → Prop) : ∀ (ns : List Int) (i k : Nat) (p q : List Int) (k' : Nat),
    (∀ (j : Nat) (n : Int) (r : List Int) (x : Int), ns[j]? = some n → 0 ≤ x → x < n → P (i + j) r → P (i + j + 1) (step r (i + j) x)) → (∀ n ∈ ns, 0 < n) → P i p → runO num step ns i p k = (some q, k') → P (i + ns.length) q
  | [], i, k, p, q, k', _, _, h0, h => by
    rw [run_nil] at h; cases h; exact h0
  | n :: ns, i, k, p, q, k', hs, hp, h0, h => by
    rcases hd : drawO num n 64 k with ⟨_ | x, k1⟩
    · rw [run_none hd] at h; cases h
    · rw [run_some hd] at h
      have hx := draw_lt (hp n (List.mem_cons_self ..)) hd
      have h1 := hs 0 n p x rfl hx.1 hx.2 h0
      have := run_inv P ns (i + 1) k1 (step p i x) q k' (fun j m r y hj a b c => by
        have := hs (j + 1) m r y (by simpa using hj) a b (by rwa [show i + (j + 1) = i + 1 + j by omega])
        rwa [show i + (j + 1) = i + 1 + j by omega] at this) (fun m hm => hp m (List.mem_cons_of_mem _ hm)) h1 h
      rwa [show i + 1 + ns.length = i + (n :: ns).length by simp; omega] at this
end Go.Proofs.Ytbhikceekldenaa.Hb

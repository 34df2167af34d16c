/- What the laws of layer 3 share: whether rows are the same, what is too great, a list as a source, the chapter's examples. -/
import Derived.Test.YtbhikceekldenaaHbDealCh
import Derived.Test.YtbhikceekldenaaHbDealDl
import Derived.Test.YtbhikceekldenaaHbNextL
namespace Go.Proofs.Ytbhikceekldenaa.Hb
set_option linter.unusedVariables false
open Go.RowKit

def True0 (w : World) (e : Ending) (w' : World) : Prop := e = .returned (.bool true) ∧ Below w.heap.size w w'
set_option maxRecDepth 100000 in
set_option maxHeartbeats 1000000 in
theorem same3_any (A B : Option Addr) (ca cb : Nat) (a b : List Int) (w : World) (ha : RdI w A a) (hb : RdI w B b) (la : a.length ≤ 9223372036854775807) (lb : b.length ≤ 9223372036854775807) :
    Calls Try.prog 28 #[.slice A a.length ca, .slice B b.length cb] w fun e w' => e = .returned (.bool (decide (a = b))) ∧ Below w.heap.size w w' := by
  obtain ⟨n, hn⟩ : ∃ n, a.length = n := ⟨_, rfl⟩
  obtain ⟨m, hm⟩ : ∃ m, b.length = m := ⟨_, rfl⟩
  rw [hn] at la ⊢
  rw [hm] at lb ⊢
  obtain ⟨z, hz⟩ : ∃ z, decide (a = b) = z := ⟨_, rfl⟩
  rw [hz]
  have HN := Lib.hid hn
  have HM := Lib.hid hm
  have HA := Lib.hid ha
  have HB := Lib.hid hb
  have HZ := Lib.hid hz
  clear hn hm ha hb hz
  by_cases hl : n = m
  · subst hl
    have hq : (n == n) = true := beq_self_eq_true n
    go_enter Try.func28, Try.ntmps28
    go_wp2_with fail
    go_loopw [5] (fun iv wr => ∃ i : Nat, i ≤ n ∧ iv = .int .i64 i ∧ Hid (a.take i = b.take i) ∧ Below w.heap.size w wr) (fun iv _ => n - (intOf iv).toNat)
    case atStart => exact ⟨0, Nat.zero_le _, rfl, Lib.hid rfl, Below.refl _ _⟩
    case round =>
      obtain ⟨i, hi, rfl, HT, hBl⟩ := hrel
      by_cases hlt : i < n
      · have hlt' : (i : Int) < n := by omega
        obtain ⟨ad, rfl, h1⟩ := (HA.out.below hBl).at (k := i) (by rw [HN.out]; exact hlt)
        obtain ⟨bd, rfl, h2⟩ := (HB.out.below hBl).at (k := i) (by rw [HM.out]; exact hlt)
        have y1 := h1 i (by rw [HN.out]; exact hlt)
        have y2 := h2 i (by rw [HM.out]; exact hlt)
        obtain ⟨x, hx⟩ : ∃ x, a.getD i 0 = x := ⟨_, rfl⟩
        obtain ⟨y, hy⟩ : ∃ y, b.getD i 0 = y := ⟨_, rfl⟩
        rw [hx] at y1
        rw [hy] at y2
        clear h1 h2
        by_cases hxy : x = y
        · have hT2 : Hid (a.take (i + 1) = b.take (i + 1)) := Lib.hid (by
            rw [take_succ' (by rw [HN.out]; exact hlt), take_succ' (by rw [HM.out]; exact hlt), HT.out, hx, hy, hxy])
          have hd : (x != y) = false := by simpa using hxy
          have hd2 : (x == y) = true := by simpa using hxy
          clear hx hy hxy
          go_wp2_with fail
          go_quiet (fail)
          have hb2 : Below w.heap.size w (wr.drewN nq) := hBl.trans ⟨rfl, rfl, rfl, Nat.le_refl _, fun _ _ => rfl⟩
          go_wp2_with fail
          go_roundw
          case rel => exact ⟨i + 1, hlt, by go_num, hT2, hb2⟩
          case measure => simp [intOf]; omega
        · have hne : z = false := by
            rw [← HZ.out]
            exact decide_eq_false (fun e => hxy (by rw [← hx, ← hy, e]))
          subst hne
          have hd : (x != y) = true := by simpa using hxy
          have hd2 : (x == y) = false := by simpa using hxy
          clear hx hy hxy
          go_wp2_with fail
          go_quiet (fail)
          have hb2 : Below w.heap.size w (wr.drewN nq) := hBl.trans ⟨rfl, rfl, rfl, Nat.le_refl _, fun _ _ => rfl⟩
          go_wp2_with fail
          go_ret
          exact ⟨rfl, hb2⟩
      · obtain rfl : i = n := by omega
        have hz1 : z = true := by
          rw [← HZ.out]
          refine decide_eq_true ?_
          have := HT.out
          rwa [List.take_of_length_le (by rw [HN.out]; exact Nat.le_refl _), List.take_of_length_le (by rw [HM.out]; exact Nat.le_refl _)] at this
        subst hz1
        go_wp2_with fail
        go_ret
        exact ⟨rfl, hBl⟩
  · have hne : z = false := by
      rw [← HZ.out]
      exact decide_eq_false (fun e => hl (by rw [← HN.out, ← HM.out, e]))
    subst hne
    have hd : ((n : Int) == (m : Int)) = false := beq_eq_false_iff_ne.2 (by omega)
    have hd2 : ((n : Int) != (m : Int)) = true := bne_iff_ne.2 (by omega)
    have hd3 : (n == m) = false := by simpa using hl
    have hd4 : (n != m) = true := by simpa using hl
    clear hl
    go_enter Try.func28, Try.ntmps28
    go_wp2_with fail
    go_ret
    exact ⟨rfl, Below.refl _ _⟩
def great3 (len : Nat) (n : Int) : Bool := decide (500 < len ∨ (300 < n ∧ n ≤ 1048576))
set_option maxRecDepth 100000 in
set_option maxHeartbeats 400000 in
theorem great3_any (A : Option Addr) (len cap : Nat) (n : Int) (hl : len ≤ 9223372036854775807) (w : World) : Calls Try.prog 24 #[.slice A len cap, .int .i64 n] w fun e w' => e = .returned (.bool (great3 len n)) ∧ w = w' := by
  unfold great3
  by_cases h1 : 500 < len
  · have d1 : decide (500 < (len : Int)) = true := decide_eq_true (by omega)
    rw [decide_eq_true (.inl h1)]
    clear h1
    go_enter Try.func24, Try.ntmps24
    go_wp2
    go_ret
    exact ⟨rfl, rfl⟩
  · have d1 : decide (500 < (len : Int)) = false := decide_eq_false (by omega)
    by_cases h2 : 300 < n
    · have d2 : decide (300 < n) = true := decide_eq_true h2
      obtain ⟨z, hz⟩ : ∃ z, decide (n ≤ 1048576) = z := ⟨_, rfl⟩
      have hzz : decide (500 < len ∨ (300 < n ∧ n ≤ 1048576)) = z := by rw [← hz]; exact decide_eq_decide.2 (by omega)
      rw [hzz]
      clear h1 h2 hzz
      go_enter Try.func24, Try.ntmps24
      go_wp2
      go_ret
      exact ⟨rfl, rfl⟩
    · have d2 : decide (300 < n) = false := decide_eq_false h2
      rw [decide_eq_false (by omega)]
      clear h1 h2
      go_enter Try.func24, Try.ntmps24
      go_wp2
      go_ret
      exact ⟨rfl, rfl⟩
/-- A list is a source. -/
theorem srcL (b N0 : Nat) (A : Option Addr) (cap : Nat) (l : List Int) (hb : b < N0) (hl : l.length ≤ 9223372036854775807) (hr : ∀ x ∈ l, 0 ≤ x ∧ x ≤ 18446744073709551615) (hA : ∀ ad, A = some ad → l ≠ [] → ad.block < N0) :
    Src (.iface 60 (.pointer (some ⟨b, 0, none⟩))) b N0 (numL l) (LstAt b A cap l) where
  hb := hb
  keep := fun k W W' h hB => h.keep hb hA hB
  below := fun n k W hN h1 h2 hk hJ => belowL_any b (numL l) (LstAt b A cap l) (fun k => by
    unfold numL
    rw [List.getD_eq_getElem?_getD]
    by_cases hk : k < l.length
    · rw [List.getElem?_eq_getElem hk]; exact (hr _ (List.getElem_mem hk)).1
    · rw [List.getElem?_eq_none (by omega)]; exact Int.le_refl _) (fun k W hk hJ => nextL_any b A cap l hl k W hk hJ) n k W h1 h2 hk hJ
end Go.Proofs.Ytbhikceekldenaa.Hb

/- The document's draws: Whole, Below; whether two rows are the same. -/
import Derived.Test.YtbhikceekldenaaHbDealRow
import Derived.Test.YtbhikceekldenaaHbNextL
namespace Go.Proofs.Ytbhikceekldenaa.Hb
set_option linter.unusedVariables false
open Go.RowKit

theorem mod_top (n : Int) (h1 : 0 < n) : 18446744073709551615 / n * n = 18446744073709551615 - 18446744073709551615 % n ∧
    ((18446744073709551615 % n = n - 1 → limD n = 18446744073709551616) ∧ (18446744073709551615 % n ≠ n - 1 → limD n = 18446744073709551615 - 18446744073709551615 % n)) := by
  have e := Int.mul_ediv_add_emod 18446744073709551615 n
  rw [Int.mul_comm] at e
  have b1 := Int.emod_nonneg 18446744073709551615 (show n ≠ 0 by omega)
  have b2 := Int.emod_lt_of_pos 18446744073709551615 h1
  have hs : (18446744073709551616 : Int) % n = (18446744073709551615 % n + 1) % n := by rw [Int.emod_add_emod]; rfl
  unfold limD
  rw [hs]
  obtain ⟨r, hr⟩ : ∃ r, (18446744073709551615 : Int) % n = r := ⟨_, rfl⟩
  obtain ⟨q, hq⟩ : ∃ q, (18446744073709551615 : Int) / n * n = q := ⟨_, rfl⟩
  rw [hr, hq] at e
  rw [hr] at b1 b2 ⊢
  rw [hq]
  refine ⟨by omega, fun h => ?_, fun h => ?_⟩
  · rw [h, show n - 1 + 1 = n by omega, Int.emod_self]; rfl
  · rw [Int.emod_eq_of_lt (by omega) (by omega)]; omega
set_option maxRecDepth 100000 in
set_option maxHeartbeats 400000 in
theorem rwhole_any (x n : Int) (h1 : 0 < n) (h2 : n ≤ 1048576) (hx : 0 ≤ x) (hx2 : x ≤ 18446744073709551615) (w : World) : Calls Try.prog 80 #[.int .u64 x, .int .u64 n] w fun e w' => e = .returned (.bool (decide (x < limD n))) ∧ w' = w := by
  have hz : (n == 0) = false := beq_eq_false_iff_ne.2 (by omega)
  have HX := Lib.hid hx2
  have HM := Lib.hid (mod_top n h1)
  have HB : Hid (0 ≤ 18446744073709551615 % n ∧ 18446744073709551615 % n < n) := Lib.hid ⟨Int.emod_nonneg _ (by omega), Int.emod_lt_of_pos _ h1⟩
  clear hx2
  go_enter Try.func80, Try.ntmps80
  go_wp2_with fail
  · rename_i h
    go_ret
    obtain ⟨m1, m2, m3⟩ := HM.out
    have b := HB.out
    have hh : IntKind.u64.wrap (18446744073709551615 - IntKind.u64.wrap (18446744073709551615 / n * n)) = n - 1 := by simpa using h
    rw [m1, IntKind.wrap_u64, IntKind.wrap_u64] at hh
    have hl := m2 (by omega)
    rw [hl, decide_eq_true (by have := HX.out; omega)]
    exact ⟨rfl, rfl⟩
  · rename_i h
    go_ret
    obtain ⟨m1, m2, m3⟩ := HM.out
    have b := HB.out
    have hh : ¬ IntKind.u64.wrap (18446744073709551615 - IntKind.u64.wrap (18446744073709551615 / n * n)) = n - 1 := by simpa using h
    rw [m1, IntKind.wrap_u64, IntKind.wrap_u64] at hh
    have hl := m3 (by omega)
    have e : IntKind.u64.wrap (18446744073709551615 / n * n) = limD n := by rw [m1, hl, IntKind.wrap_u64]; omega
    refine ⟨?_, rfl⟩
    rw [← e]
    rfl
def rbelV (r : Option Int × Nat) (k : Nat) : Value := match r.1 with
  | some x => .tuple #[.int .u64 x, .int .i64 ((r.2 - k : Nat) : Int), .int .i64 0]
  | none => .tuple #[.int .u64 0, .int .i64 64, .int .i64 7]
/-- A list of numbers, read. -/
def RdU (w : World) (A : Option Addr) (l : List Int) : Prop := (∀ x ∈ l, 0 ≤ x ∧ x ≤ 18446744073709551615) ∧ (l = [] ∨ ∃ ad, A = some ad ∧ ∀ i, i < l.length → w.cell? (ad.add i) = some (.int .u64 (l.getD i 0)))
theorem numL_in {w : World} {A : Option Addr} {l : List Int} (h : RdU w A l) (k : Nat) : 0 ≤ numL l k ∧ numL l k ≤ 18446744073709551615 := by
  unfold numL
  rw [List.getD_eq_getElem?_getD]
  by_cases hk : k < l.length
  · rw [List.getElem?_eq_getElem hk]; exact h.1 _ (List.getElem_mem hk)
  · rw [List.getElem?_eq_none (by omega)]; decide
theorem draw_miss_k {num : Nat → Int} {n : Int} : ∀ (f k i : Nat), (∀ j, j < i → limD n ≤ num (k + j)) → drawO num n (i + f) k = drawO num n f (k + i)
  | f, k, 0, _ => by rw [Nat.zero_add, Nat.add_zero]
  | f, k, i + 1, h => by
    rw [show i + 1 + f = (i + f) + 1 by omega, draw_miss (Int.not_lt.2 (by simpa using h 0 (by omega))), draw_miss_k f (k + 1) i (fun j hj => by have := h (j + 1) (by omega); rwa [show k + (j + 1) = k + 1 + j by omega] at this), show k + 1 + i = k + (i + 1) by omega]
set_option maxRecDepth 100000 in
set_option maxHeartbeats 1000000 in
theorem rbelow_any (A : Option Addr) (cap : Nat) (l : List Int) (k : Nat) (n : Int) (h1 : 0 < n) (h2 : n ≤ 1048576) (w : World) (hl : l.length ≤ 9223372036854775807) (hk : k ≤ 4611686018427387904) (hr : RdU w A l) :
    Calls Try.prog 53 #[.slice A l.length cap, .int .i64 k, .int .u64 n] w fun e w' => e = .returned (rbelV (drawO (numL l) n 64 k) k) ∧ w = w' := by
  have hz : (n == 0) = false := beq_eq_false_iff_ne.2 (by omega)
  obtain ⟨N, hN⟩ : ∃ N, l.length = N := ⟨_, rfl⟩
  rw [hN] at hl ⊢
  have HN := Lib.hid hN
  have HU := Lib.hid hr
  have HK := Lib.hid hk
  clear hN hr
  go_enter Try.func53, Try.ntmps53
  go_wp2_with fail
  go_loop [9] (fun iv => ∃ i : Nat, i ≤ 64 ∧ iv = .int .i64 i ∧ Hid (∀ j, j < i → limD n ≤ numL l (k + j))) (fun iv => 64 - (intOf iv).toNat)
  case atStart => exact ⟨0, Nat.zero_le _, rfl, Lib.hid (fun j hj => by omega)⟩
  case round =>
    obtain ⟨i, hi, rfl, HR⟩ := hrel
    by_cases hlt : i < 64
    · have hlt' : (i : Int) < 64 := by omega
      obtain ⟨x, hx⟩ : ∃ x, numL l (k + i) = x := ⟨_, rfl⟩
      have hx0 := numL_in HU.out (k + i)
      rw [hx] at hx0
      have kw := fun w => rwhole_any x n h1 h2 hx0.1 hx0.2 w
      obtain ⟨c, hc⟩ : ∃ c, decide (x < limD n) = c := ⟨_, rfl⟩
      rw [hc] at kw
      have KW := Lib.hid kw
      have HX := Lib.hid hx
      have HC := Lib.hid hc
      obtain ⟨x0, x1⟩ := hx0
      have X1 := Lib.hid x1
      clear hx hc kw x1
      by_cases hin : k + i < N
      · have hin' : (k : Int) + i < N := by omega
        have hind : decide ((k : Int) + i < N) = true := decide_eq_true hin'
        obtain ⟨ad, rfl, ha⟩ : ∃ ad, A = some ad ∧ ∀ i, i < l.length → w.cell? (ad.add i) = some (.int .u64 (l.getD i 0)) := by
          rcases HU.out.2 with h0 | h0
          · have := HN.out; rw [h0] at this; simp at this; omega
          · exact h0
        have y := ha (k + i) (by rw [HN.out]; exact hin)
        rw [show l.getD (k + i) 0 = x from HX.out] at y
        have hto : ((k : Int) + i).toNat = k + i := by omega
        clear ha
        go_wp2_with fail
        refine (KW.out _).mono ?_
        rintro e w1 ⟨rfl, rfl⟩
        cases c with
        | true =>
          have hd : drawO (numL l) n 64 k = (some (x % n), k + i + 1) := by
            rw [show 64 = i + ((64 - i - 1) + 1) by omega, draw_miss_k _ _ _ HR.out, draw_hit (by rw [HX.out]; exact of_decide_eq_true HC.out), HX.out]
          have HD := Lib.hid hd
          clear hd
          go_wp2_with fail
          refine bodyPost_ret (v := .tuple #[.int .u64 (x % n), .int .i64 ((i : Int) + 1), .int .i64 0]) (by simp [results, Try.results53, go_sem]) rfl ?_
          rw [HD.out]
          refine ⟨?_, rfl⟩
          show _ = Ending.returned (.tuple #[_, .int .i64 ((k + i + 1 - k : Nat) : Int), _])
          rw [show k + i + 1 - k = i + 1 by omega]
          rfl
        | false =>
          have hr2 : Hid (∀ j, j < i + 1 → limD n ≤ numL l (k + j)) := Lib.hid (fun j hj => by
            rcases Nat.lt_or_ge j i with h | h
            · exact HR.out j h
            · obtain rfl : j = i := by omega
              rw [HX.out]; exact Int.not_lt.1 (of_decide_eq_false HC.out))
          go_wp2_with fail
          go_round
          case rel => exact ⟨i + 1, hlt, by go_num, hr2⟩
          case measure => simp [intOf]; omega
      · have hind : decide ((k : Int) + i < N) = false := decide_eq_false (by omega)
        have hx0' : x = 0 := by rw [← HX.out, numL, List.getD_eq_getElem?_getD, List.getElem?_eq_none (by rw [HN.out]; omega)]; rfl
        subst hx0'
        go_wp2_with fail
        refine (KW.out _).mono ?_
        rintro e w1 ⟨rfl, rfl⟩
        cases c with
        | true =>
          have hd : drawO (numL l) n 64 k = (some (0 % n), k + i + 1) := by
            rw [show 64 = i + ((64 - i - 1) + 1) by omega, draw_miss_k _ _ _ HR.out, draw_hit (by rw [HX.out]; exact of_decide_eq_true HC.out), HX.out]
          have HD := Lib.hid hd
          clear hd
          go_wp2_with fail
          refine bodyPost_ret (v := .tuple #[.int .u64 (0 % n), .int .i64 ((i : Int) + 1), .int .i64 0]) (by simp [results, Try.results53, go_sem]) rfl ?_
          rw [HD.out]
          refine ⟨?_, rfl⟩
          show _ = Ending.returned (.tuple #[_, .int .i64 ((k + i + 1 - k : Nat) : Int), _])
          rw [show k + i + 1 - k = i + 1 by omega]
          rfl
        | false =>
          have hr2 : Hid (∀ j, j < i + 1 → limD n ≤ numL l (k + j)) := Lib.hid (fun j hj => by
            rcases Nat.lt_or_ge j i with h | h
            · exact HR.out j h
            · obtain rfl : j = i := by omega
              rw [HX.out]; exact Int.not_lt.1 (of_decide_eq_false HC.out))
          go_wp2_with fail
          go_round
          case rel => exact ⟨i + 1, hlt, by go_num, hr2⟩
          case measure => simp [intOf]; omega
    · obtain rfl : i = 64 := by omega
      have hd : drawO (numL l) n 64 k = (none, k + 64) := by rw [show 64 = 64 + 0 from rfl, draw_miss_k _ _ _ HR.out]; rfl
      have HD := Lib.hid hd
      clear hd
      go_wp2_with fail
      refine bodyPost_ret (v := .tuple #[.int .u64 0, .int .i64 64, .int .i64 7]) (by simp [results, Try.results53, go_sem]) rfl ?_
      rw [HD.out]
      exact ⟨rfl, rfl⟩
end Go.Proofs.Ytbhikceekldenaa.Hb

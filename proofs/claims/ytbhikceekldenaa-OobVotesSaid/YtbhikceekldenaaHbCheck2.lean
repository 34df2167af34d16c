/- The walk of layer config: Check, its loop. -/
import Derived.Test.YtbhikceekldenaaHbCheck
namespace Go.Proofs.Ytbhikceekldenaa.Hb
open Go.RowKit

def fieldC (k cl b t d l p : Int) : Nat → Array Value
  | 0 => #[.int .i64 k, .int .i64 0, .int .i64 1, .int .i64 1]
  | 1 => #[.int .i64 cl, .int .i64 (lowC k), .int .i64 256, .int .i64 2]
  | 2 => #[.int .i64 b, .int .i64 2, .int .i64 256, .int .i64 2]
  | 3 => #[.int .i64 t, .int .i64 1, .int .i64 4096, .int .i64 2]
  | 4 => #[.int .i64 d, .int .i64 0, .int .i64 32, .int .i64 1]
  | 5 => #[.int .i64 l, .int .i64 1, .int .i64 1048576, .int .i64 4]
  | _ => #[.int .i64 p, .int .i64 1, .int .i64 1024, .int .i64 2]
theorem index_f (k cl b t d l p : Int) (w : World) (i : Nat) (hi : i < 7) : (Instr.index 119 (fieldsV k cl b t d l p) (.int .i64 i)).run Try.prog w = .ok (.agg (fieldC k cl b t d l p i)) w := by
  unfold fieldsV
  obtain e | e | e | e | e | e | e : i = 0 ∨ i = 1 ∨ i = 2 ∨ i = 3 ∨ i = 4 ∨ i = 5 ∨ i = 6 := by omega
  all_goals
    subst e
    kernel_rfl
section
variable {k cl b t d l p : Int}
theorem tail0_3 (h : k < 0 ∨ k > 1) : tailC k cl b t d l p 0 = 3 := if_pos h
theorem tail0_4 (h : False) (_ : False) : tailC k cl b t d l p 0 = 4 := h.elim
theorem tail0_mid (h : ¬ (k < 0 ∨ k > 1)) : tailC k cl b t d l p 0 = tailC k cl b t d l p 1 := if_neg h
theorem tail1_3 (h : cl < lowC k ∨ (k = 1 ∧ cl ≠ 0)) : tailC k cl b t d l p 1 = 3 := by
  show (if cl < lowC k then 3 else if k = 1 ∧ cl ≠ 0 then 3 else _) = 3
  by_cases h1 : cl < lowC k
  · rw [if_pos h1]
  · rw [if_neg h1, if_pos (by omega)]
theorem tail1_4 (h : ¬ (cl < lowC k ∨ (k = 1 ∧ cl ≠ 0))) (h' : cl > 256) : tailC k cl b t d l p 1 = 4 := by
  show (if cl < lowC k then 3 else if k = 1 ∧ cl ≠ 0 then 3 else if cl > 256 then 4 else _) = 4
  rw [if_neg (by omega), if_neg (by omega), if_pos h']
theorem tail1_mid (h : ¬ (cl < lowC k ∨ (k = 1 ∧ cl ≠ 0)) ∧ ¬ cl > 256) : tailC k cl b t d l p 1 = tailC k cl b t d l p 2 := by
  show (if cl < lowC k then 3 else if k = 1 ∧ cl ≠ 0 then 3 else if cl > 256 then 4 else _) = _
  rw [if_neg (by omega), if_neg (by omega), if_neg h.2]
  rfl
theorem tail2_3 (h : b < 2) : tailC k cl b t d l p 2 = 3 := if_pos h
theorem tail2_4 (h : ¬ b < 2) (h' : b > 256) : tailC k cl b t d l p 2 = 4 := (if_neg h).trans (if_pos h')
theorem tail2_mid (h : ¬ b < 2 ∧ ¬ b > 256) : tailC k cl b t d l p 2 = tailC k cl b t d l p 3 := (if_neg h.1).trans (if_neg h.2)
theorem tail3_3 (h : t < 1) : tailC k cl b t d l p 3 = 3 := if_pos h
theorem tail3_4 (h : ¬ t < 1) (h' : t > 4096) : tailC k cl b t d l p 3 = 4 := (if_neg h).trans (if_pos h')
theorem tail3_mid (h : ¬ t < 1 ∧ ¬ t > 4096) : tailC k cl b t d l p 3 = tailC k cl b t d l p 4 := (if_neg h.1).trans (if_neg h.2)
theorem tail4_3 (h : d < 0) : tailC k cl b t d l p 4 = 3 := if_pos h
theorem tail4_4 (h : ¬ d < 0) (h' : d > 32) : tailC k cl b t d l p 4 = 4 := (if_neg h).trans (if_pos h')
theorem tail4_mid (h : ¬ d < 0 ∧ ¬ d > 32) : tailC k cl b t d l p 4 = tailC k cl b t d l p 5 := (if_neg h.1).trans (if_neg h.2)
theorem tail5_3 (h : l < 1) : tailC k cl b t d l p 5 = 3 := if_pos h
theorem tail5_4 (h : ¬ l < 1) (h' : l > 1048576) : tailC k cl b t d l p 5 = 4 := (if_neg h).trans (if_pos h')
theorem tail5_mid (h : ¬ l < 1 ∧ ¬ l > 1048576) : tailC k cl b t d l p 5 = tailC k cl b t d l p 6 := (if_neg h.1).trans (if_neg h.2)
theorem tail6_3 (h : p < 1) : tailC k cl b t d l p 6 = 3 := if_pos h
theorem tail6_4 (h : ¬ p < 1) (h' : p > 1024) : tailC k cl b t d l p 6 = 4 := (if_neg h).trans (if_pos h')
theorem tail6_mid (h : ¬ p < 1 ∧ ¬ p > 1024) : tailC k cl b t d l p 6 = tailC k cl b t d l p 7 := (if_neg h.1).trans (if_neg h.2)
end
theorem tail_end (k cl b t d l p : Int) (j : Nat) (h : 7 ≤ j) : tailC k cl b t d l p j = 0 := by
  match j, h with
  | j + 7, _ => rfl
set_option maxRecDepth 100000 in
set_option maxHeartbeats 8000000 in
theorem check_any (k cl b t d l p : Int) (w : World) : Calls Try.prog 41 #[.agg #[.int .i64 k, .int .i64 cl, .int .i64 b, .int .i64 t, .int .i64 d, .int .i64 l, .int .i64 p]] w fun e w' => e = .returned (.int .i64 (checkO k cl b t d l p)) ∧ Below w.heap.size w w' := by
  have FA := Lib.hid (fun w => fields_any k cl b t d l p w)
  obtain ⟨R, hR⟩ : ∃ R, checkO k cl b t d l p = R := ⟨_, rfl⟩
  rw [hR]
  have HR := Lib.hid hR
  clear hR
  obtain ⟨lo, hlo⟩ : ∃ lo, lowC k = lo := ⟨_, rfl⟩
  have HLO := Lib.hid hlo
  clear hlo
  obtain ⟨fv, hfv⟩ : ∃ fv, fieldsV k cl b t d l p = fv := ⟨_, rfl⟩
  have IX := Lib.hid (fun (w : World) (i : Nat) (hi : i < 7) => index_f k cl b t d l p w i hi)
  rw [hfv] at FA IX
  clear hfv
  go_enter Try.func41, Try.ntmps41
  go_wp2_with (go_at_call 68; refine (FA.out _).mono ?_; rintro e w1 ⟨rfl, hb⟩)
  have kA := (Blk.new w #[.int .i64 k, .int .i64 cl, .int .i64 b, .int .i64 t, .int .i64 d, .int .i64 l, .int .i64 p] 23).below hb
  have be : Below w.heap.size w w1 := ((Below.refl _ w).alloc (Nat.le_refl _) _).trans (hb.mono (by simp))
  clear hb
  go_loopw [7] (fun iv wr => ∃ j : Nat, j ≤ 7 ∧ iv = .int .i64 j ∧ Hid (tailC k cl b t d l p j = R) ∧ Blk wr w.heap.size #[.int .i64 k, .int .i64 cl, .int .i64 b, .int .i64 t, .int .i64 d, .int .i64 l, .int .i64 p] 23 ∧ Below w.heap.size w wr) (fun iv _ => 7 - (intOf iv).toNat)
  case atStart => exact ⟨0, by omega, rfl, HR, kA, be⟩
  case round =>
    obtain ⟨j, hj, rfl, HT, hk, hB⟩ := hrel
    clear kA be
    have a0 := hk.cell 0
    have hkl := hk.lt
    have hk1 : w.heap.size ≠ wr.heap.size := by omega
    have hk2 : wr.heap.size ≠ w.heap.size := by omega
    simp only [List.getElem?_toArray, List.getElem?_cons_zero] at a0
    by_cases hlt : j < 7
    · have ix := fun w => IX.out w j hlt
      obtain e | e | e | e | e | e | e : j = 0 ∨ j = 1 ∨ j = 2 ∨ j = 3 ∨ j = 4 ∨ j = 5 ∨ j = 6 := by omega
      · subst e
        have ix' : ∀ w, (Instr.index 119 fv (.int .i64 0)).run Try.prog w = .ok (.agg #[.int .i64 k, .int .i64 0, .int .i64 1, .int .i64 1]) w := ix
        clear ix
        go_wp2
        all_goals first
          | (go_ret
             refine ⟨ret_i64 ?_, hB.alloc hB.size _⟩
             rw [← HT.out]
             first | (exact (tail0_3 (by omega)).symm) | (exact (tail0_4 (by omega) (by omega)).symm))
          | (go_roundw
             case rel => exact ⟨1, by omega, rfl, Lib.hid (by rw [← HT.out]; exact (tail0_mid (by omega)).symm), hk.below ((Below.refl _ _).alloc (Nat.le_refl _) _), hB.alloc hB.size _⟩
             case measure => simp [intOf])
      · subst e
        have ix' : ∀ w, (Instr.index 119 fv (.int .i64 1)).run Try.prog w = .ok (.agg #[.int .i64 cl, .int .i64 (lowC k), .int .i64 256, .int .i64 2]) w := ix
        clear ix
        by_cases hq : k = 1
        · have b1 : (k == 1) = true := beq_iff_eq.2 hq
          have HLK := Lib.hid (show lowC k = 0 from if_pos hq)
          have HK := Lib.hid hq
          by_cases hc : cl = 0
          · have b2 : (cl != 0) = false := bne_eq_false_iff_eq.2 hc
            have b3 : decide (cl < lowC k) = false := decide_eq_false (by rw [HLK.out]; omega)
            have b4 : decide (256 < cl) = false := decide_eq_false (by omega)
            have HC := Lib.hid hc
            have HX := Lib.hid (show ¬ (cl < lowC k ∨ (k = 1 ∧ cl ≠ 0)) ∧ ¬ cl > 256 by rw [HLK.out]; omega)
            clear hq hc
            go_wp2
            go_roundw
            case rel => exact ⟨2, by omega, rfl, Lib.hid (by rw [← HT.out]; exact (tail1_mid HX.out).symm), hk.below ((Below.refl _ _).alloc (Nat.le_refl _) _), hB.alloc hB.size _⟩
            case measure => simp [intOf]
          · have b2 : (cl != 0) = true := bne_iff_ne.2 hc
            have HX := Lib.hid (show cl < lowC k ∨ (k = 1 ∧ cl ≠ 0) from .inr ⟨hq, hc⟩)
            clear hq hc
            go_wp2
            all_goals
              go_ret
              refine ⟨ret_i64 ?_, hB.alloc hB.size _⟩
              rw [← HT.out]
              exact (tail1_3 HX.out).symm
        · have b1 : (k == 1) = false := beq_eq_false_iff_ne.2 hq
          have HK := Lib.hid hq
          have HC := HK
          clear hq
          go_wp2
          all_goals first
            | (go_ret
               refine ⟨ret_i64 ?_, hB.alloc hB.size _⟩
               rw [← HT.out]
               first | (exact (tail1_3 (by have e1 := HK.out; have e2 := HC.out; omega)).symm) | (exact (tail1_4 (by have e1 := HK.out; have e2 := HC.out; omega) (by omega)).symm))
            | (go_roundw
               case rel => exact ⟨2, by omega, rfl, Lib.hid (by rw [← HT.out]; exact (tail1_mid (by have e1 := HK.out; have e2 := HC.out; omega)).symm), hk.below ((Below.refl _ _).alloc (Nat.le_refl _) _), hB.alloc hB.size _⟩
               case measure => simp [intOf])
      · subst e
        have ix' : ∀ w, (Instr.index 119 fv (.int .i64 2)).run Try.prog w = .ok (.agg #[.int .i64 b, .int .i64 2, .int .i64 256, .int .i64 2]) w := ix
        clear ix
        go_wp2
        all_goals first
          | (go_ret
             refine ⟨ret_i64 ?_, hB.alloc hB.size _⟩
             rw [← HT.out]
             first | (exact (tail2_3 (by omega)).symm) | (exact (tail2_4 (by omega) (by omega)).symm))
          | (go_roundw
             case rel => exact ⟨3, by omega, rfl, Lib.hid (by rw [← HT.out]; exact (tail2_mid (by omega)).symm), hk.below ((Below.refl _ _).alloc (Nat.le_refl _) _), hB.alloc hB.size _⟩
             case measure => simp [intOf])
      · subst e
        have ix' : ∀ w, (Instr.index 119 fv (.int .i64 3)).run Try.prog w = .ok (.agg #[.int .i64 t, .int .i64 1, .int .i64 4096, .int .i64 2]) w := ix
        clear ix
        go_wp2
        all_goals first
          | (go_ret
             refine ⟨ret_i64 ?_, hB.alloc hB.size _⟩
             rw [← HT.out]
             first | (exact (tail3_3 (by omega)).symm) | (exact (tail3_4 (by omega) (by omega)).symm))
          | (go_roundw
             case rel => exact ⟨4, by omega, rfl, Lib.hid (by rw [← HT.out]; exact (tail3_mid (by omega)).symm), hk.below ((Below.refl _ _).alloc (Nat.le_refl _) _), hB.alloc hB.size _⟩
             case measure => simp [intOf])
      · subst e
        have ix' : ∀ w, (Instr.index 119 fv (.int .i64 4)).run Try.prog w = .ok (.agg #[.int .i64 d, .int .i64 0, .int .i64 32, .int .i64 1]) w := ix
        clear ix
        go_wp2
        all_goals first
          | (go_ret
             refine ⟨ret_i64 ?_, hB.alloc hB.size _⟩
             rw [← HT.out]
             first | (exact (tail4_3 (by omega)).symm) | (exact (tail4_4 (by omega) (by omega)).symm))
          | (go_roundw
             case rel => exact ⟨5, by omega, rfl, Lib.hid (by rw [← HT.out]; exact (tail4_mid (by omega)).symm), hk.below ((Below.refl _ _).alloc (Nat.le_refl _) _), hB.alloc hB.size _⟩
             case measure => simp [intOf])
      · subst e
        have ix' : ∀ w, (Instr.index 119 fv (.int .i64 5)).run Try.prog w = .ok (.agg #[.int .i64 l, .int .i64 1, .int .i64 1048576, .int .i64 4]) w := ix
        clear ix
        go_wp2
        all_goals first
          | (go_ret
             refine ⟨ret_i64 ?_, hB.alloc hB.size _⟩
             rw [← HT.out]
             first | (exact (tail5_3 (by omega)).symm) | (exact (tail5_4 (by omega) (by omega)).symm))
          | (go_roundw
             case rel => exact ⟨6, by omega, rfl, Lib.hid (by rw [← HT.out]; exact (tail5_mid (by omega)).symm), hk.below ((Below.refl _ _).alloc (Nat.le_refl _) _), hB.alloc hB.size _⟩
             case measure => simp [intOf])
      · subst e
        have ix' : ∀ w, (Instr.index 119 fv (.int .i64 6)).run Try.prog w = .ok (.agg #[.int .i64 p, .int .i64 1, .int .i64 1024, .int .i64 2]) w := ix
        clear ix
        go_wp2
        all_goals first
          | (go_ret
             refine ⟨ret_i64 ?_, hB.alloc hB.size _⟩
             rw [← HT.out]
             first | (exact (tail6_3 (by omega)).symm) | (exact (tail6_4 (by omega) (by omega)).symm))
          | (go_roundw
             case rel => exact ⟨7, by omega, rfl, Lib.hid (by rw [← HT.out]; exact (tail6_mid (by omega)).symm), hk.below ((Below.refl _ _).alloc (Nat.le_refl _) _), hB.alloc hB.size _⟩
             case measure => simp [intOf])
    · obtain rfl : j = 7 := by omega
      go_wp2
      go_ret
      exact ⟨ret_i64 HT.out, hB⟩
end Go.Proofs.Ytbhikceekldenaa.Hb

/- The walk of deal.draws, whatever is to be done with what is drawn. -/
import Derived.Test.YtbhikceekldenaaHbSrc
import Derived.Test.YtbhikceekldenaaHbRdI
namespace Go.Proofs.Ytbhikceekldenaa.Hb
set_option linter.unusedVariables false
open Go.RowKit

def errR {α : Type} (r : Option α × Nat) : Int := match r.1 with | some _ => 0 | none => 7
set_option maxRecDepth 100000 in
set_option maxHeartbeats 2000000 in
theorem draws_any {v : Value} {b N0 : Nat} {num : Nat → Int} {J : Nat → World → Prop} (S : Src v b N0 num J) (F : Nat) (hF : ∀ (args : Array Value) (w : World), (callFunc F args).run Try.prog w = .ok (.enter F args) w) (cps : Array Value) (bs : List Int) (A : Option Addr) (cap : Nat) (step : List Int → Nat → Int → List Int)
    (I : Nat → List Int → World → Prop) (hbs : ∀ n ∈ bs, 0 < n ∧ n ≤ 1048576) (hlen : bs.length ≤ 1048576)
    (hN : ∀ i p W, I i p W → N0 ≤ W.heap.size)
    (hI : ∀ i p W W', I i p W → W.grownBy W' (some b) → I i p W')
    (hbd : ∀ i p W, I i p W → RdI W A bs)
    (hdo : ∀ (i : Nat) p (x : Int) W, i < bs.length → 0 ≤ x → x < bs.getD i 0 → I i p W → Calls Try.prog F (#[.int .i64 i, .int .i64 x] ++ cps) W fun e W' => (∃ u, e = .returned u) ∧ I (i + 1) (step p i x) W' ∧ Below N0 W W')
    (k : Nat) (hk : k ≤ 1048576) (p : List Int) (w : World) (hJ : J k w) (h0 : I 0 p w) :
    Calls Try.prog 50 #[v, .slice A bs.length cap, .func (.func F) #[] cps] w fun e W' =>
      e = .returned (.int .i64 (errR (runO num step bs 0 p k))) ∧ J (runO num step bs 0 p k).2 W' ∧ ∃ i q, I i q W' ∧ ∀ p', (runO num step bs 0 p k).1 = some p' → q = p' ∧ i = bs.length := by
  obtain ⟨n, hn⟩ : ∃ n, bs.length = n := ⟨_, rfl⟩
  rw [hn] at hlen ⊢
  obtain ⟨R, hR⟩ : ∃ R, runO num step bs 0 p k = R := ⟨_, rfl⟩
  rw [hR]
  have HR := Lib.hid hR
  have HN := Lib.hid hn
  have HS := Lib.hid S
  have HB := Lib.hid hbs
  have HI := Lib.hid hI
  have HBD := Lib.hid hbd
  have HDO := Lib.hid hdo
  have HNN := Lib.hid hN
  have HJ := Lib.hid hJ
  have H0 := Lib.hid h0
  have HF := Lib.hid hF
  clear hF hR hn S hbs hI hbd hdo hN hJ h0
  go_enter Try.func50, Try.ntmps50
  go_wp2_with fail
  go_loopw [13] (fun iv wr => ∃ i kk : Nat, i ≤ n ∧ iv = .int .i64 i ∧ Hid (kk ≤ k + i * 64 ∧ J kk wr ∧ ∃ q, I i q wr ∧ runO num step (bs.drop i) i q kk = R)) (fun iv _ => n - (intOf iv).toNat)
  case atStart => exact ⟨0, k, Nat.zero_le _, rfl, Lib.hid ⟨by omega, HJ.out, p, H0.out, HR.out⟩⟩
  case round =>
    obtain ⟨i, kk, hi, rfl, HQ⟩ := hrel
    by_cases hlt : i < n
    · have hlt' : (i : Int) < n := by omega
      obtain ⟨q, HQ1⟩ : ∃ q, Hid (I i q wr ∧ runO num step (bs.drop i) i q kk = R) := by obtain ⟨_, _, q, h⟩ := HQ.out; exact ⟨q, Lib.hid h⟩
      obtain ⟨ad, rfl, ha⟩ := (HBD.out i q wr HQ1.out.1).at (k := i) (by rw [HN.out]; exact hlt)
      have y := ha i (by rw [HN.out]; exact hlt)
      obtain ⟨m, hm⟩ : ∃ m, bs.getD i 0 = m := ⟨_, rfl⟩
      rw [hm] at y
      have hmem : m ∈ bs := by
        rw [← hm, List.getD_eq_getElem?_getD, List.getElem?_eq_getElem (by rw [HN.out]; exact hlt)]
        exact List.getElem_mem _
      obtain ⟨m1, m2⟩ := HB.out m hmem
      have hdrop : bs.drop i = m :: bs.drop (i + 1) := by
        rw [← hm, List.getD_eq_getElem?_getD, List.getElem?_eq_getElem (by rw [HN.out]; exact hlt)]
        exact List.drop_eq_getElem_cons (by rw [HN.out]; exact hlt)
      have HD := Lib.hid hdrop
      have HM := Lib.hid hm
      clear ha hmem hdrop hm
      go_wp2_with fail
      refine (HS.out.below m kk _ (HNN.out _ _ _ HQ1.out.1) m1 m2 (by have := HQ.out.1; omega) HQ.out.2.1).mono ?_
      rintro e w1 ⟨rfl, hJ1, hg1⟩
      have hI1 := HI.out _ _ _ _ HQ1.out.1 hg1
      have hkk := @draw_k num m 64 kk
      rcases hd : drawO num m 64 kk with ⟨_ | x, k1⟩
      · have hr : R = (none, k1) := by rw [← HQ1.out.2, HD.out, run_none hd]
        rw [hd] at hJ1
        have HI1 := Lib.hid hI1
        have HJ1 := Lib.hid hJ1
        have HRR := Lib.hid hr
        clear hI1 hJ1 hr hg1 hkk hd
        unfold belV
        go_wp2_with fail
        go_ret
        rw [HRR.out]
        exact ⟨rfl, HJ1.out, i, q, HI1.out, fun p' h => by cases h⟩
      · have hr : runO num step (bs.drop (i + 1)) (i + 1) (step q i x) k1 = R := by rw [← HQ1.out.2, HD.out, run_some hd]
        have hx := draw_lt m1 hd
        have hk1 : k1 ≤ k + (i + 1) * 64 := by have := HQ.out.1; rw [hd] at hkk; simp only at hkk; omega
        rw [hd] at hJ1
        have hcall := HDO.out i q x w1 (by rw [HN.out]; exact hlt) hx.1 (by rw [HM.out]; exact hx.2) hI1
        have HJ1 := Lib.hid hJ1
        have HRR := Lib.hid hr
        have HC := Lib.hid hcall
        have HK1 := Lib.hid hk1
        obtain ⟨x0, x1⟩ := hx
        have hwx : IntKind.i64.wrap x = x := by rw [IntKind.wrap_i64]; omega
        clear hI1 hJ1 hr hg1 hkk hd hcall hk1
        unfold belV
        go_wp2_with fail
        rw [HF.out]
        refine Calls.mono HC.out ?_
        rintro e w2 ⟨⟨u, rfl⟩, hI2, hb2⟩
        have HQ2 : Hid (k1 ≤ k + (i + 1) * 64 ∧ J k1 w2 ∧ ∃ q, I (i + 1) q w2 ∧ runO num step (bs.drop (i + 1)) (i + 1) q k1 = R) := Lib.hid ⟨HK1.out, HS.out.keep _ _ _ HJ1.out hb2, _, hI2, HRR.out⟩
        clear hI2 hb2
        go_wp2_with fail
        go_roundw
        case rel => exact ⟨i + 1, k1, hlt, by go_num, HQ2⟩
        case measure => simp [intOf]; omega
    · obtain rfl : i = n := by omega
      obtain ⟨q, HQ1⟩ : ∃ q, Hid (J kk wr ∧ I i q wr ∧ R = (some q, kk)) := by
        obtain ⟨_, hj, q, h, hr⟩ := HQ.out
        rw [List.drop_of_length_le (by rw [HN.out]; exact Nat.le_refl _), run_nil] at hr
        exact ⟨q, Lib.hid ⟨hj, h, hr.symm⟩⟩
      go_wp2_with fail
      go_ret
      rw [HQ1.out.2.2]
      exact ⟨rfl, HQ1.out.1, i, q, HQ1.out.2.1, fun p' h => by cases h; exact ⟨rfl, rfl⟩⟩
end Go.Proofs.Ytbhikceekldenaa.Hb

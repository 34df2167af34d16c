/- The document's k of n. -/
import Derived.Test.YtbhikceekldenaaHbDealRp
import Derived.Test.YtbhikceekldenaaHbDealSort
namespace Go.Proofs.Ytbhikceekldenaa.Hb
set_option linter.unusedVariables false
open Go.RowKit

theorem bndChoose_len (n k : Nat) : (bndChoose n k).length = k := by simp [bndChoose]
theorem bndChoose_get (n k j : Nat) (h : j < k) : (bndChoose n k).getD j 0 = ((n - j : Nat) : Int) := by
  rw [List.getD_eq_getElem?_getD, List.getElem?_eq_getElem (by rw [bndChoose_len]; exact h)]
  simp [bndChoose]
def mapR (f : List Int → List Int) (R : Option (List Int) × Nat) : Option (List Int) × Nat := (R.1.map f, R.2)
theorem mem_swap {p : List Int} {i j : Nat} {x : Int} (h : x ∈ swapL p i j) : x ∈ p ∨ x = 0 := by
  unfold swapL at h
  rcases List.mem_or_eq_of_mem_set h with h | rfl
  · rcases List.mem_or_eq_of_mem_set h with h | rfl
    · exact .inl h
    · by_cases hj : j < p.length
      · rw [List.getD_eq_getElem?_getD, List.getElem?_eq_getElem hj]; exact .inl (List.getElem_mem hj)
      · rw [List.getD_eq_getElem?_getD, List.getElem?_eq_none (by omega)]; exact .inr rfl
  · by_cases hj : i < p.length
    · rw [List.getD_eq_getElem?_getD, List.getElem?_eq_getElem hj]; exact .inl (List.getElem_mem hj)
    · rw [List.getD_eq_getElem?_getD, List.getElem?_eq_none (by omega)]; exact .inr rfl
theorem runChoose_in {num : Nat → Int} {n m k : Nat} {q : List Int} {R : Option (List Int) × Nat} (h : runO num stepChoose (bndChoose n m) 0 (rowI n) 0 = R) (hR : R = (some q, k)) (x : Int) (hx : x ∈ q) (hn : n ≤ 1048576) (hm : m ≤ n) : inR x := by
  rw [hR] at h
  have := run_inv (step := stepChoose) (fun _ p => ∀ x ∈ p, 0 ≤ x ∧ x ≤ 1048576) (bndChoose n m) 0 0 (rowI n) q k (fun j b r y hj h0 h1 hP z hz => by
    rcases mem_swap hz with h | rfl
    · exact hP z h
    · omega) (fun b hb => by
      simp only [bndChoose, List.mem_map, List.mem_range] at hb
      obtain ⟨i, hi, rfl⟩ := hb
      omega) (fun z hz => by
      simp only [rowI, List.mem_map, List.mem_range] at hz
      obtain ⟨i, hi, rfl⟩ := hz
      omega) h x hx
  unfold inR
  omega
set_option maxRecDepth 100000 in
set_option maxHeartbeats 2000000 in
theorem rchoose_any (A : Option Addr) (cap : Nat) (l : List Int) (n m : Nat) (hn : n ≤ 1048576) (hm : m ≤ n) (w : World) (hl : l.length ≤ 9223372036854775807) (hr : RdU w A l) :
    Calls Try.prog 30 #[.slice A l.length cap, .int .i64 n, .int .i64 m] w (RetRun (mapR (fun q => sortedO (q.take m)) (runO (numL l) stepChoose (bndChoose n m) 0 (rowI n) 0)) w) := by
  have h1 : decide ((n : Int) < 0) = false := decide_eq_false (by omega)
  have h2 : decide (1048576 < (n : Int)) = false := decide_eq_false (by omega)
  have h3 : decide ((m : Int) < 0) = false := decide_eq_false (by omega)
  have h4 : decide (n < m) = false := decide_eq_false (by omega)
  obtain ⟨R, hR⟩ : ∃ R, runO (numL l) stepChoose (bndChoose n m) 0 (rowI n) 0 = R := ⟨_, rfl⟩
  rw [hR]
  have HR := Lib.hid hR
  have HU := Lib.hid hr
  have KB := Lib.hid (fun k z w (a : 0 < z) (b : z ≤ 1048576) (c : k ≤ 4611686018427387904) (d : RdU w A l) => rbelow_any A cap l k z a b w hl c d)
  obtain ⟨L, hL⟩ : ∃ L, l.length = L := ⟨_, rfl⟩
  rw [hL] at KB hl ⊢
  clear hR hr hL
  go_enter Try.func30, Try.ntmps30
  go_wp2_with fail
  refine (rrow_any n hn _).mono ?_
  rintro e w1 ⟨g, c, rfl, ho, hb1⟩
  rw [rowI_len] at ho ⊢
  have HO := Lib.hid ho
  clear ho
  go_wp2_with fail
  go_loopw [10, 11] (fun av iv wr => ∃ j k : Nat, j ≤ m ∧ av = .int .i64 k ∧ iv = .int .i64 j ∧ k ≤ j * 64 ∧ Hid (∃ q, OwnI wr w.heap.size g n c q ∧ runO (numL l) stepChoose ((bndChoose n m).drop j) j q k = R) ∧ Below w.heap.size w wr) (fun _ iv _ => m - (intOf iv).toNat)
  case atStart => exact ⟨0, 0, Nat.zero_le _, rfl, rfl, Nat.zero_le _, Lib.hid ⟨rowI n, HO.out, HR.out⟩, hb1⟩
  case round =>
    obtain ⟨j, k, hj, rfl, rfl, hk, HQ, hB⟩ := hrel
    obtain ⟨q, HQ1⟩ : ∃ q, Hid (OwnI wr w.heap.size g n c q ∧ runO (numL l) stepChoose ((bndChoose n m).drop j) j q k = R) := by obtain ⟨q, h⟩ := HQ.out; exact ⟨q, Lib.hid h⟩
    by_cases hlt : j < m
    · have hlt' : (j : Int) < m := by omega
      obtain ⟨bd, hbd⟩ : ∃ bd : Nat, n - j = bd := ⟨_, rfl⟩
      have hbn : (n : Int) - j = (bd : Int) := by omega
      have hm1 : ((bndChoose n m).getD j 0) = (bd : Int) := by rw [bndChoose_get _ _ _ hlt, hbd]
      have hdrop : (bndChoose n m).drop j = (bd : Int) :: (bndChoose n m).drop (j + 1) := by rw [← hm1]; exact drop_at' (by rw [bndChoose_len]; exact hlt)
      have HD := Lib.hid hdrop
      have hjn : j < n := by omega
      have hjn' : (j : Int) < n := by omega
      have hb1' : 0 < bd := by omega
      have hb2' : bd ≤ 1048576 := by omega
      have HBD := Lib.hid hbd
      clear hm1 hdrop hbd
      go_wp2_with fail
      refine (KB.out k _ wr (by omega) (by omega) (by omega) (HU.out.below hB)).mono ?_
      rintro e w2 ⟨rfl, rfl⟩
      have hkk := @draw_k (numL l) (bd : Int) 64 k
      rcases hd : drawO (numL l) (bd : Int) 64 k with ⟨_ | x, k1⟩
      · have hr : R = (none, k1) := by rw [← HQ1.out.2, HD.out, run_none hd]
        have hk1 : k1 = k + 64 := by
          have := draw_none hd
          exact this
        subst hk1
        have HRR := Lib.hid hr
        clear hr hkk hd
        unfold rbelV
        go_wp2_with fail
        refine bodyPost_ret (v := .tuple #[.slice none 0 0, .int .i64 ((k : Int) + 64), .int .i64 7]) (by simp [results, Try.results30, go_sem]) rfl ?_
        rw [HRR.out]
        exact ⟨rfl, hB⟩
      · have hr : runO (numL l) stepChoose ((bndChoose n m).drop (j + 1)) (j + 1) (swapL q j (j + x.toNat)) k1 = R := by rw [← HQ1.out.2, HD.out, run_some hd, stepChoose]
        have hx := draw_lt (by omega) hd
        rw [hd] at hkk
        obtain ⟨t, rfl⟩ : ∃ t, k1 = k + t := ⟨k1 - k, by simp only at hkk; omega⟩
        have ht : t ≤ 64 := by simp only at hkk; omega
        have HRR := Lib.hid hr
        obtain ⟨y, rfl⟩ : ∃ y : Nat, x = y := ⟨x.toNat, by omega⟩
        rw [Int.toNat_natCast] at hr
        obtain ⟨u, hu⟩ : ∃ u, j + y = u := ⟨_, rfl⟩
        rw [hu] at hr
        have hun : u < n := by have := HBD.out; omega
        have hun' : (u : Int) < n := by omega
        have hwy : IntKind.i64.wrap (y : Int) = y := by rw [IntKind.wrap_i64]; omega
        have hws : IntKind.i64.wrap ((j : Int) + y) = (u : Int) := by rw [IntKind.wrap_i64]; omega
        have hsum : (j : Int) + y = (u : Int) := by omega
        have htk : k + t - k = t := by omega
        have c1 := HQ1.out.1.at hjn
        have c2 := HQ1.out.1.at hun
        have cf := World.ownsRow.frozenAt HQ1.out.1
        have hs := swap_own HQ1.out.1 j u
        obtain ⟨pi, e1⟩ : ∃ px, q.getD j 0 = px := ⟨_, rfl⟩
        obtain ⟨py, e2⟩ : ∃ pk, q.getD u 0 = pk := ⟨_, rfl⟩
        rw [e1] at c1
        rw [e2] at c2
        rw [e1, e2] at hs
        obtain ⟨z, c3⟩ : ∃ z, (wr.setCell ⟨g, j, none⟩ (.int .i64 py)).cell? ⟨g, u, none⟩ = some (.int .i64 z) := by
          have s1 := (World.ownsRow.stored HQ1.out.1 j (.int .i64 py)).1
          rw [ints_set] at s1
          exact ⟨_, OwnI.at s1 hun⟩
        have hgb := (World.ownsRow.lt HQ1.out.1 g rfl).1
        have HNX : Hid (∃ q', OwnI ((wr.setCell ⟨g, j, none⟩ (.int .i64 py)).setCell ⟨g, u, none⟩ (.int .i64 pi)) w.heap.size g n c q' ∧ runO (numL l) stepChoose ((bndChoose n m).drop (j + 1)) (j + 1) q' (k + t) = R) := Lib.hid ⟨_, hs.1, hr⟩
        have HBN : Below w.heap.size w ((wr.setCell ⟨g, j, none⟩ (.int .i64 py)).setCell ⟨g, u, none⟩ (.int .i64 pi)) := (hB.setCell (p := ⟨g, j, none⟩) hgb _).setCell (p := ⟨g, u, none⟩) hgb _
        have hk2 : k + t ≤ (j + 1) * 64 := by omega
        obtain ⟨hx0, hx1⟩ := hx
        clear hr HRR hkk hd hs e1 e2 hgb hu hws
        unfold rbelV
        simp only [htk]
        clear htk
        go_wp2_with fail
        go_roundw
        case rel => exact ⟨j + 1, k + t, hlt, by go_num, by go_num, hk2, HNX, HBN⟩
        case measure => simp [intOf]; omega
    · obtain rfl : j = m := by omega
      have hr : R = (some q, k) := by
        have := HQ1.out.2
        rw [List.drop_of_length_le (by rw [bndChoose_len]; exact Nat.le_refl _), run_nil] at this
        exact this.symm
      have HRR := Lib.hid hr
      have hcap := own_cap HQ1.out.1
      have hjc : (j : Int) ≤ c := by omega
      have ht : OwnI wr w.heap.size g j c (q.take j) := own_take HQ1.out.1 j hm
      have hlen := ht.len
      have hsm := RdI.own (A := some ⟨g, 0, none⟩) (n := j) (c := c) (w := wr) (base := w.heap.size) (l := q.take j) (by rw [hlen]; exact ht) (by
        have hq := HQ1.out.2
        intro x hx
        exact runChoose_in HR.out HRR.out x (List.mem_of_mem_take hx) hn hm)
      have ks := rsorted_any (some ⟨g, 0, none⟩) c (q.take j) (by rw [hlen]; omega) wr hsm
      rw [hlen] at ks
      have KS := Lib.hid ks
      have HT := Lib.hid ht
      clear hr hsm ks ht
      go_wp2_with fail
      refine KS.out.mono ?_
      rintro e w5 ⟨g5, c5, rfl, ho5, hb5⟩
      have hb6 := hB.trans (hb5.mono hB.size)
      have HO5 := Lib.hid ho5
      clear ho5 hb5
      go_wp2_with fail
      refine bodyPost_ret (v := .tuple #[.slice (some ⟨g5, 0, none⟩) (sortedO (q.take j)).length c5, .int .i64 k, .int .i64 0]) (by simp [results, Try.results30, go_sem]) rfl ?_
      rw [HRR.out]
      exact ⟨g5, c5, rfl, World.ownsRow.mono HO5.out hB.size, hb6⟩
end Go.Proofs.Ytbhikceekldenaa.Hb

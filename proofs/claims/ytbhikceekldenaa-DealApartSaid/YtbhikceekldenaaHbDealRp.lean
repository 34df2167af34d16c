/- The document's permutation and weights. -/
import Derived.Test.YtbhikceekldenaaHbDealRef
namespace Go.Proofs.Ytbhikceekldenaa.Hb
set_option linter.unusedVariables false
open Go.RowKit

theorem bndPerm_len (n : Nat) : (bndPerm n).length = n - 1 := by simp [bndPerm]
theorem bndPerm_get (n j : Nat) (h : j < n - 1) : (bndPerm n).getD j 0 = ((n - j : Nat) : Int) := by
  rw [List.getD_eq_getElem?_getD, List.getElem?_eq_getElem (by rw [bndPerm_len]; exact h)]
  simp [bndPerm]
theorem drop_at' {l : List Int} {j : Nat} (h : j < l.length) : l.drop j = l.getD j 0 :: l.drop (j + 1) := by
  rw [List.getD_eq_getElem?_getD, List.getElem?_eq_getElem h]
  exact List.drop_eq_getElem_cons h
/-- What the document's dealing hands back. -/
def RetRun (R : Option (List Int) × Nat) (w : World) (e : Ending) (w' : World) : Prop :=
  match R.1 with
  | none => e = .returned (.tuple #[.slice none 0 0, .int .i64 R.2, .int .i64 7]) ∧ Below w.heap.size w w'
  | some q => ∃ g c, e = .returned (.tuple #[.slice (some ⟨g, 0, none⟩) q.length c, .int .i64 R.2, .int .i64 0]) ∧ OwnI w' w.heap.size g q.length c q ∧ Below w.heap.size w w'
theorem RdU.below {w w1 : World} {A : Option Addr} {l : List Int} (h : RdU w A l) (hb : Below w.heap.size w w1) : RdU w1 A l :=
  ⟨h.1, h.2.imp id fun ⟨ad, e, hc⟩ => ⟨ad, e, fun i hi => (hb.cell (World.block_lt_of_cell? w _ (hc i hi))).trans (hc i hi)⟩⟩
set_option maxRecDepth 100000 in
set_option maxHeartbeats 2000000 in
theorem rperm_any (A : Option Addr) (cap : Nat) (l : List Int) (n : Nat) (hn : n ≤ 1048576) (w : World) (hl : l.length ≤ 9223372036854775807) (hr : RdU w A l) :
    Calls Try.prog 27 #[.slice A l.length cap, .int .i64 n] w (RetRun (runO (numL l) (stepPerm n) (bndPerm n) 0 (rowI n) 0) w) := by
  have h1 : decide ((n : Int) < 0) = false := decide_eq_false (by omega)
  have h2 : decide (1048576 < (n : Int)) = false := decide_eq_false (by omega)
  obtain ⟨R, hR⟩ : ∃ R, runO (numL l) (stepPerm n) (bndPerm n) 0 (rowI n) 0 = R := ⟨_, rfl⟩
  rw [hR]
  have HR := Lib.hid hR
  have HU := Lib.hid hr
  have KB := Lib.hid (fun k m w (a : 0 < m) (b : m ≤ 1048576) (c : k ≤ 4611686018427387904) (d : RdU w A l) => rbelow_any A cap l k m a b w hl c d)
  obtain ⟨L, hL⟩ : ∃ L, l.length = L := ⟨_, rfl⟩
  rw [hL] at KB hl ⊢
  clear hR hr hL
  go_enter Try.func27, Try.ntmps27
  go_wp2_with fail
  refine (rrow_any n hn _).mono ?_
  rintro e w1 ⟨g, c, rfl, ho, hb1⟩
  rw [rowI_len] at ho ⊢
  have HO := Lib.hid ho
  clear ho
  go_wp2_with fail
  go_loopw [8, 9] (fun av iv wr => ∃ j k : Nat, j ≤ n - 1 ∧ av = .int .i64 k ∧ iv = .int .i64 ((n : Int) - 1 - j) ∧ k ≤ j * 64 ∧ Hid (∃ q, OwnI wr w.heap.size g n c q ∧ runO (numL l) (stepPerm n) ((bndPerm n).drop j) j q k = R) ∧ Below w.heap.size w wr) (fun _ iv _ => (intOf iv).toNat)
  case atStart => exact ⟨0, 0, Nat.zero_le _, rfl, by go_num, Nat.zero_le _, Lib.hid ⟨rowI n, HO.out, HR.out⟩, hb1⟩
  case round =>
    obtain ⟨j, k, hj, rfl, rfl, hk, HQ, hB⟩ := hrel
    obtain ⟨q, HQ1⟩ : ∃ q, Hid (OwnI wr w.heap.size g n c q ∧ runO (numL l) (stepPerm n) ((bndPerm n).drop j) j q k = R) := by obtain ⟨q, h⟩ := HQ.out; exact ⟨q, Lib.hid h⟩
    by_cases hlt : j < n - 1
    · obtain ⟨i, hi⟩ : ∃ i : Nat, (n : Int) - 1 - j = i := ⟨n - 1 - j, by omega⟩
      rw [hi]
      have hi1 : (1 : Int) ≤ i := by omega
      have hin : i < n := by omega
      have hin' : (i : Int) < n := by omega
      have hm : ((bndPerm n).getD j 0) = (i : Int) + 1 := by rw [bndPerm_get _ _ hlt]; omega
      have hdrop : (bndPerm n).drop j = ((i : Int) + 1) :: (bndPerm n).drop (j + 1) := by rw [← hm]; exact drop_at' (by rw [bndPerm_len]; exact hlt)
      have HD := Lib.hid hdrop
      have hii : n - 1 - j = i := by omega
      have HI := Lib.hid hi
      have HII := Lib.hid hii
      clear hm hdrop hi hii
      go_wp2_with fail
      refine (KB.out k _ wr (by omega) (by omega) (by omega) (HU.out.below hB)).mono ?_
      rintro e w2 ⟨rfl, rfl⟩
      have hkk := @draw_k (numL l) ((i : Int) + 1) 64 k
      rcases hd : drawO (numL l) ((i : Int) + 1) 64 k with ⟨_ | x, k1⟩
      · have hr : R = (none, k1) := by rw [← HQ1.out.2, HD.out, run_none hd]
        have hk1 : k1 = k + 64 := by
          have := draw_none hd
          exact this
        subst hk1
        have HRR := Lib.hid hr
        clear hr hkk hd
        unfold rbelV
        go_wp2_with fail
        refine bodyPost_ret (v := .tuple #[.slice none 0 0, .int .i64 ((k : Int) + 64), .int .i64 7]) (by simp [results, Try.results27, go_sem]) rfl ?_
        rw [HRR.out]
        exact ⟨rfl, hB⟩
      · have hr : runO (numL l) (stepPerm n) ((bndPerm n).drop (j + 1)) (j + 1) (swapL q i x.toNat) k1 = R := by rw [← HQ1.out.2, HD.out, run_some hd, stepPerm, HII.out]
        have hx := draw_lt (by omega) hd
        rw [hd] at hkk
        obtain ⟨t, rfl⟩ : ∃ t, k1 = k + t := ⟨k1 - k, by simp only at hkk; omega⟩
        have ht : t ≤ 64 := by simp only at hkk; omega
        have HRR := Lib.hid hr
        obtain ⟨y, rfl⟩ : ∃ y : Nat, x = y := ⟨x.toNat, by omega⟩
        have hy : y < n := by omega
        have hy' : (y : Int) < n := by omega
        have hwy : IntKind.i64.wrap (y : Int) = y := by rw [IntKind.wrap_i64]; omega
        have htk : k + t - k = t := by omega
        have c1 := HQ1.out.1.at hin
        have c2 := HQ1.out.1.at hy
        have cf := World.ownsRow.frozenAt HQ1.out.1
        have hs := swap_own HQ1.out.1 i y
        obtain ⟨pi, e1⟩ : ∃ px, q.getD i 0 = px := ⟨_, rfl⟩
        obtain ⟨py, e2⟩ : ∃ pk, q.getD y 0 = pk := ⟨_, rfl⟩
        rw [e1] at c1
        rw [e2] at c2
        rw [e1, e2] at hs
        obtain ⟨z, c3⟩ : ∃ z, (wr.setCell ⟨g, i, none⟩ (.int .i64 py)).cell? ⟨g, y, none⟩ = some (.int .i64 z) := by
          have s1 := (World.ownsRow.stored HQ1.out.1 i (.int .i64 py)).1
          rw [ints_set] at s1
          exact ⟨_, OwnI.at s1 hy⟩
        have hgb := (World.ownsRow.lt HQ1.out.1 g rfl).1
        have HNX : Hid (∃ q', OwnI ((wr.setCell ⟨g, i, none⟩ (.int .i64 py)).setCell ⟨g, y, none⟩ (.int .i64 pi)) w.heap.size g n c q' ∧ runO (numL l) (stepPerm n) ((bndPerm n).drop (j + 1)) (j + 1) q' (k + t) = R) := Lib.hid ⟨_, hs.1, by have := HRR.out; rw [Int.toNat_natCast] at this; exact this⟩
        have HBN : Below w.heap.size w ((wr.setCell ⟨g, i, none⟩ (.int .i64 py)).setCell ⟨g, y, none⟩ (.int .i64 pi)) := (hB.setCell (p := ⟨g, i, none⟩) hgb _).setCell (p := ⟨g, y, none⟩) hgb _
        have hk2 : k + t ≤ (j + 1) * 64 := by omega
        have ei : (i : Int) - 1 = (n : Int) - 1 - ((j + 1 : Nat) : Int) := by have := HI.out; omega
        have EI := Lib.hid ei
        clear hr hkk hd hs e1 e2 hx ei hgb
        unfold rbelV
        simp only [htk]
        clear htk
        go_wp2_with fail
        go_roundw
        case rel => exact ⟨j + 1, k + t, hlt, by go_num, by rw [EI.out], hk2, HNX, HBN⟩
        case measure => simp [intOf]; omega
    · have hd : decide (1 ≤ (n : Int) - 1 - j) = false := decide_eq_false (by omega)
      have hr : R = (some q, k) := by
        have := HQ1.out.2
        rw [List.drop_of_length_le (by rw [bndPerm_len]; omega), run_nil] at this
        exact this.symm
      have HRR := Lib.hid hr
      clear hr
      go_wp2_with fail
      refine bodyPost_ret (v := .tuple #[.slice (some ⟨g, 0, none⟩) n c, .int .i64 k, .int .i64 0]) (by simp [results, Try.results27, go_sem]) rfl ?_
      rw [HRR.out]
      have hql := HQ1.out.1.len
      refine ⟨g, c, by rw [hql], by rw [hql]; exact HQ1.out.1, hB⟩
end Go.Proofs.Ytbhikceekldenaa.Hb

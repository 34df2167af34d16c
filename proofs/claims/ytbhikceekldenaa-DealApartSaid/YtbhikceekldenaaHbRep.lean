/- slices.Repeat of one number. -/
import Derived.Test.YtbhikceekldenaaHbDealSort
import Derived.Shelf.Bits.Mul64
import Derived.Laws.CopyOwn
import Derived.Deep.RegionLaw
namespace Go.Proofs.Ytbhikceekldenaa.Hb
set_option linter.unusedVariables false
open Go.RowKit Go.Shelf
attribute [local go_sem ↓] Go.wp_at_zero Go.wp_at_succ

def lays264_ren : Go.Shelf.Ren := ⟨fun | 264 => 106 | n => n, fun | 53 => 72 | 46 => 133 | n => n, fun | n => n⟩
theorem lays264 : Go.Proofs.Lays.n264 Try.prog lays264_ren := {
  mixed := by kernel_rfl
  f264 := Try.func106.trans (congrArg some (by kernel_rfl))
  t46 := Try.underlying133
  a46 := Try.isAgg133
  z46 := Try.sizeOf133
  v46 := Try.zeroValue133
  t53 := Try.underlying72
  a53 := Try.isAgg72
  z53 := Try.sizeOf72
  v53 := Try.zeroValue72 }
theorem mul64_any (x y : Nat) (hx : x < 18446744073709551616) (hy : y < 18446744073709551616) (w : World) :
    Calls Try.prog 106 #[.int .u64 x, .int .u64 y] w fun e w' => e = .returned (.tuple #[.int .u64 ((x * y / 18446744073709551616 : Nat) : Int), .int .u64 ((x * y % 18446744073709551616 : Nat) : Int)]) ∧ w' = w := Any.bits_Mul64 lays264 x y hx hy w
set_option maxRecDepth 100000 in
set_option maxHeartbeats 400000 in
theorem mulOne_any (n : Nat) (hn : n ≤ 1048576) (w : World) : Calls Try.prog 83 #[.int .u64 1, .int .u64 n] w fun e w' => e = .returned (.tuple #[.int .u64 0, .int .u64 n]) ∧ w = w' := by
  have h := mul64_any 1 n (by omega) (by omega) w
  rw [show 1 * n / 18446744073709551616 = 0 by omega, show 1 * n % 18446744073709551616 = n by omega] at h
  have H := Lib.hid h
  clear h
  go_enter Try.func83, Try.ntmps83
  go_wp2_with fail
  refine H.out.mono ?_
  rintro e w1 ⟨rfl, hw⟩
  obtain rfl : w = w1 := hw.symm
  go_wp2_with fail
  go_ret2
  exact ⟨rfl, rfl⟩
theorem rep_splice (n m k : Nat) (v : Int) (h : m + k ≤ n) : splice (ints (List.replicate m v ++ List.replicate (n - m) 0)) m (ints (List.replicate k v)) = ints (List.replicate (m + k) v ++ List.replicate (n - (m + k)) 0) := by
  unfold splice ints
  rw [← List.map_take, ← List.map_drop, ← List.map_append, ← List.map_append]
  congr 1
  rw [List.length_map, List.length_replicate, List.take_append_of_le_length (by simp), List.take_of_length_le (by simp), List.drop_append, List.drop_of_length_le (by simp), List.nil_append, List.length_replicate, List.drop_replicate, ← List.append_assoc, List.replicate_append_replicate]
  congr 2
  omega
/-- copy into a block that is known whole. -/
theorem run_copy_any {P : Program} {w : World} (dT sT ty elem : TypeId) (hu : P.underlying dT = some (.slice elem)) (hsz : (P.info? elem).map (·.size) = some 1)
    (g off dLen dCap : Nat) (ad : Addr) (sLen sCap : Nat) (cur : List Value) (t : TypeId) (hg : w.heap[g]? = some (.cells cur.toArray t (0, 0))) (cs : List Value) (hn : cs.length = Nat.min sLen dLen)
    (hsrc : ∀ j v, cs[j]? = some v → w.cell? (ad.add j) = some v) (hfit : off + cs.length ≤ cur.length) (h1 : ∀ v ∈ cs, v.oneCell' = true) (B : Nat) (w0 : World) (hb : Below B w0 w) (hBg : B ≤ g) :
    ∃ w', (Builtin.copy_ #[dT, sT] ty #[.slice (some ⟨g, off, none⟩) dLen dCap, .slice (some ad) sLen sCap]).run P w = .ok (goInt cs.length) w' ∧ w'.heap[g]? = some (.cells (splice cur off cs).toArray t (0, 0)) ∧ Below B w0 w' := by
  have hrun := run_copy_row (P := P) w dT sT ty elem g off dLen dCap ad sLen sCap cur.toArray t cs hu hsz hg hn hsrc (by simpa using hfit) h1
  exact ⟨_, hrun, by simpa [splice] using setRow_heap w g _ _ t _ hg, below_setRow hb hBg _⟩
set_option maxRecDepth 100000 in
set_option maxHeartbeats 2000000 in
theorem repeat_any (b : Nat) (n : Nat) (v : Int) (hn : n ≤ 1048576) (w : World) (hb : w.cell? ⟨b, 0, none⟩ = some (.int .i64 v)) :
    Calls Try.prog 58 #[.slice (some ⟨b, 0, none⟩) 1 1, .int .i64 n] w (RetRow (List.replicate n v) w) := by
  obtain ⟨i0, hi, hz0, hz1, hz2⟩ := info_parts info_int
  have hsz : (Try.prog.info? 3).map (·.size) = some 1 := by rw [hi]; exact congrArg some hz1
  have hmm := mulOne_any n hn w
  have HM := Lib.hid hmm
  have HS := Lib.hid hsz
  clear hmm hsz
  have hw1 : IntKind.i64.wrap (n : Int) = n := by rw [IntKind.wrap_i64]; omega
  go_enter Try.func58, Try.ntmps58
  go_wp2_with (first
    | (go_at_call 83; refine HM.out.mono ?_; rintro e w1 ⟨rfl, rfl⟩)
    | (at_make; refine wpList_make_full _ rfl _ _ 54 rfl w.heap.size 3 i0 (.int .i64 0) 1 Try.underlying54 hi hz0 hz1 .i64 .i64 _ _ n rfl rfl rfl rfl (by rw [hz2]; omega) (by unfold maxLen; omega) (by simp) ?_; intro w1 hown hgrow))
  have hblk : w1.heap[w.heap.size]? = some (.cells (ints (List.replicate 0 v ++ List.replicate (n - 0) 0)).toArray 3 (0, 0)) := by
    rcases hown.2 with ⟨h0, _⟩ | ⟨g', cap', cur, e, _, hg, _, _, h3, h4⟩
    · cases h0
    · simp only [Value.slice.injEq, Option.some.injEq, Addr.mk.injEq, and_true, true_and] at e
      obtain ⟨rfl, rfl⟩ := e
      rw [hg]
      congr 2
      have e1 : cur.toList.take (n * 1) = cur.toList := List.take_of_length_le (by rw [Array.length_toList]; omega)
      have e2 : (madeCells (Value.int IntKind.i64 0).cells n).toList = List.replicate n (Value.int .i64 0) := by rw [← toList_madeCells_one]; rfl
      rw [e1, Nat.mul_one, e2] at h4
      rw [List.replicate_zero, List.nil_append, Nat.sub_zero, ints_zeros, ← h4]
  have hbel : Below w.heap.size w w1 := ⟨hgrow.os, hgrow.tape, hgrow.output, hgrow.size, fun k hk => hgrow.block k hk (by simp)⟩
  have blt := World.block_lt_of_cell? w _ hb
  have hb1 := (hbel.cell (p := ⟨b, 0, none⟩) blt).trans hb
  have HB1 := Lib.hid hblk
  clear hown hgrow hblk
  have hlen : ∀ m, (ints (List.replicate m v)).length = m := fun m => by rw [ints_len, List.length_replicate]
  obtain ⟨w2, hr, h1, h2⟩ := run_copy_any (P := Try.prog) 54 54 3 3 Try.underlying54 HS.out w.heap.size 0 n n ⟨b, 0, none⟩ 1 1 _ _ HB1.out (ints (List.replicate (min 1 n) v)) (hlen _) (fun j u hj => by
    have hjl := (List.getElem?_eq_some_iff.1 hj).1
    rw [hlen] at hjl
    have : j = 0 := by omega
    subst this
    rw [ints_get (by rw [List.length_replicate]; exact hjl)] at hj
    rw [← hj]
    rw [show (⟨b, 0, none⟩ : Addr).add 0 = ⟨b, 0, none⟩ from rfl, hb1]
    congr 2
    rw [List.getD_eq_getElem?_getD, List.getElem?_replicate, if_pos hjl]
    rfl) (by rw [hlen, ints_len]; simp; omega) (ints_one' _) w.heap.size w hbel (Nat.le_refl _)
  rw [hlen] at hr
  rw [rep_splice n 0 (min 1 n) v (by omega), Nat.zero_add] at h1
  rw [hr]
  obtain ⟨g, hg⟩ : ∃ g, w.heap.size = g := ⟨_, rfl⟩
  have HG := Lib.hid hg
  obtain ⟨m0, hm0⟩ : ∃ m0, min 1 n = m0 := ⟨_, rfl⟩
  rw [hm0] at h1
  have hmle : m0 ≤ n := by omega
  have hm1 : 0 < n → 0 < m0 := by omega
  have HX : Hid (w2.heap[g]? = some (.cells (ints (List.replicate m0 v ++ List.replicate (n - m0) 0)).toArray 3 (0, 0)) ∧ Below g w w2 ∧ (0 < n → 0 < m0)) := Lib.hid ⟨by rw [← hg]; exact h1, by rw [← hg]; exact h2, hm1⟩
  rw [hm0, hg]
  clear hr h1 h2 hm0 hg hbel hb1 HB1 hlen hm1 hb blt
  unfold goInt
  go_wp2_with fail
  go_loopw [8] (fun mv wr => ∃ m : Nat, m ≤ n ∧ mv = .int .i64 m ∧ Hid (wr.heap[g]? = some (.cells (ints (List.replicate m v ++ List.replicate (n - m) 0)).toArray 3 (0, 0)) ∧ Below g w wr ∧ (0 < n → 0 < m))) (fun mv _ => n - (intOf mv).toNat)
  case atStart => exact ⟨m0, hmle, rfl, HX⟩
  case round =>
    obtain ⟨m, hm, rfl, HQ⟩ := hrel
    by_cases hlt : m < n
    · have hlt' : (m : Int) < n := by omega
      have hnc : (n = m) = False := eq_false (by omega)
      have hcn : (m = n) = False := eq_false (by omega)
      have hm0' : 0 < m := HQ.out.2.2 (by omega)
      obtain ⟨k, hk⟩ : ∃ k, min m (n - m) = k := ⟨_, rfl⟩
      have hkn : m + k ≤ n := by omega
      have hk0 : 0 < k := by omega
      have hlen : ∀ q, (ints (List.replicate q v)).length = q := fun q => by rw [ints_len, List.length_replicate]
      have hlk : (ints (List.replicate k v)).length = Nat.min m (n - m) := by rw [hlen]; exact hk.symm
      have hsrc : ∀ (W : World), W.heap[g]? = wr.heap[g]? → ∀ j u, (ints (List.replicate k v))[j]? = some u → W.cell? ((⟨g, 0, none⟩ : Addr).add j) = some u := fun W hW j u hj => by
        have hjl := (List.getElem?_eq_some_iff.1 hj).1
        rw [hlen] at hjl
        rw [show (⟨g, 0, none⟩ : Addr).add j = ⟨g, j, none⟩ from by unfold Addr.add; split <;> simp_all]
        have hc := cell_of_row W g j _ _ _ (hW.trans HQ.out.1)
        rw [hc, List.getElem?_toArray, ← hj, ints_get (by simp; omega), ints_get (by rw [List.length_replicate]; exact hjl)]
        congr 2
        rw [List.getD_eq_getElem?_getD, List.getD_eq_getElem?_getD, List.getElem?_append_left (by rw [List.length_replicate]; omega), List.getElem?_replicate, List.getElem?_replicate, if_pos hjl, if_pos (by omega)]
      have hfit : m + (ints (List.replicate k v)).length ≤ (ints (List.replicate m v ++ List.replicate (n - m) 0)).length := by rw [hlen, ints_len]; simp; omega
      have hlk2 := hlen k
      have HSRC := Lib.hid hsrc
      have HLK := Lib.hid hlk
      have HFIT := Lib.hid hfit
      have HLK2 := Lib.hid hlk2
      have hsp := rep_splice n m k v hkn
      have HSP := Lib.hid hsp
      have hmn : (m : Int) ≤ n := by omega
      have hw2 : IntKind.i64.wrap ((m : Int) + (k : Int)) = (m : Int) + k := by rw [IntKind.wrap_i64]; omega
      clear hlen hlk hsrc hfit hk hsp hlk2
      go_wp2_with fail
      go_region_held3 (fun _ => True) (first | exact trivial | go_keep) ((refine step_copy_splice (by rfl) _ _ 54 54 (by rfl) 3 Try.underlying54 HS.out (some ⟨g, m, none⟩) (some ⟨g, 0, none⟩) (n - m) (n - m) m n (by rfl) (by rfl) g m (ints (List.replicate m v ++ List.replicate (n - m) 0)) 3 (by exact HQ.out.1) (ints (List.replicate k v)) HLK.out (fun _ => ⟨rfl, _, rfl, HSRC.out _ (by rfl)⟩) HFIT.out (ints_one' _) g w (by exact HQ.out.2.1.drew) (Nat.le_refl _) ?_; intro w4 hg4 hb4; rw [HLK2.out]; unfold goInt))
      have hg5 := hg4
      have HNX : Hid (w4.heap[g]? = some (.cells (ints (List.replicate (m + k) v ++ List.replicate (n - (m + k)) 0)).toArray 3 (0, 0)) ∧ Below g w w4 ∧ (0 < n → 0 < m + k)) := Lib.hid ⟨by rw [← HSP.out]; exact hg5.out, hb4, fun _ => by omega⟩
      clear hg4 hg5 hb4
      go_wp2_with fail
      go_roundw
      case rel => exact ⟨m + k, hkn, by go_num, HNX⟩
      case measure => simp [intOf]; omega
    · obtain rfl : m = n := by omega
      go_wp2_with fail
      go_ret
      unfold RetRow
      rw [List.length_replicate, HG.out]
      refine ⟨g, m, rfl, ?_, HQ.out.2.1⟩
      have := HQ.out.1
      rw [Nat.sub_self, List.replicate_zero, List.append_nil] at this
      exact ⟨by rw [ints_len, List.length_replicate, Nat.mul_one], .inr ⟨g, m, _, rfl, Nat.le_refl _, this, Nat.le_refl _, by unfold maxLen; omega, by rw [List.size_toArray, ints_len, List.length_replicate, Nat.mul_one], by rw [Nat.mul_one, List.take_of_length_le (by simp [ints])]⟩⟩
end Go.Proofs.Ytbhikceekldenaa.Hb

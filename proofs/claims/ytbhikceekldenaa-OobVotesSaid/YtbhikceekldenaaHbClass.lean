/- The walk of vote.Class, with its table of counts. -/
import Derived.Test.YtbhikceekldenaaHbMean
namespace Go.Proofs.Ytbhikceekldenaa.Hb
set_option linter.unusedVariables false
set_option linter.unusedSimpArgs false
open Go.RowKit

section
variable {P : Program}
theorem run_alloc_row (w : World) (t : TypeId) (i : TypeInfo) (z : Array Value) (hi : P.info? t = some i) (hz : i.zero = some (.agg z)) : (Instr.alloc t true (.tuple #[])).run P w = .ok (.pointer (some ⟨w.heap.size, 0, none⟩)) (w.alloc (.cells z t)) := by
  simp [Instr.alloc, zeroValue, typeInfo, hi, hz, newVar, newRow, Value.cells]
theorem run_index_row (w : World) (t e : TypeId) (n : Nat) (cs : Array Value) (k : Nat) (v : Value) (h : P.underlying t = some (.array n e)) (hk : k < n) (he : P.underlying e = some (.int .i64)) (hs : (P.info? e).map (·.size) = some 1) (hv : cs[k]? = some v) :
    (Instr.index t (.agg cs) (.int .i64 k)).run P w = .ok v w := by
  have hk' : (k : Int) < n := by omega
  cases hq : P.info? e with
  | none => simp [hq] at hs
  | some i =>
    have hs' : i.size = 1 := by simpa [hq] using hs
    simp [Instr.index, asIntOf, run_underlying h, run_underlying he, hk', part, isAgg, sizeOf, typeInfo, hq, hs', hv]
    intro h9; omega
end
def cntV (f : Nat → Nat) : Array Value := ((List.range 256).map fun c => Value.int .i64 (f c : Nat)).toArray
theorem cntV_get (f : Nat → Nat) {c : Nat} (h : c < 256) : (cntV f)[c]? = some (.int .i64 (f c : Nat)) := by
  unfold cntV
  rw [List.getElem?_toArray, List.getElem?_map, List.getElem?_range h]
  rfl
theorem cntV_size (f : Nat → Nat) : (cntV f).size = 256 := by simp [cntV]
theorem cntV_set (f : Nat → Nat) (c v : Nat) : (cntV f).setIfInBounds c (.int .i64 (v : Nat)) = cntV (fun k => if k = c then v else f k) := by
  apply Array.ext_getElem?
  intro k
  rw [Array.getElem?_setIfInBounds]
  by_cases hk : k < 256
  · rw [cntV_get _ hk]
    by_cases hc : c = k
    · subst hc
      rw [if_pos rfl, if_pos (by rw [cntV_size]; exact hk), cntV_get _ hk, if_pos rfl]
    · rw [if_neg hc, cntV_get _ hk, if_neg (fun e => hc e.symm)]
  · have h1 : (cntV f)[k]? = none := by simp [cntV_size]; omega
    have h2 : (cntV (fun k => if k = c then v else f k))[k]? = none := by simp [cntV_size]; omega
    rw [h1, h2]
    split
    · rw [cntV_size, if_neg (by omega)]
    · rfl
theorem cnt_snoc (l : List Nd) (x : Nd) (c : Nat) (hx : x.c = c) : cntC (l ++ [x]) = fun k => if k = c then cntC l c + 1 else cntC l k := by
  funext k
  unfold cntC
  rw [List.filter_append, List.length_append]
  by_cases hk : k = c
  · subst hk
    rw [if_pos rfl, List.filter_cons, if_pos (by simp [hx])]
    rfl
  · rw [if_neg hk, List.filter_cons, if_neg (by simp [hx]; omega)]
    rfl
theorem cnt_le (l : List Nd) (c : Nat) : cntC l c ≤ l.length := List.length_filter_le _ _
theorem zero_cnt : Try.zeroCells141 = cntV fun _ => 0 := by kernel_rfl
theorem info_cnt : (Try.prog.info? 141).map (fun i => (i.zero, i.size)) = some (some (.agg (cntV fun _ => 0)), 256) := by kernel_rfl
theorem take_snocN {l : List Nd} {k : Nat} {x : Nd} (h : l[k]? = some x) : l.take (k + 1) = l.take k ++ [x] := by
  obtain ⟨hk, rfl⟩ := List.getElem?_eq_some_iff.1 h
  exact List.take_succ_eq_append_getElem hk
theorem class_1 {l : List Nd} {classes : Int} (h : l = [] ∨ classes < 1 ∨ 256 < classes) : classO l classes = (0, 1) := if_pos h
theorem class_go {l : List Nd} {classes : Int} (h : ¬ (l = [] ∨ classes < 1 ∨ 256 < classes)) : classO l classes = if l.any (offC classes) = true then ((0, 5) : Int × Int) else (((bestUp (cntC l) 256 : Nat) : Int), 0) := if_neg h
set_option maxRecDepth 100000 in
set_option maxHeartbeats 4000000 in
theorem class_any (l : List Nd) (classes : Int) (A : Option Addr) (cap : Nat) (w : World) (hr : RN w A l) (hl : l.length ≤ 9223372036854775806) :
    Calls Try.prog 63 #[.slice A l.length cap, .int .i64 classes] w fun e w' => e = .returned (resP (classO l classes)) ∧ Below w.heap.size w w' := by
  obtain ⟨n, hn⟩ : ∃ n, l.length = n := ⟨_, rfl⟩
  rw [hn] at hl ⊢
  unfold resP
  by_cases h0 : n = 0
  · subst h0
    have e0 : l = [] := List.length_eq_zero_iff.1 hn
    rw [class_1 (.inl e0)]
    clear hn hr e0
    go_enter Try.func63, Try.ntmps63
    go_wp2_with fail
    go_ret2
    exact ⟨rfl, Below.refl _ _⟩
  have hn0 : ((n : Int) == 0) = false := beq_eq_false_iff_ne.2 (by omega)
  have hn0' : (n == 0) = false := beq_eq_false_iff_ne.2 h0
  by_cases hc : classes < 1 ∨ 256 < classes
  · rw [class_1 (.inr hc)]
    rcases hc with hc | hc
    · have c1 : decide (classes < 1) = true := decide_eq_true hc
      go_enter Try.func63, Try.ntmps63
      go_wp2_with fail
      go_ret2
      exact ⟨rfl, Below.refl _ _⟩
    · have c1 : decide (classes < 1) = false := decide_eq_false (by omega)
      have c2 : decide (256 < classes) = true := decide_eq_true hc
      go_enter Try.func63, Try.ntmps63
      go_wp2_with fail
      go_ret2
      exact ⟨rfl, Below.refl _ _⟩
  have hcl1 : 1 ≤ classes := by omega
  have hcl2 : classes ≤ 256 := by omega
  have hl0 : l ≠ [] := fun e => h0 (by rw [← hn, e]; rfl)
  have HGO : Hid (classO l classes = if l.any (offC classes) = true then ((0, 5) : Int × Int) else (((bestUp (cntC l) 256 : Nat) : Int), 0)) := Lib.hid (class_go (by rintro (h | h); exact hl0 h; exact hc h))
  obtain ⟨⟨rv, re⟩, hR⟩ : ∃ R, classO l classes = R := ⟨_, rfl⟩
  rw [hR] at HGO ⊢
  have HN := Lib.hid hn
  have HRN := Lib.hid hr
  have c1 : decide (classes < 1) = false := decide_eq_false (by omega)
  have c2 : decide (256 < classes) = false := decide_eq_false (by omega)
  clear hR hn hr h0 hc hl0
  go_enter Try.func63, Try.ntmps63
  go_wp2_with fail
  clear hn0 hn0'
  go_loopw [25] (fun iv wr => ∃ k : Nat, k ≤ n ∧ iv = .int .i64 k ∧ Blk wr w.heap.size (cntV (cntC (l.take k))) 141 ∧ Hid ((l.take k).any (offC classes) = false ∧ Below w.heap.size w wr)) (fun iv _ => n - (intOf iv).toNat)
  case atStart =>
    refine ⟨0, Nat.zero_le _, rfl, ?_, Lib.hid ⟨rfl, (Below.refl _ _).alloc (Nat.le_refl _) _⟩⟩
    have := Blk.new w Try.zeroCells141 141
    rw [zero_cnt] at this
    exact this
  case round =>
    obtain ⟨k, hk, rfl, kB, HI⟩ := hrel
    by_cases hlt : k < n
    · have hlt' : (k : Int) < n := by omega
      obtain ⟨ad, rfl, x, hx, hxok, hat⟩ := (HRN.out.below HI.out.2).at (i := k) (by rw [HN.out]; exact hlt)
      have HX := Lib.hid hx
      have hbe : Hid (∀ o, Below w.heap.size w (wr.alloc o)) := Lib.hid (fun o => HI.out.2.alloc HI.out.2.size o)
      have hlB := kB.lt
      by_cases hoff : x.c < 0 ∨ classes ≤ x.c
      · have hres : Hid ((rv, re) = (0, 5)) := Lib.hid (by
          rw [HGO.out, if_pos]
          refine List.any_eq_true.2 ⟨x, List.mem_of_getElem? hx, decide_eq_true hoff⟩)
        obtain ⟨p0, p1, p2, p3, p4, p5⟩ := hat
        obtain ⟨f, b, ll, cc, sx, q⟩ := x
        simp only at p0 p1 p2 p3 p4 p5 hoff
        clear hx hxok kB
        rcases hoff with hoff | hoff
        · have d1 : decide (cc < 0) = true := decide_eq_true hoff
          go_wp2_with fail
          go_ret2
          refine ⟨ret_pair ?_ ?_, hbe.out _⟩
          · have := congrArg Prod.fst hres.out; exact this.symm
          · have := congrArg Prod.snd hres.out; exact this.symm
        · have d1 : decide (cc < 0) = false := decide_eq_false (by omega)
          have d2 : decide (classes ≤ cc) = true := decide_eq_true hoff
          go_wp2_with fail
          go_ret2
          refine ⟨ret_pair ?_ ?_, hbe.out _⟩
          · have := congrArg Prod.fst hres.out; exact this.symm
          · have := congrArg Prod.snd hres.out; exact this.symm
      · have hcc0 : 0 ≤ x.c := by omega
        obtain ⟨c, hc⟩ := Int.eq_ofNat_of_zero_le hcc0
        have hc256 : c < 256 := by omega
        have hany : Hid ((l.take (k + 1)).any (offC classes) = false) := Lib.hid (by
          rw [take_snocN hx, List.any_append, HI.out.1]
          simp [offC]; omega)
        have hcnt : Hid (cntV (cntC (l.take (k + 1))) = (cntV (cntC (l.take k))).setIfInBounds c (.int .i64 (((cntC (l.take k) c : Nat) : Int) + 1))) := Lib.hid (by
          rw [take_snocN hx, cnt_snoc _ _ _ hc, ← Int.natCast_succ, cntV_set])
        have hle := cnt_le (l.take k) c
        have hle2 : (l.take k).length ≤ k := List.length_take_le _ _
        have r0 := kB.cell c
        rw [cntV_get _ hc256] at r0
        obtain ⟨m, hm⟩ : ∃ m, cntC (l.take k) c = m := ⟨_, rfl⟩
        rw [hm] at r0 hle hcnt
        have hm2 : m ≤ 9223372036854775806 := by omega
        obtain ⟨p0, p1, p2, p3, p4, p5⟩ := hat
        obtain ⟨f, b, ll, cc, sx, q⟩ := x
        simp only at p0 p1 p2 p3 p4 p5 hoff hc hcc0
        subst hc
        have d1 : decide ((c : Int) < 0) = false := decide_eq_false (by omega)
        have d2 : decide (classes ≤ (c : Int)) = false := decide_eq_false (by omega)
        have hc256' : (c : Int) < 256 := by omega
        have r6 := kB.frozen c
        have hne : w.heap.size ≠ wr.heap.size := by omega
        have hne' : wr.heap.size ≠ w.heap.size := by omega
        have KB := Lib.hid kB
        clear hx hxok hm hle hle2 kB hoff
        go_wp2_with fail
        go_roundw
        case rel =>
          refine ⟨k + 1, hlt, by go_num, ?_, Lib.hid ⟨hany.out, (HI.out.2.setCell (p := ⟨w.heap.size, c, none⟩) (Nat.le_refl _) _).alloc (by simp; exact HI.out.2.size) _⟩⟩
          rw [hcnt.out]
          exact (KB.out.set c _).below ((Below.refl _ _).alloc (Nat.le_refl _) _)
        case measure => simp [intOf]; omega
    · obtain rfl : k = n := by omega
      have htk : l.take k = l := List.take_of_length_le (by rw [HN.out]; exact Nat.le_refl _)
      rw [htk] at kB HI
      have hres : Hid ((rv, re) = (((bestUp (cntC l) 256 : Nat) : Int), 0)) := Lib.hid (by
        rw [HGO.out, HI.out.1, if_neg (by simp)])
      obtain ⟨f, hf⟩ : ∃ f, cntC l = f := ⟨_, rfl⟩
      have hrv : Hid (rv = ((bestUp f 256 : Nat) : Int) ∧ re = 0) := Lib.hid ⟨by rw [← hf]; exact congrArg Prod.fst hres.out, congrArg Prod.snd hres.out⟩
      rw [hf] at kB
      obtain ⟨V, hV⟩ : ∃ V, cntV f = V := ⟨_, rfl⟩
      have ix : Hid (∀ (j : Nat) (w : World), j < 256 → (Instr.index 141 (.agg V) (.int .i64 j)).run Try.prog w = .ok (.int .i64 (f j : Nat)) w) := Lib.hid (fun j w hj => run_index_row w _ 3 256 V j _ Try.underlying141 hj Try.underlying3 (by kernel_rfl) (by rw [← hV]; exact cntV_get f hj))
      have cl : Hid (∀ j, j < 256 → wr.cell? ⟨w.heap.size, j, none⟩ = some (.int .i64 (f j : Nat))) := Lib.hid (fun j hj => by rw [kB.cell j, cntV_get f hj])
      have hsz : (Try.prog.info? 141).map (·.size) = some V.size := by rw [← hV, cntV_size]; kernel_rfl
      rw [hV] at kB
      clear hV htk hres hf
      go_wp2_with (refine wpList_load_row rfl 141 (.tmp 6) rfl w.heap.size rfl 141 V (0, 0) _ kB Try.underlying141 rfl hsz ?_)
      have hlB := kB.lt
      clear hsz kB
      go_loop [9, 46] (fun bv iv => ∃ k : Nat, k ≤ 256 ∧ iv = .int .i64 k ∧ bv = .int .i64 (bestUp f k : Nat)) (fun _ iv => 256 - (intOf iv).toNat)
      case atStart => exact ⟨0, by omega, rfl, rfl⟩
      case round =>
        obtain ⟨j, hj, rfl, rfl⟩ := hrel
        by_cases hjlt : j < 256
        · have hjlt' : (j : Int) < 256 := by omega
          have hb : bestUp f j < 256 := by
            rcases Nat.eq_zero_or_pos j with rfl | hp
            · exact (by decide : 0 < 256)
            · have := (best_up f j hp).1; omega
          have x1 := fun w => ix.out j w hjlt
          have x2 := cl.out _ hb
          have hs : Hid (bestUp f (j + 1) = if f (bestUp f j) < f j then j else bestUp f j) := Lib.hid rfl
          obtain ⟨b, hbb⟩ : ∃ b, bestUp f j = b := ⟨_, rfl⟩
          rw [hbb] at hb x2 hs ⊢
          have hb' : (b : Int) < 256 := by omega
          obtain ⟨u, hu⟩ : ∃ u, f j = u := ⟨_, rfl⟩
          obtain ⟨v, hv⟩ : ∃ v, f b = v := ⟨_, rfl⟩
          rw [hu] at x1 hs
          rw [hv] at x2 hs
          clear hbb hu hv
          by_cases hcmp : v < u
          · have d1 : decide (v < u) = true := decide_eq_true hcmp
            have d2 : decide ((v : Int) < u) = true := decide_eq_true (by omega)
            have HC := Lib.hid hcmp
            clear hcmp
            go_wp2_with fail
            go_round
            case rel => exact ⟨j + 1, hjlt, by go_num, by rw [hs.out, if_pos HC.out]⟩
            case measure => simp [intOf]; omega
          · have d1 : decide (v < u) = false := decide_eq_false hcmp
            have d2 : decide ((v : Int) < u) = false := decide_eq_false (by omega)
            have HC := Lib.hid hcmp
            clear hcmp
            go_wp2_with fail
            go_round
            case rel => exact ⟨j + 1, hjlt, by go_num, by rw [hs.out, if_neg HC.out]⟩
            case measure => simp [intOf]; omega
        · obtain rfl : j = 256 := by omega
          go_wp2_with fail
          go_ret2
          exact ⟨ret_pair hrv.out.1.symm hrv.out.2.symm, HI.out.2⟩
end Go.Proofs.Ytbhikceekldenaa.Hb

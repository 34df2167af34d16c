/- Texts joined: the walks and the plain laws that the claim ShakeUnused rests on. -/
import Derived.Test.YtpekofpiodaadaaMShakeUnused1
import Derived.Deep.QuietTactic
import Derived.BigQuiet
import Derived.Deep.AppendLies
import Derived.BigRegion
import Derived.Lib.SliceRun
section
/- The walks of ref24.Mean. -/
namespace Go.Proofs.Ytpekofpiodaadaa.Hb
set_option linter.unusedVariables false
set_option linter.unusedSimpArgs false
open Go.RowKit

set_option maxRecDepth 100000 in
set_option maxHeartbeats 2000000 in
theorem rmean_any (l : List Nd) (A : Option Addr) (cap : Nat) (w : World) (hr : RN w A l) (hl : l.length ≤ 9223372036854775807) :
    Calls Try.prog 200 #[.slice A l.length cap] w fun e w' => e = .returned (resP (meanO l)) ∧ Below w.heap.size w w' := by
  obtain ⟨n, hn⟩ : ∃ n, l.length = n := ⟨_, rfl⟩
  rw [hn] at hl ⊢
  unfold resP
  by_cases h0 : n = 0
  · subst h0
    have e0 : l = [] := List.length_eq_zero_iff.1 hn
    have e : meanO l = (0, 1) := if_pos e0
    rw [e]
    clear hn hr e e0
    go_enter Try.func200, Try.ntmps200
    go_wp2_with fail
    go_ret2
    exact ⟨rfl, Below.refl _ _⟩
  have e : meanO l = meanGo l 0 0 := if_neg (fun e => h0 (by rw [← hn, e]; rfl))
  obtain ⟨⟨rv, re⟩, hR⟩ : ∃ R, meanO l = R := ⟨_, rfl⟩
  rw [hR]
  rw [e] at hR
  have HGO := Lib.hid hR
  have HN := Lib.hid hn
  have HRN := Lib.hid hr
  have hn0 : ((n : Int) == 0) = false := beq_eq_false_iff_ne.2 (by omega)
  have hn0' : (n == 0) = false := beq_eq_false_iff_ne.2 h0
  clear hR hn hr e h0
  go_enter Try.func200, Try.ntmps200
  go_wp2_with fail
  clear hn0 hn0'
  go_loopw [4, 5, 6] (fun sv cv iv wr => ∃ (k : Nat) (s c : Int), k ≤ n ∧ iv = .int .i64 k ∧ sv = .int .i64 s ∧ cv = .int .i64 c ∧ Hid (meanGo (l.drop k) c s = (rv, re) ∧ inR s ∧ inR c ∧ Below w.heap.size w wr)) (fun _ _ iv _ => n - (intOf iv).toNat)
  case atStart => exact ⟨0, 0, 0, Nat.zero_le _, rfl, rfl, rfl, Lib.hid ⟨by rw [List.drop_zero]; exact HGO.out, by unfold inR; omega, by unfold inR; omega, Below.refl _ _⟩⟩
  case round =>
    obtain ⟨k, s, c, hk, rfl, rfl, rfl, HI⟩ := hrel
    by_cases hlt : k < n
    · have hlt' : (k : Int) < n := by omega
      obtain ⟨ad, rfl, x, hx, hxok, hat⟩ := (HRN.out.below HI.out.2.2.2).at (i := k) (by rw [HN.out]; exact hlt)
      have HDR := Lib.hid (drop_nd hx)
      have HAT := Lib.hid hat
      obtain ⟨p0, p1, p2, p3, p4, p5⟩ := hat
      have HXO := Lib.hid hxok
      have hbe : Hid (Below w.heap.size w wr) := Lib.hid HI.out.2.2.2
      clear hx hxok
      by_cases h1 : x.k < 1
      · have HE := Lib.hid h1
        obtain ⟨f, b, ll, cc, sx, q⟩ := x
        simp only at p0 p1 p2 p3 p4 p5 h1
        have hres : Hid ((rv, re) = (0, 5)) := Lib.hid (by rw [← HI.out.1, HDR.out]; exact mean_5 HE.out)
        go_wp2_with fail
        go_ret2
        refine ⟨ret_pair ?_ ?_, hbe.out⟩
        · have := congrArg Prod.fst hres.out; exact this.symm
        · have := congrArg Prod.snd hres.out; exact this.symm
      · have KP := Lib.hid (rplus_any c x.k HI.out.2.2.1 HXO.out.2.2.2.2.2)
        have KQ := Lib.hid (rplus_any s x.s HI.out.2.1 HXO.out.2.2.2.2.1)
        have HE := Lib.hid h1
        have h2 : decide (x.k < 1) = false := decide_eq_false h1
        cases hc : lim (c + x.k) with
        | none =>
          rw [hc] at KP
          have hres : Hid ((rv, re) = (0, 6)) := Lib.hid (by rw [← HI.out.1, HDR.out]; exact mean_6 HE.out hc)
          obtain ⟨f, b, ll, cc, sx, q⟩ := x
          unfold RefOp at KP
          simp only [res] at p0 p1 p2 p3 p4 p5 h2 KP
          clear hc h1 KQ
          go_wp2_with fail
          refine (KP.out _).mono ?_
          rintro e w1 ⟨rfl, hb⟩
          clear p0 p1 p2 p3 p4 p5
          obtain ⟨p0, p1, p2, p3, p4, p5⟩ := HAT.out.below hb
          simp only at p0 p1 p2 p3 p4 p5
          have hbe1 := Lib.hid (hbe.out.trans (hb.mono hbe.out.size))
          clear hb
          go_wp2_with fail
          go_ret2
          refine ⟨ret_pair ?_ ?_, hbe1.out⟩
          · have := congrArg Prod.fst hres.out; exact this.symm
          · have := congrArg Prod.snd hres.out; exact this.symm
        | some c' =>
          rw [hc] at KP
          have hc1 := lim_some hc
          cases hs : lim (s + x.s) with
          | none =>
            rw [hs] at KQ
            have hres : Hid ((rv, re) = (0, 6)) := Lib.hid (by rw [← HI.out.1, HDR.out]; exact mean_6' HE.out hc hs)
            obtain ⟨f, b, ll, cc, sx, q⟩ := x
            unfold RefOp at KP KQ
            simp only [res] at p0 p1 p2 p3 p4 p5 h2 KP KQ
            clear hc h1 hc1 hs
            go_wp2_with fail
            refine (KP.out _).mono ?_
            rintro e w1 ⟨rfl, hb⟩
            clear p0 p1 p2 p3 p4 p5
            obtain ⟨p0, p1, p2, p3, p4, p5⟩ := HAT.out.below hb
            simp only at p0 p1 p2 p3 p4 p5
            have hbe1 := Lib.hid (hbe.out.trans (hb.mono hbe.out.size))
            clear hb
            go_wp2_with fail
            refine (KQ.out _).mono ?_
            rintro e w2 ⟨rfl, hb⟩
            have hbe2 := Lib.hid (hbe1.out.trans (hb.mono hbe1.out.size))
            clear hb
            go_wp2_with fail
            go_ret2
            refine ⟨ret_pair ?_ ?_, hbe2.out⟩
            · have := congrArg Prod.fst hres.out; exact this.symm
            · have := congrArg Prod.snd hres.out; exact this.symm
          | some s' =>
            rw [hs] at KQ
            have hs1 := lim_some hs
            have hnew : Hid (meanGo (l.drop (k + 1)) c' s' = (rv, re) ∧ inR s' ∧ inR c') := Lib.hid (by
              refine ⟨?_, by rw [hs1.1]; exact hs1.2, by rw [hc1.1]; exact hc1.2⟩
              rw [← HI.out.1, HDR.out]; exact (mean_go HE.out hc hs).symm)
            obtain ⟨f, b, ll, cc, sx, q⟩ := x
            unfold RefOp at KP KQ
            simp only [res] at p0 p1 p2 p3 p4 p5 h2 KP KQ
            clear hc h1 hc1 hs hs1
            go_wp2_with fail
            refine (KP.out _).mono ?_
            rintro e w1 ⟨rfl, hb⟩
            clear p0 p1 p2 p3 p4 p5
            obtain ⟨p0, p1, p2, p3, p4, p5⟩ := HAT.out.below hb
            simp only at p0 p1 p2 p3 p4 p5
            have hbe1 := Lib.hid (hbe.out.trans (hb.mono hbe.out.size))
            clear hb
            go_wp2_with fail
            refine (KQ.out _).mono ?_
            rintro e w2 ⟨rfl, hb⟩
            have hbe2 := Lib.hid (hbe1.out.trans (hb.mono hbe1.out.size))
            clear hb
            go_wp2_with fail
            go_roundw
            case rel => exact ⟨k + 1, s', c', hlt, by go_num, rfl, rfl, Lib.hid ⟨hnew.out.1, hnew.out.2.1, hnew.out.2.2, hbe2.out⟩⟩
            case measure => simp [intOf]; omega
    · obtain rfl : k = n := by omega
      have KF := Lib.hid (rfloor_any s c HI.out.2.1 HI.out.2.2.1)
      have hres : Hid (floorO s c = (rv, re)) := Lib.hid (by
        have := HI.out.1
        rwa [List.drop_of_length_le (by rw [HN.out]; exact Nat.le_refl _), meanGo] at this)
      rw [hres.out] at KF
      unfold resP at KF
      go_wp2_with fail
      refine (KF.out _).mono ?_
      rintro e w1 ⟨rfl, rfl⟩
      go_wp2_with fail
      go_ret2
      exact ⟨rfl, HI.out.2.2.2⟩
end Go.Proofs.Ytpekofpiodaadaa.Hb
end

section
/- The walk of vote.Class, with its table of counts. -/
namespace Go.Proofs.Ytpekofpiodaadaa.Hb
set_option linter.unusedVariables false
set_option linter.unusedSimpArgs false
open Go.RowKit

section
variable {P : Program}
theorem run_alloc_row (w : World) (t : TypeId) (i : TypeInfo) (z : Array Value) (hi : P.info? t = some i) (hz : i.zero = some (.agg z)) : (Instr.alloc t true (.tuple #[])).run P w = .ok (.pointer (some ⟨w.heap.size, 0, none⟩)) (w.alloc (.cells z t)) := by
  simp [Instr.alloc, zeroValue, typeInfo, hi, hz, newVar, newRow, Value.cells]
theorem run_index_row (w : World) (t e : TypeId) (n : Nat) (cs : Array Value) (k : Nat) (v : Value) (h : P.underlying t = some (.array n e)) (hk : k < n) (he : P.underlying e = some (.int .i64)) (hs : (P.info? e).map (·.size) = some 1) (hv : cs[k]? = some v) :
    (Instr.index t (.agg cs) (.int .i64 k)).run P w = .ok v w := by
  have hk' : (k : Int) < n := by omega
  cases hq : P.info? e with
  | none => simp [hq] at hs
  | some i =>
    have hs' : i.size = 1 := by simpa [hq] using hs
    simp [Instr.index, asIntOf, run_underlying h, run_underlying he, hk', part, isAgg, sizeOf, typeInfo, hq, hs', hv]
    intro h9; omega
end
def cntV (f : Nat → Nat) : Array Value := ((List.range 256).map fun c => Value.int .i64 (f c : Nat)).toArray
theorem cntV_get (f : Nat → Nat) {c : Nat} (h : c < 256) : (cntV f)[c]? = some (.int .i64 (f c : Nat)) := by
  unfold cntV
  rw [List.getElem?_toArray, List.getElem?_map, List.getElem?_range h]
  rfl
theorem cntV_size (f : Nat → Nat) : (cntV f).size = 256 := by simp [cntV]
theorem cntV_set (f : Nat → Nat) (c v : Nat) : (cntV f).setIfInBounds c (.int .i64 (v : Nat)) = cntV (fun k => if k = c then v else f k) := by
  apply Array.ext_getElem?
  intro k
  rw [Array.getElem?_setIfInBounds]
  by_cases hk : k < 256
  · rw [cntV_get _ hk]
    by_cases hc : c = k
    · subst hc
      rw [if_pos rfl, if_pos (by rw [cntV_size]; exact hk), cntV_get _ hk, if_pos rfl]
    · rw [if_neg hc, cntV_get _ hk, if_neg (fun e => hc e.symm)]
  · have h1 : (cntV f)[k]? = none := by simp [cntV_size]; omega
    have h2 : (cntV (fun k => if k = c then v else f k))[k]? = none := by simp [cntV_size]; omega
    rw [h1, h2]
    split
    · rw [cntV_size, if_neg (by omega)]
    · rfl
theorem cnt_snoc (l : List Nd) (x : Nd) (c : Nat) (hx : x.c = c) : cntC (l ++ [x]) = fun k => if k = c then cntC l c + 1 else cntC l k := by
  funext k
  unfold cntC
  rw [List.filter_append, List.length_append]
  by_cases hk : k = c
  · subst hk
    rw [if_pos rfl, List.filter_cons, if_pos (by simp [hx])]
    rfl
  · rw [if_neg hk, List.filter_cons, if_neg (by simp [hx]; omega)]
    rfl
theorem cnt_le (l : List Nd) (c : Nat) : cntC l c ≤ l.length := List.length_filter_le _ _
theorem zero_cnt : Try.zeroCells298 = cntV fun _ => 0 := by kernel_rfl
theorem info_cnt : (Try.prog.info? 298).map (fun i => (i.zero, i.size)) = some (some (.agg (cntV fun _ => 0)), 256) := by kernel_rfl
theorem take_snocN {l : List Nd} {k : Nat} {x : Nd} (h : l[k]? = some x) : l.take (k + 1) = l.take k ++ [x] := by
  obtain ⟨hk, rfl⟩ := List.getElem?_eq_some_iff.1 h
  exact List.take_succ_eq_append_getElem hk
theorem class_1 {l : List Nd} {classes : Int} (h : l = [] ∨ classes < 1 ∨ 256 < classes) : classO l classes = (0, 1) := if_pos h
theorem class_go {l : List Nd} {classes : Int} (h : ¬ (l = [] ∨ classes < 1 ∨ 256 < classes)) : classO l classes = if l.any (offC classes) = true then ((0, 5) : Int × Int) else (((bestUp (cntC l) 256 : Nat) : Int), 0) := if_neg h
set_option maxRecDepth 100000 in
set_option maxHeartbeats 4000000 in
theorem class_any (l : List Nd) (classes : Int) (A : Option Addr) (cap : Nat) (w : World) (hr : RN w A l) (hl : l.length ≤ 9223372036854775806) :
    Calls Try.prog 196 #[.slice A l.length cap, .int .i64 classes] w fun e w' => e = .returned (resP (classO l classes)) ∧ Below w.heap.size w w' := by
  obtain ⟨n, hn⟩ : ∃ n, l.length = n := ⟨_, rfl⟩
  rw [hn] at hl ⊢
  unfold resP
  by_cases h0 : n = 0
  · subst h0
    have e0 : l = [] := List.length_eq_zero_iff.1 hn
    rw [class_1 (.inl e0)]
    clear hn hr e0
    go_enter Try.func196, Try.ntmps196
    go_wp2_with fail
    go_ret2
    exact ⟨rfl, Below.refl _ _⟩
  have hn0 : ((n : Int) == 0) = false := beq_eq_false_iff_ne.2 (by omega)
  have hn0' : (n == 0) = false := beq_eq_false_iff_ne.2 h0
  by_cases hc : classes < 1 ∨ 256 < classes
  · rw [class_1 (.inr hc)]
    rcases hc with hc | hc
    · have c1 : decide (classes < 1) = true := decide_eq_true hc
      go_enter Try.func196, Try.ntmps196
      go_wp2_with fail
      go_ret2
      exact ⟨rfl, Below.refl _ _⟩
    · have c1 : decide (classes < 1) = false := decide_eq_false (by omega)
      have c2 : decide (256 < classes) = true := decide_eq_true hc
      go_enter Try.func196, Try.ntmps196
      go_wp2_with fail
      go_ret2
      exact ⟨rfl, Below.refl _ _⟩
  have hcl1 : 1 ≤ classes := by omega
  have hcl2 : classes ≤ 256 := by omega
  have hl0 : l ≠ [] := fun e => h0 (by rw [← hn, e]; rfl)
  have HGO : Hid (classO l classes = if l.any (offC classes) = true then ((0, 5) : Int × Int) else (((bestUp (cntC l) 256 : Nat) : Int), 0)) := Lib.hid (class_go (by rintro (h | h); exact hl0 h; exact hc h))
  obtain ⟨⟨rv, re⟩, hR⟩ : ∃ R, classO l classes = R := ⟨_, rfl⟩
  rw [hR] at HGO ⊢
  have HN := Lib.hid hn
  have HRN := Lib.hid hr
  have c1 : decide (classes < 1) = false := decide_eq_false (by omega)
  have c2 : decide (256 < classes) = false := decide_eq_false (by omega)
  clear hR hn hr h0 hc hl0
  go_enter Try.func196, Try.ntmps196
  go_wp2_with fail
  clear hn0 hn0'
  go_loopw [25] (fun iv wr => ∃ k : Nat, k ≤ n ∧ iv = .int .i64 k ∧ Blk wr w.heap.size (cntV (cntC (l.take k))) 298 ∧ Hid ((l.take k).any (offC classes) = false ∧ Below w.heap.size w wr)) (fun iv _ => n - (intOf iv).toNat)
  case atStart =>
    refine ⟨0, Nat.zero_le _, rfl, ?_, Lib.hid ⟨rfl, (Below.refl _ _).alloc (Nat.le_refl _) _⟩⟩
    have := Blk.new w Try.zeroCells298 298
    rw [zero_cnt] at this
    exact this
  case round =>
    obtain ⟨k, hk, rfl, kB, HI⟩ := hrel
    by_cases hlt : k < n
    · have hlt' : (k : Int) < n := by omega
      obtain ⟨ad, rfl, x, hx, hxok, hat⟩ := (HRN.out.below HI.out.2).at (i := k) (by rw [HN.out]; exact hlt)
      have HX := Lib.hid hx
      have hbe : Hid (∀ o, Below w.heap.size w (wr.alloc o)) := Lib.hid (fun o => HI.out.2.alloc HI.out.2.size o)
      have hlB := kB.lt
      by_cases hoff : x.c < 0 ∨ classes ≤ x.c
      · have hres : Hid ((rv, re) = (0, 5)) := Lib.hid (by
          rw [HGO.out, if_pos]
          refine List.any_eq_true.2 ⟨x, List.mem_of_getElem? hx, decide_eq_true hoff⟩)
        obtain ⟨p0, p1, p2, p3, p4, p5⟩ := hat
        obtain ⟨f, b, ll, cc, sx, q⟩ := x
        simp only at p0 p1 p2 p3 p4 p5 hoff
        clear hx hxok kB
        rcases hoff with hoff | hoff
        · have d1 : decide (cc < 0) = true := decide_eq_true hoff
          go_wp2_with fail
          go_ret2
          refine ⟨ret_pair ?_ ?_, hbe.out _⟩
          · have := congrArg Prod.fst hres.out; exact this.symm
          · have := congrArg Prod.snd hres.out; exact this.symm
        · have d1 : decide (cc < 0) = false := decide_eq_false (by omega)
          have d2 : decide (classes ≤ cc) = true := decide_eq_true hoff
          go_wp2_with fail
          go_ret2
          refine ⟨ret_pair ?_ ?_, hbe.out _⟩
          · have := congrArg Prod.fst hres.out; exact this.symm
          · have := congrArg Prod.snd hres.out; exact this.symm
      · have hcc0 : 0 ≤ x.c := by omega
        obtain ⟨c, hc⟩ := Int.eq_ofNat_of_zero_le hcc0
        have hc256 : c < 256 := by omega
        have hany : Hid ((l.take (k + 1)).any (offC classes) = false) := Lib.hid (by
          rw [take_snocN hx, List.any_append, HI.out.1]
          simp [offC]; omega)
        have hcnt : Hid (cntV (cntC (l.take (k + 1))) = (cntV (cntC (l.take k))).setIfInBounds c (.int .i64 (((cntC (l.take k) c : Nat) : Int) + 1))) := Lib.hid (by
          rw [take_snocN hx, cnt_snoc _ _ _ hc, ← Int.natCast_succ, cntV_set])
        have hle := cnt_le (l.take k) c
        have hle2 : (l.take k).length ≤ k := List.length_take_le _ _
        have r0 := kB.cell c
        rw [cntV_get _ hc256] at r0
        obtain ⟨m, hm⟩ : ∃ m, cntC (l.take k) c = m := ⟨_, rfl⟩
        rw [hm] at r0 hle hcnt
        have hm2 : m ≤ 9223372036854775806 := by omega
        obtain ⟨p0, p1, p2, p3, p4, p5⟩ := hat
        obtain ⟨f, b, ll, cc, sx, q⟩ := x
        simp only at p0 p1 p2 p3 p4 p5 hoff hc hcc0
        subst hc
        have d1 : decide ((c : Int) < 0) = false := decide_eq_false (by omega)
        have d2 : decide (classes ≤ (c : Int)) = false := decide_eq_false (by omega)
        have hc256' : (c : Int) < 256 := by omega
        have r6 := kB.frozen c
        have hne : w.heap.size ≠ wr.heap.size := by omega
        have hne' : wr.heap.size ≠ w.heap.size := by omega
        have KB := Lib.hid kB
        clear hx hxok hm hle hle2 kB hoff
        go_wp2_with fail
        go_roundw
        case rel =>
          refine ⟨k + 1, hlt, by go_num, ?_, Lib.hid ⟨hany.out, (HI.out.2.setCell (p := ⟨w.heap.size, c, none⟩) (Nat.le_refl _) _).alloc (by simp; exact HI.out.2.size) _⟩⟩
          rw [hcnt.out]
          exact (KB.out.set c _).below ((Below.refl _ _).alloc (Nat.le_refl _) _)
        case measure => simp [intOf]; omega
    · obtain rfl : k = n := by omega
      have htk : l.take k = l := List.take_of_length_le (by rw [HN.out]; exact Nat.le_refl _)
      rw [htk] at kB HI
      have hres : Hid ((rv, re) = (((bestUp (cntC l) 256 : Nat) : Int), 0)) := Lib.hid (by
        rw [HGO.out, HI.out.1, if_neg (by simp)])
      obtain ⟨f, hf⟩ : ∃ f, cntC l = f := ⟨_, rfl⟩
      have hrv : Hid (rv = ((bestUp f 256 : Nat) : Int) ∧ re = 0) := Lib.hid ⟨by rw [← hf]; exact congrArg Prod.fst hres.out, congrArg Prod.snd hres.out⟩
      rw [hf] at kB
      obtain ⟨V, hV⟩ : ∃ V, cntV f = V := ⟨_, rfl⟩
      have ix : Hid (∀ (j : Nat) (w : World), j < 256 → (Instr.index 298 (.agg V) (.int .i64 j)).run Try.prog w = .ok (.int .i64 (f j : Nat)) w) := Lib.hid (fun j w hj => run_index_row w _ 3 256 V j _ Try.underlying298 hj Try.underlying3 (by kernel_rfl) (by rw [← hV]; exact cntV_get f hj))
      have cl : Hid (∀ j, j < 256 → wr.cell? ⟨w.heap.size, j, none⟩ = some (.int .i64 (f j : Nat))) := Lib.hid (fun j hj => by rw [kB.cell j, cntV_get f hj])
      have hsz : (Try.prog.info? 298).map (·.size) = some V.size := by rw [← hV, cntV_size]; kernel_rfl
      rw [hV] at kB
      clear hV htk hres hf
      go_wp2_with (refine wpList_load_row rfl 298 (.tmp 6) rfl w.heap.size rfl 298 V (0, 0) _ kB Try.underlying298 rfl hsz ?_)
      have hlB := kB.lt
      clear hsz kB
      go_loop [9, 46] (fun bv iv => ∃ k : Nat, k ≤ 256 ∧ iv = .int .i64 k ∧ bv = .int .i64 (bestUp f k : Nat)) (fun _ iv => 256 - (intOf iv).toNat)
      case atStart => exact ⟨0, by omega, rfl, rfl⟩
      case round =>
        obtain ⟨j, hj, rfl, rfl⟩ := hrel
        by_cases hjlt : j < 256
        · have hjlt' : (j : Int) < 256 := by omega
          have hb : bestUp f j < 256 := by
            rcases Nat.eq_zero_or_pos j with rfl | hp
            · exact (by decide : 0 < 256)
            · have := (best_up f j hp).1; omega
          have x1 := fun w => ix.out j w hjlt
          have x2 := cl.out _ hb
          have hs : Hid (bestUp f (j + 1) = if f (bestUp f j) < f j then j else bestUp f j) := Lib.hid rfl
          obtain ⟨b, hbb⟩ : ∃ b, bestUp f j = b := ⟨_, rfl⟩
          rw [hbb] at hb x2 hs ⊢
          have hb' : (b : Int) < 256 := by omega
          obtain ⟨u, hu⟩ : ∃ u, f j = u := ⟨_, rfl⟩
          obtain ⟨v, hv⟩ : ∃ v, f b = v := ⟨_, rfl⟩
          rw [hu] at x1 hs
          rw [hv] at x2 hs
          clear hbb hu hv
          by_cases hcmp : v < u
          · have d1 : decide (v < u) = true := decide_eq_true hcmp
            have d2 : decide ((v : Int) < u) = true := decide_eq_true (by omega)
            have HC := Lib.hid hcmp
            clear hcmp
            go_wp2_with fail
            go_round
            case rel => exact ⟨j + 1, hjlt, by go_num, by rw [hs.out, if_pos HC.out]⟩
            case measure => simp [intOf]; omega
          · have d1 : decide (v < u) = false := decide_eq_false hcmp
            have d2 : decide ((v : Int) < u) = false := decide_eq_false (by omega)
            have HC := Lib.hid hcmp
            clear hcmp
            go_wp2_with fail
            go_round
            case rel => exact ⟨j + 1, hjlt, by go_num, by rw [hs.out, if_neg HC.out]⟩
            case measure => simp [intOf]; omega
        · obtain rfl : j = 256 := by omega
          go_wp2_with fail
          go_ret2
          exact ⟨ret_pair hrv.out.1.symm hrv.out.2.symm, HI.out.2⟩
end Go.Proofs.Ytpekofpiodaadaa.Hb
end

section
/- The walks of vote.Vote, ref24.Class, ref24.Vote. -/
namespace Go.Proofs.Ytpekofpiodaadaa.Hb
set_option linter.unusedVariables false
set_option linter.unusedSimpArgs false
open Go.RowKit

def cfgA (k cl b t d l p : Int) : Array Value := #[.int .i64 k, .int .i64 cl, .int .i64 b, .int .i64 t, .int .i64 d, .int .i64 l, .int .i64 p]
set_option maxRecDepth 100000 in
set_option maxHeartbeats 2000000 in
theorem vote_any (k cl b t d l p : Int) (xs : List Nd) (A : Option Addr) (cap : Nat) (w : World) (hr : RN w A xs) (hl : xs.length ≤ 9223372036854775806) :
    Calls Try.prog 159 #[.agg (cfgA k cl b t d l p), .slice A xs.length cap] w fun e w' => e = .returned (resP (voteO k cl xs)) ∧ Below w.heap.size w w' := by
  have KC := Lib.hid (fun w hr => class_any xs cl A cap w hr hl)
  have KM := Lib.hid (fun w hr => mean_any xs A cap w hr (by omega))
  have HR := Lib.hid hr
  obtain ⟨n, hn⟩ : ∃ n, xs.length = n := ⟨_, rfl⟩
  rw [hn] at KC KM ⊢
  clear hr hn hl
  unfold cfgA resP
  by_cases h0 : k = 0
  · have e : voteO k cl xs = classO xs cl := if_pos h0
    rw [e]
    obtain ⟨⟨rv, re⟩, hR⟩ : ∃ R, classO xs cl = R := ⟨_, rfl⟩
    rw [hR] at KC ⊢
    unfold resP at KC
    have k1 : (k == 0) = true := beq_iff_eq.2 h0
    clear h0 hR e KM
    go_enter Try.func159, Try.ntmps159
    go_wp2_with fail
    refine (KC.out _ (HR.out.below ((Below.refl _ w).alloc (Nat.le_refl _) _))).mono ?_
    rintro e w1 ⟨rfl, hb⟩
    have be : Below w.heap.size w w1 := ((Below.refl _ w).alloc (Nat.le_refl _) _).trans (hb.mono (by simp))
    clear hb
    go_wp2_with fail
    go_ret2
    exact ⟨rfl, be⟩
  · have k1 : (k == 0) = false := beq_eq_false_iff_ne.2 h0
    by_cases h1 : k = 1
    · have e : voteO k cl xs = meanO xs := (if_neg h0).trans (if_pos h1)
      rw [e]
      obtain ⟨⟨rv, re⟩, hR⟩ : ∃ R, meanO xs = R := ⟨_, rfl⟩
      rw [hR] at KM ⊢
      unfold resP at KM
      have k2 : (k == 1) = true := beq_iff_eq.2 h1
      clear h0 h1 hR e KC
      go_enter Try.func159, Try.ntmps159
      go_wp2_with fail
      refine (KM.out _ (HR.out.below ((Below.refl _ w).alloc (Nat.le_refl _) _))).mono ?_
      rintro e w1 ⟨rfl, hb⟩
      have be : Below w.heap.size w w1 := ((Below.refl _ w).alloc (Nat.le_refl _) _).trans (hb.mono (by simp))
      clear hb
      go_wp2_with fail
      go_ret2
      exact ⟨rfl, be⟩
    · have e : voteO k cl xs = (0, 1) := (if_neg h0).trans (if_neg h1)
      rw [e]
      have k2 : (k == 1) = false := beq_eq_false_iff_ne.2 h1
      clear h0 h1 e
      go_enter Try.func159, Try.ntmps159
      go_wp2_with fail
      go_ret2
      exact ⟨rfl, (Below.refl _ w).alloc (Nat.le_refl _) _⟩
set_option maxRecDepth 100000 in
set_option maxHeartbeats 4000000 in
theorem rclass_any (l : List Nd) (classes : Int) (A : Option Addr) (cap : Nat) (w : World) (hr : RN w A l) (hl : l.length ≤ 9223372036854775806) :
    Calls Try.prog 199 #[.slice A l.length cap, .int .i64 classes] w fun e w' => e = .returned (resP (classO l classes)) ∧ w = w' := by
  obtain ⟨n, hn⟩ : ∃ n, l.length = n := ⟨_, rfl⟩
  rw [hn] at hl ⊢
  unfold resP
  by_cases h0 : n = 0
  · subst h0
    have e0 : l = [] := List.length_eq_zero_iff.1 hn
    rw [class_1 (.inl e0)]
    clear hn hr e0
    go_enter Try.func199, Try.ntmps199
    go_wp2_with fail
    go_ret2
    exact ⟨rfl, rfl⟩
  have hn0 : ((n : Int) == 0) = false := beq_eq_false_iff_ne.2 (by omega)
  have hn0' : (n == 0) = false := beq_eq_false_iff_ne.2 h0
  by_cases hc : classes < 1 ∨ 256 < classes
  · rw [class_1 (.inr hc)]
    rcases hc with hc | hc
    · have c1 : decide (classes < 1) = true := decide_eq_true hc
      go_enter Try.func199, Try.ntmps199
      go_wp2_with fail
      go_ret2
      exact ⟨rfl, rfl⟩
    · have c1 : decide (classes < 1) = false := decide_eq_false (by omega)
      have c2 : decide (256 < classes) = true := decide_eq_true hc
      go_enter Try.func199, Try.ntmps199
      go_wp2_with fail
      go_ret2
      exact ⟨rfl, rfl⟩
  have hcl1 : 1 ≤ classes := by omega
  have hcl2 : classes ≤ 256 := by omega
  have hl0 : l ≠ [] := fun e => h0 (by rw [← hn, e]; rfl)
  have HGO : Hid (classO l classes = if l.any (offC classes) = true then ((0, 5) : Int × Int) else (((bestUp (cntC l) 256 : Nat) : Int), 0)) := Lib.hid (class_go (by rintro (h | h); exact hl0 h; exact hc h))
  have HBD : Hid (l.any (offC classes) = false → bestDn (cntC l) classes.toNat 0 (-1) = bestUp (cntC l) 256) := Lib.hid (fun h => (best_both hl0 hcl1 hcl2 h).1)
  obtain ⟨⟨rv, re⟩, hR⟩ : ∃ R, classO l classes = R := ⟨_, rfl⟩
  rw [hR] at HGO ⊢
  have HN := Lib.hid hn
  have HRN := Lib.hid hr
  have c1 : decide (classes < 1) = false := decide_eq_false (by omega)
  have c2 : decide (256 < classes) = false := decide_eq_false (by omega)
  obtain ⟨C, hC⟩ := Int.eq_ofNat_of_zero_le (show 0 ≤ classes by omega)
  subst hC
  have hC1 : 1 ≤ C := by omega
  have hC2 : C ≤ 256 := by omega
  clear hR hn hr h0 hc hl0
  go_enter Try.func199, Try.ntmps199
  go_wp2_with fail
  clear hn0 hn0' c1 c2
  go_loop [6] (fun iv => ∃ k : Nat, k ≤ n ∧ iv = .int .i64 k ∧ Hid ((l.take k).any (offC C) = false)) (fun iv => n - (intOf iv).toNat)
  case atStart => exact ⟨0, Nat.zero_le _, rfl, Lib.hid rfl⟩
  case round =>
    obtain ⟨k, hk, rfl, HI⟩ := hrel
    by_cases hlt : k < n
    · have hlt' : (k : Int) < n := by omega
      obtain ⟨ad, rfl, x, hx, hxok, hat⟩ := HRN.out.at (i := k) (by rw [HN.out]; exact hlt)
      by_cases hoff : x.c < 0 ∨ (C : Int) ≤ x.c
      · have hres : Hid ((rv, re) = (0, 5)) := Lib.hid (by
          rw [HGO.out, if_pos]
          exact List.any_eq_true.2 ⟨x, List.mem_of_getElem? hx, decide_eq_true hoff⟩)
        obtain ⟨p0, p1, p2, p3, p4, p5⟩ := hat
        obtain ⟨f, b, ll, cc, sx, q⟩ := x
        simp only at p0 p1 p2 p3 p4 p5 hoff
        clear hx hxok
        rcases hoff with hoff | hoff
        · have d1 : decide (cc < 0) = true := decide_eq_true hoff
          go_wp2_with fail
          go_ret2
          exact ⟨ret_pair (congrArg Prod.fst hres.out).symm (congrArg Prod.snd hres.out).symm, rfl⟩
        · have d1 : decide (cc < 0) = false := decide_eq_false (by omega)
          have d2 : decide ((C : Int) ≤ cc) = true := decide_eq_true hoff
          go_wp2_with fail
          go_ret2
          exact ⟨ret_pair (congrArg Prod.fst hres.out).symm (congrArg Prod.snd hres.out).symm, rfl⟩
      · have hany : Hid ((l.take (k + 1)).any (offC C) = false) := Lib.hid (by
          rw [take_snocN hx, List.any_append, HI.out]
          simp [offC]; omega)
        obtain ⟨p0, p1, p2, p3, p4, p5⟩ := hat
        obtain ⟨f, b, ll, cc, sx, q⟩ := x
        simp only at p0 p1 p2 p3 p4 p5 hoff
        have d1 : decide (cc < 0) = false := decide_eq_false (by omega)
        have d2 : decide ((C : Int) ≤ cc) = false := decide_eq_false (by omega)
        clear hx hxok hoff
        go_wp2_with fail
        go_round
        case rel => exact ⟨k + 1, hlt, by go_num, hany⟩
        case measure => simp [intOf]; omega
    · obtain rfl : k = n := by omega
      have htk : l.take k = l := List.take_of_length_le (by rw [HN.out]; exact Nat.le_refl _)
      have hany : l.any (offC C) = false := by have := HI.out; rwa [htk] at this
      have hres : Hid (rv = ((bestDn (cntC l) C 0 (-1) : Nat) : Int) ∧ re = 0) := Lib.hid (by
        have e := HGO.out
        rw [hany, if_neg (by simp)] at e
        have e2 := HBD.out hany
        rw [Int.toNat_natCast] at e2
        rw [e2]
        exact ⟨congrArg Prod.fst e, congrArg Prod.snd e⟩)
      clear hany htk
      go_wp2_with fail
      go_loop [7, 8, 9] (fun bv mv cv => ∃ (j b : Nat) (m : Int), j ≤ C ∧ cv = .int .i64 ((j : Int) - 1) ∧ bv = .int .i64 b ∧ mv = .int .i64 m ∧ Hid (bestDn (cntC l) j b m = bestDn (cntC l) C 0 (-1))) (fun _ _ cv => (intOf cv + 1).toNat)
      case atStart => exact ⟨C, 0, -1, Nat.le_refl _, rfl, rfl, rfl, Lib.hid rfl⟩
      case round =>
        obtain ⟨j, b, m, hj, rfl, rfl, rfl, HB⟩ := hrel
        rcases j with _ | j
        · go_wp2_with fail
          go_ret2
          exact ⟨ret_pair (by rw [hres.out.1, ← HB.out]; rfl) hres.out.2.symm, rfl⟩
        · have ej : (((j + 1 : Nat) : Int) - 1) = (j : Int) := by omega
          rw [ej]
          go_wp2_with fail
          go_loop [10, 11] (fun nv iv => ∃ k2 : Nat, k2 ≤ k ∧ iv = .int .i64 k2 ∧ nv = .int .i64 (cntC (l.take k2) j : Nat)) (fun _ iv => k - (intOf iv).toNat)
          case atStart => exact ⟨0, Nat.zero_le _, rfl, rfl⟩
          case round =>
            obtain ⟨k2, hk2, rfl, rfl⟩ := hrel
            by_cases hlt : k2 < k
            · have hlt' : (k2 : Int) < k := by omega
              obtain ⟨ad, rfl, x, hx, hxok, hat⟩ := HRN.out.at (i := k2) (by rw [HN.out]; exact hlt)
              have hle : cntC (l.take k2) j ≤ 9223372036854775806 := by
                have a1 := cnt_le (l.take k2) j
                have a2 : (l.take k2).length ≤ k2 := List.length_take_le _ _
                omega
              have hs : Hid (cntC (l.take (k2 + 1)) j = if x.c = j then cntC (l.take k2) j + 1 else cntC (l.take k2) j) := Lib.hid (by
                rw [take_snocN hx]
                unfold cntC
                rw [List.filter_append, List.length_append]
                by_cases hh : x.c = (j : Int)
                · rw [if_pos hh, List.filter_cons, if_pos (by simpa using hh)]; rfl
                · rw [if_neg hh, List.filter_cons, if_neg (by simpa using hh)]; rfl)
              obtain ⟨u, hu⟩ : ∃ u, cntC (l.take k2) j = u := ⟨_, rfl⟩
              rw [hu] at hs hle ⊢
              obtain ⟨p0, p1, p2, p3, p4, p5⟩ := hat
              obtain ⟨f, b2, ll, cc, sx, q⟩ := x
              simp only at p0 p1 p2 p3 p4 p5 hs
              clear hx hxok hu
              by_cases hcj : cc = (j : Int)
              · have d1 : (cc == (j : Int)) = true := beq_iff_eq.2 hcj
                have HCJ := Lib.hid hcj
                clear hcj
                go_wp2_with fail
                go_round
                case rel => exact ⟨k2 + 1, hlt, by go_num, by rw [hs.out, if_pos HCJ.out]; go_num⟩
                case measure => simp [intOf]; omega
              · have d1 : (cc == (j : Int)) = false := beq_eq_false_iff_ne.2 hcj
                have HCJ := Lib.hid hcj
                clear hcj
                go_wp2_with fail
                go_round
                case rel => exact ⟨k2 + 1, hlt, by go_num, by rw [hs.out, if_neg HCJ.out]⟩
                case measure => simp [intOf]; omega
            · obtain rfl : k2 = k := by omega
              have htk : l.take k2 = l := List.take_of_length_le (by rw [HN.out]; exact Nat.le_refl _)
              rw [htk]
              obtain ⟨u, hu⟩ : ∃ u, cntC l j = u := ⟨_, rfl⟩
              have hs : Hid (bestDn (cntC l) (j + 1) b m = if m ≤ (u : Int) then bestDn (cntC l) j j u else bestDn (cntC l) j b m) := Lib.hid (by rw [bestDn, hu])
              rw [hu]
              clear hu htk
              by_cases hm : m ≤ (u : Int)
              · have d1 : decide (m ≤ (u : Int)) = true := decide_eq_true hm
                have HM := Lib.hid hm
                clear hm
                go_wp2_with fail
                go_round
                case rel => exact ⟨j, j, u, by omega, by go_num, rfl, rfl, Lib.hid (by rw [← HB.out, hs.out, if_pos HM.out])⟩
                case measure => simp [intOf]
              · have d1 : decide (m ≤ (u : Int)) = false := decide_eq_false hm
                have HM := Lib.hid hm
                clear hm
                go_wp2_with fail
                go_round
                case rel => exact ⟨j, b, m, by omega, by go_num, rfl, rfl, Lib.hid (by rw [← HB.out, hs.out, if_neg HM.out])⟩
                case measure => simp [intOf]
set_option maxRecDepth 100000 in
set_option maxHeartbeats 2000000 in
theorem rvote_any (k cl b t d l p : Int) (xs : List Nd) (A : Option Addr) (cap : Nat) (w : World) (hr : RN w A xs) (hl : xs.length ≤ 9223372036854775806) :
    Calls Try.prog 162 #[.agg (cfgA k cl b t d l p), .slice A xs.length cap] w fun e w' => e = .returned (resP (voteO k cl xs)) ∧ Below w.heap.size w w' := by
  have KC := Lib.hid (fun w hr => rclass_any xs cl A cap w hr hl)
  have KM := Lib.hid (fun w hr => rmean_any xs A cap w hr (by omega))
  have HR := Lib.hid hr
  obtain ⟨n, hn⟩ : ∃ n, xs.length = n := ⟨_, rfl⟩
  rw [hn] at KC KM ⊢
  clear hr hn hl
  unfold cfgA resP
  by_cases h0 : k = 0
  · have e : voteO k cl xs = classO xs cl := if_pos h0
    rw [e]
    obtain ⟨⟨rv, re⟩, hR⟩ : ∃ R, classO xs cl = R := ⟨_, rfl⟩
    rw [hR] at KC ⊢
    unfold resP at KC
    have k1 : (k == 0) = true := beq_iff_eq.2 h0
    clear h0 hR e KM
    go_enter Try.func162, Try.ntmps162
    go_wp2_with fail
    refine (KC.out _ (HR.out.below ((Below.refl _ w).alloc (Nat.le_refl _) _))).mono ?_
    rintro e w1 ⟨rfl, rfl⟩
    go_wp2_with fail
    go_ret2
    exact ⟨rfl, (Below.refl _ w).alloc (Nat.le_refl _) _⟩
  · have k1 : (k == 0) = false := beq_eq_false_iff_ne.2 h0
    by_cases h1 : k = 1
    · have e : voteO k cl xs = meanO xs := (if_neg h0).trans (if_pos h1)
      rw [e]
      obtain ⟨⟨rv, re⟩, hR⟩ : ∃ R, meanO xs = R := ⟨_, rfl⟩
      rw [hR] at KM ⊢
      unfold resP at KM
      have k2 : (k == 1) = true := beq_iff_eq.2 h1
      clear h0 h1 hR e KC
      go_enter Try.func162, Try.ntmps162
      go_wp2_with fail
      refine (KM.out _ (HR.out.below ((Below.refl _ w).alloc (Nat.le_refl _) _))).mono ?_
      rintro e w1 ⟨rfl, hb⟩
      have be : Below w.heap.size w w1 := ((Below.refl _ w).alloc (Nat.le_refl _) _).trans (hb.mono (by simp))
      clear hb
      go_wp2_with fail
      go_ret2
      exact ⟨rfl, be⟩
    · have e : voteO k cl xs = (0, 1) := (if_neg h0).trans (if_neg h1)
      rw [e]
      have k2 : (k == 1) = false := beq_eq_false_iff_ne.2 h1
      clear h0 h1 e
      go_enter Try.func162, Try.ntmps162
      go_wp2_with fail
      go_ret2
      exact ⟨rfl, (Below.refl _ w).alloc (Nat.le_refl _) _⟩
end Go.Proofs.Ytpekofpiodaadaa.Hb
end

section
/- Groves as they are read; the walk of oob.leaves. -/
namespace Go.Proofs.Ytpekofpiodaadaa.Hb
set_option linter.unusedVariables false
set_option linter.unusedSimpArgs false
open Go.RowKit

def grvA (g : Grv) (Ac At Aw Ag : Option Addr) (cc ct cw cg : Nat) : Array Value :=
  #[.int .i64 g.k, .int .i64 g.cl, .int .i64 g.b, .int .i64 g.t, .int .i64 g.d, .int .i64 g.l, .int .i64 g.p, .int .i64 g.rows, .int .i64 g.cols, .slice Ac g.cells.length cc, .slice At g.trees.length ct, .slice Aw g.weights.length cw, .slice Ag g.tgt.length cg]
structure RG (w : World) (g : Grv) (Ac At Aw Ag : Option Addr) : Prop where
  rc : RC w Ac g.cells
  rt : RT w At g.trees
  rw : RW w Aw g.weights
  rg : RI1 w Ag g.tgt
structure OkG (g : Grv) : Prop where
  lc : g.cells.length ≤ 9223372036854775807
  lt : g.trees.length ≤ 1048576
  lw : g.weights.length ≤ 9223372036854775807
  lg : g.tgt.length ≤ 9223372036854775807
  tt : ∀ t ∈ g.trees, t.length ≤ 1099511627776
  ww : ∀ x ∈ g.weights, x.length ≤ 9223372036854775807
theorem RG.below {w w1 : World} {g : Grv} {Ac At Aw Ag : Option Addr} (h : RG w g Ac At Aw Ag) (hb : Below w.heap.size w w1) : RG w1 g Ac At Aw Ag := ⟨h.rc.below hb, h.rt.below hb, h.rw.below hb, h.rg.below hb⟩
theorem Blk.cells13 {w : World} {g : Nat} {a b c d e f h i j k l m n : Value} {t : TypeId} (x : Blk w g #[a, b, c, d, e, f, h, i, j, k, l, m, n] t) :
    w.cell? ⟨g, 0, none⟩ = some a ∧ w.cell? ⟨g, 1, none⟩ = some b ∧ w.cell? ⟨g, 2, none⟩ = some c ∧ w.cell? ⟨g, 3, none⟩ = some d ∧ w.cell? ⟨g, 4, none⟩ = some e ∧ w.cell? ⟨g, 5, none⟩ = some f ∧
    w.cell? ⟨g, 6, none⟩ = some h ∧ w.cell? ⟨g, 7, none⟩ = some i ∧ w.cell? ⟨g, 8, none⟩ = some j ∧ w.cell? ⟨g, 9, none⟩ = some k ∧ w.cell? ⟨g, 10, none⟩ = some l ∧ w.cell? ⟨g, 11, none⟩ = some m ∧ w.cell? ⟨g, 12, none⟩ = some n :=
  ⟨x.cell 0, x.cell 1, x.cell 2, x.cell 3, x.cell 4, x.cell 5, x.cell 6, x.cell 7, x.cell 8, x.cell 9, x.cell 10, x.cell 11, x.cell 12⟩
theorem info_node : (Try.prog.info? 90).map (fun i => (i.zero, i.size, i.bytes)) = some (some (.agg #[.int .i64 0, .int .i64 0, .int .i64 0, .int .i64 0, .int .i64 0, .int .i64 0]), 6, 48) := by kernel_rfl
theorem cell_six (w : World) (a b c d e f : Value) (t : TypeId) : ∀ j u, [a, b, c, d, e, f][j]? = some u → (w.alloc (.cells #[a, b, c, d, e, f] t)).cell? ((⟨w.heap.size, 0, none⟩ : Addr).add j) = some u := by
  intro j u hj
  have k := (Blk.new w #[a, b, c, d, e, f] t).cell j
  rw [show (⟨w.heap.size, 0, none⟩ : Addr).add j = ⟨w.heap.size, j, none⟩ from by unfold Addr.add; split <;> simp_all]
  rw [k]
  simpa using hj
/-- A row of numbers that is owned is read. -/
theorem RI1.own {w : World} {base n c : Nat} {A : Option Addr} {l : List Int} (h : w.ownsRow base 3 1 (.slice A n c) l.length (ints l)) (ho : ∀ x ∈ l, in64 x) : RI1 w A l := by
  intro hl
  obtain ⟨g, cap, hv, _, _, _, hc⟩ := own_open h hl
  simp only [Value.slice.injEq] at hv
  obtain ⟨rfl, _, _⟩ := hv
  refine ⟨_, rfl, fun i y hy => ⟨[.int .i64 y], rfl, ⟨rfl, ho y (List.mem_of_getElem? hy)⟩, fun j u hj => ?_⟩⟩
  have hi : i < l.length := (List.getElem?_eq_some_iff.1 hy).1
  rcases j with _ | j
  · simp at hj; subst hj
    rw [Nat.mul_one, Nat.add_zero, show (⟨g, 0, none⟩ : Addr).add i = ⟨g, i, none⟩ from by unfold Addr.add; split <;> simp_all]
    refine hc i _ ?_
    rw [ints_get hi, List.getD_eq_getElem?_getD, hy]; rfl
  · simp at hj
theorem ndC_len (x : Nd) : (ndC x).length = 6 := rfl
theorem flat_get : ∀ (l : List Nd) (i j : Nat) (x : Nd), l[i]? = some x → j < 6 → (l.flatMap ndC)[i * 6 + j]? = (ndC x)[j]?
  | [], i, j, x, h, _ => by simp at h
  | y :: l, i, j, x, h, hj => by
    rw [List.flatMap_cons]
    rcases i with _ | i
    · simp at h; subst h
      rw [Nat.zero_mul, Nat.zero_add, List.getElem?_append_left (by rw [ndC_len]; exact hj)]
    · rw [List.getElem?_append_right (by rw [ndC_len]; omega), ndC_len, show (i + 1) * 6 + j - 6 = i * 6 + j by omega]
      exact flat_get l i j x (by simpa using h) hj
/-- Nodes that are owned are read. -/
theorem RN.own {w : World} {base n c : Nat} {A : Option Addr} {l : List Nd} (h : w.ownsRow base 90 6 (.slice A n c) l.length (l.flatMap ndC)) (ho : ∀ x ∈ l, x.ok) : RN w A l := by
  intro hl
  obtain ⟨g, cap, hv, _, _, _, hc⟩ := own_open h hl
  simp only [Value.slice.injEq] at hv
  obtain ⟨rfl, _, _⟩ := hv
  refine ⟨_, rfl, fun i y hy => ⟨ndC y, rfl, ⟨rfl, ho y (List.mem_of_getElem? hy)⟩, fun j u hj => ?_⟩⟩
  have hj6 : j < 6 := by have := (List.getElem?_eq_some_iff.1 hj).1; rwa [ndC_len] at this
  rw [show (⟨g, 0, none⟩ : Addr).add (i * 6 + j) = ⟨g, i * 6 + j, none⟩ from by unfold Addr.add; split <;> simp_all]
  exact hc _ _ (by rw [flat_get l i j y hy hj6]; exact hj)
theorem RN.ok {w : World} {A : Option Addr} {l : List Nd} (h : RN w A l) : ∀ x ∈ l, x.ok := by
  intro x hx
  obtain ⟨i, hi, rfl⟩ := List.getElem_of_mem hx
  obtain ⟨_, _, x, h1, h2, _⟩ := h.at hi
  rw [List.getElem?_eq_getElem hi] at h1
  cases h1; exact h2
theorem row_in {rows cols : Int} {cells : List Int} {i : Nat} (h : ∀ x ∈ cells, 0 ≤ x ∧ x ≤ 65535) : ∀ x ∈ rowO rows cols cells i, 0 ≤ x ∧ x ≤ 65535 := by
  intro x hx
  obtain ⟨j, _, rfl⟩ := List.mem_map.1 hx
  rw [List.getD_eq_getElem?_getD]
  cases hq : cells[j * rows.toNat + i]? with
  | none => simp
  | some y => exact h y (List.mem_of_getElem? hq)
theorem leaves_skip {row : List Int} {i k : Nat} {ts : List (List Nd)} {ws : List (List Int)} {t : List Nd} {x : List Int} (h1 : ts[k]? = some t) (h2 : ws[k]? = some x) (h : x.getD i 0 ≠ 0) : leavesGo row i (ts.drop k) (ws.drop k) = leavesGo row i (ts.drop (k + 1)) (ws.drop (k + 1)) := by
  obtain ⟨hk1, rfl⟩ := List.getElem?_eq_some_iff.1 h1
  obtain ⟨hk2, rfl⟩ := List.getElem?_eq_some_iff.1 h2
  rw [List.drop_eq_getElem_cons hk1, List.drop_eq_getElem_cons hk2, leavesGo, if_pos h]
theorem leaves_take {row : List Int} {i k : Nat} {ts : List (List Nd)} {ws : List (List Int)} {t : List Nd} {x : List Int} (h1 : ts[k]? = some t) (h2 : ws[k]? = some x) (h : x.getD i 0 = 0) : leavesGo row i (ts.drop k) (ws.drop k) = ndAt t (placeO t row) :: leavesGo row i (ts.drop (k + 1)) (ws.drop (k + 1)) := by
  obtain ⟨hk1, rfl⟩ := List.getElem?_eq_some_iff.1 h1
  obtain ⟨hk2, rfl⟩ := List.getElem?_eq_some_iff.1 h2
  rw [List.drop_eq_getElem_cons hk1, List.drop_eq_getElem_cons hk2, leavesGo, if_neg (by simpa using h)]
set_option maxRecDepth 100000 in
set_option maxHeartbeats 4000000 in
theorem leaves1_any (g : Grv) (Ac At Aw Ag : Option Addr) (cc ct cw cg : Nat) (i B : Nat) (w : World) (hmay : mayG g = true) (hok : OkG g) (hi : (i : Int) < g.rows) (hr : RG w g Ac At Aw Ag) (hB : Blk w B (grvA g Ac At Aw Ag cc ct cw cg) 83) :
    Calls Try.prog 229 #[.int .i64 i, .pointer (some ⟨B, 0, none⟩)] w fun e w' => ∃ v, e = .returned v ∧ w'.ownsRow w.heap.size 90 6 v (leavesO g i).length ((leavesO g i).flatMap ndC) ∧ Below w.heap.size w w' := by
  obtain ⟨m1, m2, _⟩ := may_is hmay
  obtain ⟨_, hmat, hc1, hc2, hlen, _⟩ := head_is m1
  have hmb : matB g.rows g.cols g.cells.length = true := decide_eq_true hmat
  have KR := Lib.hid (fun w hr => mrow_any g.rows g.cols g.cells Ac cc i w hmb hr hi)
  have HTR := Lib.hid (fun (k : Nat) (t : List Nd) (x : List Int) h1 h2 => trees_is m2 k t x h1 h2)
  have hrl : (rowO g.rows g.cols g.cells i).length = g.cols.toNat := row_len _ _ _ _
  have HRI := Lib.hid (row_in (rows := g.rows) (cols := g.cols) (i := i) hr.rc.1)
  have HL0 : Hid (leavesGo (rowO g.rows g.cols g.cells i) i (g.trees.drop 0) (g.weights.drop 0) = leavesO g i) := Lib.hid (by rw [List.drop_zero, List.drop_zero]; rfl)
  obtain ⟨L, hL⟩ : ∃ L, leavesO g i = L := ⟨_, rfl⟩
  obtain ⟨R, hR⟩ : ∃ R, rowO g.rows g.cols g.cells i = R := ⟨_, rfl⟩
  rw [hR] at KR hrl HRI HL0
  rw [hL] at HL0 ⊢
  have HLL : Hid (L.length ≤ g.trees.length) := Lib.hid (by rw [← hL]; exact leaves_len _ _ _ _)
  have HOK := Lib.hid hok
  have HRG := Lib.hid hr
  obtain ⟨k, cl, b, t, d, l, p, rows, cols, cells, trees, weights, tgt⟩ := g
  simp only at *
  unfold grvA at hB
  simp only at hB
  obtain ⟨nc, hnc⟩ : ∃ n, cells.length = n := ⟨_, rfl⟩
  obtain ⟨nt, hnt⟩ : ∃ n, trees.length = n := ⟨_, rfl⟩
  obtain ⟨nw, hnw⟩ : ∃ n, weights.length = n := ⟨_, rfl⟩
  obtain ⟨ng, hng⟩ : ∃ n, tgt.length = n := ⟨_, rfl⟩
  rw [hnc] at KR
  rw [hnt] at HLL hlen
  rw [hnw] at hlen
  rw [hnc, hnt, hnw, hng] at hB
  subst hlen
  obtain ⟨q0, q1, q2, q3, q4, q5, q6, q7, q8, q9, q10, q11, q12⟩ := hB.cells13
  have hlB := hB.lt
  have HNT := Lib.hid hnt
  have HNW := Lib.hid hnw
  have hntb : nw ≤ 1048576 := by have := HOK.out.lt; simp only at this; omega
  have HB := Lib.hid hB
  have HRL := Lib.hid hrl
  have hcb : cols.toNat ≤ 1024 := by omega
  have HCOL : Hid (cols ≤ (cols.toNat : Int)) := Lib.hid (by omega)
  have HI := Lib.hid hi
  obtain ⟨i0, hi0, hz0, hz1, hz2⟩ := info_parts info_node
  clear hmay hok hr hB m1 m2 hmat hmb hrl hL hR hnc hnt hnw hng hc1 hc2 hi
  go_enter Try.func229, Try.ntmps229
  go_wp2_with fail
  refine (KR.out _ HRG.out.rc).mono ?_
  rintro e w1 ⟨v, rfl, ho, hb⟩
  obtain ⟨Ar, cr, rfl⟩ := own_slice ho
  have HRR : Hid (RI1 w1 Ar R) := Lib.hid (RI1.own (by rw [HRL.out]; exact ho) (fun x hx => by have := HRI.out x hx; unfold in64; omega))
  have HB1 := Lib.hid (HB.out.below hb)
  have HBW := Lib.hid hb
  have HRG1 := Lib.hid (HRG.out.below hb)
  clear q0 q1 q2 q3 q4 q5 q6 q7 q8 q9 q10 q11 q12 hlB ho hb
  obtain ⟨q0, q1, q2, q3, q4, q5, q6, q7, q8, q9, q10, q11, q12⟩ := HB1.out.cells13
  go_wp2_with fail
  clear q0 q1 q2 q3 q4 q5 q6 q7 q8 q9 q10 q11 q12
  go_loopw [5, 16] (fun o iv wr => ∃ (k m : Nat) (a : Option Addr) (c : Nat), k ≤ nw ∧ m ≤ k ∧ iv = .int .i64 k ∧ o = .slice a m c ∧ Hid (∃ pre : List Nd, pre.length = m ∧ pre ++ leavesGo R i (trees.drop k) (weights.drop k) = L ∧ wr.ownsRow w1.heap.size 90 6 (.slice a m c) m (pre.flatMap ndC)) ∧ Hid (Below w1.heap.size w1 wr)) (fun _ iv _ => nw - (intOf iv).toNat)
  case atStart => exact ⟨0, 0, none, 0, Nat.zero_le _, Nat.le_refl _, rfl, rfl, Lib.hid ⟨[], rfl, HL0.out, World.ownsRow_nil _ _ _ _⟩, Lib.hid (Below.refl _ _)⟩
  case round =>
    obtain ⟨k, m, a, c, hk, hmk, rfl, rfl, HO, HBE⟩ := hrel
    by_cases hlt : k < nw
    · have hlt' : (k : Int) < nw := by omega
      have kB := HB1.out.below HBE.out
      obtain ⟨q0, q1, q2, q3, q4, q5, q6, q7, q8, q9, q10, q11, q12⟩ := kB.cells13
      have hlB := kB.lt
      have HR2 := Lib.hid (HRG1.out.below HBE.out)
      obtain ⟨adt, rfl, tr, Bt, capt, ht1, ht2, ht3, ht4, ht5⟩ := HR2.out.rt.at (i := k) (by rw [HNT.out]; exact hlt)
      obtain ⟨adw, rfl, wk, Bw, capw, hw1, hw2, hw3, hw4, hw5⟩ := HR2.out.rw.at (i := k) (by rw [HNW.out]; exact hlt)
      obtain ⟨htr1, htr2⟩ := HTR.out k tr wk ht1 hw1
      have hiw : i < wk.length := by have := HI.out; omega
      obtain ⟨adx, rfl, hxin, hx⟩ := hw5.at hiw
      obtain ⟨nwk, hnwk⟩ : ∃ n, wk.length = n := ⟨_, rfl⟩
      rw [hnwk] at hw2 hiw
      have hiw' : (i : Int) < nwk := by omega
      obtain ⟨x, hxx⟩ : ∃ x, wk.getD i 0 = x := ⟨_, rfl⟩
      rw [hxx] at hx
      have htl := HOK.out.tt tr (List.mem_of_getElem? ht1)
      by_cases hx0 : x = 0
      · have HSK := Lib.hid (leaves_take (row := R) ht1 hw1 (i := i) (by rw [hxx]; exact hx0))
        obtain ⟨pl1, pl2, pl3⟩ := place_right htr2 (by omega) R (by rw [HRL.out]; exact HCOL.out)
        have HNX : Hid (ndAt tr (placeO tr R)).ok := Lib.hid (ht5.ok _ (List.mem_of_getElem? (ndAt_get pl1 pl2)))
        obtain ⟨pN, hpN⟩ := Int.eq_ofNat_of_zero_le pl1
        have KP := Lib.hid (fun w hr hrr => place_any tr R Bt Ar capt cr w hr hrr htl (by rw [HRL.out]; omega))
        have hget := ndAt_get pl1 pl2
        rw [hpN] at KP hget HSK HNX pl2
        rw [Int.toNat_natCast] at hget
        rw [HRL.out] at KP
        obtain ⟨ntr, hntr⟩ : ∃ n, tr.length = n := ⟨_, rfl⟩
        rw [hntr] at KP ht2 ht3 pl2 htl
        have hpn2 : pN < ntr := by omega
        have HRN := Lib.hid ht5
        have HNTR := Lib.hid hntr
        have HGET := Lib.hid hget
        subst hx0
        clear ht1 hw1 htr1 htr2 hxin hnwk hxx pl1 pl3 hpN hntr ht5 hw5 kB hget
        go_wp2_with fail
        refine (KP.out _ HRN.out (HRR.out.below HBE.out)).mono ?_
        rintro e w2 ⟨rfl, hb⟩
        obtain ⟨adn, rfl, y, hy, hyok, hat⟩ := (HRN.out.below hb).at (i := pN) (by rw [HNTR.out]; exact hpn2)
        have hye : ndAt tr (pN : Int) = y := by have := HGET.out; rw [hy] at this; exact (Option.some.inj this).symm
        rw [hye] at HSK
        obtain ⟨p0, p1, p2, p3, p4, p5⟩ := hat
        have HO2 : Hid (∃ pre : List Nd, pre.length = m ∧ pre ++ leavesGo R i (trees.drop k) (weights.drop k) = L ∧ w2.ownsRow w1.heap.size 90 6 (.slice a m c) m (pre.flatMap ndC)) := Lib.hid (by
          obtain ⟨pre, h1, h2, h3⟩ := HO.out
          exact ⟨pre, h1, h2, own_below h3 hb⟩)
        have HBE2 := Lib.hid (HBE.out.trans (hb.mono HBE.out.size))
        have hs2 : w1.heap.size ≤ w2.heap.size := HBE2.out.size
        obtain ⟨pre, h1, h2, h3⟩ := HO2.out
        have HP1 := Lib.hid h1
        have HP2 := Lib.hid h2
        have HP3 := Lib.hid h3
        obtain ⟨f, b2, ll, cc2, sx, q⟩ := y
        simp only at p0 p1 p2 p3 p4 p5
        have d0 : decide (0 ≤ (pN : Int)) = true := decide_eq_true (by omega)
        clear hb hy hyok hye h1 h2 h3 HO HO2 ht2 hw2 hx q0 q1 q2 q3 q4 q5 q6 q7 q8 q9 q10 q11 q12 hlB
        go_wp2_with (at_builtin; refine wpList_append_lies _ rfl _ _ 88 rfl w1.heap.size 90 i0 (.agg #[.int .i64 0, .int .i64 0, .int .i64 0, .int .i64 0, .int .i64 0, .int .i64 0]) 6 48 Try.underlying88 hi0 hz0 hz1 hz2 rfl (by decide) _ _ _ rfl (HP3.out.alloc _) ⟨w2.heap.size, 0, none⟩ 1 1 [.int .i64 f, .int .i64 b2, .int .i64 ll, .int .i64 cc2, .int .i64 sx, .int .i64 q] rfl rfl (cell_six _ _ _ _ _ _ _ _) (by simp [Value.oneCell']) (by decide) (by unfold maxLen; omega) (by omega) (by simp; omega) _ rfl ?_; intro g3 c3 w3 hown3 hg3 hat3 hlt3)
        go_roundw
        case rel =>
          refine ⟨k + 1, m + 1, _, c3, hlt, by omega, by go_num, rfl, Lib.hid ⟨pre ++ [⟨f, b2, ll, cc2, sx, q⟩], by simp [HP1.out], ?_, ?_⟩, Lib.hid ?_⟩
          · have := HP2.out
            rw [HSK.out] at this
            rw [List.append_assoc]; exact this
          · rw [List.flatMap_append]; exact hown3
          · exact (HBE2.out.alloc (by omega) _).grown hg3 (by simp; omega) (fun q e => (World.ownsRow.lt HP3.out q e).1)
        case measure => simp [intOf]; omega
      · have HSK := Lib.hid (leaves_skip (row := R) ht1 hw1 (i := i) (by rw [hxx]; exact hx0))
        have d1 : (x != 0) = true := bne_iff_ne.2 hx0
        clear ht1 hw1 htr1 htr2 hxin hnwk hxx ht5 hw5 kB hx0
        go_wp2_with fail
        go_roundw
        case rel =>
          refine ⟨k + 1, m, a, c, hlt, by omega, by go_num, rfl, Lib.hid ?_, HBE⟩
          obtain ⟨pre, h1, h2, h3⟩ := HO.out
          exact ⟨pre, h1, by rw [← HSK.out]; exact h2, h3⟩
        case measure => simp [intOf]; omega
    · obtain rfl : k = nw := by omega
      go_wp2_with fail
      go_ret
      obtain ⟨pre, h1, h2, h3⟩ := HO.out
      have e0 : leavesGo R i (trees.drop k) (weights.drop k) = [] := by
        rw [List.drop_of_length_le (by rw [HNT.out]; exact Nat.le_refl _)]
        rfl
      rw [e0, List.append_nil] at h2
      subst h2
      refine ⟨_, rfl, ?_, HBW.out.trans (HBE.out.mono HBW.out.size)⟩
      rw [h1]
      exact World.ownsRow.mono h3 HBW.out.size
end Go.Proofs.Ytpekofpiodaadaa.Hb
end

section
/- A draw below a bound, of a source that is a stream. -/
namespace Go.Proofs.Ytpekofpiodaadaa.Hb
set_option linter.unusedVariables false
open Go.RowKit

set_option maxRecDepth 100000 in
set_option maxHeartbeats 1000000 in
theorem belowS_any (b : Nat) (num : Nat → Int) (J : Nat → World → Prop) (hnum : ∀ k, 0 ≤ num k)
    (hnext : ∀ k W, k ≤ 4611686018427387968 → J k W → Calls Try.prog 251 #[.pointer (some ⟨b, 0, none⟩)] W fun e W' => e = .returned (.int .u64 (num k)) ∧ J (k + 1) W' ∧ W.grownBy W' (some b))
    (n : Int) (k : Nat) (w : World) (h1 : 0 < n) (h2 : n ≤ 1048576) (hk : k ≤ 4611686018427387904) (hJ : J k w) :
    Calls Try.prog 211 #[.iface 225 (.pointer (some ⟨b, 0, none⟩)), .int .u64 n] w fun e W' => e = .returned (belV (drawO num n 64 k)) ∧ J (drawO num n 64 k).2 W' ∧ w.grownBy W' (some b) := by
  have hz : (n == 0) = false := beq_eq_false_iff_ne.2 (by omega)
  have hsp := spare_is n h1 h2
  obtain ⟨L, hL⟩ : ∃ L, limD n - 1 = L := ⟨_, rfl⟩
  rw [hL] at hsp
  have HL := Lib.hid hL
  clear hL
  have HJ := Lib.hid hJ
  have HK := Lib.hid hk
  have HN := Lib.hid hnext
  have HU := Lib.hid hnum
  clear hJ hk hnext hnum
  go_enter Try.func211, Try.ntmps211
  go_wp2_with fail
  go_loopw [14] (fun iv wr => ∃ i kk : Nat, i ≤ 64 ∧ iv = .int .i64 i ∧ Hid (kk ≤ k + i ∧ drawO num n 64 k = drawO num n (64 - i) kk ∧ J kk wr ∧ w.grownBy wr (some b))) (fun iv _ => 64 - (intOf iv).toNat)
  case atStart => exact ⟨0, k, Nat.zero_le _, rfl, Lib.hid ⟨Nat.le_refl _, rfl, HJ.out, grown_refl _ _⟩⟩
  case round =>
    obtain ⟨i, kk, hi, rfl, HR⟩ := hrel
    by_cases hlt : i < 64
    · have hlt' : (i : Int) < 64 := by omega
      go_wp2_with fail
      refine (HN.out kk _ (by have := HR.out.1; have := HK.out; omega) HR.out.2.2.1).mono ?_
      rintro e w1 ⟨rfl, hJ1, hg1⟩
      obtain ⟨x, hx⟩ : ∃ x, num kk = x := ⟨_, rfl⟩
      rw [hx]
      have hx0 : 0 ≤ x := by rw [← hx]; exact HU.out kk
      by_cases hc : x ≤ L
      · have hd : decide (x ≤ L) = true := decide_eq_true hc
        have hhit : drawO num n 64 k = (some (x % n), kk + 1) := by
          rw [HR.out.2.1, show 64 - i = (64 - i - 1) + 1 by omega, draw_hit (by rw [hx]; have := HL.out; omega), hx]
        have HH := Lib.hid hhit
        have HG := Lib.hid (grown_trans HR.out.2.2.2 hg1)
        have HJ1 := Lib.hid hJ1
        clear hhit hg1 hJ1 hc hx
        go_wp2_with fail
        go_ret2
        rw [HH.out]
        exact ⟨rfl, HJ1.out, HG.out⟩
      · have hd : decide (x ≤ L) = false := decide_eq_false hc
        have hhit : drawO num n 64 k = drawO num n (64 - (i + 1)) (kk + 1) := by
          rw [HR.out.2.1, show 64 - i = (64 - (i + 1)) + 1 by omega, draw_miss (by rw [hx]; have := HL.out; omega)]
        have HH : Hid (kk + 1 ≤ k + (i + 1) ∧ drawO num n 64 k = drawO num n (64 - (i + 1)) (kk + 1) ∧ J (kk + 1) w1 ∧ w.grownBy w1 (some b)) := Lib.hid ⟨by have := HR.out.1; omega, hhit, hJ1, grown_trans HR.out.2.2.2 hg1⟩
        clear hhit hg1 hJ1 hc hx
        go_wp2_with fail
        go_roundw
        case rel => exact ⟨i + 1, kk + 1, hlt, by go_num, HH⟩
        case measure => simp [intOf]; omega
    · obtain rfl : i = 64 := by omega
      have hhit : drawO num n 64 k = (none, kk) := by rw [HR.out.2.1]; rfl
      have HH := Lib.hid hhit
      clear hhit
      go_wp2_with fail
      go_ret2
      rw [HH.out]
      exact ⟨rfl, HR.out.2.2.1, HR.out.2.2.2⟩
end Go.Proofs.Ytpekofpiodaadaa.Hb
end

section
/- A key's stream as a source. -/
namespace Go.Proofs.Ytpekofpiodaadaa.Hb
set_option linter.unusedVariables false
open Go.RowKit

def xsF (z s : Int) : Int := bits .xor .u64 z (z / s)
def mixF (x : Int) : Int := xsF (IntKind.u64.wrap (xsF (IntKind.u64.wrap (xsF (IntKind.u64.wrap (x + 11400714819323198485)) 1073741824 * 13787848793156543929)) 134217728 * 10723151780598845931)) 2147483648
theorem bits_u64 (o : BinOp) (a b : Int) (ho : o = .xor) : 0 ≤ bits o .u64 a b ∧ bits o .u64 a b ≤ 18446744073709551615 := by
  subst ho
  have : ∃ z : Int, bits .xor .u64 a b = IntKind.u64.wrap z := ⟨_, rfl⟩
  obtain ⟨z, hz⟩ := this
  rw [hz, IntKind.wrap_u64]
  omega
theorem mixF_in (x : Int) : 0 ≤ mixF x ∧ mixF x ≤ 18446744073709551615 := bits_u64 _ _ _ rfl
set_option maxRecDepth 100000 in
set_option maxHeartbeats 400000 in
theorem mix_any (x : Int) (w : World) : Calls Try.prog 212 #[.int .u64 x] w fun e w' => e = .returned (.int .u64 (mixF x)) ∧ w' = w := by
  go_enter Try.func212, Try.ntmps212
  go_wp2_with fail
  go_ret
  exact ⟨rfl, rfl⟩
/-- A key's k-th number. -/
def numS (key : Int) (k : Nat) : Int := mixF (bits .xor .u64 key (mixF (k : Int)))
theorem numS_in (key : Int) (k : Nat) : 0 ≤ numS key k ∧ numS key k ≤ 18446744073709551615 := mixF_in _
set_option maxRecDepth 100000 in
set_option maxHeartbeats 400000 in
theorem at_any (key : Int) (k : Nat) (w : World) : Calls Try.prog 252 #[.int .u64 key, .int .u64 k] w fun e w' => e = .returned (.int .u64 (numS key k)) ∧ w' = w := by
  have h1 := mix_any (k : Int) w
  have h2 := mix_any (bits .xor .u64 key (mixF (k : Int))) w
  obtain ⟨x, hx⟩ : ∃ x, mixF (k : Int) = x := ⟨_, rfl⟩
  unfold numS
  rw [hx] at h1 h2 ⊢
  obtain ⟨y, hy⟩ : ∃ y, bits .xor .u64 key x = y := ⟨_, rfl⟩
  rw [hy] at h2 ⊢
  have H1 := Lib.hid h1
  have H2 := Lib.hid h2
  clear h1 h2 hx
  go_enter Try.func252, Try.ntmps252
  go_wp2_with fail
  refine H1.out.mono ?_
  rintro e w1 ⟨rfl, rfl⟩
  go_wp2_with fail
  refine H2.out.mono ?_
  rintro e w2 ⟨rfl, rfl⟩
  go_wp2_with fail
  go_ret
  exact ⟨rfl, rfl⟩
/-- A stream that has handed out k numbers. -/
def StrAt (b : Nat) (key : Int) (k : Nat) (w : World) : Prop := Blk w b #[.int .u64 key, .int .u64 k] 272
set_option maxRecDepth 100000 in
set_option maxHeartbeats 1000000 in
theorem nextS_any (b : Nat) (key : Int) (k : Nat) (w : World) (hk : k ≤ 4611686018427387968) (h : StrAt b key k w) :
    Calls Try.prog 251 #[.pointer (some ⟨b, 0, none⟩)] w fun e W' => e = .returned (.int .u64 (numS key k)) ∧ StrAt b key (k + 1) W' ∧ w.grownBy W' (some b) := by
  have hm := fun W => at_any key k W
  obtain ⟨z, hz⟩ : ∃ z, numS key k = z := ⟨_, rfl⟩
  rw [hz] at hm ⊢
  have HM := Lib.hid hm
  have HB := Lib.hid h
  have p0 := HB.out.cell 0
  have p1 := HB.out.cell 1
  simp only [List.getElem?_toArray, List.getElem?_cons_zero, List.getElem?_cons_succ] at p0 p1
  have hw : IntKind.u64.wrap ((k : Int) + 1) = (k : Int) + 1 := by rw [IntKind.wrap_u64]; omega
  clear hm h hz
  go_enter Try.func251, Try.ntmps251
  go_wp2_with fail
  go_quiet ((go_at_call 252; exact Calls.quiet_of_same (HM.out _)))
  obtain ⟨W1, e1⟩ : ∃ W1, W1 = w.drewN nq := ⟨_, rfl⟩
  rw [← e1]
  have HB1 := Lib.hid (show Blk W1 b #[.int .u64 key, .int .u64 k] 272 from by rw [e1]; exact HB.out.drewN _)
  have HG1 := Lib.hid (show w.grownBy W1 (some b) from by rw [e1]; exact grown_drewN (grown_refl _ _) _)
  clear p0 p1 e1
  have p0 := HB1.out.cell 0
  have p1 := HB1.out.cell 1
  simp only [List.getElem?_toArray, List.getElem?_cons_zero, List.getElem?_cons_succ] at p0 p1
  have pf := HB1.out.frozen
  go_wp2_with fail
  go_ret
  exact ⟨rfl, HB1.out.set 1 _, grown_set HG1.out _ _⟩
end Go.Proofs.Ytpekofpiodaadaa.Hb
end

section
/- The numbers of a key are unlike: plain. -/
namespace Go.Proofs.Ytpekofpiodaadaa.Hb
set_option linter.unusedVariables false
open Go.RowKit

theorem xs_nat {k a b : Nat} (hk : 0 < k) (ha : a < 18446744073709551616) (hb : b < 18446744073709551616) (h : a ^^^ (a >>> k) = b ^^^ (b >>> k)) : a = b := by
  have key : ∀ m i, 64 ≤ i + m → a.testBit i = b.testBit i := by
    intro m
    induction m with
    | zero =>
      intro i hi
      have e : ∀ x, x < 18446744073709551616 → x.testBit i = false := fun x hx => Nat.testBit_lt_two_pow (Nat.lt_of_lt_of_le hx (by
        have : (18446744073709551616 : Nat) = 2 ^ 64 := by decide
        rw [this]
        exact Nat.pow_le_pow_right (by omega) (by omega)))
      rw [e a ha, e b hb]
    | succ m ih =>
      intro i hi
      have h1 := congrArg (fun x => x.testBit i) h
      simp only [Nat.testBit_xor, Nat.testBit_shiftRight] at h1
      have h2 := ih (k + i) (by omega)
      rw [h2] at h1
      revert h1
      cases a.testBit i <;> cases b.testBit i <;> cases b.testBit (k + i) <;> simp
  exact Nat.eq_of_testBit_eq fun i => key 64 i (by omega)
theorem xsF_nat (a k : Nat) (ha : a < 18446744073709551616) : xsF (a : Int) ((2 ^ k : Nat) : Int) = ((a ^^^ (a >>> k) : Nat) : Int) := by
  unfold xsF
  rw [← Int.natCast_ediv, Nat.shiftRight_eq_div_pow]
  exact Go.u64_xor_nat a (a / 2 ^ k) ha (Nat.lt_of_le_of_lt (Nat.div_le_self _ _) ha)
theorem xsF_inj {x y : Int} {k : Nat} (hk : 0 < k) (hx : 0 ≤ x ∧ x ≤ 18446744073709551615) (hy : 0 ≤ y ∧ y ≤ 18446744073709551615) {s : Int} (hs : s = ((2 ^ k : Nat) : Int)) (h : xsF x s = xsF y s) : x = y := by
  subst hs
  obtain ⟨a, rfl⟩ := Int.eq_ofNat_of_zero_le hx.1
  obtain ⟨b, rfl⟩ := Int.eq_ofNat_of_zero_le hy.1
  rw [xsF_nat a k (by omega), xsF_nat b k (by omega)] at h
  rw [xs_nat hk (by omega) (by omega) (Int.ofNat_inj.1 h)]
theorem xsF_in (x s : Int) : 0 ≤ xsF x s ∧ xsF x s ≤ 18446744073709551615 := bits_u64 _ _ _ rfl
theorem wr_in (x : Int) : 0 ≤ IntKind.u64.wrap x ∧ IntKind.u64.wrap x ≤ 18446744073709551615 := by rw [IntKind.wrap_u64]; omega
theorem mul_inj {x y c d q : Int} (hcd : c * d = 1 + 18446744073709551616 * q) (hx : 0 ≤ x ∧ x ≤ 18446744073709551615) (hy : 0 ≤ y ∧ y ≤ 18446744073709551615) (h : IntKind.u64.wrap (x * c) = IntKind.u64.wrap (y * c)) : x = y := by
  rw [IntKind.wrap_u64, IntKind.wrap_u64] at h
  have e : ∀ z : Int, (z * c * d) % 18446744073709551616 = z % 18446744073709551616 := fun z => by
    rw [Int.mul_assoc, hcd, Int.mul_add, Int.mul_one, ← Int.mul_assoc, Int.mul_comm z 18446744073709551616, Int.mul_assoc, Int.add_mul_emod_self_left]
  have h1 : (x * c * d) % 18446744073709551616 = (y * c * d) % 18446744073709551616 := by
    rw [Int.mul_emod, h, ← Int.mul_emod]
  rw [e, e] at h1
  omega
theorem mixF_inj {x y : Int} (hx : 0 ≤ x ∧ x ≤ 18446744073709551615) (hy : 0 ≤ y ∧ y ≤ 18446744073709551615) (h : mixF x = mixF y) : x = y := by
  unfold mixF at h
  have h1 := xsF_inj (k := 31) (by omega) (wr_in _) (wr_in _) (by decide) h
  have h2 := mul_inj (c := 10723151780598845931) (d := 3573116690164977347) (q := (10723151780598845931 * 3573116690164977347 - 1) / 18446744073709551616) (by decide) (xsF_in _ _) (xsF_in _ _) h1
  have h3 := xsF_inj (k := 27) (by omega) (wr_in _) (wr_in _) (by decide) h2
  have h4 := mul_inj (c := 13787848793156543929) (d := 10871156337175269513) (q := (13787848793156543929 * 10871156337175269513 - 1) / 18446744073709551616) (by decide) (xsF_in _ _) (xsF_in _ _) h3
  have h5 := xsF_inj (k := 30) (by omega) (wr_in _) (wr_in _) (by decide) h4
  rw [IntKind.wrap_u64, IntKind.wrap_u64] at h5
  omega
theorem numS_inj {key : Int} (hk : 0 ≤ key ∧ key ≤ 18446744073709551615) {i j : Nat} (hi : i < 4611686018427387904) (hj : j < 4611686018427387904) (h : numS key i = numS key j) : i = j := by
  unfold numS at h
  have h1 := mixF_inj (bits_u64 _ _ _ rfl) (bits_u64 _ _ _ rfl) h
  obtain ⟨K, rfl⟩ := Int.eq_ofNat_of_zero_le hk.1
  obtain ⟨a1, a2⟩ := mixF_in (i : Int)
  obtain ⟨b1, b2⟩ := mixF_in (j : Int)
  obtain ⟨A, hA⟩ := Int.eq_ofNat_of_zero_le a1
  obtain ⟨B, hB⟩ := Int.eq_ofNat_of_zero_le b1
  rw [hA, hB, Go.u64_xor_nat K A (by omega) (by omega), Go.u64_xor_nat K B (by omega) (by omega)] at h1
  have h2 := Int.ofNat_inj.1 h1
  have h3 : A = B := by
    have e := congrArg (fun z => K ^^^ z) h2
    simpa [← Nat.xor_assoc] using e
  have h4 := mixF_inj (x := (i : Int)) (y := (j : Int)) (by omega) (by omega) (by rw [hA, hB, h3])
  omega
end Go.Proofs.Ytpekofpiodaadaa.Hb
end

section
/- What is dealt of a key's stream is dealt of the stream's first numbers, as a list: plain. -/
namespace Go.Proofs.Ytpekofpiodaadaa.Hb
set_option linter.unusedVariables false
open Go.RowKit

theorem pigeon : ∀ (n : Nat) (l : List Int) (a : Int), l.Nodup → (∀ x ∈ l, a ≤ x ∧ x < a + n) → l.length ≤ n
  | 0, [], _, _, _ => Nat.le_refl _
  | 0, x :: r, a, _, h => by have := h x (List.mem_cons_self ..); omega
  | n + 1, l, a, hn, h => by
    have h1 := pigeon n (l.erase (a + n)) a (hn.erase _) (fun x hx => by
      obtain ⟨e1, e2⟩ := (hn.mem_erase_iff).1 hx
      have := h x e2
      omega)
    have h2 := List.length_erase (a := a + (n : Int)) (l := l)
    split at h2 <;> omega
/-- How few numbers are taken: those that serve, and unlike ones that don't. -/
def Taken (num : Nat → Int) (T : Int) (k j : Nat) : Prop := ∃ l : List Int, l.Nodup ∧ (∀ x ∈ l, T ≤ x ∧ x ≤ 18446744073709551615 ∧ ∃ m, m < k ∧ x = num m) ∧ k ≤ j + l.length
theorem Taken.hit {num : Nat → Int} {T : Int} {k j : Nat} (h : Taken num T k j) : Taken num T (k + 1) (j + 1) := by
  obtain ⟨l, h1, h2, h3⟩ := h
  exact ⟨l, h1, fun x hx => by obtain ⟨a, b, m, c, d⟩ := h2 x hx; exact ⟨a, b, m, by omega, d⟩, by omega⟩
theorem Taken.more {num : Nat → Int} {T : Int} {k j : Nat} (h : Taken num T k j) (i : Nat) : Taken num T k (j + i) := by
  obtain ⟨l, h1, h2, h3⟩ := h
  exact ⟨l, h1, h2, by omega⟩
theorem Taken.miss {num : Nat → Int} {T : Int} {k j : Nat} (hinj : ∀ m, m < k → num m ≠ num k) (hT : T ≤ num k ∧ num k ≤ 18446744073709551615) (h : Taken num T k j) : Taken num T (k + 1) j := by
  obtain ⟨l, h1, h2, h3⟩ := h
  refine ⟨num k :: l, List.nodup_cons.2 ⟨fun hx => ?_, h1⟩, fun x hx => ?_, by simp; omega⟩
  · obtain ⟨_, _, m, hm, e⟩ := h2 _ hx
    exact hinj m hm e.symm
  · rcases List.mem_cons.1 hx with rfl | hx
    · exact ⟨hT.1, hT.2, k, by omega, rfl⟩
    · obtain ⟨a, b, m, c, d⟩ := h2 x hx
      exact ⟨a, b, m, by omega, d⟩
theorem draw_taken {num : Nat → Int} {n : Nat} {b : Int} (hb : 0 < b) (hbn : b ≤ n) (hr : ∀ k, num k ≤ 18446744073709551615) (hinj : ∀ i j, i < 4611686018427387904 → j < 4611686018427387904 → num i = num j → i = j) :
    ∀ (f k j : Nat), k + f < 4611686018427387904 → Taken num (18446744073709551616 - n) k j → Taken num (18446744073709551616 - n) (drawO num b f k).2 (j + 1)
  | 0, k, j, _, h => h.more 1
  | f + 1, k, j, hk, h => by
    by_cases hc : num k < limD b
    · rw [draw_hit hc]; exact h.hit
    · rw [draw_miss hc]
      have hl : 18446744073709551616 - (n : Int) ≤ num k := by
        unfold limD at hc
        have := Int.emod_lt_of_pos 18446744073709551616 hb
        omega
      exact draw_taken hb hbn hr hinj f (k + 1) j (by omega) (h.miss (fun m hm e => by have := hinj m k (by omega) (by omega) e; omega) ⟨hl, hr k⟩)
theorem run_taken {num : Nat → Int} {step : List Int → Nat → Int → List Int} {n : Nat} (hr : ∀ k, num k ≤ 18446744073709551615) (hinj : ∀ i j, i < 4611686018427387904 → j < 4611686018427387904 → num i = num j → i = j) :
    ∀ (ns : List Int) (i k : Nat) (p : List Int) (j : Nat), (∀ b ∈ ns, 0 < b ∧ b ≤ n) → k + 64 * ns.length < 4611686018427387904 → Taken num (18446744073709551616 - n) k j → Taken num (18446744073709551616 - n) (runO num step ns i p k).2 (j + ns.length)
  | [], i, k, p, j, _, _, h => by rw [run_nil]; exact h
  | b :: ns, i, k, p, j, hb, hk, h => by
    obtain ⟨hb1, hb2⟩ := hb b (List.mem_cons_self ..)
    simp only [List.length_cons] at hk ⊢
    have hd := draw_taken hb1 hb2 hr hinj 64 k j (by omega) h
    have hdk := (draw_k (num := num) (n := b) (f := 64) (k := k)).2
    rcases he : drawO num b 64 k with ⟨_ | x, k1⟩
    · rw [he] at hd
      rw [run_none he]
      have := hd.more ns.length
      rw [show j + (ns.length + 1) = j + 1 + ns.length by omega]
      exact this
    · rw [he] at hd hdk
      rw [run_some he]
      have := run_taken (step := step) hr hinj ns (i + 1) k1 (step p i x) (j + 1) (fun b hb' => hb b (List.mem_cons_of_mem _ hb')) (by simp only at hdk; omega) hd
      rw [show j + (ns.length + 1) = j + 1 + ns.length by omega]
      exact this
theorem draw_agree {num num' : Nat → Int} {b : Int} : ∀ (f k : Nat), (∀ m, k ≤ m → m < (drawO num b f k).2 → num m = num' m) → drawO num b f k = drawO num' b f k
  | 0, k, _ => rfl
  | f + 1, k, h => by
    have hk : num k = num' k := h k (Nat.le_refl _) (by
      by_cases hc : num k < limD b
      · rw [draw_hit hc]; exact Nat.lt_succ_self _
      · rw [draw_miss hc]
        have := (draw_k (num := num) (n := b) (f := f) (k := k + 1)).1
        omega)
    by_cases hc : num k < limD b
    · rw [draw_hit hc, draw_hit (by rw [← hk]; exact hc), hk]
    · rw [draw_miss hc, draw_miss (by rw [← hk]; exact hc)]
      rw [draw_miss hc] at h
      exact draw_agree f (k + 1) (fun m h1 h2 => h m (by omega) h2)
theorem run_mono {num : Nat → Int} {step : List Int → Nat → Int → List Int} : ∀ (ns : List Int) (i k : Nat) (p : List Int), k ≤ (runO num step ns i p k).2
  | [], i, k, p => by rw [run_nil]; exact Nat.le_refl _
  | b :: ns, i, k, p => by
    have hdk := (draw_k (num := num) (n := b) (f := 64) (k := k)).1
    rcases he : drawO num b 64 k with ⟨_ | x, k1⟩
    · rw [he] at hdk; rw [run_none he]; exact hdk
    · rw [he] at hdk; rw [run_some he]
      exact Nat.le_trans hdk (run_mono ns _ _ _)
theorem run_agree {num num' : Nat → Int} {step : List Int → Nat → Int → List Int} : ∀ (ns : List Int) (i k : Nat) (p : List Int), (∀ m, k ≤ m → m < (runO num step ns i p k).2 → num m = num' m) → runO num step ns i p k = runO num' step ns i p k
  | [], i, k, p, _ => rfl
  | b :: ns, i, k, p, h => by
    have hdk := (draw_k (num := num) (n := b) (f := 64) (k := k)).1
    rcases he : drawO num b 64 k with ⟨_ | x, k1⟩
    · rw [run_none he] at h
      have := draw_agree (num := num) (num' := num') (b := b) 64 k (by rw [he]; exact h)
      rw [run_none he, run_none (this ▸ he)]
    · rw [run_some he] at h
      have hm := run_mono (num := num) (step := step) ns (i + 1) k1 (step p i x)
      have := draw_agree (num := num) (num' := num') (b := b) 64 k (by rw [he]; exact fun m h1 h2 => h m h1 (Nat.lt_of_lt_of_le h2 hm))
      rw [he] at hdk
      rw [run_some he, run_some (this ▸ he)]
      exact run_agree ns (i + 1) k1 _ (fun m h1 h2 => h m (Nat.le_trans hdk h1) h2)
/-- The first numbers of a key. -/
def rowS (key : Int) (m : Nat) : List Int := (List.range m).map (numS key)
theorem rowS_len (key : Int) (m : Nat) : (rowS key m).length = m := by simp [rowS]
theorem rowS_get {key : Int} {m k : Nat} (h : k < m) : (rowS key m).getD k 0 = numS key k := by
  simp [rowS, List.getD_eq_getElem?_getD, h]
theorem perm_list {key : Int} (hk : 0 ≤ key ∧ key ≤ 18446744073709551615) {n : Nat} (hn : n ≤ 1048576) :
    runO (numS key) (stepPerm n) (bndPerm n) 0 (rowI n) 0 = runO (numL (rowS key (3 * n + 64))) (stepPerm n) (bndPerm n) 0 (rowI n) 0 := by
  have ht := run_taken (num := numS key) (step := stepPerm n) (n := n) (fun k => (numS_in key k).2) (fun i j h1 h2 h => numS_inj hk h1 h2 h) (bndPerm n) 0 0 (rowI n) 0 (fun b hb => by
    simp only [bndPerm, List.mem_map, List.mem_range] at hb
    obtain ⟨i, hi, rfl⟩ := hb
    omega) (by rw [bndPerm_len]; omega) ⟨[], List.nodup_nil, by simp, by simp⟩
  obtain ⟨l, h1, h2, h3⟩ := ht
  have h4 := pigeon n l (18446744073709551616 - n) h1 (fun x hx => by have := h2 x hx; omega)
  rw [bndPerm_len] at h3
  exact run_agree _ _ _ _ (fun m _ hm => by
    unfold numL
    rw [rowS_get (by omega)])
end Go.Proofs.Ytpekofpiodaadaa.Hb
end

section
/- The document's mix, key and row of numbers: the walks. -/
namespace Go.Proofs.Ytpekofpiodaadaa.Hb
set_option linter.unusedVariables false
set_option linter.unusedSimpArgs false
open Go.RowKit

theorem ret_u64 {a b : Int} (h : a = b) : Ending.returned (.int .u64 a) = .returned (.int .u64 b) := by rw [h]
set_option maxRecDepth 100000 in
set_option maxHeartbeats 1000000 in
theorem rtimes_any (x y : Int) (hx : 0 ≤ x ∧ x ≤ 18446744073709551615) (hy : 0 ≤ y ∧ y ≤ 18446744073709551615) (w : World) : Calls Try.prog 57 #[.int .u64 x, .int .u64 y] w fun e w' => e = .returned (.int .u64 (IntKind.u64.wrap (x * y))) ∧ w' = w := by
  obtain ⟨R, hR⟩ : ∃ R, IntKind.u64.wrap (x * y) = R := ⟨_, rfl⟩
  rw [hR]
  rw [IntKind.wrap_u64] at hR
  have HR := Lib.hid hR
  clear hR
  have HX := Lib.hid hx
  have HY := Lib.hid hy
  go_enter Try.func57, Try.ntmps57
  go_wp2_with fail
  go_loopw [0, 1, 5] (fun av bv ov wr => ∃ a b o : Int, av = .int .u64 a ∧ bv = .int .u64 b ∧ ov = .int .u64 o ∧ 0 ≤ a ∧ a ≤ 18446744073709551615 ∧ 0 ≤ b ∧ b ≤ 18446744073709551615 ∧ 0 ≤ o ∧ o ≤ 18446744073709551615 ∧ Hid ((o + a * b) % 18446744073709551616 = R) ∧ Hid (wr = w)) (fun _ bv _ _ => (intOf bv).toNat)
  case atStart => exact ⟨x, y, 0, rfl, rfl, rfl, HX.out.1, HX.out.2, HY.out.1, HY.out.2, by omega, by omega, Lib.hid (by rw [Int.zero_add]; exact HR.out), Lib.hid rfl⟩
  case round =>
    obtain ⟨a, b, o, rfl, rfl, rfl, a1, a2, b1, b2, o1, o2, HI, HW⟩ := hrel
    by_cases hb : 0 < b
    · have hw2 : IntKind.u64.wrap (a + a) = (a + a) % 18446744073709551616 := by rw [IntKind.wrap_u64]
      obtain ⟨a', ha'⟩ : ∃ a', (a + a) % 18446744073709551616 = a' := ⟨_, rfl⟩
      obtain ⟨b', hb'⟩ : ∃ b', b / 2 = b' := ⟨_, rfl⟩
      have hq : b.tdiv 2 = b' := by rw [Int.tdiv_eq_ediv_of_nonneg b1]; exact hb'
      have hb'0 : 0 ≤ b' ∧ b' < b ∧ b' ≤ 18446744073709551615 := by omega
      have ha'0 : 0 ≤ a' ∧ a' ≤ 18446744073709551615 := by omega
      have HEV : ∀ z : Int, b = 2 * b' + z → Hid ((o + a * z + a' * b') % 18446744073709551616 = R) := fun z hz => Lib.hid (by
        rw [← HI.out, hz, ← ha']
        rw [Int.add_emod, Int.mul_emod ((a + a) % 18446744073709551616), Int.emod_emod, ← Int.mul_emod, ← Int.add_emod]
        congr 1
        rw [Int.mul_add, Int.add_mul, ← Int.mul_assoc, Int.mul_comm a 2, Int.mul_assoc 2 a b']
        omega)
      have HAQ := Lib.hid (And.intro hb'0 ha'0)
      have hwb : IntKind.u64.wrap b' = b' := by rw [IntKind.wrap_u64]; omega
      have HBB : Hid (b' < b ∧ 0 ≤ b' ∧ 0 < b) := Lib.hid ⟨hb'0.2.1, hb'0.1, hb⟩
      rw [ha'] at hw2
      by_cases hodd : b % 2 = 1
      · have hm : b.tmod 2 = 1 := by rw [Int.tmod_eq_emod_of_nonneg b1]; exact hodd
        obtain ⟨o', ho'⟩ : ∃ o', (o + a) % 18446744073709551616 = o' := ⟨_, rfl⟩
        have hw1 : IntKind.u64.wrap (o + a) = o' := by rw [IntKind.wrap_u64, ho']
        have HN : Hid ((o' + a' * b') % 18446744073709551616 = R) := Lib.hid (by
          have := (HEV 1 (by omega)).out
          rw [Int.mul_one] at this
          rw [← this, ← ho', Int.emod_add_emod])
        have HO : Hid (0 ≤ o' ∧ o' ≤ 18446744073709551615) := Lib.hid (by omega)
        clear ha' hb' ho' HEV hodd hb'0 ha'0
        go_wp2_with fail
        go_roundw
        case rel => exact ⟨a', b', o', rfl, rfl, rfl, HAQ.out.2.1, HAQ.out.2.2, HAQ.out.1.1, HAQ.out.1.2.2, HO.out.1, HO.out.2, HN, HW⟩
        case measure => have := HBB.out; simp [intOf]; omega
      · have hm : b.tmod 2 = 0 := by rw [Int.tmod_eq_emod_of_nonneg b1]; omega
        have HN : Hid ((o + a' * b') % 18446744073709551616 = R) := Lib.hid (by
          have := (HEV 0 (by omega)).out
          rwa [Int.mul_zero, Int.add_zero] at this)
        clear ha' hb' HEV hodd hb'0 ha'0
        go_wp2_with fail
        go_roundw
        case rel => exact ⟨a', b', o, rfl, rfl, rfl, HAQ.out.2.1, HAQ.out.2.2, HAQ.out.1.1, HAQ.out.1.2.2, o1, o2, HN, HW⟩
        case measure => have := HBB.out; simp [intOf]; omega
    · have hb0 : b = 0 := by omega
      have hfin : Hid (o = R) := Lib.hid (by have := HI.out; rw [hb0, Int.mul_zero, Int.add_zero] at this; omega)
      go_wp2_with fail
      go_ret
      exact ⟨ret_u64 hfin.out, HW.out⟩
set_option maxRecDepth 100000 in
set_option maxHeartbeats 1000000 in
theorem rhalf_any (x : Int) (n : Nat) (hn : n ≤ 64) (hx : 0 ≤ x ∧ x ≤ 18446744073709551615) (w : World) : Calls Try.prog 58 #[.int .u64 x, .int .i64 n] w fun e w' => e = .returned (.int .u64 (x / ((2 ^ n : Nat) : Int))) ∧ w' = w := by
  obtain ⟨R, hR⟩ : ∃ R, x / ((2 ^ n : Nat) : Int) = R := ⟨_, rfl⟩
  rw [hR]
  have HR := Lib.hid hR
  clear hR
  have HX := Lib.hid hx
  go_enter Try.func58, Try.ntmps58
  go_wp2_with fail
  go_loopw [0, 5] (fun xv iv wr => ∃ (k : Nat) (z : Int), k ≤ n ∧ iv = .int .i64 k ∧ xv = .int .u64 z ∧ 0 ≤ z ∧ z ≤ 18446744073709551615 ∧ Hid (z = x / ((2 ^ k : Nat) : Int)) ∧ Hid (wr = w)) (fun _ iv _ => n - (intOf iv).toNat)
  case atStart => exact ⟨0, x, Nat.zero_le _, rfl, rfl, HX.out.1, HX.out.2, Lib.hid (by rw [Nat.pow_zero]; exact (Int.ediv_one _).symm), Lib.hid rfl⟩
  case round =>
    obtain ⟨k, z, hk, rfl, rfl, z1, z2, HZ, HW⟩ := hrel
    by_cases hlt : k < n
    · have hlt' : (k : Int) < n := by omega
      have hq : z.tdiv 2 = z / 2 := Int.tdiv_eq_ediv_of_nonneg z1
      have HN : Hid (z / 2 = x / ((2 ^ (k + 1) : Nat) : Int)) := Lib.hid (by
        obtain ⟨X, hX⟩ := Int.eq_ofNat_of_zero_le HX.out.1
        have hz := HZ.out
        rw [hX, ← Int.natCast_ediv] at hz
        rw [hz, hX, ← Int.natCast_ediv, Nat.pow_succ, ← Nat.div_div_eq_div_mul]
        rfl)
      obtain ⟨z', hz'⟩ : ∃ z', z / 2 = z' := ⟨_, rfl⟩
      rw [hz'] at hq HN
      have hb : Hid (0 ≤ z' ∧ z' ≤ 18446744073709551615) := Lib.hid (by omega)
      have hwb : IntKind.u64.wrap z' = z' := by rw [IntKind.wrap_u64]; omega
      clear hz'
      go_wp2_with fail
      go_roundw
      case rel => exact ⟨k + 1, z', hlt, by go_num, rfl, hb.out.1, hb.out.2, HN, HW⟩
      case measure => simp [intOf]; omega
    · obtain rfl : k = n := by omega
      have hfin : Hid (z = R) := Lib.hid (by rw [HZ.out, HR.out])
      go_wp2_with fail
      go_ret
      exact ⟨ret_u64 hfin.out, HW.out⟩
theorem wrU_in (x : Int) : 0 ≤ IntKind.u64.wrap x ∧ IntKind.u64.wrap x ≤ 18446744073709551615 := by rw [IntKind.wrap_u64]; omega
set_option maxRecDepth 100000 in
set_option maxHeartbeats 1000000 in
theorem rmix_any (x : Int) (w : World) : Calls Try.prog 21 #[.int .u64 x] w fun e w' => e = .returned (.int .u64 (mixF x)) ∧ w' = w := by
  unfold mixF
  obtain ⟨z0, hz0⟩ : ∃ z, IntKind.u64.wrap (x + 11400714819323198485) = z := ⟨_, rfl⟩
  have b0 := wrU_in (x + 11400714819323198485)
  rw [hz0] at b0 ⊢
  have K1 := Lib.hid (fun w => rhalf_any z0 30 (by omega) b0 w)
  have c1 := xsF_in z0 1073741824
  unfold xsF at c1 ⊢
  obtain ⟨h1, hh1⟩ : ∃ h, z0 / 1073741824 = h := ⟨_, rfl⟩
  rw [show z0 / ((2 ^ 30 : Nat) : Int) = z0 / 1073741824 from rfl, hh1] at K1
  rw [hh1] at c1 ⊢
  obtain ⟨x1, hx1⟩ : ∃ h, bits .xor .u64 z0 h1 = h := ⟨_, rfl⟩
  rw [hx1] at c1 ⊢
  have T1 := Lib.hid (fun w => rtimes_any x1 13787848793156543929 c1 (by omega) w)
  have d1 := wrU_in (x1 * 13787848793156543929)
  obtain ⟨z1, hz1⟩ : ∃ z, IntKind.u64.wrap (x1 * 13787848793156543929) = z := ⟨_, rfl⟩
  rw [hz1] at T1 d1 ⊢
  have K2 := Lib.hid (fun w => rhalf_any z1 27 (by omega) d1 w)
  have c2 := xsF_in z1 134217728
  unfold xsF at c2
  obtain ⟨h2, hh2⟩ : ∃ h, z1 / 134217728 = h := ⟨_, rfl⟩
  rw [show z1 / ((2 ^ 27 : Nat) : Int) = z1 / 134217728 from rfl, hh2] at K2
  rw [hh2] at c2 ⊢
  obtain ⟨x2, hx2⟩ : ∃ h, bits .xor .u64 z1 h2 = h := ⟨_, rfl⟩
  rw [hx2] at c2 ⊢
  have T2 := Lib.hid (fun w => rtimes_any x2 10723151780598845931 c2 (by omega) w)
  have d2 := wrU_in (x2 * 10723151780598845931)
  obtain ⟨z2, hz2⟩ : ∃ z, IntKind.u64.wrap (x2 * 10723151780598845931) = z := ⟨_, rfl⟩
  rw [hz2] at T2 d2 ⊢
  have K3 := Lib.hid (fun w => rhalf_any z2 31 (by omega) d2 w)
  obtain ⟨h3, hh3⟩ : ∃ h, z2 / 2147483648 = h := ⟨_, rfl⟩
  rw [show z2 / ((2 ^ 31 : Nat) : Int) = z2 / 2147483648 from rfl, hh3] at K3
  rw [hh3]
  clear c1 c2 d1 d2 b0 hh1 hh2 hh3 hz1 hz2
  go_enter Try.func21, Try.ntmps21
  go_wp2_with fail
  refine (K1.out _).mono ?_
  rintro e w1 ⟨rfl, rfl⟩
  go_wp2_with fail
  refine (T1.out _).mono ?_
  rintro e w1 ⟨rfl, rfl⟩
  go_wp2_with fail
  refine (K2.out _).mono ?_
  rintro e w1 ⟨rfl, rfl⟩
  go_wp2_with fail
  refine (T2.out _).mono ?_
  rintro e w1 ⟨rfl, rfl⟩
  go_wp2_with fail
  refine (K3.out _).mono ?_
  rintro e w1 ⟨rfl, rfl⟩
  go_wp2_with fail
  go_ret
  exact ⟨rfl, rfl⟩
set_option maxRecDepth 100000 in
set_option maxHeartbeats 400000 in
theorem rat_any (key : Int) (k : Nat) (w : World) : Calls Try.prog 152 #[.int .u64 key, .int .u64 k] w fun e w' => e = .returned (.int .u64 (numS key k)) ∧ w' = w := by
  have h1 := rmix_any (k : Int) w
  have h2 := rmix_any (bits .xor .u64 key (mixF (k : Int))) w
  obtain ⟨x, hx⟩ : ∃ x, mixF (k : Int) = x := ⟨_, rfl⟩
  unfold numS
  rw [hx] at h1 h2 ⊢
  obtain ⟨y, hy⟩ : ∃ y, bits .xor .u64 key x = y := ⟨_, rfl⟩
  rw [hy] at h2 ⊢
  have H1 := Lib.hid h1
  have H2 := Lib.hid h2
  clear h1 h2 hx
  go_enter Try.func152, Try.ntmps152
  go_wp2_with fail
  refine H1.out.mono ?_
  rintro e w1 ⟨rfl, rfl⟩
  go_wp2_with fail
  refine H2.out.mono ?_
  rintro e w2 ⟨rfl, rfl⟩
  go_wp2_with fail
  go_ret
  exact ⟨rfl, rfl⟩
end Go.Proofs.Ytpekofpiodaadaa.Hb
end

section
/- A key: the program's and the document's; a key's first numbers as a list. -/
namespace Go.Proofs.Ytpekofpiodaadaa.Hb
set_option linter.unusedVariables false
set_option linter.unusedSimpArgs false
open Go.RowKit

def foldF (l : List Int) : Int := l.foldl (fun k x => mixF (bits .xor .u64 k x)) 0
theorem foldF_in (l : List Int) : 0 ≤ foldF l ∧ foldF l ≤ 18446744073709551615 := by
  have : ∀ (l : List Int) (k : Int), 0 ≤ k ∧ k ≤ 18446744073709551615 → 0 ≤ l.foldl (fun k x => mixF (bits .xor .u64 k x)) k ∧ l.foldl (fun k x => mixF (bits .xor .u64 k x)) k ≤ 18446744073709551615 := by
    intro l
    induction l with
    | nil => intro k h; exact h
    | cons x r ih => intro k _; exact ih _ (mixF_in _)
  exact this l 0 (by omega)
theorem foldF_snoc (l : List Int) (x : Int) : foldF (l ++ [x]) = mixF (bits .xor .u64 (foldF l) x) := by unfold foldF; rw [List.foldl_append]; rfl
theorem take_sn {l : List Int} {k : Nat} (h : k < l.length) : l.take (k + 1) = l.take k ++ [l.getD k 0] := by
  rw [List.take_add_one, List.getD_eq_getElem?_getD, List.getElem?_eq_getElem h]; rfl
theorem RdU.at {w : World} {A : Option Addr} {l : List Int} (h : RdU w A l) {k : Nat} (hk : k < l.length) : ∃ ad, A = some ad ∧ w.cell? (ad.add k) = some (.int .u64 (l.getD k 0)) := by
  rcases h.2 with h0 | ⟨ad, e, hc⟩
  · rw [h0] at hk; simp at hk
  · exact ⟨ad, e, hc k hk⟩
set_option maxRecDepth 100000 in
set_option maxHeartbeats 1000000 in
theorem fold_any (l : List Int) (A : Option Addr) (cap : Nat) (w : World) (hr : RdU w A l) (hl : l.length ≤ 9223372036854775806) : Calls Try.prog 188 #[.slice A l.length cap] w fun e w' => e = .returned (.int .u64 (foldF l)) ∧ w' = w := by
  obtain ⟨R, hR⟩ : ∃ R, foldF l = R := ⟨_, rfl⟩
  rw [hR]
  have HR := Lib.hid hR
  obtain ⟨n, hn⟩ : ∃ n, l.length = n := ⟨_, rfl⟩
  have HN := Lib.hid hn
  have HRD := Lib.hid hr
  have KM := Lib.hid (fun x w => mix_any x w)
  rw [hn] at hl ⊢
  clear hR hn hr
  go_enter Try.func188, Try.ntmps188
  go_wp2_with fail
  go_loopw [3, 8] (fun kv iv wr => ∃ (i : Nat) (k : Int), i ≤ n ∧ iv = .int .i64 i ∧ kv = .int .u64 k ∧ Hid (k = foldF (l.take i)) ∧ Hid (wr = w)) (fun _ iv _ => n - (intOf iv).toNat)
  case atStart => exact ⟨0, 0, Nat.zero_le _, rfl, rfl, Lib.hid rfl, Lib.hid rfl⟩
  case round =>
    obtain ⟨i, k, hi, rfl, rfl, HK, HW⟩ := hrel
    by_cases hlt : i < n
    · have hlt' : (i : Int) < n := by omega
      have hil : i < l.length := by rw [HN.out]; exact hlt
      obtain ⟨ad, rfl, hc⟩ := HRD.out.at hil
      have hs : Hid (mixF (bits .xor .u64 k (l.getD i 0)) = foldF (l.take (i + 1))) := Lib.hid (by rw [take_sn hil, foldF_snoc, HK.out])
      have hc2 : wr.cell? (ad.add i) = some (.int .u64 (l.getD i 0)) := by rw [HW.out]; exact hc
      obtain ⟨x, hx⟩ : ∃ x, l.getD i 0 = x := ⟨_, rfl⟩
      rw [hx] at hs hc2
      obtain ⟨y, hy⟩ : ∃ y, bits .xor .u64 k x = y := ⟨_, rfl⟩
      rw [hy] at hs
      have KM2 := Lib.hid (KM.out y)
      obtain ⟨z, hz⟩ : ∃ z, mixF y = z := ⟨_, rfl⟩
      rw [hz] at hs KM2
      clear hc hx hz
      go_wp2_with fail
      refine (KM2.out _).mono ?_
      rintro e w1 ⟨rfl, rfl⟩
      go_wp2_with fail
      go_roundw
      case rel => exact ⟨i + 1, z, hlt, by go_num, rfl, hs, HW⟩
      case measure => simp [intOf]; omega
    · obtain rfl : i = n := by omega
      have hfin : Hid (k = R) := Lib.hid (by rw [HK.out, List.take_of_length_le (by rw [HN.out]; exact Nat.le_refl _), HR.out])
      go_wp2_with fail
      go_ret
      exact ⟨ret_u64 hfin.out, HW.out⟩
set_option maxRecDepth 100000 in
set_option maxHeartbeats 1000000 in
theorem rfold_any (l : List Int) (A : Option Addr) (cap : Nat) (w : World) (hr : RdU w A l) (hl : l.length ≤ 9223372036854775806) : Calls Try.prog 153 #[.slice A l.length cap] w fun e w' => e = .returned (.int .u64 (foldF l)) ∧ w' = w := by
  obtain ⟨R, hR⟩ : ∃ R, foldF l = R := ⟨_, rfl⟩
  rw [hR]
  have HR := Lib.hid hR
  obtain ⟨n, hn⟩ : ∃ n, l.length = n := ⟨_, rfl⟩
  have HN := Lib.hid hn
  have HRD := Lib.hid hr
  have KM := Lib.hid (fun x w => rmix_any x w)
  rw [hn] at hl ⊢
  clear hR hn hr
  go_enter Try.func153, Try.ntmps153
  go_wp2_with fail
  go_loopw [3, 4] (fun kv iv wr => ∃ (i : Nat) (k : Int), i ≤ n ∧ iv = .int .i64 i ∧ kv = .int .u64 k ∧ Hid (k = foldF (l.take i)) ∧ Hid (wr = w)) (fun _ iv _ => n - (intOf iv).toNat)
  case atStart => exact ⟨0, 0, Nat.zero_le _, rfl, rfl, Lib.hid rfl, Lib.hid rfl⟩
  case round =>
    obtain ⟨i, k, hi, rfl, rfl, HK, HW⟩ := hrel
    by_cases hlt : i < n
    · have hlt' : (i : Int) < n := by omega
      have hil : i < l.length := by rw [HN.out]; exact hlt
      obtain ⟨ad, rfl, hc⟩ := HRD.out.at hil
      have hs : Hid (mixF (bits .xor .u64 k (l.getD i 0)) = foldF (l.take (i + 1))) := Lib.hid (by rw [take_sn hil, foldF_snoc, HK.out])
      have hc2 : wr.cell? (ad.add i) = some (.int .u64 (l.getD i 0)) := by rw [HW.out]; exact hc
      obtain ⟨x, hx⟩ : ∃ x, l.getD i 0 = x := ⟨_, rfl⟩
      rw [hx] at hs hc2
      obtain ⟨y, hy⟩ : ∃ y, bits .xor .u64 k x = y := ⟨_, rfl⟩
      rw [hy] at hs
      have KM2 := Lib.hid (KM.out y)
      obtain ⟨z, hz⟩ : ∃ z, mixF y = z := ⟨_, rfl⟩
      rw [hz] at hs KM2
      clear hc hx hz
      go_wp2_with fail
      refine (KM2.out _).mono ?_
      rintro e w1 ⟨rfl, rfl⟩
      go_wp2_with fail
      go_roundw
      case rel => exact ⟨i + 1, z, hlt, by go_num, rfl, hs, HW⟩
      case measure => simp [intOf]; omega
    · obtain rfl : i = n := by omega
      have hfin : Hid (k = R) := Lib.hid (by rw [HK.out, List.take_of_length_le (by rw [HN.out]; exact Nat.le_refl _), HR.out])
      go_wp2_with fail
      go_ret
      exact ⟨ret_u64 hfin.out, HW.out⟩
theorem rdu_four (w : World) (a b c d : Int) (t : TypeId) (ha : 0 ≤ a ∧ a ≤ 18446744073709551615) (hb : 0 ≤ b ∧ b ≤ 18446744073709551615) (hc : 0 ≤ c ∧ c ≤ 18446744073709551615) (hd : 0 ≤ d ∧ d ≤ 18446744073709551615) :
    RdU (w.alloc (.cells #[.int .u64 a, .int .u64 b, .int .u64 c, .int .u64 d] t)) (some ⟨w.heap.size, 0, none⟩) [a, b, c, d] := by
  refine ⟨fun x hx => ?_, .inr ⟨_, rfl, fun i hi => ?_⟩⟩
  · simp only [List.mem_cons, List.not_mem_nil, or_false] at hx
    rcases hx with rfl | rfl | rfl | rfl <;> assumption
  · have k := Blk.new w #[.int .u64 a, .int .u64 b, .int .u64 c, .int .u64 d] t
    rw [show (⟨w.heap.size, 0, none⟩ : Addr).add i = ⟨w.heap.size, i, none⟩ from by unfold Addr.add; split <;> simp_all, k.cell i]
    simp only [List.length_cons, List.length_nil] at hi
    rcases i with _ | _ | _ | _ | i
    · rfl
    · rfl
    · rfl
    · rfl
    · omega
set_option maxRecDepth 100000 in
set_option maxHeartbeats 1000000 in
theorem key_any (a b c d : Int) (ha : 0 ≤ a ∧ a ≤ 18446744073709551615) (hb : 0 ≤ b ∧ b ≤ 18446744073709551615) (hc : 0 ≤ c ∧ c ≤ 18446744073709551615) (hd : 0 ≤ d ∧ d ≤ 18446744073709551615) (w : World) :
    Calls Try.prog 147 #[.int .u64 a, .int .u64 b, .int .u64 c, .int .u64 d] w fun e w' => e = .returned (.int .u64 (foldF [a, b, c, d])) ∧ Below w.heap.size w w' := by
  have K := fold_any [a, b, c, d] (some ⟨w.heap.size, 0, none⟩) 4 _ (rdu_four w a b c d 34 ha hb hc hd) (by simp)
  obtain ⟨R, hR⟩ : ∃ R, foldF [a, b, c, d] = R := ⟨_, rfl⟩
  rw [hR] at K ⊢
  have KH := Lib.hid K
  clear K hR ha hb hc hd
  go_enter Try.func147, Try.ntmps147
  go_wp2_with fail
  refine KH.out.mono ?_
  rintro e w1 ⟨rfl, rfl⟩
  go_wp2_with fail
  go_ret
  exact ⟨rfl, (Below.refl _ _).alloc (Nat.le_refl _) _⟩
set_option maxRecDepth 100000 in
set_option maxHeartbeats 1000000 in
theorem rkey_any (a b c d : Int) (ha : 0 ≤ a ∧ a ≤ 18446744073709551615) (hb : 0 ≤ b ∧ b ≤ 18446744073709551615) (hc : 0 ≤ c ∧ c ≤ 18446744073709551615) (hd : 0 ≤ d ∧ d ≤ 18446744073709551615) (w : World) :
    Calls Try.prog 92 #[.int .u64 a, .int .u64 b, .int .u64 c, .int .u64 d] w fun e w' => e = .returned (.int .u64 (foldF [a, b, c, d])) ∧ Below w.heap.size w w' := by
  have K := rfold_any [a, b, c, d] (some ⟨w.heap.size, 0, none⟩) 4 _ (rdu_four w a b c d 34 ha hb hc hd) (by simp)
  obtain ⟨R, hR⟩ : ∃ R, foldF [a, b, c, d] = R := ⟨_, rfl⟩
  rw [hR] at K ⊢
  have KH := Lib.hid K
  clear K hR ha hb hc hd
  go_enter Try.func92, Try.ntmps92
  go_wp2_with fail
  refine KH.out.mono ?_
  rintro e w1 ⟨rfl, rfl⟩
  go_wp2_with fail
  go_ret
  exact ⟨rfl, (Below.refl _ _).alloc (Nat.le_refl _) _⟩
set_option maxRecDepth 100000 in
theorem newS_any (key : Int) (w : World) : Calls Try.prog 146 #[.int .u64 key] w fun e w' => e = .returned (.pointer (some ⟨w.heap.size, 0, none⟩)) ∧ w' = w.alloc (.cells #[.int .u64 key, .int .u64 0] 272) := by
  go_enter Try.func146, Try.ntmps146
  go_wp2
  go_ret
  exact ⟨rfl, rfl⟩
def u64s (l : List Int) : List Value := l.map fun x => Value.int .u64 x
theorem u64s_snoc (l : List Int) (x : Int) : u64s (l ++ [x]) = u64s l ++ [.int .u64 x] := by simp [u64s]
theorem info_un64 : (Try.prog.info? 34).map (fun i => (i.zero, i.size, i.bytes)) = some (some (.int .u64 0), 1, 8) := by kernel_rfl
theorem RdU.own {w : World} {base n c : Nat} {A : Option Addr} {l : List Int} (h : w.ownsRow base 34 1 (.slice A n c) l.length (u64s l)) (ho : ∀ x ∈ l, 0 ≤ x ∧ x ≤ 18446744073709551615) : RdU w A l := by
  refine ⟨ho, ?_⟩
  by_cases h0 : l = []
  · exact .inl h0
  · obtain ⟨g, cap, hv, _, _, _, hc⟩ := own_open h (by have := List.length_pos_iff.2 h0; omega)
    simp only [Value.slice.injEq] at hv
    obtain ⟨rfl, _, _⟩ := hv
    refine .inr ⟨_, rfl, fun i hi => ?_⟩
    rw [show (⟨g, 0, none⟩ : Addr).add i = ⟨g, i, none⟩ from by unfold Addr.add; split <;> simp_all]
    exact hc i _ (by simp [u64s, List.getD_eq_getElem?_getD, hi])
set_option maxRecDepth 100000 in
set_option maxHeartbeats 1000000 in
theorem rnums_any (key : Int) (n : Nat) (hn : n ≤ 1099511627776) (w : World) : Calls Try.prog 91 #[.int .u64 key, .int .i64 n] w fun e w' => ∃ v, e = .returned v ∧ w'.ownsRow w.heap.size 34 1 v n (u64s (rowS key n)) ∧ Below w.heap.size w w' := by
  have KA := Lib.hid (fun (k : Nat) w => rat_any key k w)
  have HG : Hid (∀ k, k < n → (rowS key n).getD k 0 = numS key k) := Lib.hid (fun k hk => rowS_get hk)
  have HL : Hid ((rowS key n).length = n) := Lib.hid (rowS_len _ _)
  obtain ⟨L, hL⟩ : ∃ L, rowS key n = L := ⟨_, rfl⟩
  rw [hL] at HG HL ⊢
  obtain ⟨i0, hi0, hz0, hz1, hz2⟩ := info_parts info_un64
  clear hL
  go_enter Try.func91, Try.ntmps91
  go_wp2_with fail
  go_loopw [5, 6] (fun o iv wr => ∃ (k : Nat) (a : Option Addr) (c : Nat), k ≤ n ∧ iv = .int .i64 k ∧ o = .slice a k c ∧ Hid (wr.ownsRow w.heap.size 34 1 (.slice a k c) k (u64s (L.take k))) ∧ Hid (Below w.heap.size w wr)) (fun _ iv _ => n - (intOf iv).toNat)
  case atStart =>
    refine ⟨0, _, _, Nat.zero_le _, rfl, rfl, Lib.hid ?_, Lib.hid ((Below.refl _ _).alloc (Nat.le_refl _) _)⟩
    exact World.ownsRow_made w #[] 0 (Nat.le_refl _) (Nat.zero_le _) rfl
  case round =>
    obtain ⟨k, a, c, hk, rfl, rfl, HO, HB⟩ := hrel
    by_cases hlt : k < n
    · have hlt' : (k : Int) < n := by omega
      have hw : IntKind.u64.wrap (k : Int) = (k : Int) := by rw [IntKind.wrap_u64]; omega
      have hg := HG.out k hlt
      obtain ⟨x, hx⟩ : ∃ x, numS key k = x := ⟨_, rfl⟩
      have KA2 := Lib.hid (KA.out k)
      rw [hx] at hg KA2
      have HX := Lib.hid hg
      have hs : w.heap.size ≤ wr.heap.size := HB.out.size
      clear hg hx
      go_wp2_with fail
      refine (KA2.out _).mono ?_
      rintro e w1 ⟨rfl, rfl⟩
      go_wp2_with (at_builtin; refine wpList_append_lies _ rfl _ _ 31 rfl w.heap.size 34 i0 (.int .u64 0) 1 8 Try.underlying31 hi0 hz0 hz1 hz2 rfl (by decide) _ _ _ rfl (HO.out.alloc _) ⟨w1.heap.size, 0, none⟩ 1 1 [.int .u64 x] rfl rfl (cell_one_new _ _ _) (by simp [Value.oneCell']) (by decide) (by unfold maxLen; omega) (by omega) (by simp; omega) _ rfl ?_; intro g2 c2 w2 hown2 hg2 hat2 hlt2)
      go_roundw
      case rel =>
        refine ⟨k + 1, _, c2, hlt, by go_num, rfl, Lib.hid ?_, Lib.hid ?_⟩
        · rw [take_sn (by rw [HL.out]; exact hlt), HX.out, u64s_snoc]; exact hown2
        · exact (HB.out.alloc HB.out.size _).grown hg2 (by have := HB.out.size; simp; omega) (fun q e => (World.ownsRow.lt HO.out q e).1)
      case measure => simp [intOf]; omega
    · obtain rfl : k = n := by omega
      go_wp2_with fail
      go_ret
      refine ⟨_, rfl, ?_, HB.out⟩
      have := HO.out
      rwa [List.take_of_length_le (by rw [HL.out]; exact Nat.le_refl _)] at this
end Go.Proofs.Ytpekofpiodaadaa.Hb
end

section
/- A column is turned: the program's way. -/
namespace Go.Proofs.Ytpekofpiodaadaa.Hb
set_option linter.unusedVariables false
set_option linter.unusedSimpArgs false
open Go.RowKit

def u16s (l : List Int) : List Value := l.map fun x => Value.int .u16 x
theorem u16s_snoc (l : List Int) (x : Int) : u16s (l ++ [x]) = u16s l ++ [.int .u16 x] := by simp [u16s]
theorem u16s_set (l : List Int) (i : Nat) (x : Int) : u16s (l.set i x) = (u16s l).set i (.int .u16 x) := by simp [u16s]
theorem u16s_get {l : List Int} {i : Nat} (h : i < l.length) : (u16s l)[i]? = some (.int .u16 (l.getD i 0)) := by simp [u16s, List.getD_eq_getElem?_getD, h]
theorem info_u16 : (Try.prog.info? 71).map (fun i => (i.zero, i.size, i.bytes)) = some (some (.int .u16 0), 1, 2) := by kernel_rfl
theorem RC.own {w : World} {base n c : Nat} {A : Option Addr} {l : List Int} (h : w.ownsRow base 71 1 (.slice A n c) l.length (u16s l)) (ho : ∀ x ∈ l, 0 ≤ x ∧ x ≤ 65535) : RC w A l := by
  refine ⟨ho, ?_⟩
  by_cases h0 : l = []
  · exact .inl h0
  · obtain ⟨g, cap, hv, _, _, _, hc⟩ := own_open h (by have := List.length_pos_iff.2 h0; omega)
    simp only [Value.slice.injEq] at hv
    obtain ⟨rfl, _, _⟩ := hv
    refine .inr ⟨_, rfl, fun i hi => ?_⟩
    rw [show (⟨g, 0, none⟩ : Addr).add i = ⟨g, i, none⟩ from by unfold Addr.add; split <;> simp_all]
    exact hc i _ (u16s_get hi)
/-- The cells behind k steps. -/
def turnO (P : Nat) (p cells : List Int) (k : Nat) : List Int := (List.range cells.length).map fun t => if P ≤ t ∧ t < P + k then cells.getD (P + (p.getD (t - P) 0).toNat) 0 else cells.getD t 0
theorem turn_len (P : Nat) (p cells : List Int) (k : Nat) : (turnO P p cells k).length = cells.length := by simp [turnO]
theorem turn_get {P : Nat} {p cells : List Int} {k t : Nat} (h : t < cells.length) : (turnO P p cells k).getD t 0 = if P ≤ t ∧ t < P + k then cells.getD (P + (p.getD (t - P) 0).toNat) 0 else cells.getD t 0 := by
  simp [turnO, List.getD_eq_getElem?_getD, h]
theorem getD_ext {l r : List Int} (hl : l.length = r.length) (h : ∀ t, t < l.length → l.getD t 0 = r.getD t 0) : l = r := by
  apply List.ext_getElem hl
  intro i h1 h2
  have := h i h1
  rwa [List.getD_eq_getElem?_getD, List.getD_eq_getElem?_getD, List.getElem?_eq_getElem h1, List.getElem?_eq_getElem h2] at this
theorem turn_zero (P : Nat) (p cells : List Int) : turnO P p cells 0 = cells := getD_ext (turn_len ..) (fun t ht => by
  rw [turn_get (by rwa [turn_len] at ht), if_neg (by omega)])
theorem set_getD (l : List Int) (i : Nat) (v : Int) (t : Nat) : (l.set i v).getD t 0 = if i = t ∧ i < l.length then v else l.getD t 0 := by
  rw [List.getD_eq_getElem?_getD, List.getElem?_set, List.getD_eq_getElem?_getD]
  by_cases e : i = t
  · subst e
    rw [if_pos rfl]
    by_cases h : i < l.length
    · rw [if_pos h, if_pos ⟨rfl, h⟩]; rfl
    · rw [if_neg h, if_neg (fun c => h c.2), List.getElem?_eq_none (by omega)]
  · rw [if_neg e, if_neg (fun c => e c.1)]
theorem turn_set {P : Nat} {p cells : List Int} {k : Nat} (h : P + k < cells.length) : turnO P p cells (k + 1) = (turnO P p cells k).set (P + k) (cells.getD (P + (p.getD k 0).toNat) 0) := getD_ext (by simp [turn_len]) (fun t ht => by
  rw [turn_len] at ht
  rw [turn_get ht, set_getD, turn_len]
  by_cases e : P + k = t
  · subst e
    rw [if_pos (by omega), if_pos ⟨rfl, h⟩]
    congr 3
    congr 1
    omega
  · rw [if_neg (show ¬ (P + k = t ∧ P + k < cells.length) from fun c => e c.1), turn_get ht]
    by_cases c : P ≤ t ∧ t < P + k
    · rw [if_pos c, if_pos (by omega)]
    · rw [if_neg c, if_neg (by omega)])
theorem turn_in {P : Nat} {p cells : List Int} {k : Nat} (h : ∀ x ∈ cells, 0 ≤ x ∧ x ≤ 65535) : ∀ x ∈ turnO P p cells k, 0 ≤ x ∧ x ≤ 65535 := by
  have hg : ∀ t, 0 ≤ cells.getD t 0 ∧ cells.getD t 0 ≤ 65535 := fun t => by
    rw [List.getD_eq_getElem?_getD]
    cases e : cells[t]? with
    | none => simp
    | some y => exact h y (List.mem_of_getElem? e)
  intro x hx
  simp only [turnO, List.mem_map, List.mem_range] at hx
  obtain ⟨t, ht, rfl⟩ := hx
  split
  · exact hg _
  · exact hg _
set_option maxRecDepth 100000 in
set_option maxHeartbeats 1000000 in
theorem clone16_any (cells : List Int) (A : Option Addr) (cap : Nat) (w : World) (hr : RC w A cells) (hn : cells.length ≤ 1099511627776) :
    Calls Try.prog 191 #[.slice A cells.length cap] w fun e w' => ∃ v, e = .returned v ∧ w'.ownsRow w.heap.size 71 1 v cells.length (u16s cells) ∧ Below w.heap.size w w' := by
  have q : ∀ (w : World) (a : Option Addr) (n c n' c' : Nat), (binOp .eql 73 (.slice a n c) (.slice none n' c')).run Try.prog w = .ok (.bool a.isNone) w := fun w a n c n' c' => Lib.run_eql_slice_nil w _ _ a n c n' c' Try.underlying73
  cases A with
  | none =>
    have h0 : cells = [] := by
      rcases hr.2 with h | ⟨ad, e, _⟩
      · exact h
      · cases e
    subst h0
    clear hr
    go_enter Try.func191, Try.ntmps191
    go_wp2_with fail
    go_ret
    exact ⟨_, rfl, World.ownsRow_nil _ _ _ _, Below.refl _ _⟩
  | some ad =>
    obtain ⟨n, hnn⟩ : ∃ n, cells.length = n := ⟨_, rfl⟩
    have HC : Hid (∀ j u, (u16s cells)[j]? = some u → w.cell? (ad.add j) = some u) := Lib.hid (fun j u hu => by
      have hj : j < cells.length := by
        have := (List.getElem?_eq_some_iff.1 hu).1
        simpa [u16s] using this
      obtain ⟨ad', e, hc, _⟩ := hr.at hj
      cases e
      rw [u16s_get hj] at hu
      rw [hc, ← hu])
    have HL : Hid ((u16s cells).length = n) := Lib.hid (by simp [u16s, hnn])
    have HO1 : Hid (∀ u ∈ u16s cells, u.oneCell' = true) := Lib.hid (fun u hu => by simp only [u16s, List.mem_map] at hu; obtain ⟨x, _, rfl⟩ := hu; rfl)
    rw [hnn] at hn ⊢
    obtain ⟨U, hU⟩ : ∃ U, u16s cells = U := ⟨_, rfl⟩
    rw [hU] at HC HL HO1 ⊢
    have hl := HL.out
    obtain ⟨i0, hi0, hz0, hz1, hz2⟩ := info_parts info_u16
    clear hU hr hnn
    go_enter Try.func191, Try.ntmps191
    go_wp2_with (at_builtin; refine wpList_append_own _ rfl _ _ 73 rfl w.heap.size 71 i0 (.int .u16 0) 1 2 Try.underlying73 hi0 hz0 hz1 hz2 rfl (by decide) _ _ _ rfl (World.ownsRow_made w #[] 0 (Nat.le_refl _) (Nat.zero_le _) rfl) ad n cap U rfl (by simp; exact hl) (fun j u hu => (((Below.refl w.heap.size w).alloc (Nat.le_refl _) _).cell (World.block_lt_of_cell? w _ (HC.out j u hu))).trans (HC.out j u hu)) HO1.out (by unfold maxLen; omega) (by omega) (by simp) ?_; intro v2 w2 hown2 hg2 hn2)
    go_wp2_with fail
    go_ret
    refine ⟨_, rfl, by simpa using hown2, ((Below.refl _ w).alloc (Nat.le_refl _) _).grown hg2 (by simp) (fun q e => by cases e; exact Nat.le_refl _)⟩
end Go.Proofs.Ytpekofpiodaadaa.Hb
end

section
/- The walk of oob.May. -/
namespace Go.Proofs.Ytpekofpiodaadaa.Hb
set_option linter.unusedVariables false
set_option linter.unusedSimpArgs false
open Go.RowKit

/-- What lies in May's boxes. -/
structure MayB (cfg mat grv : Array Value) (B M C : Nat) (w wc : World) : Prop where
  kB : Blk wc B grv 83
  kM : Blk wc M mat 75
  kC : Blk wc C cfg 45
  be : Below w.heap.size w wc
theorem MayB.below {cfg mat grv : Array Value} {B M C : Nat} {w wc w' : World} (h : MayB cfg mat grv B M C w wc) (hb : Below wc.heap.size wc w') : MayB cfg mat grv B M C w w' := ⟨h.kB.below hb, h.kM.below hb, h.kC.below hb, h.be.trans (hb.mono h.be.size)⟩
theorem Blk.cells7 {w : World} {g : Nat} {a b c d e f h : Value} {t : TypeId} (x : Blk w g #[a, b, c, d, e, f, h] t) :
    w.cell? ⟨g, 0, none⟩ = some a ∧ w.cell? ⟨g, 1, none⟩ = some b ∧ w.cell? ⟨g, 2, none⟩ = some c ∧ w.cell? ⟨g, 3, none⟩ = some d ∧ w.cell? ⟨g, 4, none⟩ = some e ∧ w.cell? ⟨g, 5, none⟩ = some f ∧ w.cell? ⟨g, 6, none⟩ = some h :=
  ⟨x.cell 0, x.cell 1, x.cell 2, x.cell 3, x.cell 4, x.cell 5, x.cell 6⟩
theorem Blk.cells3 {w : World} {g : Nat} {a b c : Value} {t : TypeId} (x : Blk w g #[a, b, c] t) : w.cell? ⟨g, 0, none⟩ = some a ∧ w.cell? ⟨g, 1, none⟩ = some b ∧ w.cell? ⟨g, 2, none⟩ = some c := ⟨x.cell 0, x.cell 1, x.cell 2⟩
theorem mayB_1 {cfg mat grv : Array Value} {B : Nat} {w W0 : World} (h : Blk W0 B grv 83) (hb : Below w.heap.size w W0) : MayB cfg mat grv B W0.heap.size (W0.heap.size + 1) w ((W0.alloc (.cells mat 75)).alloc (.cells cfg 45)).drew := by
  have a1 : Below W0.heap.size W0 (W0.alloc (.cells mat 75)) := (Below.refl _ _).alloc (Nat.le_refl _) _
  have a2 : Below W0.heap.size W0 ((W0.alloc (.cells mat 75)).alloc (.cells cfg 45)) := a1.alloc (by simp) _
  have k2 := Blk.new (W0.alloc (.cells mat 75)) cfg 45
  rw [World.size_alloc] at k2
  exact ⟨h.below a2.drew, (Blk.new W0 mat _).below (((Below.refl _ _).alloc (Nat.le_refl _) _).drew), k2, (hb.trans (a2.mono hb.size)).drew⟩
theorem mayB_2 {cfg mat grv : Array Value} {B : Nat} {w W0 : World} (h : Blk W0 B grv 83) (hb : Below w.heap.size w W0) : MayB cfg mat grv B (W0.heap.size + 1) W0.heap.size w ((W0.alloc (.cells cfg 45)).alloc (.cells mat 75)).drew := by
  have a1 : Below W0.heap.size W0 (W0.alloc (.cells cfg 45)) := (Below.refl _ _).alloc (Nat.le_refl _) _
  have a2 : Below W0.heap.size W0 ((W0.alloc (.cells cfg 45)).alloc (.cells mat 75)) := a1.alloc (by simp) _
  have k2 := Blk.new (W0.alloc (.cells cfg 45)) mat 75
  rw [World.size_alloc] at k2
  exact ⟨h.below a2.drew, k2, (Blk.new W0 cfg _).below (((Below.refl _ _).alloc (Nat.le_refl _) _).drew), (hb.trans (a2.mono hb.size)).drew⟩
theorem trees_cons {g : Grv} {k : Nat} {ts : List (List Nd)} {ws : List (List Int)} {t : List Nd} {x : List Int} (h1 : ts[k]? = some t) (h2 : ws[k]? = some x) : treesB g (ts.drop k) (ws.drop k) = ((decide ((x.length : Int) = g.rows) && rightT g.cols g.b g.k g.cl t) && treesB g (ts.drop (k + 1)) (ws.drop (k + 1))) := by
  obtain ⟨hk1, rfl⟩ := List.getElem?_eq_some_iff.1 h1
  obtain ⟨hk2, rfl⟩ := List.getElem?_eq_some_iff.1 h2
  rw [List.drop_eq_getElem_cons hk1, List.drop_eq_getElem_cons hk2, treesB]
set_option maxRecDepth 100000 in
set_option maxHeartbeats 8000000 in
theorem may_any (g : Grv) (Ac At Aw Ag : Option Addr) (cc ct cw cg : Nat) (w : World) (hok : OkG g) (hr : RG w g Ac At Aw Ag) :
    Calls Try.prog 209 #[.agg (grvA g Ac At Aw Ag cc ct cw cg)] w fun e w' => e = .returned (.bool (mayG g)) ∧ Below w.heap.size w w' := by
  obtain ⟨T1, hT1⟩ : ∃ z, treesB g g.trees g.weights = z := ⟨_, rfl⟩
  obtain ⟨T2, hT2⟩ : ∃ z, g.tgt.all (tgtB g.k g.cl) = z := ⟨_, rfl⟩
  obtain ⟨ck, hck⟩ : ∃ z, checkO g.k g.cl g.b g.t g.d g.l g.p = z := ⟨_, rfl⟩
  obtain ⟨mt, hmt⟩ : ∃ z, matB g.rows g.cols g.cells.length = z := ⟨_, rfl⟩
  have HM : Hid (mayG g = (((ck == 0) && (mt && decide (1 ≤ g.cols ∧ g.cols ≤ 1024 ∧ g.weights.length = g.trees.length ∧ (g.tgt.length : Int) = g.rows))) && (T1 && T2))) := Lib.hid (by unfold mayG headB; rw [hT1, hT2, hck, hmt])
  have KC := Lib.hid (fun w => check_any g.k g.cl g.b g.t g.d g.l g.p w)
  have KM := Lib.hid (fun w => mright_any g.rows g.cols g.cells.length Ac cc hok.lc w)
  rw [hck] at KC
  rw [hmt] at KM
  obtain ⟨R, hR⟩ : ∃ R, mayG g = R := ⟨_, rfl⟩
  rw [hR] at HM ⊢
  have HT1 : Hid (treesB g (g.trees.drop 0) (g.weights.drop 0) = T1) := Lib.hid (by rw [List.drop_zero, List.drop_zero]; exact hT1)
  have HT2 : Hid ((g.tgt.drop 0).all (tgtB g.k g.cl) = T2) := Lib.hid (by rw [List.drop_zero]; exact hT2)
  have HOK := Lib.hid hok
  have HRG := Lib.hid hr
  have HG : Hid (∃ g', g' = g) := Lib.hid ⟨g, rfl⟩
  obtain ⟨nc, hnc⟩ : ∃ n, g.cells.length = n := ⟨_, rfl⟩
  obtain ⟨nt, hnt⟩ : ∃ n, g.trees.length = n := ⟨_, rfl⟩
  obtain ⟨nw, hnw⟩ : ∃ n, g.weights.length = n := ⟨_, rfl⟩
  obtain ⟨ng, hng⟩ : ∃ n, g.tgt.length = n := ⟨_, rfl⟩
  obtain ⟨k, hk⟩ : ∃ x, g.k = x := ⟨_, rfl⟩
  obtain ⟨cl, hcl⟩ : ∃ x, g.cl = x := ⟨_, rfl⟩
  obtain ⟨b, hb⟩ : ∃ x, g.b = x := ⟨_, rfl⟩
  obtain ⟨t, ht⟩ : ∃ x, g.t = x := ⟨_, rfl⟩
  obtain ⟨d, hd⟩ : ∃ x, g.d = x := ⟨_, rfl⟩
  obtain ⟨l, hl⟩ : ∃ x, g.l = x := ⟨_, rfl⟩
  obtain ⟨p, hp⟩ : ∃ x, g.p = x := ⟨_, rfl⟩
  obtain ⟨rows, hrows⟩ : ∃ x, g.rows = x := ⟨_, rfl⟩
  obtain ⟨cols, hcols⟩ : ∃ x, g.cols = x := ⟨_, rfl⟩
  have hgA : grvA g Ac At Aw Ag cc ct cw cg = #[.int .i64 k, .int .i64 cl, .int .i64 b, .int .i64 t, .int .i64 d, .int .i64 l, .int .i64 p, .int .i64 rows, .int .i64 cols, .slice Ac nc cc, .slice At nt ct, .slice Aw nw cw, .slice Ag ng cg] := by
    unfold grvA; rw [hnc, hnt, hnw, hng, hk, hcl, hb, ht, hd, hl, hp, hrows, hcols]
  rw [hgA]
  rw [hnt, hnw, hng, hcols, hrows] at HM
  rw [hk, hcl] at HT2
  rw [hk, hcl, hb, ht, hd, hl, hp] at KC
  rw [hrows, hcols, hnc] at KM
  have HN := Lib.hid (show g.trees.length = nt ∧ g.weights.length = nw ∧ g.tgt.length = ng ∧ g.k = k ∧ g.cl = cl ∧ g.b = b ∧ g.rows = rows ∧ g.cols = cols from ⟨hnt, hnw, hng, hk, hcl, hb, hrows, hcols⟩)
  have hlw : nw ≤ 9223372036854775807 := by rw [← hnw]; exact hok.lw
  have hlt : nt ≤ 1048576 := by rw [← hnt]; exact hok.lt
  have hlg : ng ≤ 9223372036854775807 := by rw [← hng]; exact hok.lg
  clear hT1 hT2 hck hmt hR hok hr hnc hnt hnw hng hk hcl hb ht hd hl hp hrows hcols hgA
  go_enter Try.func209, Try.ntmps209
  go_upto_region 1 with (fail)
  have kB := Blk.new w #[.int .i64 k, .int .i64 cl, .int .i64 b, .int .i64 t, .int .i64 d, .int .i64 l, .int .i64 p, .int .i64 rows, .int .i64 cols, .slice Ac nc cc, .slice At nt ct, .slice Aw nw cw, .slice Ag ng cg] 83
  have be0 := (Below.refl w.heap.size w).alloc (Nat.le_refl _) (.cells #[.int .i64 k, .int .i64 cl, .int .i64 b, .int .i64 t, .int .i64 d, .int .i64 l, .int .i64 p, .int .i64 rows, .int .i64 cols, .slice Ac nc cc, .slice At nt ct, .slice Aw nw cw, .slice Ag ng cg] 83)
  obtain ⟨W0, hW0⟩ : ∃ W, w.alloc (.cells #[.int .i64 k, .int .i64 cl, .int .i64 b, .int .i64 t, .int .i64 d, .int .i64 l, .int .i64 p, .int .i64 rows, .int .i64 cols, .slice Ac nc cc, .slice At nt ct, .slice Aw nw cw, .slice Ag ng cg] 83) = W := ⟨_, rfl⟩
  have hs0 : W0.heap.size = w.heap.size + 1 := by rw [← hW0]; simp
  rw [hW0] at kB be0 ⊢
  have HKB := Lib.hid kB
  have HBE0 := Lib.hid be0
  have HS0 := Lib.hid hs0
  obtain ⟨q0, q1, q2, q3, q4, q5, q6, q7, q8, q9, q10, q11, q12⟩ := kB.cells13
  have hlB := kB.lt
  clear hW0 kB be0 hs0
  go_cut [3, 4] (fun mv cv wc => ∃ M C : Nat, mv = .pointer (some ⟨M, 0, none⟩) ∧ cv = .pointer (some ⟨C, 0, none⟩) ∧ Hid (MayB #[.int .i64 k, .int .i64 cl, .int .i64 b, .int .i64 t, .int .i64 d, .int .i64 l, .int .i64 p] #[.int .i64 rows, .int .i64 cols, .slice Ac nc cc] #[.int .i64 k, .int .i64 cl, .int .i64 b, .int .i64 t, .int .i64 d, .int .i64 l, .int .i64 p, .int .i64 rows, .int .i64 cols, .slice Ac nc cc, .slice At nt ct, .slice Aw nw cw, .slice Ag ng cg] w.heap.size M C w wc))
  case first =>
    go_region_held3 (fun W => W.cell? ⟨w.heap.size, 0, none⟩ = some (.int .i64 k) ∧ W.cell? ⟨w.heap.size, 1, none⟩ = some (.int .i64 cl) ∧ W.cell? ⟨w.heap.size, 2, none⟩ = some (.int .i64 b) ∧ W.cell? ⟨w.heap.size, 3, none⟩ = some (.int .i64 t) ∧ W.cell? ⟨w.heap.size, 4, none⟩ = some (.int .i64 d) ∧ W.cell? ⟨w.heap.size, 5, none⟩ = some (.int .i64 l) ∧ W.cell? ⟨w.heap.size, 6, none⟩ = some (.int .i64 p) ∧ W.cell? ⟨w.heap.size, 7, none⟩ = some (.int .i64 rows) ∧ W.cell? ⟨w.heap.size, 8, none⟩ = some (.int .i64 cols) ∧ W.cell? ⟨w.heap.size, 9, none⟩ = some (.slice Ac nc cc)) (go_keep) (fail)
    all_goals
      go_wp2
      go_meet
      case rel => first | exact ⟨_, _, rfl, rfl, Lib.hid (mayB_1 HKB.out HBE0.out)⟩ | exact ⟨_, _, rfl, rfl, Lib.hid (mayB_2 HKB.out HBE0.out)⟩
  case rest =>
    obtain ⟨M, C, rfl, rfl, HK⟩ := hcut
    clear q0 q1 q2 q3 q4 q5 q6 q7 q8 q9 q10 q11 q12 hlB HKB HBE0 HS0
    obtain ⟨c0, c1, c2, c3, c4, c5, c6⟩ := HK.out.kC.cells7
    by_cases hck : ck = 0
    · subst hck
      go_wp2_with fail
      refine (KC.out _).mono ?_
      rintro e w2 ⟨rfl, hb⟩
      have HK2 := Lib.hid (HK.out.below hb)
      clear c0 c1 c2 c3 c4 c5 c6 hb HK
      obtain ⟨m0, m1, m2⟩ := HK2.out.kM.cells3
      cases mt with
      | false =>
        go_wp2_with fail
        refine (KM.out _).mono ?_
        rintro e w3 ⟨rfl, hb⟩
        have HK3 := Lib.hid (HK2.out.below hb)
        clear hb HK2 m0 m1 m2
        go_wp2_with fail
        go_ret
        exact ⟨ret_bool (by rw [HM.out]; simp), HK3.out.be⟩
      | true =>
        go_wp2_with fail
        refine (KM.out _).mono ?_
        rintro e w3 ⟨rfl, hb⟩
        have HK3 := Lib.hid (HK2.out.below hb)
        clear hb HK2 m0 m1 m2
        obtain ⟨m0, m1, m2⟩ := HK3.out.kM.cells3
        obtain ⟨q0, q1, q2, q3, q4, q5, q6, q7, q8, q9, q10, q11, q12⟩ := HK3.out.kB.cells13
        by_cases e1 : cols < 1
        · have d1 : decide (cols < 1) = true := decide_eq_true e1
          go_wp2_with fail
          go_ret
          refine ⟨ret_bool ?_, HK3.out.be⟩
          rw [HM.out, decide_eq_false (show ¬ (1 ≤ cols ∧ cols ≤ 1024 ∧ nw = nt ∧ (ng : Int) = rows) by omega)]; simp
        have d1 : decide (cols < 1) = false := decide_eq_false e1
        by_cases e2 : 1024 < cols
        · have d2 : decide (1024 < cols) = true := decide_eq_true e2
          go_wp2_with fail
          go_ret
          refine ⟨ret_bool ?_, HK3.out.be⟩
          rw [HM.out, decide_eq_false (show ¬ (1 ≤ cols ∧ cols ≤ 1024 ∧ nw = nt ∧ (ng : Int) = rows) by omega)]; simp
        have d2 : decide (1024 < cols) = false := decide_eq_false e2
        by_cases e3 : nw = nt
        · by_cases e4 : (ng : Int) = rows
          · have HD : Hid (R = (T1 && T2)) := Lib.hid (by rw [HM.out, decide_eq_true (show (1 ≤ cols ∧ cols ≤ 1024 ∧ nw = nt ∧ (ng : Int) = rows) by omega)]; simp)
            have d3 : (nw != nt) = false := by simpa using e3
            have d3' : ((nw : Int) != nt) = false := bne_eq_false_iff_eq.2 (by omega)
            have d4 : ((ng : Int) != rows) = false := by simpa using e4
            have E3 := Lib.hid e3
            have E4 := Lib.hid e4
            clear HM e1 e2 e3 e4
            go_wp2_with fail
            clear d1 d2 d3 d3' d4 m0 m1 m2 q0 q1 q2 q3 q4 q5 q6 q7 q8 q9 q10 q11 q12
            go_loopw [51] (fun iv wr => ∃ k1 : Nat, k1 ≤ nt ∧ iv = .int .i64 k1 ∧ Hid (treesB g (g.trees.drop k1) (g.weights.drop k1) = T1) ∧ Hid (MayB #[.int .i64 k, .int .i64 cl, .int .i64 b, .int .i64 t, .int .i64 d, .int .i64 l, .int .i64 p] #[.int .i64 rows, .int .i64 cols, .slice Ac nc cc] #[.int .i64 k, .int .i64 cl, .int .i64 b, .int .i64 t, .int .i64 d, .int .i64 l, .int .i64 p, .int .i64 rows, .int .i64 cols, .slice Ac nc cc, .slice At nt ct, .slice Aw nw cw, .slice Ag ng cg] w.heap.size M C w wr)) (fun iv _ => nt - (intOf iv).toNat)
            case atStart => exact ⟨0, Nat.zero_le _, rfl, HT1, HK3⟩
            case round =>
              obtain ⟨k1, hk1, rfl, HTT, HKr⟩ := hrel
              have HR2 := Lib.hid (HRG.out.below HKr.out.be)
              obtain ⟨m0, m1, m2⟩ := HKr.out.kM.cells3
              obtain ⟨c0, c1, c2, c3, c4, c5, c6⟩ := HKr.out.kC.cells7
              obtain ⟨q0, q1, q2, q3, q4, q5, q6, q7, q8, q9, q10, q11, q12⟩ := HKr.out.kB.cells13
              by_cases hlt1 : k1 < nt
              · have hlt1' : (k1 : Int) < nt := by omega
                obtain ⟨adt, rfl, tr, Bt, capt, ht1, ht2, ht3, ht4, ht5⟩ := HR2.out.rt.at (i := k1) (by rw [HN.out.1]; exact hlt1)
                obtain ⟨adw, rfl, wk, Bw, capw, hw1, hw2, hw3, hw4, hw5⟩ := HR2.out.rw.at (i := k1) (by rw [HN.out.2.1, E3.out]; exact hlt1)
                have hk1w : k1 < nw := by have := E3.out; omega
                have hk1w' : (k1 : Int) < nw := by omega
                have HTC := Lib.hid (trees_cons (g := g) ht1 hw1)
                have htl := HOK.out.tt tr (List.mem_of_getElem? ht1)
                have KT := Lib.hid (fun w hr => tright_any cols b k cl tr Bt capt w hr htl)
                obtain ⟨ntr, hntr⟩ : ∃ n, tr.length = n := ⟨_, rfl⟩
                obtain ⟨nwk, hnwk⟩ : ∃ n, wk.length = n := ⟨_, rfl⟩
                obtain ⟨zt, hzt⟩ : ∃ z, rightT cols b k cl tr = z := ⟨_, rfl⟩
                have hN := HN.out
                rw [hnwk, hN.2.2.2.1, hN.2.2.2.2.1, hN.2.2.2.2.2.1, hN.2.2.2.2.2.2.1, hN.2.2.2.2.2.2.2, hzt] at HTC
                rw [hntr, hzt] at KT
                rw [hntr] at ht2
                rw [hnwk] at hw2
                have HRN := Lib.hid ht5
                clear ht1 ht3 ht4 ht5 hw1 hw3 hw4 hw5 htl hntr hnwk hzt hN
                by_cases hlen : (nwk : Int) = rows
                · have d1 : ((nwk : Int) != rows) = false := by simpa using hlen
                  have HTC2 : Hid (T1 = (zt && treesB g (g.trees.drop (k1 + 1)) (g.weights.drop (k1 + 1)))) := Lib.hid (by rw [← HTT.out, HTC.out, decide_eq_true hlen, Bool.true_and])
                  have FS := Lib.hid (fun w' (hb : Below wr.heap.size wr w') => And.intro ((hb.cell (p := ⟨w.heap.size, 11, none⟩) HKr.out.kB.lt).trans q11) (And.intro ((hb.cell (World.block_lt_of_cell? wr _ hw2)).trans hw2) (And.intro ((hb.cell (p := ⟨M, 0, none⟩) HKr.out.kM.lt).trans m0) (And.intro ((hb.cell (p := ⟨M, 1, none⟩) HKr.out.kM.lt).trans m1) (And.intro ((hb.cell (p := ⟨C, 2, none⟩) HKr.out.kC.lt).trans c2) (And.intro ((hb.cell (p := ⟨C, 0, none⟩) HKr.out.kC.lt).trans c0) ((hb.cell (p := ⟨C, 1, none⟩) HKr.out.kC.lt).trans c1)))))))
                  clear hlen HTC q0 q1 q2 q3 q4 q5 q6 q7 q8 q9 q12 c3 c4 c5 c6 m2
                  go_wp2_with fail
                  go_region_held3 (fun W => W.cell? ⟨w.heap.size, 11, none⟩ = some (.slice (some adw) nw cw) ∧ W.cell? (adw.add k1) = some (.slice Bw nwk capw) ∧ W.cell? ⟨M, 0, none⟩ = some (.int .i64 rows) ∧ W.cell? ⟨M, 1, none⟩ = some (.int .i64 cols) ∧ W.cell? ⟨C, 2, none⟩ = some (.int .i64 b) ∧ W.cell? ⟨C, 0, none⟩ = some (.int .i64 k) ∧ W.cell? ⟨C, 1, none⟩ = some (.int .i64 cl)) (go_keep)
                    (first | (go_at_call 123; refine (KT.out _ (by exact HRN.out)).mono ?_; rintro e w8 ⟨rfl, hb8⟩; obtain ⟨f1, f2, f3, f4, f5, f6, f7⟩ := FS.out w8 (((Below.refl wr.heap.size wr).drew).trans hb8); have HB8 := Lib.hid hb8; clear hb8))
                  all_goals
                    have HK8 := Lib.hid (HKr.out.below (((Below.refl wr.heap.size wr).drew).trans HB8.out))
                    cases zt with
                    | true =>
                      go_wp2_with fail
                      go_roundw
                      case rel => exact ⟨k1 + 1, hlt1, by go_num, Lib.hid (by rw [HTC2.out, Bool.true_and]), HK8⟩
                      case measure => simp [intOf]; omega
                    | false =>
                      go_wp2_with fail
                      go_ret
                      exact ⟨ret_bool (by rw [HD.out, HTC2.out]; rfl), HK8.out.be⟩
                · have d1 : ((nwk : Int) != rows) = true := bne_iff_ne.2 hlen
                  have HF : Hid (R = false) := Lib.hid (by rw [HD.out, ← HTT.out, HTC.out, decide_eq_false hlen]; rfl)
                  clear hlen HTC
                  go_wp2_with fail
                  go_quiet (fail)
                  go_wp2_with fail
                  go_ret
                  exact ⟨ret_bool HF.out.symm, HKr.out.be.trans ⟨rfl, rfl, rfl, Nat.le_refl _, fun _ _ => rfl⟩⟩
              · obtain rfl : nt = k1 := by omega
                have HT1' : Hid (T1 = true) := Lib.hid (by
                  rw [← HTT.out, List.drop_of_length_le (by rw [HN.out.1]; exact Nat.le_refl _)]
                  rfl)
                go_wp2_with fail
                clear m0 m1 m2 c0 c1 c2 c3 c4 c5 c6 q0 q1 q2 q3 q4 q5 q6 q7 q8 q9 q10 q11 q12
                have HK3 := HKr
                clear HKr HR2
                go_loopw [83] (fun iv wr => ∃ k2 : Nat, k2 ≤ ng ∧ iv = .int .i64 k2 ∧ Hid ((g.tgt.drop k2).all (tgtB k cl) = T2) ∧ Hid (MayB #[.int .i64 k, .int .i64 cl, .int .i64 b, .int .i64 t, .int .i64 d, .int .i64 l, .int .i64 p] #[.int .i64 rows, .int .i64 cols, .slice Ac nc cc] #[.int .i64 k, .int .i64 cl, .int .i64 b, .int .i64 t, .int .i64 d, .int .i64 l, .int .i64 p, .int .i64 rows, .int .i64 cols, .slice Ac nc cc, .slice At nt ct, .slice Aw nw cw, .slice Ag ng cg] w.heap.size M C w wr)) (fun iv _ => ng - (intOf iv).toNat)
                case atStart => exact ⟨0, Nat.zero_le _, rfl, HT2, HK3⟩
                case round =>
                  obtain ⟨k2, hk2, rfl, HTT2, HKr⟩ := hrel
                  have HR2 := Lib.hid (HRG.out.below HKr.out.be)
                  obtain ⟨c0, c1, c2, c3, c4, c5, c6⟩ := HKr.out.kC.cells7
                  by_cases hlt2 : k2 < ng
                  · have hlt2' : (k2 : Int) < ng := by omega
                    obtain ⟨adg, rfl, hin, y⟩ := HR2.out.rg.at (i := k2) (by rw [HN.out.2.2.1]; exact hlt2)
                    have HTC : Hid ((g.tgt.drop k2).all (tgtB k cl) = (tgtB k cl (g.tgt.getD k2 0) && (g.tgt.drop (k2 + 1)).all (tgtB k cl))) := Lib.hid (by
                      have hk : k2 < g.tgt.length := by rw [HN.out.2.2.1]; exact hlt2
                      rw [List.drop_eq_getElem_cons hk, List.all_cons, List.getD_eq_getElem?_getD, List.getElem?_eq_getElem hk]
                      rfl)
                    have KT := Lib.hid (fun w => target_any k cl b t d l p (g.tgt.getD k2 0) w)
                    obtain ⟨x, hx⟩ : ∃ x, g.tgt.getD k2 0 = x := ⟨_, rfl⟩
                    obtain ⟨z, hz⟩ : ∃ z, tgtB k cl (g.tgt.getD k2 0) = z := ⟨_, rfl⟩
                    rw [hz] at KT HTC
                    rw [hx] at KT y
                    clear hin hx hz
                    cases z with
                    | true =>
                      go_wp2_with fail
                      refine (KT.out _).mono ?_
                      rintro e w8 ⟨rfl, hb8⟩
                      have HK8 := Lib.hid (HKr.out.below hb8)
                      clear hb8
                      go_wp2_with fail
                      go_roundw
                      case rel => exact ⟨k2 + 1, hlt2, by go_num, Lib.hid (by have := HTT2.out; rwa [HTC.out, Bool.true_and] at this), HK8⟩
                      case measure => simp [intOf]; omega
                    | false =>
                      go_wp2_with fail
                      refine (KT.out _).mono ?_
                      rintro e w8 ⟨rfl, hb8⟩
                      have HK8 := Lib.hid (HKr.out.below hb8)
                      clear hb8
                      go_wp2_with fail
                      go_ret
                      exact ⟨ret_bool (by rw [HD.out, HT1'.out, ← HTT2.out, HTC.out]; rfl), HK8.out.be⟩
                  · obtain rfl : k2 = ng := by omega
                    go_wp2_with fail
                    go_ret
                    refine ⟨ret_bool ?_, HKr.out.be⟩
                    rw [HD.out, HT1'.out, ← HTT2.out, List.drop_of_length_le (by rw [HN.out.2.2.1]; exact Nat.le_refl _)]
                    rfl
          · have d3 : (nw != nt) = false := by simpa using e3
            have d3' : ((nw : Int) != nt) = false := bne_eq_false_iff_eq.2 (by omega)
            have d4 : ((ng : Int) != rows) = true := by simpa using e4
            have HD : Hid (R = false) := Lib.hid (by rw [HM.out, decide_eq_false (show ¬ (1 ≤ cols ∧ cols ≤ 1024 ∧ nw = nt ∧ (ng : Int) = rows) by omega)]; simp)
            clear HM e1 e2 e3 e4
            go_wp2_with fail
            go_ret
            exact ⟨ret_bool HD.out.symm, HK3.out.be⟩
        · have d3 : (nw != nt) = true := by simpa using e3
          have d3' : ((nw : Int) != nt) = true := bne_iff_ne.2 (by omega)
          have HD : Hid (R = false) := Lib.hid (by rw [HM.out, decide_eq_false (show ¬ (1 ≤ cols ∧ cols ≤ 1024 ∧ nw = nt ∧ (ng : Int) = rows) by omega)]; simp)
          clear HM e1 e2 e3
          go_wp2_with fail
          go_ret
          exact ⟨ret_bool HD.out.symm, HK3.out.be⟩
    · have d0 : (ck != 0) = true := bne_iff_ne.2 hck
      have HD : Hid (R = false) := Lib.hid (by rw [HM.out, beq_eq_false_iff_ne.2 hck]; rfl)
      clear hck HM
      go_wp2_with fail
      refine (KC.out _).mono ?_
      rintro e w2 ⟨rfl, hb⟩
      have HK2 := Lib.hid (HK.out.below hb)
      clear c0 c1 c2 c3 c4 c5 c6 hb HK
      go_wp2_with fail
      go_ret
      exact ⟨ret_bool HD.out.symm, HK2.out.be⟩
end Go.Proofs.Ytpekofpiodaadaa.Hb
end

section
/- A column is turned: the walk of bins.Turn. -/
namespace Go.Proofs.Ytpekofpiodaadaa.Hb
set_option linter.unusedVariables false
set_option linter.unusedSimpArgs false
open Go.RowKit

theorem mat_size : (Try.prog.info? 75).map (·.size) = some 3 := by kernel_rfl
theorem own_low {w : World} {base : Nat} {e : TypeId} {size n : Nat} {v : Value} {xs : List Value} (h : w.ownsRow base e size v n xs) {p : Addr} (u : Value) (hp : p.block < base) : (w.setCell p u).ownsRow base e size v n xs := by
  refine h.kept (row := some p.block) ⟨rfl, rfl, rfl, by simp, fun k _ hk => Below.heap_setCell w p u k (fun e => hk (by rw [e]))⟩ ?_
  rcases h.2 with ⟨rfl, _⟩ | ⟨g, cap, cur, rfl, hb, _⟩
  · exact .inl rfl
  · refine .inr fun e => ?_
    have : g = p.block := by simpa [Value.ownBlock] using e
    omega
/-- What lies in Turn's boxes. -/
structure TuI (mat : Array Value) (rows cols : Value) (M R O : Nat) (sl : Value) (w wr : World) : Prop where
  kM : Blk wr M mat 75
  kR : Blk wr R #[.int .i64 0, .int .i64 0, .slice none 0 0] 75
  kO : Blk wr O #[rows, cols, sl] 75
  be : Below w.heap.size w wr
theorem TuI.below {mat : Array Value} {rows cols sl : Value} {M R O : Nat} {w wr w' : World} (h : TuI mat rows cols M R O sl w wr) (hb : Below wr.heap.size wr w') : TuI mat rows cols M R O sl w w' := ⟨h.kM.below hb, h.kR.below hb, h.kO.below hb, h.be.trans (hb.mono h.be.size)⟩
theorem TuI.set {mat : Array Value} {rows cols sl : Value} {M R O : Nat} {w wr : World} (h : TuI mat rows cols M R O sl w wr) {p : Addr} (h1 : M ≠ p.block) (h2 : R ≠ p.block) (h3 : O ≠ p.block) (h4 : w.heap.size ≤ p.block) (u : Value) : TuI mat rows cols M R O sl w (wr.setCell p u) :=
  ⟨h.kM.other h1 u, h.kR.other h2 u, h.kO.other h3 u, h.be.setCell h4 u⟩
theorem TuI.drew {mat : Array Value} {rows cols sl : Value} {M R O : Nat} {w wr : World} (h : TuI mat rows cols M R O sl w wr) : TuI mat rows cols M R O sl w wr.drew := ⟨h.kM, h.kR, h.kO, h.be.drew⟩
theorem mat_idx {n : Nat} {cols : Int} {nc col : Nat} (hm : matB n cols nc = true) (hcol : (col : Int) < cols) {i : Nat} (hi : i < n) : col * n + i < nc ∧ n ≤ 16777216 ∧ nc ≤ 281474976710656 ∧ col * n ≤ 281474976710656 := by
  obtain ⟨m1, m2, m3⟩ := matB_is hm
  obtain ⟨c1, c2, c3⟩ := cell_idx (rows := n) (cols := cols) (j := col) (i := i) (by omega) hcol (by omega) (by omega)
  have hnb : (n : Int) * cols ≤ 281474976710656 := by
    have := Int.mul_le_mul m1.2 m2.2 m2.1 (by omega)
    omega
  rw [← Int.natCast_mul] at c1 c2 c3
  omega
set_option maxRecDepth 100000 in
set_option maxHeartbeats 8000000 in
theorem turn_any (n : Nat) (cols : Int) (cells p : List Int) (A Ap : Option Addr) (cap cp col : Nat) (w : World) (hm : matB n cols cells.length = true) (hr : RC w A cells) (hcol : (col : Int) < cols) (hp : p.Perm (rowI n)) (hrp : RdI w Ap p) (hn : n ≤ 1048576) (hcn : cells.length ≤ 1099511627776) :
    Calls Try.prog 148 #[.agg #[.int .i64 n, .int .i64 cols, .slice A cells.length cap], .int .i64 col, .slice Ap n cp] w fun e w' => ∃ v, e = .returned (.tuple #[.agg #[.int .i64 n, .int .i64 cols, v], .int .i64 0]) ∧ w'.ownsRow w.heap.size 71 1 v cells.length (u16s (turnO (col * n) p cells n)) ∧ Below w.heap.size w w' := by
  have KM := Lib.hid (fun w => mright_any n cols cells.length A cap (by omega) w)
  have KP := Lib.hid (fun w hr => permutes_any p Ap cp n w hr hp hn)
  have KC := Lib.hid (fun w hr => clone16_any cells A cap w hr hcn)
  have HIX := Lib.hid (fun (i : Nat) (hi : i < n) => mat_idx hm hcol hi)
  have HPI := Lib.hid (perm_in hp)
  have HPL := Lib.hid (perm_len hp)
  have HRC := Lib.hid hr
  have HRP := Lib.hid hrp
  rw [hm] at KM
  obtain ⟨nc, hnc⟩ : ∃ x, cells.length = x := ⟨_, rfl⟩
  have HNC := Lib.hid hnc
  have HTL : Hid (∀ k, (turnO (col * n) p cells k).length = nc) := Lib.hid (fun k => by rw [turn_len, hnc])
  rw [hnc] at KM KC HIX hcn ⊢
  obtain ⟨P, hP⟩ : ∃ P, col * n = P := ⟨_, rfl⟩
  have HP := Lib.hid hP
  have HTS : Hid (∀ k, P + k < nc → turnO P p cells (k + 1) = (turnO P p cells k).set (P + k) (cells.getD (P + (p.getD k 0).toNat) 0)) := Lib.hid (fun k hk => turn_set (by rw [hnc]; exact hk))
  have HT0 : Hid (turnO P p cells 0 = cells) := Lib.hid (turn_zero P p cells)
  rw [hP] at HIX HTL ⊢
  have d1 : decide ((col : Int) < 0) = false := decide_eq_false (by omega)
  have d2 : decide (cols ≤ (col : Int)) = false := decide_eq_false (by omega)
  clear hm hr hcol hp hrp hnc hP
  go_enter Try.func148, Try.ntmps148
  go_wp2_with fail
  refine (KM.out _).mono ?_
  rintro e w1 ⟨rfl, hb⟩
  have be0 : Below w.heap.size w ((w.alloc (.cells #[.int .i64 n, .int .i64 cols, .slice A nc cap] 75)).alloc (.cells #[.int .i64 0, .int .i64 0, .slice none 0 0] 75)) := ((Below.refl _ _).alloc (Nat.le_refl _) _).alloc (by simp) _
  have kM := ((Blk.new w #[.int .i64 n, .int .i64 cols, .slice A nc cap] 75).below ((Below.refl _ _).alloc (Nat.le_refl _) (.cells #[.int .i64 0, .int .i64 0, .slice none 0 0] 75))).below hb
  have kR := (Blk.new (w.alloc (.cells #[.int .i64 n, .int .i64 cols, .slice A nc cap] 75)) #[.int .i64 0, .int .i64 0, .slice none 0 0] 75).below hb
  rw [World.size_alloc] at kR
  have HB1 := Lib.hid (be0.trans (hb.mono be0.size))
  obtain ⟨m0, m1, m2⟩ := kM.cells3
  have HKM := Lib.hid kM
  have HKR := Lib.hid kR
  clear hb be0 kM kR
  go_wp2_with fail
  refine (KP.out _ (HRP.out.below HB1.out)).mono ?_
  rintro e w2 ⟨rfl, hb⟩
  have kM := HKM.out.below hb
  have HKM2 := Lib.hid kM
  have HKR2 := Lib.hid (HKR.out.below hb)
  have HB2 := Lib.hid (HB1.out.trans (hb.mono HB1.out.size))
  clear hb m0 m1 m2
  obtain ⟨m0, m1, m2⟩ := kM.cells3
  have hlM := kM.lt
  have hl2 : w.heap.size + 1 < w2.heap.size := HKR2.out.lt
  clear kM
  go_upto_region 4 with (fail)
  have bo : Below w2.heap.size w2 (w2.alloc (.cells #[.int .i64 n, .int .i64 cols, .slice A nc cap] 75)) := (Below.refl _ _).alloc (Nat.le_refl _) _
  have kO := Blk.new w2 #[.int .i64 n, .int .i64 cols, .slice A nc cap] 75
  obtain ⟨W3, hW3⟩ : ∃ W, w2.alloc (.cells #[.int .i64 n, .int .i64 cols, .slice A nc cap] 75) = W := ⟨_, rfl⟩
  have hs3 : W3.heap.size = w2.heap.size + 1 := by rw [← hW3]; simp
  rw [hW3] at bo kO ⊢
  have HI3 : Hid (TuI #[.int .i64 n, .int .i64 cols, .slice A nc cap] (.int .i64 n) (.int .i64 cols) w.heap.size (w.heap.size + 1) w2.heap.size (.slice A nc cap) w W3) := Lib.hid ⟨HKM2.out.below bo, HKR2.out.below bo, kO, HB2.out.trans (bo.mono HB2.out.size)⟩
  have HS3 := Lib.hid hs3
  clear m0 m1 m2 hlM kO bo hW3 hs3
  obtain ⟨m0, m1, m2⟩ := HI3.out.kM.cells3
  go_wp2_with fail
  refine (KC.out _ (HRC.out.below HI3.out.be)).mono ?_
  rintro e w4 ⟨v, rfl, ho, hb⟩
  obtain ⟨Ar, cr, rfl⟩ := own_slice ho
  have HI4 := Lib.hid (HI3.out.below hb)
  have kO4 := HI4.out.kO
  have HO4 := Lib.hid ho
  have o2 : w4.cell? ⟨w2.heap.size, 2, none⟩ = some (.slice A nc cap) := kO4.cell 2
  have o3 := fun i => kO4.frozen i
  have hlO := kO4.lt
  have HI5 : Hid (TuI #[.int .i64 n, .int .i64 cols, .slice A nc cap] (.int .i64 n) (.int .i64 cols) w.heap.size (w.heap.size + 1) w2.heap.size (.slice Ar nc cr) w (w4.setCell ⟨w2.heap.size, 2, none⟩ (.slice Ar nc cr))) := Lib.hid
    ⟨HI4.out.kM.other (p := ⟨w2.heap.size, 2, none⟩) (by show w.heap.size ≠ w2.heap.size; omega) _, HI4.out.kR.other (p := ⟨w2.heap.size, 2, none⟩) (by show w.heap.size + 1 ≠ w2.heap.size; omega) _, kO4.set 2 (.slice Ar nc cr), HI4.out.be.setCell (p := ⟨w2.heap.size, 2, none⟩) (by show w.heap.size ≤ w2.heap.size; omega) _⟩
  have HO5 : Hid ((w4.setCell ⟨w2.heap.size, 2, none⟩ (.slice Ar nc cr)).ownsRow (w2.heap.size + 1) 71 1 (.slice Ar nc cr) nc (u16s cells)) := Lib.hid (by
    have h := ho
    rw [HS3.out] at h
    exact own_low h (p := ⟨w2.heap.size, 2, none⟩) _ (Nat.lt_succ_self _))
  clear m0 m1 m2 kO4 ho hb
  go_wp2_with fail
  clear o2 o3 hlO
  obtain ⟨wz, hwz⟩ : ∃ W, w4.setCell ⟨w2.heap.size, 2, none⟩ (.slice Ar nc cr) = W := ⟨_, rfl⟩
  rw [hwz] at HI5 HO5 ⊢
  clear hwz
  go_loopw [39] (fun iv wr => ∃ k : Nat, k ≤ n ∧ iv = .int .i64 k ∧ Hid (TuI #[.int .i64 n, .int .i64 cols, .slice A nc cap] (.int .i64 n) (.int .i64 cols) w.heap.size (w.heap.size + 1) w2.heap.size (.slice Ar nc cr) w wr) ∧ Hid (wr.ownsRow (w2.heap.size + 1) 71 1 (.slice Ar nc cr) nc (u16s (turnO P p cells k)))) (fun iv _ => n - (intOf iv).toNat)
  case atStart => exact ⟨0, Nat.zero_le _, rfl, HI5, Lib.hid (by rw [HT0.out]; exact HO5.out)⟩
  case round =>
    obtain ⟨k, hk, rfl, HI, HO⟩ := hrel
    by_cases hlt : k < n
    · have hlt' : (k : Int) < n := by omega
      obtain ⟨adp, rfl, hcp0⟩ := (HRP.out.below HI.out.be).at (k := k) (by rw [HPL.out]; exact hlt)
      have hcp := hcp0 k (by rw [HPL.out]; exact hlt)
      have hin := HPI.out (p.getD k 0) (by rw [List.getD_eq_getElem?_getD, List.getElem?_eq_getElem (by rw [HPL.out]; exact hlt)]; exact List.getElem_mem _)
      obtain ⟨b1, b2, b3, b4⟩ := HIX.out k hlt
      have hts := HTS.out k b1
      obtain ⟨x, hx⟩ := Int.eq_ofNat_of_zero_le hin.1
      rw [hx] at hcp hin hts
      rw [Int.toNat_natCast] at hts
      obtain ⟨b1', _⟩ := HIX.out x (by omega)
      obtain ⟨ad, rfl, hca, hca1, hca2⟩ := (HRC.out.below HI.out.be).at (k := P + x) (by rw [HNC.out]; exact b1')
      obtain ⟨g, cap', hv, h1, h2, h3, h4⟩ := own_open HO.out (by omega)
      cases hv
      have z0 := h4 (P + k) _ (u16s_get (by rw [HTL.out]; exact b1))
      obtain ⟨y, hy⟩ : ∃ y, cells.getD (P + x) 0 = y := ⟨_, rfl⟩
      rw [hy] at hca hca1 hca2 hts
      obtain ⟨o, ho⟩ : ∃ o, (turnO P p cells k).getD (P + k) 0 = o := ⟨_, rfl⟩
      rw [ho] at z0
      have zf := fun i => World.ownsRow.frozenAt HO.out i
      have HNEW : Hid ((wr.setCell ⟨g, P + k, none⟩ (.int .u16 y)).ownsRow (w2.heap.size + 1) 71 1 (.slice (some ⟨g, 0, none⟩) nc cr) nc (u16s (turnO P p cells (k + 1)))) := Lib.hid (by
        have s := (World.ownsRow.stored HO.out (P + k) (.int .u16 y)).1
        rw [← u16s_set] at s
        rw [hts]
        exact s)
      have HIN : Hid (TuI #[.int .i64 n, .int .i64 cols, .slice (some ad) nc cap] (.int .i64 n) (.int .i64 cols) w.heap.size (w.heap.size + 1) w2.heap.size (.slice (some ⟨g, 0, none⟩) nc cr) w (wr.setCell ⟨g, P + k, none⟩ (.int .u16 y))) := Lib.hid (HI.out.set (p := ⟨g, P + k, none⟩) (by show w.heap.size ≠ g; omega) (by show w.heap.size + 1 ≠ g; omega) (by show w2.heap.size ≠ g; omega) (by show w.heap.size ≤ g; omega) _)
      obtain ⟨m0, m1, m2⟩ := HI.out.kM.cells3
      obtain ⟨o0, o1, o2⟩ := HI.out.kO.cells3
      have w1 : IntKind.i64.wrap ((col : Int) * n) = P := by rw [← HP.out, IntKind.wrap_i64, ← Int.natCast_mul, HP.out]; omega
      have w2' : IntKind.i64.wrap ((P : Int) + k) = ((P + k : Nat) : Int) := by rw [IntKind.wrap_i64]; omega
      have w3 : IntKind.i64.wrap ((P : Int) + x) = ((P + x : Nat) : Int) := by rw [IntKind.wrap_i64]; omega
      obtain ⟨q1, hq1⟩ : ∃ q, P + k = q := ⟨_, rfl⟩
      obtain ⟨q2, hq2⟩ : ∃ q, P + x = q := ⟨_, rfl⟩
      rw [hq1] at b1 z0 HNEW HIN w2'
      rw [hq2] at b1' hca w3
      have b5 : (q1 : Int) < nc := by omega
      have b6 : (q2 : Int) < nc := by omega
      clear hcp0 hin hts hx h1 h2 h4 hy ho hq1 hq2 b2 b3 b4
      go_upto_region 8 with (fail)
      go_region
      go_wp2
      go_roundw
      case rel => exact ⟨k + 1, hlt, by go_num, Lib.hid HIN.out.drew, Lib.hid (HNEW.out.drew)⟩
      case measure => simp [intOf]; omega
    · obtain rfl : n = k := by omega
      obtain ⟨o0, o1, o2⟩ := HI.out.kO.cells3
      obtain ⟨r0, r1, r2⟩ := HI.out.kR.cells3
      have r3 := fun i => HI.out.kR.frozen i
      have hlR := HI.out.kR.lt
      have hlO := HI.out.kO.lt
      go_wp2_with fail
      refine bodyPost_ret (results_ct rfl _ _ (w.heap.size + 1) 75 _ _ rfl (((HI.out.kR.set 0 _).set 1 _).set 2 _) Try.underlying75 rfl mat_size) rfl ⟨_, rfl, ?_, ?_⟩
      · have h := World.ownsRow.mono HO.out (show w.heap.size ≤ w2.heap.size + 1 by omega)
        exact own_set' (own_set' (own_set' h HI.out.kR (by decide)) (HI.out.kR.set 0 _) (by decide)) ((HI.out.kR.set 0 _).set 1 _) (by decide)
      · exact ((HI.out.be.setCell (p := ⟨w.heap.size + 1, 0, none⟩) (by show w.heap.size ≤ w.heap.size + 1; omega) _).setCell (p := ⟨w.heap.size + 1, 1, none⟩) (by show w.heap.size ≤ w.heap.size + 1; omega) _).setCell (p := ⟨w.heap.size + 1, 2, none⟩) (by show w.heap.size ≤ w.heap.size + 1; omega) _
end Go.Proofs.Ytpekofpiodaadaa.Hb
end

section
/- A column is turned: the walk of ref11.Turn. -/
namespace Go.Proofs.Ytpekofpiodaadaa.Hb
set_option linter.unusedVariables false
set_option linter.unusedSimpArgs false
open Go.RowKit

theorem TuI.app {mat : Array Value} {rows cols sl : Value} {M R O : Nat} {w wr w3 : World} {o : Obj} {v : Value} {e : TypeId} {m : Nat} {xs : List Value} (h : TuI mat rows cols M R O sl w wr) (ho : wr.ownsRow (O + 1) e 1 v m xs) (hg : (wr.drew.alloc o).grownBy w3 v.ownBlock) (h1 : M < O + 1) (h2 : R < O + 1) (h3 : w.heap.size ≤ O) : TuI mat rows cols M R O sl w w3 := by
  have a : Below wr.heap.size wr (wr.drew.alloc o) := ((Below.refl _ wr).drew).alloc (Nat.le_refl _) _
  refine ⟨own_blk (h.kM.below a) hg (own_base ho h1), own_blk (h.kR.below a) hg (own_base ho h2), own_blk (h.kO.below a) hg (own_base ho (Nat.lt_succ_self _)), (h.be.trans (a.mono h.be.size)).grown hg (Nat.le_trans h.be.size a.size) (fun q e => ?_)⟩
  have := (World.ownsRow.lt ho q e).1
  omega
set_option warningAsError false in
set_option maxRecDepth 100000 in
set_option maxHeartbeats 8000000 in
theorem rturn_any (n : Nat) (cols : Int) (cells p : List Int) (A Ap : Option Addr) (cap cp col : Nat) (w : World) (hm : matB n cols cells.length = true) (hr : RC w A cells) (hcol : (col : Int) < cols) (hp : p.Perm (rowI n)) (hrp : RdI w Ap p) (hn : n ≤ 1048576) (hcn : cells.length ≤ 1099511627776) :
    Calls Try.prog 93 #[.agg #[.int .i64 n, .int .i64 cols, .slice A cells.length cap], .int .i64 col, .slice Ap n cp] w fun e w' => ∃ v, e = .returned (.tuple #[.agg #[.int .i64 n, .int .i64 cols, v], .int .i64 0]) ∧ w'.ownsRow w.heap.size 71 1 v cells.length (u16s (turnO (col * n) p cells n)) ∧ Below w.heap.size w w' := by
  have hm0 := Lib.hid hm
  have hcl0 : 0 ≤ cols := (matB_is hm).2.1.1
  have hcc : cols ≤ 16777216 := (matB_is hm).2.1.2
  have KM := Lib.hid (fun w => rmright_any n cols cells.length A cap (by omega) w)
  have KP := Lib.hid (fun w hr => rpermutes_any p Ap cp n w hr hp hn)
  have HIX := Lib.hid (fun (i : Nat) (hi : i < n) => mat_idx hm hcol hi)
  have HPI := Lib.hid (perm_in hp)
  have HPL := Lib.hid (perm_len hp)
  have HRC := Lib.hid hr
  have HRP := Lib.hid hrp
  rw [hm] at KM
  obtain ⟨nc, hnc⟩ : ∃ x, cells.length = x := ⟨_, rfl⟩
  have HNC := Lib.hid hnc
  have HTL : Hid (∀ k, (turnO (col * n) p cells k).length = nc) := Lib.hid (fun k => by rw [turn_len, hnc])
  rw [hnc] at KM HIX hcn ⊢
  obtain ⟨P, hP⟩ : ∃ P, col * n = P := ⟨_, rfl⟩
  have HP := Lib.hid hP
  have HIX2 := Lib.hid (fun (j i : Nat) (hj : (j : Int) < cols) (hi : i < n) => mat_idx hm0.out hj hi)
  rw [hnc] at HIX2
  have HTG : Hid (∀ m, m < nc → (turnO P p cells n).getD m 0 = if P ≤ m ∧ m < P + n then cells.getD (P + (p.getD (m - P) 0).toNat) 0 else cells.getD m 0) := Lib.hid (fun m h => turn_get (by rw [hnc]; exact h))
  have HEND : Hid (∀ m : Nat, (m : Int) = cols → m * n = nc) := Lib.hid (fun m h => by
    obtain ⟨_, _, h3⟩ := matB_is hm0.out
    rw [hnc] at h3
    rw [← h, ← Int.natCast_mul] at h3
    rw [Nat.mul_comm]
    omega)
  obtain ⟨T, hT⟩ : ∃ T, turnO P p cells n = T := ⟨_, rfl⟩
  have hTl := HTL.out n
  rw [hP, hT] at hTl
  have HTLL := Lib.hid hTl
  rw [hT] at HTG
  rw [hP] at HIX ⊢
  rw [hT]
  have d1 : decide ((col : Int) < 0) = false := decide_eq_false (by omega)
  have d2 : decide (cols ≤ (col : Int)) = false := decide_eq_false (by omega)
  have HCOL := Lib.hid hcol
  obtain ⟨i0, hi0, hz0, hz1, hz2⟩ := info_parts info_u16
  obtain ⟨mc, hmc⟩ := Int.eq_ofNat_of_zero_le hcl0
  subst hmc
  have d3 : decide (mc ≤ col) = false := decide_eq_false (by have := HCOL.out; omega)
  clear hm hr hcol hp hrp hnc hP hT hTl HIX HTL
  go_enter Try.func93, Try.ntmps93
  go_wp2_with fail
  refine (KM.out _).mono ?_
  rintro e w1 ⟨rfl, hb⟩
  have be0 : Below w.heap.size w ((w.alloc (.cells #[.int .i64 n, .int .i64 mc, .slice A nc cap] 75)).alloc (.cells #[.int .i64 0, .int .i64 0, .slice none 0 0] 75)) := ((Below.refl _ _).alloc (Nat.le_refl _) _).alloc (by simp) _
  have kM := ((Blk.new w #[.int .i64 n, .int .i64 mc, .slice A nc cap] 75).below ((Below.refl _ _).alloc (Nat.le_refl _) (.cells #[.int .i64 0, .int .i64 0, .slice none 0 0] 75))).below hb
  have kR := (Blk.new (w.alloc (.cells #[.int .i64 n, .int .i64 mc, .slice A nc cap] 75)) #[.int .i64 0, .int .i64 0, .slice none 0 0] 75).below hb
  rw [World.size_alloc] at kR
  have HB1 := Lib.hid (be0.trans (hb.mono be0.size))
  obtain ⟨m0, m1, m2⟩ := kM.cells3
  have HKM := Lib.hid kM
  have HKR := Lib.hid kR
  clear hb be0 kM kR
  go_wp2_with fail
  refine (KP.out _ (HRP.out.below HB1.out)).mono ?_
  rintro e w2 ⟨rfl, rfl⟩
  have kM := HKM.out
  have HKM2 := Lib.hid kM
  have HKR2 := HKR
  have HB2 := HB1
  clear m0 m1 m2
  obtain ⟨m0, m1, m2⟩ := kM.cells3
  have hlM := kM.lt
  have hl2 : w.heap.size + 1 < w2.heap.size := HKR2.out.lt
  clear kM
  go_upto_region 4 with (fail)
  have bo : Below w2.heap.size w2 (w2.alloc (.cells #[.int .i64 n, .int .i64 mc, .slice none 0 0] 75)) := (Below.refl _ _).alloc (Nat.le_refl _) _
  have kO := Blk.new w2 #[.int .i64 n, .int .i64 mc, .slice none 0 0] 75
  obtain ⟨W3, hW3⟩ : ∃ W, w2.alloc (.cells #[.int .i64 n, .int .i64 mc, .slice none 0 0] 75) = W := ⟨_, rfl⟩
  have hs3 : W3.heap.size = w2.heap.size + 1 := by rw [← hW3]; simp
  rw [hW3] at bo kO ⊢
  have HI3 : Hid (TuI #[.int .i64 n, .int .i64 mc, .slice A nc cap] (.int .i64 n) (.int .i64 mc) w.heap.size (w.heap.size + 1) w2.heap.size (.slice none 0 0) w W3) := Lib.hid ⟨HKM2.out.below bo, HKR2.out.below bo, kO, HB2.out.trans (bo.mono HB2.out.size)⟩
  have HS3 := Lib.hid hs3
  clear m0 m1 m2 hlM kO bo hW3 hs3
  go_wp2_with fail
  go_loopw [9] (fun jv wr => ∃ (j : Nat) (a : Option Addr) (c : Nat), j ≤ mc ∧ jv = .int .i64 j ∧ Hid (TuI #[.int .i64 n, .int .i64 mc, .slice A nc cap] (.int .i64 n) (.int .i64 mc) w.heap.size (w.heap.size + 1) w2.heap.size (.slice a (j * n) c) w wr) ∧ Hid (wr.ownsRow (w2.heap.size + 1) 71 1 (.slice a (j * n) c) (j * n) (u16s (T.take (j * n))))) (fun jv _ => mc - (intOf jv).toNat)
  case atStart =>
    refine ⟨0, none, 0, Nat.zero_le _, rfl, Lib.hid ?_, Lib.hid ?_⟩
    · rw [Nat.zero_mul]; exact HI3.out
    · rw [Nat.zero_mul]; exact World.ownsRow_nil _ _ _ _
  case round =>
    obtain ⟨j, a, c, hj, rfl, HI, HO⟩ := hrel
    obtain ⟨m0, m1, m2⟩ := HI.out.kM.cells3
    by_cases hltj : j < mc
    · have hltj' : (j : Int) < mc := by omega
      obtain ⟨wo, hwo⟩ : ∃ x, x = wr := ⟨_, rfl⟩
      subst hwo
      go_wp2_with fail
      clear m0 m1 m2
      go_loopw [10] (fun iv wr => ∃ (i : Nat) (a : Option Addr) (c : Nat), i ≤ n ∧ iv = .int .i64 i ∧ Hid (TuI #[.int .i64 n, .int .i64 mc, .slice A nc cap] (.int .i64 n) (.int .i64 mc) w.heap.size (w.heap.size + 1) w2.heap.size (.slice a (j * n + i) c) w wr) ∧ Hid (wr.ownsRow (w2.heap.size + 1) 71 1 (.slice a (j * n + i) c) (j * n + i) (u16s (T.take (j * n + i))))) (fun iv _ => n - (intOf iv).toNat)
      case atStart => exact ⟨0, a, c, Nat.zero_le _, rfl, HI, HO⟩
      case round =>
        obtain ⟨i, a2, c2, hi, rfl, HI2, HO2⟩ := hrel
        obtain ⟨m0, m1, m2⟩ := HI2.out.kM.cells3
        by_cases hlt : i < n
        · have hlt' : (i : Int) < n := by omega
          obtain ⟨b1, b2, b3, b4⟩ := HIX2.out j i hltj' hlt
          obtain ⟨Q, hQ⟩ : ∃ Q, j * n = Q := ⟨_, rfl⟩
          have HQ := Lib.hid hQ
          rw [hQ] at b1 b4 HI2 HO2
          obtain ⟨M, hM⟩ : ∃ M, Q + i = M := ⟨_, rfl⟩
          have HMM := Lib.hid hM
          -- which cell is taken
          obtain ⟨s, hs, hsn, hval⟩ : ∃ s : Nat, (j = col → ∃ x : Nat, p.getD i 0 = x ∧ s = x) ∧ s < n ∧ T.getD (Q + i) 0 = cells.getD (Q + s) 0 ∧ (j ≠ col → s = i) := by
            by_cases hjc : j = col
            · have hin := HPI.out (p.getD i 0) (by rw [List.getD_eq_getElem?_getD, List.getElem?_eq_getElem (by rw [HPL.out]; exact hlt)]; exact List.getElem_mem _)
              obtain ⟨x, hx⟩ := Int.eq_ofNat_of_zero_le hin.1
              refine ⟨x, fun _ => ⟨x, hx, rfl⟩, by omega, ?_, fun h => absurd hjc h⟩
              have hPQ : P = Q := by rw [← HP.out, ← hQ, hjc]
              rw [HTG.out _ b1, if_pos (by omega), hPQ, show Q + i - Q = i by omega, hx, Int.toNat_natCast]
            · refine ⟨i, fun h => absurd h hjc, hlt, ?_, fun _ => rfl⟩
              rw [HTG.out _ b1, if_neg]
              intro h
              rw [← HP.out, ← hQ] at h
              rcases Nat.lt_or_ge j col with h1 | h1
              · have : (j + 1) * n ≤ col * n := Nat.mul_le_mul_right n h1
                rw [Nat.add_mul, Nat.one_mul] at this
                omega
              · have : (col + 1) * n ≤ j * n := Nat.mul_le_mul_right n (by omega)
                rw [Nat.add_mul, Nat.one_mul] at this
                omega
          obtain ⟨hval, hsi⟩ := hval
          obtain ⟨b1', _⟩ := HIX2.out j s hltj' hsn
          rw [hQ] at b1'
          obtain ⟨ad, rfl, hca, hca1, hca2⟩ := (HRC.out.below HI2.out.be).at (k := Q + s) (by rw [HNC.out]; exact b1')
          obtain ⟨y, hy⟩ : ∃ y, cells.getD (Q + s) 0 = y := ⟨_, rfl⟩
          rw [hy] at hca hca1 hca2 hval
          have hcw : w.cell? (ad.add (Q + s)) = some (.int .u16 y) := by
            obtain ⟨ad', e, hc, _⟩ := HRC.out.at (k := Q + s) (by rw [HNC.out]; exact b1')
            cases e
            rw [hc, hy]
          have hblk : (ad.add (Q + s)).block < w.heap.size := World.block_lt_of_cell? w _ hcw
          have hne1 : (⟨w2.heap.size, 2, none⟩ : Addr) ≠ ad.add (Q + s) := fun e => by rw [← e] at hblk; simp at hblk; omega
          have hne2 := hne1.symm
          have HTK : Hid (u16s (T.take (M + 1)) = u16s (T.take M) ++ [.int .u16 y]) := Lib.hid (by
            rw [← hM, take_sn (by rw [HTLL.out]; exact b1), hval, u16s_snoc])
          obtain ⟨o0, o1, o2⟩ := HI2.out.kO.cells3
          have o3 := fun i => HI2.out.kO.frozen i
          have hlO := HI2.out.kO.lt
          have w1 : IntKind.i64.wrap ((j : Int) * n) = Q := by rw [← HQ.out, IntKind.wrap_i64, ← Int.natCast_mul, HQ.out]; omega
          have w3 : IntKind.i64.wrap ((Q : Int) + s) = ((Q + s : Nat) : Int) := by rw [IntKind.wrap_i64]; omega
          rw [hM] at b1 o2 HI2 HO2
          obtain ⟨q2, hq2⟩ : ∃ q, Q + s = q := ⟨_, rfl⟩
          rw [hq2] at b1' hca w3 hcw hblk hne1 hne2
          have b6 : (q2 : Int) < nc := by omega
          have hMn : M + 1 ≤ 1099511627777 := by omega
          have HSS := Lib.hid (And.intro hs hsi)
          clear hQ hM hs hsi hval hy hq2 b2 b3 b4 m1
          by_cases hjc : j = col
          · have e1 : ((j : Int) == col) = true := beq_iff_eq.2 (by omega)
            have e2 : (j == col) = true := beq_iff_eq.2 hjc
            obtain ⟨x, hx, hsx⟩ := HSS.out.1 hjc
            subst hsx
            obtain ⟨adp, rfl, hcp0⟩ := (HRP.out.below HI2.out.be).at (k := i) (by rw [HPL.out]; exact hlt)
            have hcp := hcp0 i (by rw [HPL.out]; exact hlt)
            rw [hx] at hcp
            clear hcp0 hx hjc
            go_upto_region 13 with (fail)
            go_region_held3 (fun W => W.cell? ⟨w.heap.size, 0, none⟩ = some (.int .i64 n) ∧ W.cell? ⟨w.heap.size, 2, none⟩ = some (.slice (some ad) nc cap) ∧ W.cell? (ad.add q2) = some (.int .u16 y)) (first | (exact ⟨k0 _, k1 _, k2 _⟩) | go_keep)
              ((refine step_append_lies _ (by rfl) _ _ 73 (by rfl) (w2.heap.size + 1) 71 i0 (.int .u16 0) 1 2 Try.underlying73 hi0 hz0 hz1 hz2 rfl (by decide) (.slice a2 M c2) M (u16s (T.take M)) (by rfl) (by exact HO2.out.alloc _) _ 1 1 [.int .u16 y] (by rfl) (by rfl) (by exact cell_one_new _ _ _) (by simp [Value.oneCell']) (by decide) (by unfold maxLen; omega) (by omega) (by simp; omega) _ rfl ?_; intro g' c' w3 hown3 hg3 hat3 hlt3; have HI6 := Lib.hid (TuI.app HI2.out HO2.out hg3 (by omega) (by omega) (by omega)); obtain ⟨f0, f1, f2⟩ := HI6.out.kM.cells3; obtain ⟨g0, g1, g2⟩ := HI6.out.kO.cells3; have g3 := fun i => HI6.out.kO.frozen i; have g4 := HI6.out.kO.lt; have f3 : w3.cell? (ad.add q2) = some (.int .u16 y) := (HI6.out.be.cell hblk).trans hcw; have HOW := Lib.hid hown3; have k0 : ∀ u, (w3.setCell ⟨w2.heap.size, 2, none⟩ u).cell? ⟨w.heap.size, 0, none⟩ = some (.int .i64 n) := fun u => (World.cell?_of_block (Below.heap_setCell _ _ _ _ (by show w.heap.size ≠ w2.heap.size; omega))).trans f0; have k1 : ∀ u, (w3.setCell ⟨w2.heap.size, 2, none⟩ u).cell? ⟨w.heap.size, 2, none⟩ = some (.slice (some ad) nc cap) := fun u => (World.cell?_of_block (Below.heap_setCell _ _ _ _ (by show w.heap.size ≠ w2.heap.size; omega))).trans f2; have k2 : ∀ u, (w3.setCell ⟨w2.heap.size, 2, none⟩ u).cell? (ad.add q2) = some (.int .u16 y) := fun u => (World.cell?_of_block (Below.heap_setCell _ _ _ _ (by show (ad.add q2).block ≠ w2.heap.size; omega))).trans f3; clear hown3 hg3 hat3))
            all_goals
              go_wp2
              go_roundw
              case rel =>
                refine ⟨i + 1, some ⟨g', 0, none⟩, c', hlt, by go_num, Lib.hid ?_, Lib.hid ?_⟩
                · rw [← Nat.add_assoc, HQ.out, HMM.out]
                  exact ⟨HI6.out.kM.other (p := ⟨w2.heap.size, 2, none⟩) (by show w.heap.size ≠ w2.heap.size; omega) _, HI6.out.kR.other (p := ⟨w2.heap.size, 2, none⟩) (by show w.heap.size + 1 ≠ w2.heap.size; omega) _, HI6.out.kO.set 2 _, HI6.out.be.setCell (p := ⟨w2.heap.size, 2, none⟩) (by show w.heap.size ≤ w2.heap.size; omega) _⟩
                · rw [← Nat.add_assoc, HQ.out, HMM.out, HTK.out]
                  exact own_low HOW.out (p := ⟨w2.heap.size, 2, none⟩) _ (Nat.lt_succ_self _)
              case measure => simp [intOf]; omega
          · have e1 : ((j : Int) == col) = false := beq_eq_false_iff_ne.2 (by omega)
            have e2 : (j == col) = false := beq_eq_false_iff_ne.2 hjc
            have hsx : i = s := (HSS.out.2 hjc).symm
            subst hsx
            clear hjc
            go_upto_region 13 with (fail)
            go_region_held3 (fun W => W.cell? ⟨w.heap.size, 0, none⟩ = some (.int .i64 n) ∧ W.cell? ⟨w.heap.size, 2, none⟩ = some (.slice (some ad) nc cap) ∧ W.cell? (ad.add q2) = some (.int .u16 y)) (first | (exact ⟨k0 _, k1 _, k2 _⟩) | go_keep)
              ((refine step_append_lies _ (by rfl) _ _ 73 (by rfl) (w2.heap.size + 1) 71 i0 (.int .u16 0) 1 2 Try.underlying73 hi0 hz0 hz1 hz2 rfl (by decide) (.slice a2 M c2) M (u16s (T.take M)) (by rfl) (by exact HO2.out.alloc _) _ 1 1 [.int .u16 y] (by rfl) (by rfl) (by exact cell_one_new _ _ _) (by simp [Value.oneCell']) (by decide) (by unfold maxLen; omega) (by omega) (by simp; omega) _ rfl ?_; intro g' c' w3 hown3 hg3 hat3 hlt3; have HI6 := Lib.hid (TuI.app HI2.out HO2.out hg3 (by omega) (by omega) (by omega)); obtain ⟨f0, f1, f2⟩ := HI6.out.kM.cells3; obtain ⟨g0, g1, g2⟩ := HI6.out.kO.cells3; have g3 := fun i => HI6.out.kO.frozen i; have g4 := HI6.out.kO.lt; have f3 : w3.cell? (ad.add q2) = some (.int .u16 y) := (HI6.out.be.cell hblk).trans hcw; have HOW := Lib.hid hown3; have k0 : ∀ u, (w3.setCell ⟨w2.heap.size, 2, none⟩ u).cell? ⟨w.heap.size, 0, none⟩ = some (.int .i64 n) := fun u => (World.cell?_of_block (Below.heap_setCell _ _ _ _ (by show w.heap.size ≠ w2.heap.size; omega))).trans f0; have k1 : ∀ u, (w3.setCell ⟨w2.heap.size, 2, none⟩ u).cell? ⟨w.heap.size, 2, none⟩ = some (.slice (some ad) nc cap) := fun u => (World.cell?_of_block (Below.heap_setCell _ _ _ _ (by show w.heap.size ≠ w2.heap.size; omega))).trans f2; have k2 : ∀ u, (w3.setCell ⟨w2.heap.size, 2, none⟩ u).cell? (ad.add q2) = some (.int .u16 y) := fun u => (World.cell?_of_block (Below.heap_setCell _ _ _ _ (by show (ad.add q2).block ≠ w2.heap.size; omega))).trans f3; clear hown3 hg3 hat3))
            all_goals
              go_wp2
              go_roundw
              case rel =>
                refine ⟨i + 1, some ⟨g', 0, none⟩, c', hlt, by go_num, Lib.hid ?_, Lib.hid ?_⟩
                · rw [← Nat.add_assoc, HQ.out, HMM.out]
                  exact ⟨HI6.out.kM.other (p := ⟨w2.heap.size, 2, none⟩) (by show w.heap.size ≠ w2.heap.size; omega) _, HI6.out.kR.other (p := ⟨w2.heap.size, 2, none⟩) (by show w.heap.size + 1 ≠ w2.heap.size; omega) _, HI6.out.kO.set 2 _, HI6.out.be.setCell (p := ⟨w2.heap.size, 2, none⟩) (by show w.heap.size ≤ w2.heap.size; omega) _⟩
                · rw [← Nat.add_assoc, HQ.out, HMM.out, HTK.out]
                  exact own_low HOW.out (p := ⟨w2.heap.size, 2, none⟩) _ (Nat.lt_succ_self _)
              case measure => simp [intOf]; omega
        · obtain rfl : n = i := by omega
          go_wp2_with fail
          go_roundw
          case rel =>
            refine ⟨j + 1, a2, c2, hltj, by go_num, Lib.hid ?_, Lib.hid ?_⟩
            · rw [Nat.add_mul, Nat.one_mul]; exact HI2.out
            · rw [Nat.add_mul, Nat.one_mul]; exact HO2.out
          case measure => simp [intOf]; omega
    · obtain rfl : mc = j := by omega
      obtain ⟨o0, o1, o2⟩ := HI.out.kO.cells3
      obtain ⟨r0, r1, r2⟩ := HI.out.kR.cells3
      have r3 := fun i => HI.out.kR.frozen i
      have hlR := HI.out.kR.lt
      have hlO := HI.out.kO.lt
      have he := HEND.out mc rfl
      have hO := HO.out
      rw [he] at o2 hO
      rw [List.take_of_length_le (by rw [HTLL.out]; exact Nat.le_refl _)] at hO
      clear he
      go_wp2_with fail
      refine bodyPost_ret (results_ct rfl _ _ (w.heap.size + 1) 75 _ _ rfl (((HI.out.kR.set 0 _).set 1 _).set 2 _) Try.underlying75 rfl mat_size) rfl ⟨_, rfl, ?_, ?_⟩
      · have h := World.ownsRow.mono hO (show w.heap.size ≤ w2.heap.size + 1 by omega)
        exact own_set' (own_set' (own_set' h HI.out.kR (by decide)) (HI.out.kR.set 0 _) (by decide)) ((HI.out.kR.set 0 _).set 1 _) (by decide)
      · exact ((HI.out.be.setCell (p := ⟨w.heap.size + 1, 0, none⟩) (by show w.heap.size ≤ w.heap.size + 1; omega) _).setCell (p := ⟨w.heap.size + 1, 1, none⟩) (by show w.heap.size ≤ w.heap.size + 1; omega) _).setCell (p := ⟨w.heap.size + 1, 2, none⟩) (by show w.heap.size ≤ w.heap.size + 1; omega) _
end Go.Proofs.Ytpekofpiodaadaa.Hb
end

section
/- The document's answer on a config. -/
namespace Go.Proofs.Ytpekofpiodaadaa.Hb
set_option linter.unusedVariables false
set_option linter.unusedSimpArgs false
open Go.RowKit

set_option maxRecDepth 100000 in
set_option maxHeartbeats 8000000 in
theorem rcheck_any (k cl b t d l p : Int) (w : World) : Calls Try.prog 74 #[.agg #[.int .i64 k, .int .i64 cl, .int .i64 b, .int .i64 t, .int .i64 d, .int .i64 l, .int .i64 p]] w fun e w' => e = .returned (.int .i64 (checkO k cl b t d l p)) ∧ Below w.heap.size w w' := by
  obtain ⟨R, hR⟩ : ∃ R, checkO k cl b t d l p = R := ⟨_, rfl⟩
  rw [hR]
  have HR := Lib.hid hR
  clear hR
  obtain ⟨K, hK⟩ : ∃ K, K = k := ⟨_, rfl⟩
  obtain ⟨C, hC⟩ : ∃ C, C = cl := ⟨_, rfl⟩
  have HK := Lib.hid hK
  have HC := Lib.hid hC
  have b1 : (k == 0) = decide (K = 0) := by rw [hK, Bool.eq_iff_iff, beq_iff_eq, decide_eq_true_iff]
  have b2 : (k == 1) = decide (K = 1) := by rw [hK, Bool.eq_iff_iff, beq_iff_eq, decide_eq_true_iff]
  have b3 : (k != 0) = !decide (K = 0) := by rw [bne, b1]
  have b4 : (k != 1) = !decide (K = 1) := by rw [bne, b2]
  have b5 : (cl != 0) = !decide (C = 0) := by rw [bne, hC]; congr 1
  have leaf : ∀ x, (checkO K C b t d l p = x) → R = x := fun x e => by rw [← HR.out, ← hK, ← hC]; exact e
  have HL := Lib.hid leaf
  clear leaf hK hC
  by_cases c0 : K = 0
  · have a0 : decide (K = 0) = true := decide_eq_true c0
    have a1 : decide (K = 1) = false := decide_eq_false (by omega)
    have HX := Lib.hid c0
    rw [a0] at b1 b3
    rw [a1] at b2 b4
    simp only [Bool.not_true, Bool.not_false] at b3 b4
    clear a0 a1 c0 b5
    have HY : Hid (cl = C) := Lib.hid HC.out.symm
    go_enter Try.func74, Try.ntmps74
    go_wp2
    all_goals
      go_ret
      refine ⟨ret_i64 (HL.out _ ?_).symm, (Below.refl _ _).alloc (Nat.le_refl _) _⟩
      have e1 := HX.out
      have e2 := HY.out
      unfold checkO lowC stepC
      simp (disch := omega) only [if_pos, if_neg] <;> (split <;> rfl)
  · by_cases c1 : K = 1
    · have a0 : decide (K = 0) = false := decide_eq_false c0
      have a1 : decide (K = 1) = true := decide_eq_true c1
      have HX := Lib.hid c1
      rw [a0] at b1 b3
      rw [a1] at b2 b4
      simp only [Bool.not_true, Bool.not_false] at b3 b4
      have HY : Hid (cl = C) := Lib.hid HC.out.symm
      by_cases c2 : C = 0
      · have a2 : decide (C = 0) = true := decide_eq_true c2
        have HZ := Lib.hid c2
        rw [a2] at b5
        simp only [Bool.not_true] at b5
        have b6 : decide (256 < cl) = false := decide_eq_false (by have := HY.out; omega)
        clear a0 a1 a2 c0 c1 c2
        go_enter Try.func74, Try.ntmps74
        go_wp2
        all_goals
          go_ret
          refine ⟨ret_i64 (HL.out _ ?_).symm, (Below.refl _ _).alloc (Nat.le_refl _) _⟩
          have e1 := HX.out
          have e2 := HY.out
          have e3 := HZ.out
          unfold checkO lowC stepC
          simp (disch := omega) only [if_pos, if_neg] <;> (split <;> rfl)
      · have a2 : decide (C = 0) = false := decide_eq_false c2
        have HZ := Lib.hid c2
        rw [a2] at b5
        simp only [Bool.not_false] at b5
        clear a0 a1 a2 c0 c1 c2
        go_enter Try.func74, Try.ntmps74
        go_wp2
        all_goals
          go_ret
          refine ⟨ret_i64 (HL.out _ ?_).symm, (Below.refl _ _).alloc (Nat.le_refl _) _⟩
          have e1 := HX.out
          have e2 := HY.out
          have e3 := HZ.out
          unfold checkO lowC stepC
          simp (disch := omega) only [if_pos, if_neg] <;> (split <;> rfl)
    · have a0 : decide (K = 0) = false := decide_eq_false c0
      have a1 : decide (K = 1) = false := decide_eq_false c1
      have HX := Lib.hid c0
      have HY := Lib.hid c1
      rw [a0] at b1 b3
      rw [a1] at b2 b4
      simp only [Bool.not_true, Bool.not_false] at b3 b4
      clear a0 a1 c0 c1 b5
      go_enter Try.func74, Try.ntmps74
      go_wp2
      all_goals
        go_ret
        refine ⟨ret_i64 (HL.out _ ?_).symm, (Below.refl _ _).alloc (Nat.le_refl _) _⟩
        have e1 := HX.out
        have e2 := HY.out
        unfold checkO lowC stepC
        simp (disch := omega) only [if_pos, if_neg] <;> (split <;> rfl)
end Go.Proofs.Ytpekofpiodaadaa.Hb
end

section
/- The walks of ref11.Cell, ref20.Cells, ref20.Place, ref09.Target. -/
namespace Go.Proofs.Ytpekofpiodaadaa.Hb
set_option linter.unusedVariables false
set_option linter.unusedSimpArgs false
open Go.RowKit

set_option maxRecDepth 100000 in
set_option maxHeartbeats 1000000 in
theorem rcell_any (rows cols : Int) (cells : List Int) (A : Option Addr) (cap : Nat) (i j : Int) (w : World) (hm : matB rows cols cells.length = true) (hr : RC w A cells) (hi0 : 0 ≤ i) (hi : i < rows) (hj0 : 0 ≤ j) (hj : j < cols) :
    Calls Try.prog 214 #[.agg #[.int .i64 rows, .int .i64 cols, .slice A cells.length cap], .int .i64 i, .int .i64 j] w fun e w' => e = .returned (.int .i64 (cells.getD (j * rows + i).toNat 0)) ∧ Below w.heap.size w w' := by
  obtain ⟨m1, m2, m3⟩ := matB_is hm
  obtain ⟨c1, c2, c3⟩ := cell_idx hj0 hj hi0 hi
  obtain ⟨n, hn⟩ : ∃ n, cells.length = n := ⟨_, rfl⟩
  have hnb : rows * cols ≤ 281474976710656 := by
    have := Int.mul_le_mul m1.2 m2.2 m2.1 (by omega)
    omega
  have hlt : (j * rows + i).toNat < cells.length := by omega
  have KM := Lib.hid (fun w => rmright_any rows cols cells.length A cap (by omega) w)
  obtain ⟨ad, rfl, y, y1, y2⟩ := hr.at hlt
  obtain ⟨x, hx⟩ : ∃ x, cells.getD (j * rows + i).toNat 0 = x := ⟨_, rfl⟩
  rw [hx] at y y1 y2 ⊢
  rw [hm] at KM
  rw [hn] at KM hlt m3 ⊢
  obtain ⟨P, hP⟩ : ∃ P, j * rows = P := ⟨_, rfl⟩
  rw [hP] at c1 c2 c3 hlt y
  obtain ⟨k, hk⟩ := Int.eq_ofNat_of_zero_le c3
  rw [hk, Int.toNat_natCast] at y hlt
  have hw1 : IntKind.i64.wrap (j * rows) = P := by rw [hP, IntKind.wrap_i64]; omega
  have hw2 : IntKind.i64.wrap (P + i) = (k : Int) := by rw [hk, IntKind.wrap_i64]; omega
  have hw3 : IntKind.i64.wrap x = x := by rw [IntKind.wrap_i64]; omega
  have hlt' : (k : Int) < n := by omega
  have e1 : decide (i < 0) = false := decide_eq_false (by omega)
  have e2 : decide (rows ≤ i) = false := decide_eq_false (by omega)
  have e3 : decide (j < 0) = false := decide_eq_false (by omega)
  have e4 : decide (cols ≤ j) = false := decide_eq_false (by omega)
  have hbA := World.block_lt_of_cell? w _ y
  have HP := Lib.hid hP
  have HK := Lib.hid hk
  have HW1 := Lib.hid hw1
  have HW2 := Lib.hid hw2
  clear hm hr hx hn hP hk m3 hw1 hw2 m1 m2
  go_enter Try.func214, Try.ntmps214
  go_wp2_with fail
  refine (KM.out _).mono ?_
  rintro e w1 ⟨rfl, hb⟩
  have be : Below w.heap.size w w1 := ((Below.refl _ w).alloc (Nat.le_refl _) _).trans (hb.mono (by simp))
  have kA := (Blk.new w #[.int .i64 rows, .int .i64 cols, .slice (some ad) n cap] 75).below hb
  have p0 := kA.cell 0
  have p1 := kA.cell 1
  have p2 := kA.cell 2
  simp only [List.getElem?_toArray, List.getElem?_cons_zero, List.getElem?_cons_succ] at p0 p1 p2
  have z := (be.cell hbA).trans y
  have hw1 := HW1.out
  have hw2 := HW2.out
  clear hb y hbA c1 c2 c3
  go_wp2_with fail
  go_ret
  exact ⟨rfl, be⟩
set_option maxRecDepth 100000 in
set_option maxHeartbeats 1000000 in
theorem rcells_any (rows cols : Int) (cells : List Int) (A : Option Addr) (cap : Nat) (i : Nat) (w : World) (hm : matB rows cols cells.length = true) (hr : RC w A cells) (hi : (i : Int) < rows) :
    Calls Try.prog 192 #[.agg #[.int .i64 rows, .int .i64 cols, .slice A cells.length cap], .int .i64 i] w fun e w' => ∃ v, e = .returned v ∧ w'.ownsRow w.heap.size 3 1 v cols.toNat (ints (rowO rows cols cells i)) ∧ Below w.heap.size w w' := by
  have KC := Lib.hid (fun (j : Nat) w hr (hj : (j : Int) < cols) => rcell_any rows cols cells A cap i j w hm hr (by omega) hi (by omega) hj)
  have hmm := matB_is hm
  obtain ⟨m, hmc⟩ := Int.eq_ofNat_of_zero_le hmm.2.1.1
  have hmb : m ≤ 16777216 := by have := hmm.2.1.2; omega
  have hrl : Hid ((rowO rows cols cells i).length = m) := Lib.hid (by rw [row_len, hmc]; rfl)
  have hrg : Hid (∀ k, k < m → cells.getD ((k : Int) * rows + (i : Int)).toNat 0 = (rowO rows cols cells i).getD k 0) := Lib.hid (fun k hk => by
    rw [row_get (by rw [hmc]; exact hk)]
    congr 1
    obtain ⟨q, hq⟩ := Int.eq_ofNat_of_zero_le hmm.1.1
    subst hq
    show (((k : Int) * (q : Int)) + (i : Int)).toNat = k * ((q : Int)).toNat + i
    rw [Int.toNat_natCast, ← Int.natCast_mul, ← Int.natCast_add, Int.toNat_natCast])
  obtain ⟨R, hR⟩ : ∃ R, rowO rows cols cells i = R := ⟨_, rfl⟩
  rw [hR] at hrl hrg ⊢
  have HIN : Hid (∀ k, k < m → 0 ≤ R.getD k 0 ∧ R.getD k 0 ≤ 65535) := Lib.hid (fun k hk => by
    rw [← hrg.out k hk]
    obtain ⟨c1, c2, c3⟩ := cell_idx (rows := rows) (cols := cols) (j := k) (i := i) (by omega) (by omega) (by omega) hi
    obtain ⟨_, _, _, h⟩ := hr.at (k := ((k : Int) * rows + (i : Int)).toNat) (by omega)
    exact h)
  subst hmc
  rw [Int.toNat_natCast]
  obtain ⟨n, hn⟩ : ∃ n, cells.length = n := ⟨_, rfl⟩
  rw [hn] at KC ⊢
  have HRC := Lib.hid hr
  obtain ⟨i0, hi0, hz0, hz1, hz2⟩ := info_parts info_int
  clear hm hmm hR hn hr
  go_enter Try.func192, Try.ntmps192
  go_wp2_with fail
  go_loopw [5, 6] (fun o jv wr => ∃ (k : Nat) (a : Option Addr) (c : Nat), k ≤ m ∧ jv = .int .i64 k ∧ o = .slice a k c ∧ Hid (wr.ownsRow (w.heap.size + 1) 3 1 (.slice a k c) k (ints (R.take k))) ∧ Blk wr w.heap.size #[.int .i64 rows, .int .i64 m, .slice A n cap] 75 ∧ Hid (Below w.heap.size w wr)) (fun _ jv _ => m - (intOf jv).toNat)
  case atStart =>
    refine ⟨0, _, _, Nat.zero_le _, rfl, rfl, Lib.hid ?_, (Blk.new w _ _).below ((Below.refl _ _).alloc (Nat.le_refl _) _), Lib.hid (((Below.refl _ _).alloc (Nat.le_refl _) _).alloc (by simp) _)⟩
    have := World.ownsRow_made (base := w.heap.size + 1) (e := 3) (size := 1) (w.alloc (.cells #[.int .i64 rows, .int .i64 m, .slice A n cap] 75)) #[] 0 (by simp) (Nat.zero_le _) rfl
    have hz : (w.alloc (.cells #[.int .i64 rows, .int .i64 m, .slice A n cap] 75)).heap.size = w.heap.size + 1 := by simp
    rw [hz] at this
    rw [List.take_zero]
    exact this
  case round =>
    obtain ⟨k, a, c, hk, rfl, rfl, HO, kB, HBe⟩ := hrel
    have p0 := kB.cell 0
    have p1 := kB.cell 1
    have p2 := kB.cell 2
    have hlB := kB.lt
    simp only [List.getElem?_toArray, List.getElem?_cons_zero, List.getElem?_cons_succ] at p0 p1 p2
    by_cases hlt : k < m
    · have hlt' : (k : Int) < m := by omega
      have KC2 := Lib.hid (KC.out k wr (HRC.out.below HBe.out) hlt')
      obtain ⟨x, hx⟩ : ∃ x, R.getD k 0 = x := ⟨_, rfl⟩
      have hgx := hrg.out k hlt
      rw [hx] at hgx
      rw [hgx] at KC2
      have HX := Lib.hid hx
      clear hgx hx
      go_wp2_with fail
      refine KC2.out.mono ?_
      rintro e w1 ⟨rfl, hb⟩
      have kB1 := kB.below hb
      have HO1 := Lib.hid (own_below HO.out hb)
      have HBe1 := Lib.hid (HBe.out.trans (hb.mono (by omega)))
      have hl1 := kB1.lt
      clear hb p0 p1 p2 kB hlB
      go_wp2_with (at_builtin; refine wpList_append_lies _ rfl _ _ 24 rfl (w.heap.size + 1) 3 i0 (.int .i64 0) 1 8 Try.underlying24 hi0 hz0 hz1 hz2 rfl (by decide) _ _ _ rfl (HO1.out.alloc _) ⟨w1.heap.size, 0, none⟩ 1 1 [.int .i64 x] rfl rfl (cell_one_new _ _ _) (by simp [Value.oneCell']) (by decide) (by unfold maxLen; omega) (by omega) (by simp; omega) _ rfl ?_; intro g2 c2 w2 hown2 hg2 hat2 hlt2)
      go_roundw
      case rel =>
        refine ⟨k + 1, _, c2, hlt, by go_num, rfl, Lib.hid ?_, ?_, Lib.hid ?_⟩
        · rw [take_snocI (by rw [hrl.out]; exact hlt), HX.out, ints_snoc]; exact hown2
        · exact own_blk (kB1.below ((Below.refl _ _).alloc (Nat.le_refl _) _)) hg2 (own_base HO1.out (Nat.lt_succ_self _))
        · exact (HBe1.out.alloc (by omega) _).grown hg2 (by simp; omega) (fun q e => by have := (World.ownsRow.lt HO1.out q e).1; omega)
      case measure => simp [intOf]; omega
    · obtain rfl : k = m := by omega
      go_wp2_with fail
      go_ret
      refine ⟨_, rfl, ?_, HBe.out⟩
      have := HO.out
      rw [List.take_of_length_le (by rw [hrl.out]; exact Nat.le_refl _)] at this
      exact World.ownsRow.mono this (Nat.le_succ _)
set_option maxRecDepth 100000 in
set_option maxHeartbeats 2000000 in
theorem rplace_any (t : List Nd) (row : List Int) (At Ar : Option Addr) (ct cr : Nat) (w : World) (hr : RN w At t) (hrr : RI1 w Ar row) (ht : t.length ≤ 1099511627776) (hrl : row.length ≤ 1099511627776) :
    Calls Try.prog 161 #[.slice At t.length ct, .slice Ar row.length cr] w fun e w' => e = .returned (.int .i64 (placeO t row)) ∧ Below w.heap.size w w' := by
  obtain ⟨P, hP⟩ : ∃ P, placeO t row = P := ⟨_, rfl⟩
  rw [hP]
  obtain ⟨n, hn⟩ : ∃ n, t.length = n := ⟨_, rfl⟩
  obtain ⟨r, hrw⟩ : ∃ r, row.length = r := ⟨_, rfl⟩
  have HP : Hid (placeGo t row n 0 = P) := Lib.hid (by rw [← hn]; exact hP)
  have HN := Lib.hid hn
  have HRL := Lib.hid hrw
  have HR := Lib.hid hr
  have HRR := Lib.hid hrr
  rw [hn] at ht ⊢
  rw [hrw] at hrl ⊢
  clear hP hn hrw hr hrr
  go_enter Try.func161, Try.ntmps161
  go_wp2_with fail
  go_loopw [5, 6] (fun av iv wr => ∃ (k : Nat) (a : Int), k ≤ n ∧ iv = .int .i64 k ∧ av = .int .i64 a ∧ Hid (placeGo t row (n - k) a = P) ∧ Hid (Below w.heap.size w wr)) (fun _ iv _ => n - (intOf iv).toNat)
  case atStart => exact ⟨0, 0, Nat.zero_le _, rfl, rfl, HP, Lib.hid (Below.refl _ _)⟩
  case round =>
    obtain ⟨k, a, hk, rfl, rfl, HI, HB⟩ := hrel
    by_cases hlt : k < n
    · have hlt' : (k : Int) < n := by omega
      obtain ⟨kk, hkk⟩ : ∃ kk, n - k = kk + 1 := ⟨n - k - 1, by omega⟩
      have HKK := Lib.hid hkk
      clear hkk
      by_cases hout : a < 0 ∨ (n : Int) ≤ a
      · have hfin : Hid (P = -1) := Lib.hid (by rw [← HI.out, HKK.out]; exact place_out (by rw [HN.out]; exact hout))
        rcases hout with ho | ho
        · have d1 : decide (a < 0) = true := decide_eq_true ho
          go_wp2_with fail
          go_ret
          exact ⟨ret_i64 hfin.out.symm, HB.out⟩
        · have d1 : decide (a < 0) = false := decide_eq_false (by omega)
          have d2 : decide ((n : Int) ≤ a) = true := decide_eq_true ho
          go_wp2_with fail
          go_ret
          exact ⟨ret_i64 hfin.out.symm, HB.out⟩
      · obtain ⟨c, hc⟩ := Int.eq_ofNat_of_zero_le (show 0 ≤ a by omega)
        subst hc
        have hcn : c < t.length := by rw [HN.out]; omega
        have d1 : decide ((c : Int) < 0) = false := decide_eq_false (by omega)
        have d2 : decide ((n : Int) ≤ (c : Int)) = false := decide_eq_false (by omega)
        have d3 : decide (n ≤ c) = false := decide_eq_false (by omega)
        obtain ⟨ad, rfl, x, hx, hxok, hat⟩ := (HR.out.below HB.out).at (i := c) hcn
        have hnd : Hid (ndAt t (c : Int) = x) := Lib.hid (by
          have := ndAt_get (t := t) (a := (c : Int)) (by omega) (by omega)
          rw [Int.toNat_natCast, hx] at this
          exact (Option.some.inj this).symm)
        have hno : Hid (¬ ((c : Int) < 0 ∨ (t.length : Int) ≤ (c : Int))) := Lib.hid (by omega)
        have HBo : Hid (∀ o, Below w.heap.size w (wr.alloc o)) := Lib.hid (fun o => HB.out.alloc HB.out.size o)
        obtain ⟨p0, p1, p2, p3, p4, p5⟩ := hat
        have hc' : c < n := by omega
        have hc'' : (c : Int) < n := by omega
        by_cases hlf : x.f = -1
        · have hfin : Hid (P = (c : Int)) := Lib.hid (by rw [← HI.out, HKK.out]; exact place_leaf hno.out (by rw [hnd.out]; exact hlf))
          obtain ⟨f, b, ll, cc, sx, q⟩ := x
          simp only at p0 p1 p2 p3 p4 p5 hlf
          have e1 : (f == -1) = true := beq_iff_eq.2 hlf
          clear hlf hx hxok hout hcn
          go_wp2_with fail
          go_ret
          exact ⟨ret_i64 hfin.out.symm, HBo.out _⟩
        · by_cases hoff : x.f < 0 ∨ (r : Int) ≤ x.f
          · have hfin : Hid (P = -1) := Lib.hid (by rw [← HI.out, HKK.out]; exact place_off hno.out (by rw [hnd.out]; exact hlf) (by rw [hnd.out, HRL.out]; exact hoff))
            obtain ⟨f, b, ll, cc, sx, q⟩ := x
            simp only at p0 p1 p2 p3 p4 p5 hlf hoff
            have e1 : (f == -1) = false := beq_eq_false_iff_ne.2 hlf
            rcases hoff with ho | ho
            · have d4 : decide (f < -1) = true := decide_eq_true (by omega)
              clear hlf hx hxok hout hcn
              go_wp2_with fail
              go_ret
              exact ⟨ret_i64 hfin.out.symm, HBo.out _⟩
            · have d4 : decide (f < -1) = false := decide_eq_false (by omega)
              have d5 : decide ((r : Int) ≤ f) = true := decide_eq_true ho
              clear hlf hx hxok hout hcn
              go_wp2_with fail
              go_ret
              exact ⟨ret_i64 hfin.out.symm, HBo.out _⟩
          · obtain ⟨fc, hfc⟩ := Int.eq_ofNat_of_zero_le (show 0 ≤ x.f by omega)
            have hfr : fc < row.length := by rw [HRL.out]; omega
            obtain ⟨ad2, rfl, hin, y⟩ := (HRR.out.below HB.out).at hfr
            have hgo : Hid (placeGo t row (n - (k + 1)) (nextAt row x) = P) := Lib.hid (by
              have := HI.out
              rw [HKK.out, place_go hno.out (by rw [hnd.out]; exact hlf) (by rw [hnd.out, HRL.out]; exact hoff), hnd.out] at this
              rw [show n - (k + 1) = kk by have := HKK.out; omega]
              exact this)
            have hnx : Hid (nextAt row x = if row.getD fc 0 > x.b then IntKind.i64.wrap (x.l + 1) else x.l) := Lib.hid (by unfold nextAt; rw [hfc]; rfl)
            obtain ⟨v, hv⟩ : ∃ v, row.getD fc 0 = v := ⟨_, rfl⟩
            rw [hv] at y hnx
            obtain ⟨f, b, ll, cc, sx, q⟩ := x
            simp only at p0 p1 p2 p3 p4 p5 hoff hfc hnx hgo hlf
            subst hfc
            have hfr2 : (fc : Int) < r := by omega
            have e1 : ((fc : Int) == -1) = false := beq_eq_false_iff_ne.2 hlf
            have d4 : decide ((fc : Int) < -1) = false := decide_eq_false (by omega)
            have d5 : decide ((r : Int) ≤ (fc : Int)) = false := decide_eq_false (by omega)
            have d6 : decide (r ≤ fc) = false := decide_eq_false (by omega)
            have hyB := World.block_lt_of_cell? wr _ y
            clear hv hoff hin hlf hx hxok hout hcn
            by_cases hvb : b < v
            · have d7 : decide (v ≤ b) = false := decide_eq_false (by omega)
              have HGO2 : Hid (placeGo t row (n - (k + 1)) (wrap64 (ll + 1)) = P) := Lib.hid (by rw [← hgo.out, hnx.out, if_pos hvb, wrap_64])
              clear hvb hnx hgo
              go_wp2_with fail
              go_quiet (fail)
              go_wp2_with fail
              go_roundw
              case rel => exact ⟨k + 1, _, hlt, by go_num, rfl, HGO2, Lib.hid ((HBo.out _).trans ⟨rfl, rfl, rfl, Nat.le_refl _, fun _ _ => rfl⟩)⟩
              case measure => simp [intOf]; omega
            · have d7 : decide (v ≤ b) = true := decide_eq_true (by omega)
              have HGO2 : Hid (placeGo t row (n - (k + 1)) ll = P) := Lib.hid (by rw [← hgo.out, hnx.out, if_neg hvb])
              clear hvb hnx hgo
              go_wp2_with fail
              go_quiet (fail)
              go_wp2_with fail
              go_roundw
              case rel => exact ⟨k + 1, _, hlt, by go_num, rfl, HGO2, Lib.hid ((HBo.out _).trans ⟨rfl, rfl, rfl, Nat.le_refl _, fun _ _ => rfl⟩)⟩
              case measure => simp [intOf]; omega
    · obtain rfl : n = k := by omega
      have hfin : Hid (P = -1) := Lib.hid (by rw [← HI.out, Nat.sub_self]; rfl)
      go_wp2_with fail
      go_ret
      exact ⟨ret_i64 hfin.out.symm, HB.out⟩
def rtgtO (k cl x : Int) : Int := if k = 0 ∧ (x < 0 ∨ 255 < x ∨ cl ≤ x) then 5 else if k = 1 ∧ (x < -1048576 ∨ 1048576 < x) then 4 else 0
set_option maxRecDepth 100000 in
set_option maxHeartbeats 1000000 in
theorem rtarget_any (k cl b t d l p x : Int) (hx : in64 x) (w : World) : Calls Try.prog 95 #[.agg #[.int .i64 k, .int .i64 cl, .int .i64 b, .int .i64 t, .int .i64 d, .int .i64 l, .int .i64 p], .int .i64 x] w fun e w' => e = .returned (.int .i64 (rtgtO k cl x)) ∧ Below w.heap.size w w' := by
  obtain ⟨x1, x2⟩ := hx
  by_cases hk : k = 0
  · subst hk
    go_enter Try.func95, Try.ntmps95
    go_wp2_with fail
    all_goals
      go_ret
      refine ⟨ret_i64 ?_, (Below.refl _ _).alloc (Nat.le_refl _) _⟩
      unfold rtgtO
      first
      | (rw [if_pos (by omega)])
      | (rw [if_neg (by omega), if_neg (by omega)])
  · by_cases hk1 : k = 1
    · subst hk1
      go_enter Try.func95, Try.ntmps95
      go_wp2_with fail
      all_goals
        go_ret
        refine ⟨ret_i64 ?_, (Below.refl _ _).alloc (Nat.le_refl _) _⟩
        unfold rtgtO
        first
        | (rw [if_neg (by omega), if_pos (by omega)])
        | (rw [if_neg (by omega), if_neg (by omega)])
    · have k1 : (k == 0) = false := beq_eq_false_iff_ne.2 hk
      have k2 : (k == 1) = false := beq_eq_false_iff_ne.2 hk1
      have HK := Lib.hid (And.intro hk hk1)
      clear hk hk1
      go_enter Try.func95, Try.ntmps95
      go_wp2_with fail
      go_ret
      refine ⟨ret_i64 ?_, (Below.refl _ _).alloc (Nat.le_refl _) _⟩
      have := HK.out
      unfold rtgtO
      rw [if_neg (by omega), if_neg (by omega)]
end Go.Proofs.Ytpekofpiodaadaa.Hb
end

section
/- The walks of ref18.May and ref18.one. -/
namespace Go.Proofs.Ytpekofpiodaadaa.Hb
set_option linter.unusedVariables false
set_option linter.unusedSimpArgs false
open Go.RowKit

set_option maxRecDepth 100000 in
set_option maxHeartbeats 1000000 in
theorem rmayT_any (cols bins kind classes : Int) (w : World) : Calls Try.prog 133 #[.int .i64 cols, .int .i64 bins, .int .i64 kind, .int .i64 classes] w fun e w' => e = .returned (.bool (decide (mayS cols bins kind classes))) ∧ w = w' := by
  obtain ⟨R, hR⟩ : ∃ R, decide (mayS cols bins kind classes) = R := ⟨_, rfl⟩
  rw [hR]
  have HR := Lib.hid hR
  clear hR
  obtain ⟨k0, hk0⟩ : ∃ k0, (kind == 0) = k0 := ⟨_, rfl⟩
  obtain ⟨k1, hk1⟩ : ∃ k1, (kind == 1) = k1 := ⟨_, rfl⟩
  have HK0 := Lib.hid hk0
  have HK1 := Lib.hid hk1
  have H10 : Hid (k0 = true → k1 = true → False) := Lib.hid (fun h1 h2 => by rw [h1] at hk0; rw [h2] at hk1; have := beq_iff_eq.1 hk0; have := beq_iff_eq.1 hk1; omega)
  cases k0 <;> cases k1
  all_goals
    go_enter Try.func133, Try.ntmps133
    go_wp2_with fail
    all_goals
      go_ret
      refine ⟨congrArg (fun b => Ending.returned (.bool b)) ?_, rfl⟩
      rw [← HR.out]
      have x0 := HK0.out
      have x1 := HK1.out
      simp only [beq_iff_eq, beq_eq_false_iff_ne] at x0 x1
      unfold mayS
      first
      | (refine (decide_eq_false ?_).symm; omega)
      | (refine (decide_eq_true ?_).symm; omega)
      | (refine decide_eq_decide.2 ?_; omega)
      | (rw [Bool.eq_iff_iff]; simp; omega)

set_option maxRecDepth 100000 in
set_option maxHeartbeats 4000000 in
theorem rone_any (cols bins kind classes : Int) (x : Nd) (hx : x.ok) (w : World) : Calls Try.prog 134 #[ndV x, .int .i64 cols, .int .i64 bins, .int .i64 kind, .int .i64 classes] w fun e w' => e = .returned (.bool (decide (oneP cols bins kind classes x))) ∧ Below w.heap.size w w' := by
  have HS := Lib.hid (fun w => rsize_any x.s hx.2.2.2.2.1 w)
  obtain ⟨R, hR⟩ : ∃ R, decide (oneP cols bins kind classes x) = R := ⟨_, rfl⟩
  rw [hR]
  have HR := Lib.hid hR
  clear hR
  obtain ⟨f, b, l, c, s, k⟩ := x
  simp only [ndV] at HS ⊢
  clear hx
  have hbe : ∀ (w : World) (o : Obj), Below w.heap.size w (w.alloc o) := fun w o => (Below.refl _ _).alloc (Nat.le_refl _) _
  have hbd : ∀ (w : World) (o : Obj) (n : Nat), Below w.heap.size w ((w.alloc o).drewN n) := fun w o n => (hbe w o).trans ⟨rfl, rfl, rfl, Nat.le_refl _, fun _ _ => rfl⟩
  by_cases hf : 0 ≤ f
  · have d1 : decide (0 ≤ f) = true := decide_eq_true hf
    have hfin : Hid (R = decide (c = 0 ∧ s = 0 ∧ k = 0 ∧ 0 ≤ f ∧ f < cols ∧ 0 ≤ b ∧ b < bins)) := Lib.hid (by
      rw [← HR.out]
      refine decide_eq_decide.2 ?_
      unfold oneP
      dsimp only
      rw [if_neg (show ¬ f = -1 by omega)])
    have HF := Lib.hid hf
    clear hf
    go_enter Try.func134, Try.ntmps134
    go_wp2_with fail
    all_goals
      go_ret
      refine ⟨ret_bool ?_, hbe _ _⟩
      rw [hfin.out]
      have hf := HF.out
      first
      | (refine (decide_eq_false ?_).symm; omega)
      | (refine (decide_eq_true ?_).symm; omega)
      | (refine decide_eq_decide.2 ?_; omega)
      | (rw [Bool.eq_iff_iff]; simp; omega)
  have d1 : decide (0 ≤ f) = false := decide_eq_false hf
  by_cases hbad : f ≠ -1 ∨ b ≠ 0 ∨ l ≠ 0
  · have HB := Lib.hid hbad
    have HF := Lib.hid hf
    obtain ⟨x1, hx1⟩ : ∃ x1, (f != -1) = x1 := ⟨_, rfl⟩
    obtain ⟨x2, hx2⟩ : ∃ x2, (b != 0) = x2 := ⟨_, rfl⟩
    obtain ⟨x3, hx3⟩ : ∃ x3, (l != 0) = x3 := ⟨_, rfl⟩
    have hor : (x1 || (x2 || x3)) = true := by
      rw [← hx1, ← hx2, ← hx3]
      simp only [Bool.or_eq_true, bne_iff_ne]
      omega
    clear hf hbad
    have fin : Hid (R = false) := Lib.hid (by
      rw [← HR.out]
      have hf := HF.out
      have hb := HB.out
      refine decide_eq_false ?_
      unfold oneP
      dsimp only
      by_cases e : f = -1
      · rw [if_pos e]
        by_cases e2 : kind = 0
        · rw [if_pos e2]; omega
        · rw [if_neg e2]; omega
      · rw [if_neg e]; omega)
    cases x1 <;> cases x2 <;> cases x3
    all_goals first
    | (cases hor; done)
    | (go_enter Try.func134, Try.ntmps134
       go_wp2_with fail
       go_ret
       exact ⟨ret_bool fin.out.symm, hbe _ _⟩)
  · have e1 : f = -1 := by omega
    have e2 : b = 0 := by omega
    have e3 : l = 0 := by omega
    subst e1 e2 e3
    clear hbad hf d1
    by_cases hk : kind = 0
    · subst hk
      have hfin : Hid (R = decide (s = 0 ∧ k = 0 ∧ 0 ≤ c ∧ c < classes)) := Lib.hid (by
        rw [← HR.out]
        refine decide_eq_decide.2 ?_
        unfold oneP
        dsimp only
        rw [if_pos rfl, if_pos rfl]
        omega)
      go_enter Try.func134, Try.ntmps134
      go_wp2_with fail
      all_goals
        go_ret
        refine ⟨ret_bool ?_, hbe _ _⟩
        rw [hfin.out]
        first
        | (refine (decide_eq_false ?_).symm; omega)
        | (refine (decide_eq_true ?_).symm; omega)
        | (refine decide_eq_decide.2 ?_; omega)
        | (rw [Bool.eq_iff_iff]; simp; omega)
    · have k0 : (kind == 0) = false := beq_eq_false_iff_ne.2 hk
      have HK := Lib.hid hk
      clear hk
      have hfin : Hid (R = decide (c = 0 ∧ 1 ≤ k ∧ k ≤ 1048576 ∧ -(1048576 * k) ≤ s ∧ s ≤ 1048576 * k)) := Lib.hid (by
        rw [← HR.out]
        refine decide_eq_decide.2 ?_
        unfold oneP
        dsimp only
        rw [if_pos rfl, if_neg HK.out]
        omega)
      by_cases hbad : c ≠ 0 ∨ k < 1 ∨ 1048576 < k
      · have fin : Hid (R = false) := Lib.hid (by rw [hfin.out]; exact decide_eq_false (by omega))
        obtain ⟨x1, hx1⟩ : ∃ x1, (c == 0) = x1 := ⟨_, rfl⟩
        obtain ⟨x2, hx2⟩ : ∃ x2, decide (1 ≤ k) = x2 := ⟨_, rfl⟩
        obtain ⟨x3, hx3⟩ : ∃ x3, decide (k ≤ 1048576) = x3 := ⟨_, rfl⟩
        have hor : (x1 && (x2 && x3)) = false := by
          rw [← hx1, ← hx2, ← hx3, Bool.eq_false_iff]
          simp only [ne_eq, Bool.and_eq_true, beq_iff_eq, decide_eq_true_eq]
          omega
        clear hbad
        cases x1 <;> cases x2 <;> cases x3
        all_goals first
        | (cases hor; done)
        | (go_enter Try.func134, Try.ntmps134
           go_wp2_with fail
           go_quiet (fail)
           go_wp2_with fail
           go_ret
           exact ⟨ret_bool fin.out.symm, hbd _ _ _⟩)
      · have e1 : c = 0 := by omega
        subst e1
        have k1 : 1 ≤ k := by omega
        have k2 : k ≤ 1048576 := by omega
        have y1 : decide (1 ≤ k) = true := decide_eq_true k1
        have y2 : decide (k ≤ 1048576) = true := decide_eq_true k2
        have w1 : IntKind.u64.wrap k = k := by simp [IntKind.wrap, IntKind.bits, IntKind.signed]; omega
        have w2 : IntKind.u64.wrap (1048576 * k) = 1048576 * k := by simp [IntKind.wrap, IntKind.bits, IntKind.signed]; omega
        have W1 := Lib.hid w1
        have KB := Lib.hid (And.intro k1 k2)
        clear hbad
        go_enter Try.func134, Try.ntmps134
        go_wp2_with fail
        go_quiet ((go_at_call 77; exact Calls.quiet_of_same ((HS.out _).mono fun _ _ h => ⟨h.1, h.2.symm⟩)))
        go_wp2_with fail
        go_ret
        refine ⟨ret_bool ?_, hbd _ _ _⟩
        rw [hfin.out]
        have := KB.out
        refine decide_eq_decide.2 ?_
        refine ⟨fun h => ⟨trivial, by omega, by omega, by omega, by omega⟩, fun h => by have := h.2.2.2.1; have := h.2.2.2.2; omega⟩
end Go.Proofs.Ytpekofpiodaadaa.Hb
end

section
/- The walks of ref18.parent, ref18.Deep and ref18.Right. -/
namespace Go.Proofs.Ytpekofpiodaadaa.Hb
set_option linter.unusedVariables false
set_option linter.unusedSimpArgs false
open Go.RowKit

theorem par_yes {p : Nat} {n : Nd} {r : List Nd} {k : Nat} (h : 0 ≤ n.f ∧ (n.l = p ∨ n.l + 1 = p)) : parGo p (n :: r) k = k := by rw [parGo, if_pos h]
theorem par_no {p : Nat} {n : Nd} {r : List Nd} {k : Nat} (h : ¬ (0 ≤ n.f ∧ (n.l = p ∨ n.l + 1 = p))) : parGo p (n :: r) k = parGo p r (k + 1) := by rw [parGo, if_neg h]
theorem wrapI_64 (x : Int) : IntKind.i64.wrap x = wrap64 x := by rw [IntKind.wrap_i64]; unfold wrap64; omega
theorem wrap_next {l : Int} (h : in64 l) {p : Nat} (hp : p ≤ 1099511627776) : (wrap64 (l + 1) == (p : Int)) = decide (l + 1 = p) := by
  obtain ⟨h1, h2⟩ := h
  rw [Bool.eq_iff_iff, beq_iff_eq, decide_eq_true_iff, ← wrapI_64, IntKind.wrap_i64]
  omega
set_option maxRecDepth 100000 in
set_option maxHeartbeats 1000000 in
theorem rparent_any (t : List Nd) (A : Option Addr) (cap p : Nat) (w : World) (hr : RN w A t) (hl : t.length ≤ 1099511627776) (hp : p ≤ t.length) :
    Calls Try.prog 135 #[.slice A t.length cap, .int .i64 p] w fun e w' => e = .returned (.int .i64 (parO t p)) ∧ w = w' := by
  obtain ⟨P, hP⟩ : ∃ P, parO t p = P := ⟨_, rfl⟩
  rw [hP]
  have HP : Hid (parGo p ((t.take p).drop 0) 0 = P) := Lib.hid hP
  obtain ⟨n, hn⟩ : ∃ n, t.length = n := ⟨_, rfl⟩
  have HN := Lib.hid hn
  have HR := Lib.hid hr
  rw [hn] at hl hp ⊢
  clear hP hn hr
  go_enter Try.func135, Try.ntmps135
  go_wp2_with fail
  go_loopw [5] (fun iv wr => ∃ k : Nat, k ≤ p ∧ iv = .int .i64 k ∧ Hid (parGo p ((t.take p).drop k) k = P) ∧ Hid (w = wr)) (fun iv _ => p - (intOf iv).toNat)
  case atStart => exact ⟨0, Nat.zero_le _, rfl, HP, Lib.hid rfl⟩
  case round =>
    obtain ⟨k, hk, rfl, HI, HW⟩ := hrel
    by_cases hlt : k < p
    · have hlt' : (k : Int) < p := by omega
      have hkn : k < n := by omega
      have hkn' : (k : Int) < n := by omega
      obtain ⟨ad, rfl, x, hx, hxok, hat⟩ := (HR.out).at (i := k) (by rw [HN.out]; exact hkn)
      rw [HW.out] at hat
      have HDR : Hid ((t.take p).drop k = x :: (t.take p).drop (k + 1)) := Lib.hid (drop_nd (by rw [List.getElem?_take, if_pos hlt]; exact hx))
      obtain ⟨p0, p1, p2, p3, p4, p5⟩ := hat
      obtain ⟨f, b, l, c, s, q⟩ := x
      simp only at p0 p1 p2 p3 p4 p5
      obtain ⟨x0, hx0⟩ : ∃ x0, decide (0 ≤ f) = x0 := ⟨_, rfl⟩
      obtain ⟨x1, hx1⟩ : ∃ x1, (l == (p : Int)) = x1 := ⟨_, rfl⟩
      obtain ⟨x2, hx2⟩ : ∃ x2, (wrap64 (l + 1) == (p : Int)) = x2 := ⟨_, rfl⟩
      have hdec : Hid ((0 ≤ f ∧ (l = p ∨ l + 1 = p)) ↔ (x0 && (x1 || x2)) = true) := Lib.hid (by
        rw [← hx0, ← hx1, ← hx2, wrap_next hxok.2.2.1 (by omega)]
        simp)
      clear hx hxok
      cases x0 <;> cases x1 <;> cases x2
      all_goals
        go_wp2_with fail
        first
        | (go_ret
           refine ⟨ret_i64 ?_, HW.out⟩
           rw [← HI.out, HDR.out, par_yes (hdec.out.2 rfl)])
        | (go_roundw
           case rel => exact ⟨k + 1, hlt, by go_num, Lib.hid (by have := HI.out; rw [HDR.out, par_no (fun h => by have := hdec.out.1 h; simp at this)] at this; exact this), HW⟩
           case measure => simp [intOf]; omega)
    · obtain rfl : k = p := by omega
      have hfin : Hid (P = -1) := Lib.hid (by rw [← HI.out, List.drop_of_length_le (by rw [List.length_take]; omega)]; rfl)
      go_wp2_with fail
      go_ret
      exact ⟨ret_i64 hfin.out.symm, HW.out⟩

theorem refLeft_no {n : Nd} {r : List Nd} {i left : Nat} (h : 0 ≤ n.f) (h2 : n.l ≠ left ∨ left ≤ i) : refLeft (n :: r) i left = none := by rw [refLeft, if_pos h, if_pos h2]
theorem refLeft_two {n : Nd} {r : List Nd} {i left : Nat} (h : 0 ≤ n.f) (h2 : ¬ (n.l ≠ left ∨ left ≤ i)) : refLeft (n :: r) i left = refLeft r (i + 1) (left + 2) := by rw [refLeft, if_pos h, if_neg h2]
theorem refLeft_leaf {n : Nd} {r : List Nd} {i left : Nat} (h : ¬ 0 ≤ n.f) : refLeft (n :: r) i left = refLeft r (i + 1) left := by rw [refLeft, if_neg h]
theorem maxO_snoc (l : List Int) (x : Int) : maxO (l ++ [x]) = if maxO l < x then x else maxO l := by
  unfold maxO
  rw [List.foldl_append]
  show max _ _ = _
  split <;> omega
theorem maxO_le {m : Int} : ∀ (l : List Int) (a : Int), a ≤ m → (∀ x ∈ l, x ≤ m) → l.foldl max a ≤ m
  | [], a, h, _ => h
  | x :: r, a, h, hl => maxO_le r _ (by have := hl x (List.mem_cons_self ..); omega) (fun y hy => hl y (List.mem_cons_of_mem _ hy))
theorem maxO_ge : ∀ (l : List Int) (a : Int), a ≤ l.foldl max a
  | [], a => Int.le_refl _
  | x :: r, a => Int.le_trans (Int.le_max_left a x) (maxO_ge r _)
def deepO (t : List Nd) : Int := if (depGo t.length t 0 [0]).isSome then maxO (depthsO t) else -1
theorem rightT_deep (cols bins kind classes : Int) (t : List Nd) :
    rightT cols bins kind classes t = (decide (mayS cols bins kind classes) && (!decide (t = []) && ((t.all fun n => decide (oneP cols bins kind classes n)) && (decide (0 ≤ deepO t) && decide (deepO t ≤ 32))))) := by
  unfold rightT
  by_cases h1 : mayS cols bins kind classes
  case neg => simp [h1]
  by_cases h2 : t = []
  · subst h2; simp [h1, depthsO]
  by_cases h3 : (t.all fun n => decide (oneP cols bins kind classes n)) = true
  case neg => simp [h1, h3]
  rw [h3]
  have h0 : depthsO t = (depGo t.length t 0 [0]).getD [] := by unfold depthsO; rw [if_neg h2]
  have hg : 0 ≤ maxO (depthsO t) := maxO_ge _ _
  unfold deepO
  cases hd : depGo t.length t 0 [0] with
  | none =>
    rw [hd] at h0
    simp [h0]
  | some ds =>
    rw [hd, Option.getD_some] at h0
    have hl := (dep_front _ _ _ _ hd).2
    have hne : ds ≠ [] := fun e => h2 (List.length_eq_zero_iff.1 (by rw [← hl, e]; rfl))
    rw [h0] at hg ⊢
    simp [h1, h2, hne, hg]
set_option maxRecDepth 100000 in
set_option maxHeartbeats 4000000 in
theorem rdeep_any (t : List Nd) (A : Option Addr) (cap : Nat) (w : World) (hr : RN w A t) (hl : t.length ≤ 1099511627776) (hf : ∀ n ∈ t, -1 ≤ n.f) :
    Calls Try.prog 79 #[.slice A t.length cap] w fun e w' => e = .returned (.int .i64 (deepO t)) ∧ Below w.heap.size w w' := by
  obtain ⟨n, hn⟩ : ∃ n, t.length = n := ⟨_, rfl⟩
  obtain ⟨D, hD⟩ : ∃ D, deepO t = D := ⟨_, rfl⟩
  rw [hD]
  have hiff := dep_ref (L := n) t 0 [0] hf (by rw [hn]; omega)
  simp only [List.length_cons, List.length_nil, Nat.zero_add] at hiff
  have hbad : Hid (refLeft t 0 1 ≠ some n → D = -1) := Lib.hid (fun h => by
    rw [← hD]; unfold deepO
    rw [hn, if_neg (fun h2 => h (hiff.1 h2))])
  have HGOOD : Hid (refLeft t 0 1 = some n → ∃ ds : List Int, ds.length = n ∧ (∀ k : Nat, k < n → 0 ≤ ds.getD k 0 ∧ ds.getD k 0 ≤ (n : Int)) ∧ ds.getD 0 0 = 0 ∧ (∀ p, 0 < p → p < n → ∃ k : Nat, parO t p = k ∧ k < p ∧ ds.getD p 0 = ds.getD k 0 + 1) ∧ D = maxO ds) := Lib.hid (fun h => by
    have h2 := hiff.2 h
    obtain ⟨ds, hds⟩ := Option.isSome_iff_exists.1 h2
    have h3 := dep_of hf (by rw [hn]; exact hds)
    obtain ⟨e1, e2, e3⟩ := h3
    rw [hn] at e1 e3
    have hne : t ≠ [] := fun e => by subst e; simp at hn; subst hn; simp [depGo] at hds
    have hdo : depthsO t = ds := by unfold depthsO; rw [if_neg hne, hn, hds]; rfl
    refine ⟨ds, e1, fun k hk => ?_, e2, e3, ?_⟩
    · have := depths_low t (ds.getD k 0) (by rw [hdo, List.getD_eq_getElem?_getD, List.getElem?_eq_getElem (by omega)]; exact List.getElem_mem _)
      rw [hdo, e1] at this
      exact this
    · rw [← hD]; unfold deepO
      rw [hn, hds, hdo]; rfl)
  have KP := Lib.hid (fun (p : Nat) w hr (hp : p ≤ n) => rparent_any t A cap p w hr hl (by rw [hn]; exact hp))
  have HF : Hid (∀ (k : Nat) (x : Nd), t[k]? = some x → -1 ≤ x.f) := Lib.hid (fun k x h => hf x (List.mem_of_getElem? h))
  have HN := Lib.hid hn
  have HR := Lib.hid hr
  rw [hn] at hl KP ⊢
  obtain ⟨i0, hi0, hz0, hz1, hz2⟩ := info_parts info_int
  clear hn hr hiff hf hD
  go_enter Try.func79, Try.ntmps79
  go_wp2_with fail
  go_loopw [3, 4] (fun lv iv wr => ∃ (k m : Nat), k ≤ n ∧ iv = .int .i64 k ∧ lv = .int .i64 m ∧ m ≤ 1 + 2 * k ∧ Hid (refLeft (t.drop k) k m = refLeft t 0 1) ∧ Hid (w = wr)) (fun _ iv _ => n - (intOf iv).toNat)
  case atStart => exact ⟨0, 1, Nat.zero_le _, rfl, rfl, by omega, Lib.hid rfl, Lib.hid rfl⟩
  case round =>
    obtain ⟨k, m, hk, rfl, rfl, hm, HI, HW⟩ := hrel
    by_cases hlt : k < n
    · have hlt' : (k : Int) < n := by omega
      obtain ⟨ad, rfl, x, hx, hxok, hat⟩ := (HR.out).at (i := k) (by rw [HN.out]; exact hlt)
      rw [HW.out] at hat
      have HDR := Lib.hid (drop_nd hx)
      obtain ⟨p0, p1, p2, p3, p4, p5⟩ := hat
      obtain ⟨f, b, l, c, s, q⟩ := x
      simp only at p0 p1 p2 p3 p4 p5
      clear hx hxok
      by_cases hff : 0 ≤ f
      · have d0 : decide (0 ≤ f) = true := decide_eq_true hff
        have HFF := Lib.hid hff
        clear hff
        by_cases hno : l ≠ m ∨ m ≤ k
        · have hfin : Hid (D = -1) := Lib.hid (hbad.out (by rw [← HI.out, HDR.out, refLeft_no HFF.out hno]; simp))
          by_cases h1 : l = m
          · have e1 : (l != (m : Int)) = false := by simpa using h1
            have e2 : decide ((m : Int) ≤ k) = true := decide_eq_true (by omega)
            have e3 : decide (m ≤ k) = true := decide_eq_true (by omega)
            clear h1 hno
            go_wp2_with fail
            go_ret
            exact ⟨ret_i64 hfin.out.symm, by rw [← HW.out]; exact Below.refl _ _⟩
          · have e1 : (l != (m : Int)) = true := by simpa using h1
            clear h1 hno
            go_wp2_with fail
            go_ret
            exact ⟨ret_i64 hfin.out.symm, by rw [← HW.out]; exact Below.refl _ _⟩
        · have h1 : l = m := by omega
          have e1 : (l != (m : Int)) = false := by simpa using h1
          have e2 : decide ((m : Int) ≤ k) = false := decide_eq_false (by omega)
          have e3 : decide (m ≤ k) = false := decide_eq_false (by omega)
          have HI2 : Hid (refLeft (t.drop (k + 1)) (k + 1) (m + 2) = refLeft t 0 1) := Lib.hid (by have := HI.out; rw [HDR.out, refLeft_two HFF.out hno] at this; exact this)
          clear h1 hno
          go_wp2_with fail
          go_roundw
          case rel => exact ⟨k + 1, m + 2, hlt, by go_num, by go_num, by omega, HI2, HW⟩
          case measure => simp [intOf]; omega
      · have d0 : decide (0 ≤ f) = false := decide_eq_false hff
        have HI2 : Hid (refLeft (t.drop (k + 1)) (k + 1) m = refLeft t 0 1) := Lib.hid (by have := HI.out; rw [HDR.out, refLeft_leaf hff] at this; exact this)
        clear hff
        go_wp2_with fail
        go_roundw
        case rel => exact ⟨k + 1, m, hlt, by go_num, rfl, by omega, HI2, HW⟩
        case measure => simp [intOf]; omega
    · obtain rfl : k = n := by omega
      have hend : Hid (refLeft t 0 1 = some m) := Lib.hid (by rw [← HI.out, List.drop_of_length_le (by rw [HN.out]; exact Nat.le_refl _)]; rfl)
      by_cases hmk : m = k
      case neg =>
        have hfin : Hid (D = -1) := Lib.hid (hbad.out (by rw [hend.out]; simpa using hmk))
        have e1 : ((m : Int) != k) = true := bne_iff_ne.2 (by omega)
        have e2 : (m != k) = true := bne_iff_ne.2 hmk
        clear hmk
        go_wp2_with fail
        go_ret
        exact ⟨ret_i64 hfin.out.symm, by rw [← HW.out]; exact Below.refl _ _⟩
      obtain ⟨ds, hlen, hlow, h00, hpar, hmax⟩ := HGOOD.out (by rw [hend.out, hmk])
      have HL := Lib.hid hlen
      have HLOW := Lib.hid hlow
      have H00 := Lib.hid h00
      have HPAR := Lib.hid hpar
      have HMAX := Lib.hid hmax
      have e1 : ((m : Int) != k) = false := by rw [hmk]; simp
      have e2 : (m != k) = false := by simpa using hmk
      obtain ⟨n, hkn⟩ : ∃ n, n = k := ⟨_, rfl⟩
      clear hlen hlow h00 hpar hmax hmk HI hk hlt
      subst hkn
      obtain ⟨wo, hwo⟩ : ∃ x, x = wr := ⟨_, rfl⟩
      subst hwo
      have HW0 := HW.out
      subst HW0
      go_wp2_with fail
      go_loopw [5, 6, 7] (fun o mv jv wr => ∃ (k : Nat) (a : Option Addr) (c : Nat) (M : Int), k ≤ n ∧ jv = .int .i64 k ∧ o = .slice a k c ∧ mv = .int .i64 M ∧ Hid (maxO (ds.take k) = M) ∧ Hid (wr.ownsRow w.heap.size 3 1 (.slice a k c) k (ints (ds.take k))) ∧ Hid (Below w.heap.size w wr)) (fun _ _ jv _ => n - (intOf jv).toNat)
      case atStart =>
        refine ⟨0, _, _, 0, Nat.zero_le _, rfl, rfl, rfl, Lib.hid rfl, Lib.hid ?_, Lib.hid ((Below.refl _ _).alloc (Nat.le_refl _) _)⟩
        exact World.ownsRow_made w #[] 0 (Nat.le_refl _) (Nat.zero_le _) rfl
      case round =>
        obtain ⟨k, a, c, M, hk, rfl, rfl, rfl, HM, HO, HBe⟩ := hrel
        by_cases hlt : k < n
        · have hlt' : (k : Int) < n := by omega
          obtain ⟨d, hd⟩ : ∃ d, ds.getD k 0 = d := ⟨_, rfl⟩
          have hdb := HLOW.out k hlt
          rw [hd] at hdb
          have HX := Lib.hid hd
          have HDB := Lib.hid hdb
          clear hd hdb
          by_cases hk0 : k = 0
          · have q1 : decide ((0 : Int) < k) = false := decide_eq_false (by omega)
            have q2 : decide (0 < k) = false := decide_eq_false (by omega)
            have hd0 : Hid (d = 0) := Lib.hid (by rw [← HX.out, hk0]; exact H00.out)
            have hm0 : Hid (M = 0) := Lib.hid (by rw [← HM.out, hk0]; rfl)
            have HX : Hid (ds.getD k 0 = 0) := Lib.hid (by rw [HX.out, hd0.out])
            have q3 : decide (M < 0) = false := decide_eq_false (by rw [hm0.out]; omega)
            have MC : Hid (¬ M < 0) := Lib.hid (by rw [hm0.out]; omega)
            have HO1 := HO
            have HBe1 := HBe
            have hl1 : w.heap.size ≤ wr.heap.size := HBe1.out.size
            clear hk0
            obtain ⟨wA, hwA⟩ : ∃ x, x = wr := ⟨_, rfl⟩
            subst hwA
            go_wp2_with (at_builtin; refine wpList_append_lies _ rfl _ _ 24 rfl w.heap.size 3 i0 (.int .i64 0) 1 8 Try.underlying24 hi0 hz0 hz1 hz2 rfl (by decide) _ _ _ rfl (HO1.out.alloc _) ⟨wA.heap.size, 0, none⟩ 1 1 [.int .i64 0] rfl rfl (cell_one_new _ _ _) (by simp [Value.oneCell']) (by decide) (by unfold maxLen; omega) (by omega) (by simp; omega) _ rfl ?_; intro g2 c2 w2 hown2 hg2 hat2 hlt2)
            go_roundw
            case rel =>
              refine ⟨k + 1, _, c2, M, hlt, by go_num, rfl, rfl, Lib.hid ?_, Lib.hid ?_, Lib.hid ?_⟩
              · have e := take_snocI (l := ds) (k := k) (by rw [HL.out]; exact hlt)
                rw [HX.out] at e
                rw [e, maxO_snoc, HM.out, if_neg (by have := MC.out; omega)]
              · rw [take_snocI (by rw [HL.out]; exact hlt), HX.out, ints_snoc]; exact hown2
              · exact (HBe1.out.alloc HBe1.out.size _).grown hg2 (by have := HBe1.out.size; simp; omega) (fun q e => by have := (World.ownsRow.lt HO1.out q e).1; omega)
            case measure => simp [intOf]; omega
          · have q1 : decide ((0 : Int) < k) = true := decide_eq_true (by omega)
            have q2 : decide (0 < k) = true := decide_eq_true (by omega)
            obtain ⟨p, hp1, hp2, hp3⟩ := HPAR.out k (by omega) hlt
            have KC := Lib.hid (KP.out k wr (HR.out.below HBe.out) (by omega))
            rw [hp1] at KC
            obtain ⟨g, c', hv, h1, h2, h3, h4⟩ := own_open HO.out (by omega)
            cases hv
            have hy := HLOW.out p (by omega)
            obtain ⟨y, hyy⟩ : ∃ y, ds.getD p 0 = y := ⟨_, rfl⟩
            rw [hyy] at hy hp3
            have z0 : wr.cell? ⟨g, p, none⟩ = some (.int .i64 y) := h4 p _ (by rw [ints_get (by rw [List.length_take, HL.out]; omega), ← hyy, List.getD_eq_getElem?_getD, List.getD_eq_getElem?_getD, List.getElem?_take, if_pos hp2])
            have HD1 : Hid (y + 1 = d) := Lib.hid (by rw [← HX.out]; exact hp3.symm)
            have hw1 : IntKind.i64.wrap (y + 1) = d := by rw [IntKind.wrap_i64, HD1.out]; have := HDB.out; omega
            have hpk : p < k := hp2
            have hpk' : (p : Int) < k := by omega
            have hp0 : decide ((p : Int) < 0) = false := decide_eq_false (by omega)
            clear hp1 hp2 hp3 hyy hy h1 h2 h3 h4 hk0
            go_wp2_with fail
            refine KC.out.mono ?_
            rintro e w1 ⟨rfl, rfl⟩
            have HO1 := HO
            have HBe1 := HBe
            have hl1 : w.heap.size ≤ wr.heap.size := HBe1.out.size
            obtain ⟨wA, hwA⟩ : ∃ x, x = wr := ⟨_, rfl⟩
            subst hwA
            by_cases hMd : M < d
            · have q3 : decide (M < d) = true := decide_eq_true hMd
              have MC := Lib.hid hMd
              clear hMd
              go_wp2_with (at_builtin; refine wpList_append_lies _ rfl _ _ 24 rfl w.heap.size 3 i0 (.int .i64 0) 1 8 Try.underlying24 hi0 hz0 hz1 hz2 rfl (by decide) _ _ _ rfl (HO1.out.alloc _) ⟨wA.heap.size, 0, none⟩ 1 1 [.int .i64 d] rfl rfl (cell_one_new _ _ _) (by simp [Value.oneCell']) (by decide) (by unfold maxLen; omega) (by omega) (by simp; omega) _ rfl ?_; intro g2 c2 w2 hown2 hg2 hat2 hlt2)
              go_roundw
              case rel =>
                refine ⟨k + 1, _, c2, d, hlt, by go_num, rfl, rfl, Lib.hid ?_, Lib.hid ?_, Lib.hid ?_⟩
                · have e := take_snocI (l := ds) (k := k) (by rw [HL.out]; exact hlt)
                  rw [HX.out] at e
                  rw [e, maxO_snoc, HM.out, if_pos MC.out]
                · rw [take_snocI (by rw [HL.out]; exact hlt), HX.out, ints_snoc]; exact hown2
                · exact (HBe1.out.alloc HBe1.out.size _).grown hg2 (by have := HBe1.out.size; simp; omega) (fun q e => by have := (World.ownsRow.lt HO1.out q e).1; omega)
              case measure => simp [intOf]; omega
            · have q3 : decide (M < d) = false := decide_eq_false hMd
              have MC := Lib.hid hMd
              clear hMd
              go_wp2_with (at_builtin; refine wpList_append_lies _ rfl _ _ 24 rfl w.heap.size 3 i0 (.int .i64 0) 1 8 Try.underlying24 hi0 hz0 hz1 hz2 rfl (by decide) _ _ _ rfl (HO1.out.alloc _) ⟨wA.heap.size, 0, none⟩ 1 1 [.int .i64 d] rfl rfl (cell_one_new _ _ _) (by simp [Value.oneCell']) (by decide) (by unfold maxLen; omega) (by omega) (by simp; omega) _ rfl ?_; intro g2 c2 w2 hown2 hg2 hat2 hlt2)
              go_roundw
              case rel =>
                refine ⟨k + 1, _, c2, M, hlt, by go_num, rfl, rfl, Lib.hid ?_, Lib.hid ?_, Lib.hid ?_⟩
                · have e := take_snocI (l := ds) (k := k) (by rw [HL.out]; exact hlt)
                  rw [HX.out] at e
                  rw [e, maxO_snoc, HM.out, if_neg (by have := MC.out; omega)]
                · rw [take_snocI (by rw [HL.out]; exact hlt), HX.out, ints_snoc]; exact hown2
                · exact (HBe1.out.alloc HBe1.out.size _).grown hg2 (by have := HBe1.out.size; simp; omega) (fun q e => by have := (World.ownsRow.lt HO1.out q e).1; omega)
              case measure => simp [intOf]; omega
        · obtain rfl : n = k := by omega
          have hfin : Hid (D = M) := Lib.hid (by rw [HMAX.out, ← HM.out, List.take_of_length_le (by rw [HL.out]; exact Nat.le_refl _)])
          go_wp2_with fail
          go_ret
          exact ⟨ret_i64 hfin.out.symm, HBe.out⟩
set_option maxRecDepth 100000 in
set_option maxHeartbeats 1000000 in
theorem rtright_any (cols bins kind classes : Int) (t : List Nd) (A : Option Addr) (cap : Nat) (w : World) (hr : RN w A t) (hl : t.length ≤ 1099511627776) :
    Calls Try.prog 78 #[.slice A t.length cap, .int .i64 cols, .int .i64 bins, .int .i64 kind, .int .i64 classes] w fun e w' => e = .returned (.bool (rightT cols bins kind classes t)) ∧ Below w.heap.size w w' := by
  rw [rightT_deep]
  obtain ⟨n, hn⟩ : ∃ n, t.length = n := ⟨_, rfl⟩
  obtain ⟨R0, hR0⟩ : ∃ R0, decide (mayS cols bins kind classes) = R0 := ⟨_, rfl⟩
  have KM := Lib.hid (fun w => rmayT_any cols bins kind classes w)
  have KO := Lib.hid (fun x hx w => rone_any cols bins kind classes x hx w)
  have KD := Lib.hid (fun w hr hf => rdeep_any t A cap w hr hl hf)
  have HF : Hid (∀ (x : Nd), oneP cols bins kind classes x → -1 ≤ x.f) := Lib.hid (fun x h => oneP_f h)
  have hnil : (decide (t = [])) = decide (n = 0) := by rw [← hn]; exact decide_eq_decide.2 List.length_eq_zero_iff.symm
  rw [hn] at hl KD
  rw [hnil, hR0, hn]
  rw [hR0] at KM
  have HN := Lib.hid hn
  have HR := Lib.hid hr
  clear hn hr hnil hR0
  cases R0 with
  | false =>
    go_enter Try.func78, Try.ntmps78
    go_wp2_with fail
    refine (KM.out _).mono ?_
    rintro e w1 ⟨rfl, rfl⟩
    go_wp2_with fail
    go_ret
    exact ⟨ret_bool (by rw [Bool.false_and]), Below.refl _ _⟩
  | true =>
    by_cases h0 : n = 0
    · subst h0
      go_enter Try.func78, Try.ntmps78
      go_wp2_with fail
      refine (KM.out _).mono ?_
      rintro e w1 ⟨rfl, rfl⟩
      go_wp2_with fail
      go_ret
      exact ⟨ret_bool (by simp), Below.refl _ _⟩
    have n0 : (n == 0) = false := beq_eq_false_iff_ne.2 h0
    have n1 : ((n : Int) == 0) = false := beq_eq_false_iff_ne.2 (by omega)
    obtain ⟨R1, hR1⟩ : ∃ R1, (true && (!decide (n = 0) && ((t.all fun n => decide (oneP cols bins kind classes n)) && (decide (0 ≤ deepO t) && decide (deepO t ≤ 32))))) = R1 := ⟨_, rfl⟩
    rw [hR1]
    have HR1 : Hid (R1 = ((t.all fun n => decide (oneP cols bins kind classes n)) && (decide (0 ≤ deepO t) && decide (deepO t ≤ 32)))) := Lib.hid (by rw [← hR1, decide_eq_false h0]; rfl)
    have HN0 := Lib.hid h0
    clear hR1 h0
    go_enter Try.func78, Try.ntmps78
    go_wp2_with fail
    refine (KM.out _).mono ?_
    rintro e w1 ⟨rfl, rfl⟩
    go_wp2_with fail
    go_loopw [11] (fun iv wr => ∃ (k : Nat), k ≤ n ∧ iv = .int .i64 k ∧ Hid (∀ j x, j < k → t[j]? = some x → oneP cols bins kind classes x) ∧ Hid (Below w.heap.size w wr)) (fun iv _ => n - (intOf iv).toNat)
    case atStart => exact ⟨0, Nat.zero_le _, rfl, Lib.hid (fun j x h => by omega), Lib.hid (Below.refl _ _)⟩
    case round =>
      obtain ⟨k, hk, rfl, HI, HB⟩ := hrel
      by_cases hlt : k < n
      · have hlt' : (k : Int) < n := by omega
        obtain ⟨ad, rfl, x, hx, hxok, hat⟩ := (HR.out.below HB.out).at (i := k) (by rw [HN.out]; exact hlt)
        have HX := Lib.hid hx
        obtain ⟨p0, p1, p2, p3, p4, p5⟩ := hat
        have KC := Lib.hid (KO.out x hxok wr)
        obtain ⟨R2, hR2⟩ : ∃ R2, decide (oneP cols bins kind classes x) = R2 := ⟨_, rfl⟩
        rw [hR2] at KC
        have HR2 := Lib.hid hR2
        obtain ⟨f, b, l, c, s, q⟩ := x
        simp only [ndV] at p0 p1 p2 p3 p4 p5 KC
        clear hx hxok hR2
        go_wp2_with fail
        refine KC.out.mono ?_
        rintro e w1 ⟨rfl, hb⟩
        have HB1 := Lib.hid (HB.out.trans (hb.mono HB.out.size))
        clear hb p0 p1 p2 p3 p4 p5
        cases R2 with
        | false =>
          go_wp2_with fail
          go_ret
          refine ⟨ret_bool ?_, HB1.out⟩
          rw [HR1.out]
          have : (t.all fun n => decide (oneP cols bins kind classes n)) = false := by
            rw [Bool.eq_false_iff]
            intro h
            rw [List.all_eq_true] at h
            have := h _ (List.mem_of_getElem? HX.out)
            rw [HR2.out] at this
            cases this
          rw [this, Bool.false_and]
        | true =>
          go_wp2_with fail
          go_roundw
          case rel =>
            refine ⟨k + 1, hlt, by go_num, Lib.hid (fun j x hj hx => ?_), HB1⟩
            by_cases hjk : j = k
            · subst hjk
              rw [HX.out] at hx
              cases hx
              exact decide_eq_true_iff.1 HR2.out
            · exact HI.out j x (by omega) hx
          case measure => simp [intOf]; omega
      · obtain rfl : k = n := by omega
        have hall : Hid (∀ x ∈ t, oneP cols bins kind classes x) := Lib.hid (fun x hx => by
          obtain ⟨j, hj⟩ := List.getElem?_of_mem hx
          exact HI.out j x (by have := (List.getElem?_eq_some_iff.1 hj).1; have := HN.out; omega) hj)
        have KC := Lib.hid (KD.out wr (HR.out.below HB.out) (fun x hx => HF.out x (hall.out x hx)))
        obtain ⟨D, hD⟩ : ∃ D, deepO t = D := ⟨_, rfl⟩
        rw [hD] at KC
        have hfin : Hid (R1 = (decide (0 ≤ D) && decide (D ≤ 32))) := Lib.hid (by
          rw [HR1.out, hD, List.all_eq_true.2 (fun x hx => decide_eq_true (hall.out x hx)), Bool.true_and])
        obtain ⟨d1, hd1⟩ : ∃ d1, decide (0 ≤ D) = d1 := ⟨_, rfl⟩
        obtain ⟨d2, hd2⟩ : ∃ d2, decide (D ≤ 32) = d2 := ⟨_, rfl⟩
        rw [hd1, hd2] at hfin
        clear hD
        cases d1 <;> cases d2
        all_goals
          go_wp2_with fail
          refine KC.out.mono ?_
          rintro e w1 ⟨rfl, hb⟩
          go_wp2_with fail
          go_ret
          exact ⟨ret_bool hfin.out.symm, HB.out.trans (hb.mono HB.out.size)⟩
end Go.Proofs.Ytpekofpiodaadaa.Hb
end

section
/- The walk of ref25.May. -/
namespace Go.Proofs.Ytpekofpiodaadaa.Hb
set_option linter.unusedVariables false
set_option linter.unusedSimpArgs false
open Go.RowKit

theorem rtgt_tgt {k cl b t d l p x : Int} (h : checkO k cl b t d l p = 0) : rtgtO k cl x = 0 ↔ tgtB k cl x = true := by
  obtain ⟨_, _, h1⟩ := chk_shape h
  unfold rtgtO tgtB
  rcases h1 with ⟨rfl, h2, h3⟩ | ⟨rfl, rfl⟩
  · rw [if_pos rfl, decide_eq_true_iff]
    by_cases c : x < 0 ∨ 255 < x ∨ cl ≤ x
    · rw [if_pos ⟨rfl, c⟩]; omega
    · rw [if_neg (by omega), if_neg (by omega)]; omega
  · rw [if_neg (show ¬ (1 : Int) = 0 by omega), decide_eq_true_iff, if_neg (by omega)]
    by_cases c : x < -1048576 ∨ 1048576 < x
    · rw [if_pos ⟨rfl, c⟩]; omega
    · rw [if_neg (by omega)]; omega
/-- What lies in May's boxes. -/
structure RMayB (cfg mat grv : Array Value) (B M C : Nat) (w wc : World) : Prop where
  kB : Blk wc B grv 79
  kM : Blk wc M mat 75
  kC : Blk wc C cfg 45
  be : Below w.heap.size w wc
theorem RMayB.below {cfg mat grv : Array Value} {B M C : Nat} {w wc w' : World} (h : RMayB cfg mat grv B M C w wc) (hb : Below wc.heap.size wc w') : RMayB cfg mat grv B M C w w' := ⟨h.kB.below hb, h.kM.below hb, h.kC.below hb, h.be.trans (hb.mono h.be.size)⟩
theorem rmayB_1 {cfg mat grv : Array Value} {B : Nat} {w W0 : World} (h : Blk W0 B grv 79) (hb : Below w.heap.size w W0) : RMayB cfg mat grv B W0.heap.size (W0.heap.size + 1) w ((W0.alloc (.cells mat 75)).alloc (.cells cfg 45)).drew := by
  have a1 : Below W0.heap.size W0 (W0.alloc (.cells mat 75)) := (Below.refl _ _).alloc (Nat.le_refl _) _
  have a2 : Below W0.heap.size W0 ((W0.alloc (.cells mat 75)).alloc (.cells cfg 45)) := a1.alloc (by simp) _
  have k2 := Blk.new (W0.alloc (.cells mat 75)) cfg 45
  rw [World.size_alloc] at k2
  exact ⟨h.below a2.drew, (Blk.new W0 mat _).below (((Below.refl _ _).alloc (Nat.le_refl _) _).drew), k2, (hb.trans (a2.mono hb.size)).drew⟩
theorem rmayB_2 {cfg mat grv : Array Value} {B : Nat} {w W0 : World} (h : Blk W0 B grv 79) (hb : Below w.heap.size w W0) : RMayB cfg mat grv B (W0.heap.size + 1) W0.heap.size w ((W0.alloc (.cells cfg 45)).alloc (.cells mat 75)).drew := by
  have a1 : Below W0.heap.size W0 (W0.alloc (.cells cfg 45)) := (Below.refl _ _).alloc (Nat.le_refl _) _
  have a2 : Below W0.heap.size W0 ((W0.alloc (.cells cfg 45)).alloc (.cells mat 75)) := a1.alloc (by simp) _
  have k2 := Blk.new (W0.alloc (.cells cfg 45)) mat 75
  rw [World.size_alloc] at k2
  exact ⟨h.below a2.drew, k2, (Blk.new W0 cfg _).below (((Below.refl _ _).alloc (Nat.le_refl _) _).drew), (hb.trans (a2.mono hb.size)).drew⟩
set_option maxRecDepth 100000 in
set_option maxHeartbeats 8000000 in
theorem rmay_any (g : Grv) (Ac At Aw Ag : Option Addr) (cc ct cw cg : Nat) (w : World) (hok : OkG g) (hr : RG w g Ac At Aw Ag) :
    Calls Try.prog 43 #[.agg (grvA g Ac At Aw Ag cc ct cw cg)] w fun e w' => e = .returned (.bool (mayG g)) ∧ Below w.heap.size w w' := by
  obtain ⟨T1, hT1⟩ : ∃ z, treesB g g.trees g.weights = z := ⟨_, rfl⟩
  obtain ⟨T2, hT2⟩ : ∃ z, g.tgt.all (tgtB g.k g.cl) = z := ⟨_, rfl⟩
  obtain ⟨ck, hck⟩ : ∃ z, checkO g.k g.cl g.b g.t g.d g.l g.p = z := ⟨_, rfl⟩
  obtain ⟨mt, hmt⟩ : ∃ z, matB g.rows g.cols g.cells.length = z := ⟨_, rfl⟩
  have HM : Hid (mayG g = (((ck == 0) && (mt && decide (1 ≤ g.cols ∧ g.cols ≤ 1024 ∧ g.weights.length = g.trees.length ∧ (g.tgt.length : Int) = g.rows))) && (T1 && T2))) := Lib.hid (by unfold mayG headB; rw [hT1, hT2, hck, hmt])
  have KC := Lib.hid (fun w => rcheck_any g.k g.cl g.b g.t g.d g.l g.p w)
  have KM := Lib.hid (fun w => rmright_any g.rows g.cols g.cells.length Ac cc hok.lc w)
  rw [hck] at KC
  rw [hmt] at KM
  obtain ⟨R, hR⟩ : ∃ R, mayG g = R := ⟨_, rfl⟩
  rw [hR] at HM ⊢
  have HT1 : Hid (treesB g (g.trees.drop 0) (g.weights.drop 0) = T1) := Lib.hid (by rw [List.drop_zero, List.drop_zero]; exact hT1)
  have HT2 : Hid ((g.tgt.drop 0).all (tgtB g.k g.cl) = T2) := Lib.hid (by rw [List.drop_zero]; exact hT2)
  have HOK := Lib.hid hok
  have HRG := Lib.hid hr
  have HG : Hid (∃ g', g' = g) := Lib.hid ⟨g, rfl⟩
  obtain ⟨nc, hnc⟩ : ∃ n, g.cells.length = n := ⟨_, rfl⟩
  obtain ⟨nt, hnt⟩ : ∃ n, g.trees.length = n := ⟨_, rfl⟩
  obtain ⟨nw, hnw⟩ : ∃ n, g.weights.length = n := ⟨_, rfl⟩
  obtain ⟨ng, hng⟩ : ∃ n, g.tgt.length = n := ⟨_, rfl⟩
  obtain ⟨k, hk⟩ : ∃ x, g.k = x := ⟨_, rfl⟩
  obtain ⟨cl, hcl⟩ : ∃ x, g.cl = x := ⟨_, rfl⟩
  obtain ⟨b, hb⟩ : ∃ x, g.b = x := ⟨_, rfl⟩
  obtain ⟨t, ht⟩ : ∃ x, g.t = x := ⟨_, rfl⟩
  obtain ⟨d, hd⟩ : ∃ x, g.d = x := ⟨_, rfl⟩
  obtain ⟨l, hl⟩ : ∃ x, g.l = x := ⟨_, rfl⟩
  obtain ⟨p, hp⟩ : ∃ x, g.p = x := ⟨_, rfl⟩
  obtain ⟨rows, hrows⟩ : ∃ x, g.rows = x := ⟨_, rfl⟩
  obtain ⟨cols, hcols⟩ : ∃ x, g.cols = x := ⟨_, rfl⟩
  have hgA : grvA g Ac At Aw Ag cc ct cw cg = #[.int .i64 k, .int .i64 cl, .int .i64 b, .int .i64 t, .int .i64 d, .int .i64 l, .int .i64 p, .int .i64 rows, .int .i64 cols, .slice Ac nc cc, .slice At nt ct, .slice Aw nw cw, .slice Ag ng cg] := by
    unfold grvA; rw [hnc, hnt, hnw, hng, hk, hcl, hb, ht, hd, hl, hp, hrows, hcols]
  rw [hgA]
  rw [hnt, hnw, hng, hcols, hrows] at HM
  rw [hk, hcl] at HT2
  rw [hk, hcl, hb, ht, hd, hl, hp] at KC
  rw [hrows, hcols, hnc] at KM
  have HCK0 : Hid (checkO k cl b t d l p = ck) := Lib.hid (by rw [← hck, hk, hcl, hb, ht, hd, hl, hp])
  have HN := Lib.hid (show g.trees.length = nt ∧ g.weights.length = nw ∧ g.tgt.length = ng ∧ g.k = k ∧ g.cl = cl ∧ g.b = b ∧ g.rows = rows ∧ g.cols = cols from ⟨hnt, hnw, hng, hk, hcl, hb, hrows, hcols⟩)
  have hlw : nw ≤ 9223372036854775807 := by rw [← hnw]; exact hok.lw
  have hlt : nt ≤ 1048576 := by rw [← hnt]; exact hok.lt
  have hlg : ng ≤ 9223372036854775807 := by rw [← hng]; exact hok.lg
  clear hT1 hT2 hck hmt hR hok hr hnc hnt hnw hng hk hcl hb ht hd hl hp hrows hcols hgA
  go_enter Try.func43, Try.ntmps43
  go_upto_region 1 with (fail)
  have kB := Blk.new w #[.int .i64 k, .int .i64 cl, .int .i64 b, .int .i64 t, .int .i64 d, .int .i64 l, .int .i64 p, .int .i64 rows, .int .i64 cols, .slice Ac nc cc, .slice At nt ct, .slice Aw nw cw, .slice Ag ng cg] 79
  have be0 := (Below.refl w.heap.size w).alloc (Nat.le_refl _) (.cells #[.int .i64 k, .int .i64 cl, .int .i64 b, .int .i64 t, .int .i64 d, .int .i64 l, .int .i64 p, .int .i64 rows, .int .i64 cols, .slice Ac nc cc, .slice At nt ct, .slice Aw nw cw, .slice Ag ng cg] 79)
  obtain ⟨W0, hW0⟩ : ∃ W, w.alloc (.cells #[.int .i64 k, .int .i64 cl, .int .i64 b, .int .i64 t, .int .i64 d, .int .i64 l, .int .i64 p, .int .i64 rows, .int .i64 cols, .slice Ac nc cc, .slice At nt ct, .slice Aw nw cw, .slice Ag ng cg] 79) = W := ⟨_, rfl⟩
  have hs0 : W0.heap.size = w.heap.size + 1 := by rw [← hW0]; simp
  rw [hW0] at kB be0 ⊢
  have HKB := Lib.hid kB
  have HBE0 := Lib.hid be0
  have HS0 := Lib.hid hs0
  obtain ⟨q0, q1, q2, q3, q4, q5, q6, q7, q8, q9, q10, q11, q12⟩ := kB.cells13
  have hlB := kB.lt
  clear hW0 kB be0 hs0
  go_cut [3, 4] (fun mv cv wc => ∃ M C : Nat, mv = .pointer (some ⟨M, 0, none⟩) ∧ cv = .pointer (some ⟨C, 0, none⟩) ∧ Hid (RMayB #[.int .i64 k, .int .i64 cl, .int .i64 b, .int .i64 t, .int .i64 d, .int .i64 l, .int .i64 p] #[.int .i64 rows, .int .i64 cols, .slice Ac nc cc] #[.int .i64 k, .int .i64 cl, .int .i64 b, .int .i64 t, .int .i64 d, .int .i64 l, .int .i64 p, .int .i64 rows, .int .i64 cols, .slice Ac nc cc, .slice At nt ct, .slice Aw nw cw, .slice Ag ng cg] w.heap.size M C w wc))
  case first =>
    go_region_held3 (fun W => W.cell? ⟨w.heap.size, 0, none⟩ = some (.int .i64 k) ∧ W.cell? ⟨w.heap.size, 1, none⟩ = some (.int .i64 cl) ∧ W.cell? ⟨w.heap.size, 2, none⟩ = some (.int .i64 b) ∧ W.cell? ⟨w.heap.size, 3, none⟩ = some (.int .i64 t) ∧ W.cell? ⟨w.heap.size, 4, none⟩ = some (.int .i64 d) ∧ W.cell? ⟨w.heap.size, 5, none⟩ = some (.int .i64 l) ∧ W.cell? ⟨w.heap.size, 6, none⟩ = some (.int .i64 p) ∧ W.cell? ⟨w.heap.size, 7, none⟩ = some (.int .i64 rows) ∧ W.cell? ⟨w.heap.size, 8, none⟩ = some (.int .i64 cols) ∧ W.cell? ⟨w.heap.size, 9, none⟩ = some (.slice Ac nc cc)) (go_keep) (fail)
    all_goals
      go_wp2
      go_meet
      case rel => first | exact ⟨_, _, rfl, rfl, Lib.hid (rmayB_1 HKB.out HBE0.out)⟩ | exact ⟨_, _, rfl, rfl, Lib.hid (rmayB_2 HKB.out HBE0.out)⟩
  case rest =>
    obtain ⟨M, C, rfl, rfl, HK⟩ := hcut
    clear q0 q1 q2 q3 q4 q5 q6 q7 q8 q9 q10 q11 q12 hlB HKB HBE0 HS0
    obtain ⟨c0, c1, c2, c3, c4, c5, c6⟩ := HK.out.kC.cells7
    by_cases hck : ck = 0
    · have CKH : Hid (checkO k cl b t d l p = 0) := Lib.hid (HCK0.out.trans hck)
      subst hck
      go_wp2_with fail
      refine (KC.out _).mono ?_
      rintro e w2 ⟨rfl, hb⟩
      have HK2 := Lib.hid (HK.out.below hb)
      clear c0 c1 c2 c3 c4 c5 c6 hb HK
      obtain ⟨m0, m1, m2⟩ := HK2.out.kM.cells3
      cases mt with
      | false =>
        go_wp2_with fail
        refine (KM.out _).mono ?_
        rintro e w3 ⟨rfl, hb⟩
        have HK3 := Lib.hid (HK2.out.below hb)
        clear hb HK2 m0 m1 m2
        go_wp2_with fail
        go_ret
        exact ⟨ret_bool (by rw [HM.out]; simp), HK3.out.be⟩
      | true =>
        go_wp2_with fail
        refine (KM.out _).mono ?_
        rintro e w3 ⟨rfl, hb⟩
        have HK3 := Lib.hid (HK2.out.below hb)
        clear hb HK2 m0 m1 m2
        obtain ⟨m0, m1, m2⟩ := HK3.out.kM.cells3
        obtain ⟨q0, q1, q2, q3, q4, q5, q6, q7, q8, q9, q10, q11, q12⟩ := HK3.out.kB.cells13
        by_cases e1 : cols < 1
        · have d1 : decide (cols < 1) = true := decide_eq_true e1
          go_wp2_with fail
          go_ret
          refine ⟨ret_bool ?_, HK3.out.be⟩
          rw [HM.out, decide_eq_false (show ¬ (1 ≤ cols ∧ cols ≤ 1024 ∧ nw = nt ∧ (ng : Int) = rows) by omega)]; simp
        have d1 : decide (cols < 1) = false := decide_eq_false e1
        by_cases e2 : 1024 < cols
        · have d2 : decide (1024 < cols) = true := decide_eq_true e2
          go_wp2_with fail
          go_ret
          refine ⟨ret_bool ?_, HK3.out.be⟩
          rw [HM.out, decide_eq_false (show ¬ (1 ≤ cols ∧ cols ≤ 1024 ∧ nw = nt ∧ (ng : Int) = rows) by omega)]; simp
        have d2 : decide (1024 < cols) = false := decide_eq_false e2
        by_cases e3 : nw = nt
        · by_cases e4 : (ng : Int) = rows
          · have HD : Hid (R = (T1 && T2)) := Lib.hid (by rw [HM.out, decide_eq_true (show (1 ≤ cols ∧ cols ≤ 1024 ∧ nw = nt ∧ (ng : Int) = rows) by omega)]; simp)
            have d3 : (nt != nw) = false := by simpa using e3.symm
            have d3' : ((nt : Int) != nw) = false := bne_eq_false_iff_eq.2 (by omega)
            have d4 : ((ng : Int) != rows) = false := by simpa using e4
            have E3 := Lib.hid e3
            have E4 := Lib.hid e4
            clear HM e1 e2 e3 e4
            go_wp2_with fail
            have CK : Hid (checkO k cl b t d l p = 0) := CKH
            clear d1 d2 d3 d3' d4 m0 m1 m2 q0 q1 q2 q3 q4 q5 q6 q7 q8 q9 q10 q11 q12
            go_loopw [5] (fun iv wr => ∃ k2 : Nat, k2 ≤ ng ∧ iv = .int .i64 k2 ∧ Hid ((g.tgt.drop k2).all (tgtB k cl) = T2) ∧ Hid (RMayB #[.int .i64 k, .int .i64 cl, .int .i64 b, .int .i64 t, .int .i64 d, .int .i64 l, .int .i64 p] #[.int .i64 rows, .int .i64 cols, .slice Ac nc cc] #[.int .i64 k, .int .i64 cl, .int .i64 b, .int .i64 t, .int .i64 d, .int .i64 l, .int .i64 p, .int .i64 rows, .int .i64 cols, .slice Ac nc cc, .slice At nt ct, .slice Aw nw cw, .slice Ag ng cg] w.heap.size M C w wr)) (fun iv _ => ng - (intOf iv).toNat)
            case atStart => exact ⟨0, Nat.zero_le _, rfl, HT2, HK3⟩
            case round =>
              obtain ⟨k2, hk2, rfl, HTT2, HKr⟩ := hrel
              have HR2 := Lib.hid (HRG.out.below HKr.out.be)
              obtain ⟨c0, c1, c2, c3, c4, c5, c6⟩ := HKr.out.kC.cells7
              obtain ⟨q0, q1, q2, q3, q4, q5, q6, q7, q8, q9, q10, q11, q12⟩ := HKr.out.kB.cells13
              clear q0 q1 q2 q3 q4 q5 q6 q7 q8 q9 q10 q11
              by_cases hlt2 : k2 < ng
              · have hlt2' : (k2 : Int) < ng := by omega
                obtain ⟨adg, rfl, hin, y⟩ := HR2.out.rg.at (i := k2) (by rw [HN.out.2.2.1]; exact hlt2)
                have HTC : Hid ((g.tgt.drop k2).all (tgtB k cl) = (tgtB k cl (g.tgt.getD k2 0) && (g.tgt.drop (k2 + 1)).all (tgtB k cl))) := Lib.hid (by
                  have hk : k2 < g.tgt.length := by rw [HN.out.2.2.1]; exact hlt2
                  rw [List.drop_eq_getElem_cons hk, List.all_cons, List.getD_eq_getElem?_getD, List.getElem?_eq_getElem hk]
                  rfl)
                have KT := Lib.hid (fun w => rtarget_any k cl b t d l p (g.tgt.getD k2 0) hin w)
                obtain ⟨rz, hrz⟩ : ∃ z, rtgtO k cl (g.tgt.getD k2 0) = z := ⟨_, rfl⟩
                have hzz : (rz = 0) = (tgtB k cl (g.tgt.getD k2 0) = true) := by rw [← hrz]; exact propext (rtgt_tgt CK.out)
                rw [hrz] at KT
                obtain ⟨x, hx⟩ : ∃ x, g.tgt.getD k2 0 = x := ⟨_, rfl⟩
                obtain ⟨z, hz⟩ : ∃ z, tgtB k cl (g.tgt.getD k2 0) = z := ⟨_, rfl⟩
                rw [hz] at HTC hzz
                rw [hx] at KT y
                clear hin hx hz hrz
                cases z with
                | true =>
                  have z0 : rz = 0 := by rw [hzz]
                  have dz : (rz != 0) = false := by rw [z0]; rfl
                  clear hzz z0
                  have FS := Lib.hid (fun w' (hb : Below wr.heap.size wr w') => And.intro ((hb.cell (p := ⟨w.heap.size, 12, none⟩) HKr.out.kB.lt).trans q12) (And.intro ((hb.cell (World.block_lt_of_cell? wr _ y)).trans y) (And.intro ((hb.cell (p := ⟨C, 0, none⟩) HKr.out.kC.lt).trans c0) (And.intro ((hb.cell (p := ⟨C, 1, none⟩) HKr.out.kC.lt).trans c1) (And.intro ((hb.cell (p := ⟨C, 2, none⟩) HKr.out.kC.lt).trans c2) (And.intro ((hb.cell (p := ⟨C, 3, none⟩) HKr.out.kC.lt).trans c3) (And.intro ((hb.cell (p := ⟨C, 4, none⟩) HKr.out.kC.lt).trans c4) (And.intro ((hb.cell (p := ⟨C, 5, none⟩) HKr.out.kC.lt).trans c5) ((hb.cell (p := ⟨C, 6, none⟩) HKr.out.kC.lt).trans c6)))))))))
                  go_wp2_with fail
                  go_region_held3 (fun W => W.cell? ⟨w.heap.size, 12, none⟩ = some (.slice (some adg) ng cg) ∧ W.cell? (adg.add k2) = some (.int .i64 x) ∧ W.cell? ⟨C, 0, none⟩ = some (.int .i64 k) ∧ W.cell? ⟨C, 1, none⟩ = some (.int .i64 cl) ∧ W.cell? ⟨C, 2, none⟩ = some (.int .i64 b) ∧ W.cell? ⟨C, 3, none⟩ = some (.int .i64 t) ∧ W.cell? ⟨C, 4, none⟩ = some (.int .i64 d) ∧ W.cell? ⟨C, 5, none⟩ = some (.int .i64 l) ∧ W.cell? ⟨C, 6, none⟩ = some (.int .i64 p)) (go_keep)
                    (first | (go_at_call 95; refine (KT.out _).mono ?_; rintro e w8 ⟨rfl, hb8⟩; obtain ⟨f1, f2, f3, f4, f5, f6, f7, f8, f9⟩ := FS.out w8 (((Below.refl wr.heap.size wr).drew).trans hb8); have HB8 := Lib.hid hb8; clear hb8))
                  all_goals
                    have HK8 := Lib.hid (HKr.out.below (((Below.refl wr.heap.size wr).drew).trans HB8.out))
                    go_wp2_with fail
                    go_roundw
                    case rel => exact ⟨k2 + 1, hlt2, by go_num, Lib.hid (by have := HTT2.out; rwa [HTC.out, Bool.true_and] at this), HK8⟩
                    case measure => simp [intOf]; omega
                | false =>
                  have z0 : ¬ rz = 0 := by rw [hzz]; simp
                  have dz : (rz != 0) = true := bne_iff_ne.2 z0
                  clear hzz z0
                  have FS := Lib.hid (fun w' (hb : Below wr.heap.size wr w') => And.intro ((hb.cell (p := ⟨w.heap.size, 12, none⟩) HKr.out.kB.lt).trans q12) (And.intro ((hb.cell (World.block_lt_of_cell? wr _ y)).trans y) (And.intro ((hb.cell (p := ⟨C, 0, none⟩) HKr.out.kC.lt).trans c0) (And.intro ((hb.cell (p := ⟨C, 1, none⟩) HKr.out.kC.lt).trans c1) (And.intro ((hb.cell (p := ⟨C, 2, none⟩) HKr.out.kC.lt).trans c2) (And.intro ((hb.cell (p := ⟨C, 3, none⟩) HKr.out.kC.lt).trans c3) (And.intro ((hb.cell (p := ⟨C, 4, none⟩) HKr.out.kC.lt).trans c4) (And.intro ((hb.cell (p := ⟨C, 5, none⟩) HKr.out.kC.lt).trans c5) ((hb.cell (p := ⟨C, 6, none⟩) HKr.out.kC.lt).trans c6)))))))))
                  go_wp2_with fail
                  go_region_held3 (fun W => W.cell? ⟨w.heap.size, 12, none⟩ = some (.slice (some adg) ng cg) ∧ W.cell? (adg.add k2) = some (.int .i64 x) ∧ W.cell? ⟨C, 0, none⟩ = some (.int .i64 k) ∧ W.cell? ⟨C, 1, none⟩ = some (.int .i64 cl) ∧ W.cell? ⟨C, 2, none⟩ = some (.int .i64 b) ∧ W.cell? ⟨C, 3, none⟩ = some (.int .i64 t) ∧ W.cell? ⟨C, 4, none⟩ = some (.int .i64 d) ∧ W.cell? ⟨C, 5, none⟩ = some (.int .i64 l) ∧ W.cell? ⟨C, 6, none⟩ = some (.int .i64 p)) (go_keep)
                    (first | (go_at_call 95; refine (KT.out _).mono ?_; rintro e w8 ⟨rfl, hb8⟩; obtain ⟨f1, f2, f3, f4, f5, f6, f7, f8, f9⟩ := FS.out w8 (((Below.refl wr.heap.size wr).drew).trans hb8); have HB8 := Lib.hid hb8; clear hb8))
                  all_goals
                    have HK8 := Lib.hid (HKr.out.below (((Below.refl wr.heap.size wr).drew).trans HB8.out))
                    go_wp2_with fail
                    go_ret
                    exact ⟨ret_bool (by rw [HD.out, ← HTT2.out, HTC.out, Bool.false_and, Bool.and_false]), HK8.out.be⟩
              · obtain rfl : ng = k2 := by omega
                have HT2' : Hid (T2 = true) := Lib.hid (by
                  rw [← HTT2.out, List.drop_of_length_le (by rw [HN.out.2.2.1]; exact Nat.le_refl _)]
                  rfl)
                go_wp2_with fail
                clear c0 c1 c2 c3 c4 c5 c6 q12
                have HK3 := HKr
                clear HKr HR2
                go_loopw [6] (fun iv wr => ∃ k1 : Nat, k1 ≤ nt ∧ iv = .int .i64 k1 ∧ Hid (treesB g (g.trees.drop k1) (g.weights.drop k1) = T1) ∧ Hid (RMayB #[.int .i64 k, .int .i64 cl, .int .i64 b, .int .i64 t, .int .i64 d, .int .i64 l, .int .i64 p] #[.int .i64 rows, .int .i64 cols, .slice Ac nc cc] #[.int .i64 k, .int .i64 cl, .int .i64 b, .int .i64 t, .int .i64 d, .int .i64 l, .int .i64 p, .int .i64 rows, .int .i64 cols, .slice Ac nc cc, .slice At nt ct, .slice Aw nw cw, .slice Ag ng cg] w.heap.size M C w wr)) (fun iv _ => nt - (intOf iv).toNat)
                case atStart => exact ⟨0, Nat.zero_le _, rfl, HT1, HK3⟩
                case round =>
                  obtain ⟨k1, hk1, rfl, HTT, HKr⟩ := hrel
                  have HR2 := Lib.hid (HRG.out.below HKr.out.be)
                  obtain ⟨m0, m1, m2⟩ := HKr.out.kM.cells3
                  obtain ⟨c0, c1, c2, c3, c4, c5, c6⟩ := HKr.out.kC.cells7
                  obtain ⟨q0, q1, q2, q3, q4, q5, q6, q7, q8, q9, q10, q11, q12⟩ := HKr.out.kB.cells13
                  by_cases hlt1 : k1 < nt
                  · have hlt1' : (k1 : Int) < nt := by omega
                    obtain ⟨adt, rfl, tr, Bt, capt, ht1, ht2, ht3, ht4, ht5⟩ := HR2.out.rt.at (i := k1) (by rw [HN.out.1]; exact hlt1)
                    obtain ⟨adw, rfl, wk, Bw, capw, hw1, hw2, hw3, hw4, hw5⟩ := HR2.out.rw.at (i := k1) (by rw [HN.out.2.1, E3.out]; exact hlt1)
                    have hk1w : k1 < nw := by have := E3.out; omega
                    have hk1w' : (k1 : Int) < nw := by omega
                    have HTC := Lib.hid (trees_cons (g := g) ht1 hw1)
                    have htl := HOK.out.tt tr (List.mem_of_getElem? ht1)
                    have KT := Lib.hid (fun w hr => rtright_any cols b k cl tr Bt capt w hr htl)
                    obtain ⟨ntr, hntr⟩ : ∃ n, tr.length = n := ⟨_, rfl⟩
                    obtain ⟨nwk, hnwk⟩ : ∃ n, wk.length = n := ⟨_, rfl⟩
                    obtain ⟨zt, hzt⟩ : ∃ z, rightT cols b k cl tr = z := ⟨_, rfl⟩
                    have hN := HN.out
                    rw [hnwk, hN.2.2.2.1, hN.2.2.2.2.1, hN.2.2.2.2.2.1, hN.2.2.2.2.2.2.1, hN.2.2.2.2.2.2.2, hzt] at HTC
                    rw [hntr, hzt] at KT
                    rw [hntr] at ht2
                    rw [hnwk] at hw2
                    have HRN := Lib.hid ht5
                    clear ht1 ht3 ht4 ht5 hw1 hw3 hw4 hw5 htl hntr hnwk hzt hN
                    by_cases hlen : (nwk : Int) = rows
                    · have d1 : ((nwk : Int) != rows) = false := by simpa using hlen
                      have HTC2 : Hid (T1 = (zt && treesB g (g.trees.drop (k1 + 1)) (g.weights.drop (k1 + 1)))) := Lib.hid (by rw [← HTT.out, HTC.out, decide_eq_true hlen, Bool.true_and])
                      have FS := Lib.hid (fun w' (hb : Below wr.heap.size wr w') => And.intro ((hb.cell (p := ⟨w.heap.size, 11, none⟩) HKr.out.kB.lt).trans q11) (And.intro ((hb.cell (p := ⟨w.heap.size, 10, none⟩) HKr.out.kB.lt).trans q10) (And.intro ((hb.cell (World.block_lt_of_cell? wr _ ht2)).trans ht2) (And.intro ((hb.cell (World.block_lt_of_cell? wr _ hw2)).trans hw2) (And.intro ((hb.cell (p := ⟨M, 0, none⟩) HKr.out.kM.lt).trans m0) (And.intro ((hb.cell (p := ⟨M, 1, none⟩) HKr.out.kM.lt).trans m1) (And.intro ((hb.cell (p := ⟨C, 2, none⟩) HKr.out.kC.lt).trans c2) (And.intro ((hb.cell (p := ⟨C, 0, none⟩) HKr.out.kC.lt).trans c0) ((hb.cell (p := ⟨C, 1, none⟩) HKr.out.kC.lt).trans c1)))))))))
                      clear hlen HTC q0 q1 q2 q3 q4 q5 q6 q7 q8 q9 q12 c3 c4 c5 c6 m2
                      go_wp2_with fail
                      go_region_held3 (fun W => W.cell? ⟨w.heap.size, 11, none⟩ = some (.slice (some adw) nw cw) ∧ W.cell? ⟨w.heap.size, 10, none⟩ = some (.slice (some adt) nt ct) ∧ W.cell? (adt.add k1) = some (.slice Bt ntr capt) ∧ W.cell? (adw.add k1) = some (.slice Bw nwk capw) ∧ W.cell? ⟨M, 0, none⟩ = some (.int .i64 rows) ∧ W.cell? ⟨M, 1, none⟩ = some (.int .i64 cols) ∧ W.cell? ⟨C, 2, none⟩ = some (.int .i64 b) ∧ W.cell? ⟨C, 0, none⟩ = some (.int .i64 k) ∧ W.cell? ⟨C, 1, none⟩ = some (.int .i64 cl)) (go_keep)
                        (first | (go_at_call 78; refine (KT.out _ (by exact HRN.out)).mono ?_; rintro e w8 ⟨rfl, hb8⟩; obtain ⟨f1, f2, f3, f4, f5, f6, f7, f8, f9⟩ := FS.out w8 (((Below.refl wr.heap.size wr).drew).trans hb8); have HB8 := Lib.hid hb8; clear hb8))
                      all_goals
                        have HK8 := Lib.hid (HKr.out.below (((Below.refl wr.heap.size wr).drew).trans HB8.out))
                        cases zt with
                        | true =>
                          go_wp2_with fail
                          go_roundw
                          case rel => exact ⟨k1 + 1, hlt1, by go_num, Lib.hid (by rw [HTC2.out, Bool.true_and]), HK8⟩
                          case measure => simp [intOf]; omega
                        | false =>
                          go_wp2_with fail
                          go_ret
                          exact ⟨ret_bool (by rw [HD.out, HTC2.out]; rfl), HK8.out.be⟩
                    · have d1 : ((nwk : Int) != rows) = true := bne_iff_ne.2 hlen
                      have HF : Hid (R = false) := Lib.hid (by rw [HD.out, ← HTT.out, HTC.out, decide_eq_false hlen]; rfl)
                      clear hlen HTC
                      go_wp2_with fail
                      go_quiet (fail)
                      go_wp2_with fail
                      go_ret
                      exact ⟨ret_bool HF.out.symm, HKr.out.be.trans ⟨rfl, rfl, rfl, Nat.le_refl _, fun _ _ => rfl⟩⟩
                  · obtain rfl : nt = k1 := by omega
                    go_wp2_with fail
                    go_ret
                    refine ⟨ret_bool ?_, HKr.out.be⟩
                    rw [HD.out, HT2'.out, Bool.and_true, ← HTT.out, List.drop_of_length_le (by rw [HN.out.1]; exact Nat.le_refl _)]
                    rfl
          · have d3 : (nt != nw) = false := by simpa using e3.symm
            have d3' : ((nt : Int) != nw) = false := bne_eq_false_iff_eq.2 (by omega)
            have d4 : ((ng : Int) != rows) = true := by simpa using e4
            have HD : Hid (R = false) := Lib.hid (by rw [HM.out, decide_eq_false (show ¬ (1 ≤ cols ∧ cols ≤ 1024 ∧ nw = nt ∧ (ng : Int) = rows) by omega)]; simp)
            clear HM e1 e2 e3 e4
            go_wp2_with fail
            go_ret
            exact ⟨ret_bool HD.out.symm, HK3.out.be⟩
        · have d3 : (nt != nw) = true := bne_iff_ne.2 (fun h => e3 h.symm)
          have d3' : ((nt : Int) != nw) = true := bne_iff_ne.2 (by omega)
          have HD : Hid (R = false) := Lib.hid (by rw [HM.out, decide_eq_false (show ¬ (1 ≤ cols ∧ cols ≤ 1024 ∧ nw = nt ∧ (ng : Int) = rows) by omega)]; simp)
          clear HM e1 e2 e3
          go_wp2_with fail
          go_ret
          exact ⟨ret_bool HD.out.symm, HK3.out.be⟩
    · have d0 : (ck != 0) = true := bne_iff_ne.2 hck
      have HD : Hid (R = false) := Lib.hid (by rw [HM.out, beq_eq_false_iff_ne.2 hck]; rfl)
      clear hck HM
      go_wp2_with fail
      refine (KC.out _).mono ?_
      rintro e w2 ⟨rfl, hb⟩
      have HK2 := Lib.hid (HK.out.below hb)
      clear c0 c1 c2 c3 c4 c5 c6 hb HK
      go_wp2_with fail
      go_ret
      exact ⟨ret_bool HD.out.symm, HK2.out.be⟩
end Go.Proofs.Ytpekofpiodaadaa.Hb
end

section
/- The walk of oob.Votes. -/
namespace Go.Proofs.Ytpekofpiodaadaa.Hb
set_option linter.unusedVariables false
set_option linter.unusedSimpArgs false
open Go.RowKit

def voteC : Option Int → List Value
  | none => [.bool false, .int .i64 0]
  | some v => [.bool true, .int .i64 v]
theorem voteC_len (v : Option Int) : (voteC v).length = 2 := by cases v <;> rfl
def votesR (g : Grv) : List (Option Int) := if mayG g then votesO g else []
theorem votes_len (g : Grv) : (votesO g).length = g.rows.toNat := by simp [votesO]
theorem votes_at {g : Grv} {i : Nat} (h : i < g.rows.toNat) : (votesO g)[i]? = some (voteAt g i) := by
  unfold votesO; rw [List.getElem?_map, List.getElem?_range h]; rfl
theorem flatV_set (x : Option Int) (v : Int) : ∀ (l r : List (Option Int)), (((l ++ x :: r).flatMap voteC).set (l.length * 2) (.bool true)).set (l.length * 2 + 1) (.int .i64 v) = (l ++ some v :: r).flatMap voteC
  | [], r => by cases x <;> rfl
  | y :: l, r => by
    have ih := flatV_set x v l r
    rw [List.cons_append, List.flatMap_cons, List.cons_append, List.flatMap_cons, ← ih]
    obtain ⟨a, b, hab⟩ : ∃ a b, voteC y = [a, b] := by cases y <;> exact ⟨_, _, rfl⟩
    rw [hab, List.length_cons, show (l.length + 1) * 2 = l.length * 2 + 1 + 1 by omega]
    rfl
theorem flatV_len : ∀ (l : List (Option Int)), (l.flatMap voteC).length = l.length * 2
  | [] => rfl
  | x :: l => by rw [List.flatMap_cons, List.length_append, voteC_len, flatV_len l, List.length_cons]; omega
theorem flatV_get : ∀ (l : List (Option Int)) (i j : Nat) (x : Option Int), l[i]? = some x → j < 2 → (l.flatMap voteC)[i * 2 + j]? = (voteC x)[j]?
  | [], i, j, x, h, _ => by simp at h
  | y :: l, i, j, x, h, hj => by
    rw [List.flatMap_cons]
    rcases i with _ | i
    · simp at h; subst h
      rw [Nat.zero_mul, Nat.zero_add, List.getElem?_append_left (by rw [voteC_len]; exact hj)]
    · rw [List.getElem?_append_right (by rw [voteC_len]; omega), voteC_len, show (i + 1) * 2 + j - 2 = i * 2 + j by omega]
      exact flatV_get l i j x (by simpa using h) hj
theorem info_vote : (Try.prog.info? 266).map (fun i => (i.zero, i.size, i.bytes)) = some (some (.agg #[.bool false, .int .i64 0]), 2, 16) := by kernel_rfl
theorem made_votes (n : Nat) : (madeCells (Value.agg #[.bool false, .int .i64 0]).cells (n * 2)).toList = (List.replicate n (none : Option Int)).flatMap voteC := by
  apply List.ext_getElem?
  intro i
  by_cases hi : i < n * 2
  · have h1 : (List.replicate n (none : Option Int))[i / 2]? = some none := by rw [List.getElem?_replicate]; simp; omega
    have h2 := flatV_get _ (i / 2) (i % 2) none h1 (by omega)
    rw [show i / 2 * 2 + i % 2 = i by omega] at h2
    rw [h2]
    have e : (Value.agg #[.bool false, .int .i64 0]).cells = #[.bool false, .int .i64 0] := rfl
    rw [e, madeCells, Array.getElem?_toList, Array.getElem?_map, Array.getElem?_range]
    simp only [hi, if_true, Option.map_some]
    rcases Nat.mod_two_eq_zero_or_one i with h | h
    · simp [h, voteC]
    · simp [h, voteC]
  · have h1 : ((List.replicate n (none : Option Int)).flatMap voteC)[i]? = none := by
      rw [List.getElem?_eq_none_iff, flatV_len, List.length_replicate]; omega
    rw [h1, List.getElem?_eq_none_iff, Array.length_toList, size_madeCells]
    omega
theorem leaves_any (g : Grv) (Ac At Aw Ag : Option Addr) (cc ct cw cg : Nat) (w : World) : Calls Try.prog 210 #[.agg (grvA g Ac At Aw Ag cc ct cw cg)] w fun e w' =>
    e = .returned (.func (.func 229) #[] #[.pointer (some ⟨w.heap.size, 0, none⟩)]) ∧ w' = w.alloc (.cells (grvA g Ac At Aw Ag cc ct cw cg) 83) := by
  obtain ⟨V, hV⟩ : ∃ V, grvA g Ac At Aw Ag cc ct cw cg = V := ⟨_, rfl⟩
  rw [hV]
  go_enter Try.func210, Try.ntmps210
  go_wp2_with fail
  go_ret
  exact ⟨rfl, rfl⟩
theorem leaves_ok {w : World} {g : Grv} {Ac At Aw Ag : Option Addr} (hmay : mayG g = true) (hok : OkG g) (hr : RG w g Ac At Aw Ag) (i : Nat) : ∀ x ∈ leavesO g i, x.ok := by
  intro x hx
  obtain ⟨a1, a2, _⟩ := may_is hmay
  obtain ⟨_, _, c1, c2, _⟩ := head_is a1
  obtain ⟨j, t, y, e1, e2, rfl⟩ := leaves_mem _ _ _ _ _ hx
  obtain ⟨_, hrt⟩ := trees_is a2 j t y e1 e2
  have hl := hok.tt t (List.mem_of_getElem? e1)
  obtain ⟨p1, p2, p3⟩ := place_right hrt (by omega) (rowO g.rows g.cols g.cells i) (by rw [row_len]; omega)
  obtain ⟨_, _, t', _, _, f1, _, _, _, f2⟩ := hr.rt.at (i := j) (List.getElem?_eq_some_iff.1 e1).1
  rw [e1] at f1
  cases f1
  exact f2.ok _ (List.mem_of_getElem? (ndAt_get p1 p2))
theorem votes_step {vs : List (Option Int)} {n k : Nat} (hl : vs.length = n) (hk : k < n) : ∃ x, vs[k]? = some x ∧ vs.take (k + 1) ++ List.replicate (n - (k + 1)) none = vs.take k ++ x :: List.replicate (n - (k + 1)) none ∧ vs.take k ++ List.replicate (n - k) none = vs.take k ++ none :: List.replicate (n - (k + 1)) none := by
  have hk' : k < vs.length := by omega
  refine ⟨vs[k], List.getElem?_eq_getElem hk', ?_, ?_⟩
  · rw [List.take_succ_eq_append_getElem hk', List.append_assoc]; rfl
  · rw [show n - k = (n - (k + 1)) + 1 by omega, List.replicate_succ]
set_option maxRecDepth 100000 in
set_option maxHeartbeats 8000000 in
theorem votes_any (g : Grv) (Ac At Aw Ag : Option Addr) (cc ct cw cg : Nat) (w : World) (hok : OkG g) (hr : RG w g Ac At Aw Ag) :
    Calls Try.prog 184 #[.agg (grvA g Ac At Aw Ag cc ct cw cg)] w fun e w' => ∃ v, e = .returned (.tuple #[v, .int .i64 (if mayG g then 0 else 8)]) ∧ w'.ownsRow w.heap.size 266 2 v (votesR g).length ((votesR g).flatMap voteC) ∧ Below w.heap.size w w' := by
  have KM := Lib.hid (fun w hr => may_any g Ac At Aw Ag cc ct cw cg w hok hr)
  have KL := Lib.hid (fun w => leaves_any g Ac At Aw Ag cc ct cw cg w)
  obtain ⟨GV, hGV⟩ : ∃ V, grvA g Ac At Aw Ag cc ct cw cg = V := ⟨_, rfl⟩
  have HRG := Lib.hid hr
  cases hmay : mayG g with
  | false =>
    have e : votesR g = [] := by unfold votesR; rw [hmay]; rfl
    rw [e]
    rw [hmay] at KM
    rw [hGV] at KM ⊢
    have hsz : (Try.prog.info? 83).map (·.size) = some GV.size := by rw [← hGV]; kernel_rfl
    clear e hGV hmay
    have HF : Hid ((if false = true then (0 : Int) else 8) = 8) := Lib.hid rfl
    rw [HF.out]
    go_enter Try.func184, Try.ntmps184
    go_upto_region 1 with (fail)
    have kB := Blk.new w GV 83
    have HBE := Lib.hid ((Below.refl w.heap.size w).alloc (Nat.le_refl _) (.cells GV 83))
    go_wp2_with (refine wpList_load_row rfl 83 (.tmp 1) rfl w.heap.size rfl 83 GV (0, 0) _ kB Try.underlying83 rfl hsz ?_)
    refine (KM.out _ (HRG.out.below HBE.out)).mono ?_
    rintro e w1 ⟨rfl, hb⟩
    go_wp2_with fail
    go_ret2
    exact ⟨_, rfl, World.ownsRow_nil _ _ _ _, HBE.out.trans (hb.mono HBE.out.size)⟩
  | true =>
    have e : votesR g = votesO g := by unfold votesR; rw [hmay]; rfl
    rw [e]
    have HF : Hid ((if true = true then (0 : Int) else 8) = 0) := Lib.hid rfl
    rw [HF.out]
    rw [hmay] at KM
    obtain ⟨m1, m2, _⟩ := may_is hmay
    obtain ⟨_, hmat, _, _, hlen, _⟩ := head_is m1
    obtain ⟨n, hn⟩ := Int.eq_ofNat_of_zero_le hmat.1.1
    have hnb : n ≤ 16777216 := by have := hmat.1.2; omega
    have hnt : g.rows.toNat = n := by omega
    have hvl := votes_len g
    rw [hnt] at hvl
    have HVA := Lib.hid (fun i (hi : i < n) => votes_at (g := g) (i := i) (by rw [hnt]; exact hi))
    have KL1 := Lib.hid (fun (i B : Nat) (w : World) (hi : i < n) hr hB => leaves1_any g Ac At Aw Ag cc ct cw cg i B w hmay hok (by omega) hr hB)
    have HLO := Lib.hid (fun w hr i => leaves_ok (w := w) (Ac := Ac) (At := At) (Aw := Aw) (Ag := Ag) hmay hok hr i)
    have HLN := Lib.hid (fun i => Nat.le_trans (leaves_len (rowO g.rows g.cols g.cells i) i g.trees g.weights) hok.lt)
    have KV := Lib.hid (fun (i : Nat) (A : Option Addr) (c : Nat) (w : World) hr => vote_any g.k g.cl g.b g.t g.d g.l g.p (leavesO g i) A c w hr (by have := HLN.out i; unfold leavesO; omega))
    have HVO := Lib.hid (fun (i : Nat) (h0 : leavesO g i ≠ []) => vote_at hmay (fun t ht => by have := hok.tt t ht; omega) hok.lt h0)
    have hgA : grvA g Ac At Aw Ag cc ct cw cg = #[.int .i64 g.k, .int .i64 g.cl, .int .i64 g.b, .int .i64 g.t, .int .i64 g.d, .int .i64 g.l, .int .i64 g.p, .int .i64 n, .int .i64 g.cols, .slice Ac g.cells.length cc, .slice At g.trees.length ct, .slice Aw g.weights.length cw, .slice Ag g.tgt.length cg] := by unfold grvA; rw [hn]
    have HGA := Lib.hid (hGV ▸ hgA)
    rw [hGV] at KM KL KL1 ⊢
    have hsz : (Try.prog.info? 83).map (·.size) = some GV.size := by rw [← hGV]; kernel_rfl
    obtain ⟨VS, hVS⟩ : ∃ VS, votesO g = VS := ⟨_, rfl⟩
    rw [hVS] at hvl HVA ⊢
    rw [hvl]
    have HVL := Lib.hid hvl
    obtain ⟨i0, hi0, hz0, hz1, hz2⟩ := info_parts info_vote
    unfold cfgA at KV
    obtain ⟨k, hk⟩ : ∃ x, g.k = x := ⟨_, rfl⟩
    obtain ⟨cl, hcl⟩ : ∃ x, g.cl = x := ⟨_, rfl⟩
    obtain ⟨b, hb⟩ : ∃ x, g.b = x := ⟨_, rfl⟩
    obtain ⟨t, ht⟩ : ∃ x, g.t = x := ⟨_, rfl⟩
    obtain ⟨d, hd⟩ : ∃ x, g.d = x := ⟨_, rfl⟩
    obtain ⟨l, hl⟩ : ∃ x, g.l = x := ⟨_, rfl⟩
    obtain ⟨p, hp⟩ : ∃ x, g.p = x := ⟨_, rfl⟩
    rw [hk, hcl, hb, ht, hd, hl, hp] at KV HGA
    rw [hk, hcl] at HVO
    have HVT : Hid (∀ i, voteAt g i = if leavesO g i = [] then none else some (voteO k cl (leavesO g i)).1) := Lib.hid (fun i => by unfold voteAt; rw [hk, hcl])
    clear e hGV hmay m1 m2 hmat hlen hn hnt hvl hgA hVS hok hr hk hcl hb ht hd hl hp
    go_enter Try.func184, Try.ntmps184
    go_upto_region 1 with (fail)
    have kB := Blk.new w GV 83
    have HBE := Lib.hid ((Below.refl w.heap.size w).alloc (Nat.le_refl _) (.cells GV 83))
    go_wp2_with (refine wpList_load_row rfl 83 (.tmp 1) rfl w.heap.size rfl 83 GV (0, 0) _ kB Try.underlying83 rfl hsz ?_)
    refine (KM.out _ (HRG.out.below HBE.out)).mono ?_
    rintro e w1 ⟨rfl, hb⟩
    have HBE1 := Lib.hid (HBE.out.trans (hb.mono HBE.out.size))
    replace kB := kB.below hb
    clear hb
    go_upto_region 3 with (fail)
    go_wp2_with (refine wpList_load_row rfl 83 (.tmp 1) rfl w.heap.size rfl 83 GV (0, 0) _ kB Try.underlying83 rfl hsz ?_)
    refine (KL.out _).mono ?_
    rintro e w2 ⟨rfl, rfl⟩
    have kB2 := Lib.hid (kB.below ((Below.refl _ w1).alloc (Nat.le_refl _) (.cells GV 83)))
    have kL2 := Lib.hid (Blk.new w1 GV 83)
    have HBE2 := Lib.hid (HBE1.out.alloc HBE1.out.size (.cells GV 83))
    have hBL : w.heap.size < w1.heap.size := by have := kB.lt; omega
    obtain ⟨W2, hW2⟩ : ∃ W, w1.alloc (.cells GV 83) = W := ⟨_, rfl⟩
    have hs2 : W2.heap.size = w1.heap.size + 1 := by rw [← hW2]; simp
    rw [hW2] at kB2 kL2 HBE2 ⊢
    have HS2 := Lib.hid hs2
    clear hs2
    have y7 : W2.cell? ⟨w.heap.size, 7, none⟩ = some (.int .i64 (n : Int)) := by have := kB2.out.cell 7; rw [HGA.out] at this; exact this
    have hlB := kB2.out.lt
    clear kB hsz hW2
    go_wp2_with (at_make; refine wpList_make_full _ rfl _ _ 263 rfl W2.heap.size 266 i0 (.agg #[.bool false, .int .i64 0]) 2 Try.underlying263 hi0 hz0 hz1 .i64 .i64 _ _ n rfl rfl rfl rfl (by rw [hz2]; omega) (by unfold maxLen; omega) (by simp) ?_; intro w3 hown hgrow)
    rw [made_votes] at hown
    have kB3 := Lib.hid (kB2.out.below ⟨hgrow.os, hgrow.tape, hgrow.output, hgrow.size, fun i hi => hgrow.block i hi (by simp)⟩)
    have kL3 := Lib.hid (kL2.out.below ⟨hgrow.os, hgrow.tape, hgrow.output, hgrow.size, fun i hi => hgrow.block i hi (by simp)⟩)
    have HBE3 := Lib.hid (HBE2.out.grown hgrow HBE2.out.size (fun q e => by cases e))
    have HOW := Lib.hid hown
    clear hown hgrow y7 hlB
    go_loopw [21] (fun iv wr => ∃ j : Nat, j ≤ n ∧ iv = .int .i64 j ∧ Hid (wr.ownsRow W2.heap.size 266 2 (.slice (some ⟨W2.heap.size, 0, none⟩) n n) n ((VS.take j ++ List.replicate (n - j) none).flatMap voteC)) ∧ Hid (Blk wr w.heap.size GV 83 ∧ Blk wr w1.heap.size GV 83 ∧ Below w.heap.size w wr)) (fun iv _ => n - (intOf iv).toNat)
    case atStart => exact ⟨0, Nat.zero_le _, rfl, Lib.hid (by rw [List.take_zero, Nat.sub_zero, List.nil_append]; exact HOW.out), Lib.hid ⟨kB3.out, kL3.out, HBE3.out⟩⟩
    case round =>
      obtain ⟨j, hj, rfl, HO, HX⟩ := hrel
      by_cases hlt : j < n
      · have hlt' : (j : Int) < n := by omega
        obtain ⟨x, hx1, hx2, hx3⟩ := votes_step HVL.out hlt
        have hxv : x = voteAt g j := by have := HVA.out j hlt; rw [hx1] at this; exact Option.some.inj this
        have HR2 := Lib.hid (HRG.out.below HX.out.2.2)
        have KL2 := Lib.hid (KL1.out j w1.heap.size wr hlt HR2.out HX.out.2.1)
        have HX2 := Lib.hid hx2
        have HX3 := Lib.hid hx3
        obtain ⟨L, hL⟩ : ∃ L, leavesO g j = L := ⟨_, rfl⟩
        have HLO2 := Lib.hid (HLO.out wr HR2.out j)
        have HVO2 := Lib.hid (HVO.out j)
        have KV2 := Lib.hid (KV.out j)
        have hxv2 := HVT.out j
        rw [hL] at KL2 HLO2 HVO2 KV2 hxv2
        obtain ⟨m, hm⟩ : ∃ m, L.length = m := ⟨_, rfl⟩
        rw [hm] at KL2 KV2
        have HM := Lib.hid hm
        have HXV := Lib.hid (hxv.trans hxv2)
        clear hx1 hx2 hx3 hxv hxv2 hL hm
        go_wp2_with fail
        refine KL2.out.mono ?_
        rintro e w4 ⟨v, rfl, ho, hb⟩
        obtain ⟨a4, c4, rfl⟩ := own_slice ho
        have HO4 := Lib.hid (own_below HO.out hb)
        have HX4 : Hid (Blk w4 w.heap.size GV 83 ∧ Blk w4 w1.heap.size GV 83 ∧ Below w.heap.size w w4) := Lib.hid ⟨HX.out.1.below hb, HX.out.2.1.below hb, HX.out.2.2.trans (hb.mono HX.out.2.2.size)⟩
        have HRN : Hid (RN w4 a4 L) := Lib.hid (RN.own (by have := ho; rw [← HM.out] at this; exact this) HLO2.out)
        clear ho hb
        by_cases hm0 : m = 0
        · have HXN : Hid (x = none) := Lib.hid (by rw [HXV.out, if_pos (List.length_eq_zero_iff.1 (by rw [HM.out]; exact hm0))])
          subst hm0
          go_wp2_with fail
          go_roundw
          case rel =>
            refine ⟨j + 1, hlt, by go_num, Lib.hid ?_, HX4⟩
            rw [HX2.out, HXN.out, ← HX3.out]
            exact HO4.out
          case measure => simp [intOf]; omega
        · have hL0 : L ≠ [] := fun e => hm0 (by rw [← HM.out, e]; rfl)
          obtain ⟨v, hv1, _, _⟩ := HVO2.out hL0
          have HXS : Hid (x = some v) := Lib.hid (by rw [HXV.out, if_neg hL0, hv1])
          have KV3 := Lib.hid (KV2.out a4 c4 w4 HRN.out)
          rw [hv1] at KV3
          simp only [resP] at KV3
          have d0 : ((m : Int) == 0) = false := beq_eq_false_iff_ne.2 (by omega)
          have d1 : (m == 0) = false := beq_eq_false_iff_ne.2 hm0
          have gg := HX4.out.1
          rw [HGA.out] at gg
          obtain ⟨q0, q1, q2, q3, q4, q5, q6, q7, q8, q9, q10, q11, q12⟩ := gg.cells13
          have hlB := gg.lt
          clear gg hL0 hv1 hm0
          go_wp2_with fail
          refine KV3.out.mono ?_
          rintro e w5 ⟨rfl, hb⟩
          have HO5 := Lib.hid (own_below HO4.out hb)
          have HX5 : Hid (Blk w5 w.heap.size GV 83 ∧ Blk w5 w1.heap.size GV 83 ∧ Below w.heap.size w w5) := Lib.hid ⟨HX4.out.1.below hb, HX4.out.2.1.below hb, HX4.out.2.2.trans (hb.mono HX4.out.2.2.size)⟩
          have hO5 := HO5.out
          rw [HX3.out] at hO5
          have hlk : (VS.take j).length = j := by rw [List.length_take, HVL.out]; omega
          have hmid : (VS.take j ++ none :: List.replicate (n - (j + 1)) none)[j]? = some none := by
            rw [List.getElem?_append_right (by omega), hlk, Nat.sub_self]; rfl
          have z0 : w5.cell? ⟨W2.heap.size, j * 2, none⟩ = some (.bool false) := (World.ownsRow.cellAt hO5 (j * 2) (by omega)).trans (flatV_get _ j 0 none hmid (by omega))
          have z1 : w5.cell? ⟨W2.heap.size, j * 2 + 1, none⟩ = some (.int .i64 0) := (World.ownsRow.cellAt hO5 (j * 2 + 1) (by omega)).trans (flatV_get _ j 1 none hmid (by omega))
          have z2 := fun i => World.ownsRow.frozenAt hO5 i
          have HNEW : Hid (((w5.setCell ⟨W2.heap.size, j * 2, none⟩ (.bool true)).setCell ⟨W2.heap.size, j * 2 + 1, none⟩ (.int .i64 v)).ownsRow W2.heap.size 266 2 (.slice (some ⟨W2.heap.size, 0, none⟩) n n) n ((VS.take j ++ some v :: List.replicate (n - (j + 1)) none).flatMap voteC)) := Lib.hid (by
            have s2 := (World.ownsRow.stored (World.ownsRow.stored hO5 (j * 2) (.bool true)).1 (j * 2 + 1) (.int .i64 v)).1
            have e2 := flatV_set none v (VS.take j) (List.replicate (n - (j + 1)) none)
            rw [hlk] at e2
            rw [e2] at s2
            exact s2)
          have hg5 : W2.heap.size < w5.heap.size := (World.ownsRow.lt hO5 _ rfl).2
          clear q0 q1 q2 q3 q4 q5 q6 q7 q8 q9 q10 q11 q12 hlB hb hO5 hlk hmid
          go_wp2_with fail
          go_roundw
          case rel =>
            refine ⟨j + 1, hlt, by go_num, Lib.hid ?_, Lib.hid ⟨?_, ?_, ?_⟩⟩
            · rw [HX2.out, HXS.out]; exact HNEW.out
            · exact (HX5.out.1.other (p := ⟨W2.heap.size, j * 2, none⟩) (by have := HS2.out; show w.heap.size ≠ W2.heap.size; omega) _).other (p := ⟨W2.heap.size, j * 2 + 1, none⟩) (by have := HS2.out; show w.heap.size ≠ W2.heap.size; omega) _
            · exact (HX5.out.2.1.other (p := ⟨W2.heap.size, j * 2, none⟩) (by have := HS2.out; show w1.heap.size ≠ W2.heap.size; omega) _).other (p := ⟨W2.heap.size, j * 2 + 1, none⟩) (by have := HS2.out; show w1.heap.size ≠ W2.heap.size; omega) _
            · exact (HX5.out.2.2.setCell (p := ⟨W2.heap.size, j * 2, none⟩) HBE2.out.size _).setCell (p := ⟨W2.heap.size, j * 2 + 1, none⟩) HBE2.out.size _
          case measure => simp [intOf]; omega
      · obtain rfl : n = j := by omega
        go_wp2_with fail
        go_ret2
        refine ⟨_, rfl, ?_, HX.out.2.2⟩
        have := HO.out
        rw [Nat.sub_self, List.replicate_zero, List.append_nil, List.take_of_length_le (by rw [HVL.out]; exact Nat.le_refl _)] at this
        show wr.ownsRow w.heap.size 266 2 (.slice (some ⟨W2.heap.size, 0, none⟩) n n) n _
        exact World.ownsRow.mono this HBE2.out.size
end Go.Proofs.Ytpekofpiodaadaa.Hb
end

section
/- The walk of ref25.Votes. -/
namespace Go.Proofs.Ytpekofpiodaadaa.Hb
set_option linter.unusedVariables false
set_option linter.unusedSimpArgs false
open Go.RowKit

theorem info_rvote : (Try.prog.info? 233).map (fun i => (i.zero, i.size, i.bytes)) = some (some (.agg #[.bool false, .int .i64 0]), 2, 16) := by kernel_rfl
theorem votes_snoc {vs : List (Option Int)} {n k : Nat} {x : Option Int} (hl : vs.length = n) (hx : vs[k]? = some x) : (vs.take (k + 1)).flatMap voteC = (vs.take k).flatMap voteC ++ voteC x := by
  obtain ⟨hk, rfl⟩ := List.getElem?_eq_some_iff.1 hx
  rw [List.take_succ_eq_append_getElem hk, List.flatMap_append, List.flatMap_cons, List.flatMap_nil, List.append_nil]
set_option warningAsError false in
set_option maxRecDepth 100000 in
set_option maxHeartbeats 16000000 in
theorem rvotes_any (g : Grv) (Ac At Aw Ag : Option Addr) (cc ct cw cg : Nat) (w : World) (hok : OkG g) (hr : RG w g Ac At Aw Ag) :
    Calls Try.prog 149 #[.agg (grvA g Ac At Aw Ag cc ct cw cg)] w fun e w' => ∃ v, e = .returned (.tuple #[v, .int .i64 (if mayG g then 0 else 8)]) ∧ w'.ownsRow w.heap.size 233 2 v (votesR g).length ((votesR g).flatMap voteC) ∧ Below w.heap.size w w' := by
  have KM := Lib.hid (fun w hr => rmay_any g Ac At Aw Ag cc ct cw cg w hok hr)
  obtain ⟨GV, hGV⟩ : ∃ V, grvA g Ac At Aw Ag cc ct cw cg = V := ⟨_, rfl⟩
  have HRG := Lib.hid hr
  cases hmay : mayG g with
  | false =>
    have e : votesR g = [] := by unfold votesR; rw [hmay]; rfl
    rw [e]
    rw [hmay] at KM
    rw [hGV] at KM ⊢
    have hsz : (Try.prog.info? 79).map (·.size) = some GV.size := by rw [← hGV]; kernel_rfl
    clear e hGV hmay
    have HF : Hid ((if false = true then (0 : Int) else 8) = 8) := Lib.hid rfl
    rw [HF.out]
    go_enter Try.func149, Try.ntmps149
    go_upto_region 1 with (fail)
    have kB := Blk.new w GV 79
    have HBE := Lib.hid ((Below.refl w.heap.size w).alloc (Nat.le_refl _) (.cells GV 79))
    go_wp2_with (refine wpList_load_row rfl 79 (.tmp 1) rfl w.heap.size rfl 79 GV (0, 0) _ kB Try.underlying79 rfl hsz ?_)
    refine (KM.out _ (HRG.out.below HBE.out)).mono ?_
    rintro e w1 ⟨rfl, hb⟩
    go_wp2_with fail
    go_ret2
    exact ⟨_, rfl, World.ownsRow_nil _ _ _ _, HBE.out.trans (hb.mono HBE.out.size)⟩
  | true =>
    have e : votesR g = votesO g := by unfold votesR; rw [hmay]; rfl
    rw [e]
    have HF : Hid ((if true = true then (0 : Int) else 8) = 0) := Lib.hid rfl
    rw [HF.out]
    rw [hmay] at KM
    obtain ⟨m1, m2, _⟩ := may_is hmay
    obtain ⟨_, hmat, hc1, hc2, hlen, _⟩ := head_is m1
    have hmb : matB g.rows g.cols g.cells.length = true := decide_eq_true hmat
    obtain ⟨n, hn⟩ := Int.eq_ofNat_of_zero_le hmat.1.1
    have hnb : n ≤ 16777216 := by have := hmat.1.2; omega
    have hnt : g.rows.toNat = n := by omega
    have hvl := votes_len g
    rw [hnt] at hvl
    have HVA := Lib.hid (fun i (hi : i < n) => votes_at (g := g) (i := i) (by rw [hnt]; exact hi))
    have KR := Lib.hid (fun (i : Nat) w hr (hi : (i : Int) < g.rows) => rcells_any g.rows g.cols g.cells Ac cc i w hmb hr hi)
    have HTR := Lib.hid (fun (k : Nat) (t : List Nd) (x : List Int) h1 h2 => trees_is m2 k t x h1 h2)
    have HRL := Lib.hid (fun i => row_len g.rows g.cols g.cells i)
    have HRI := Lib.hid (fun i => row_in (rows := g.rows) (cols := g.cols) (i := i) hr.rc.1)
    have HLO := Lib.hid (fun w hr i => leaves_ok (w := w) (Ac := Ac) (At := At) (Aw := Aw) (Ag := Ag) hmay hok hr i)
    have HLN := Lib.hid (fun i => Nat.le_trans (leaves_len (rowO g.rows g.cols g.cells i) i g.trees g.weights) hok.lt)
    have KV := Lib.hid (fun (i : Nat) (A : Option Addr) (c : Nat) (w : World) hr => rvote_any g.k g.cl g.b g.t g.d g.l g.p (leavesO g i) A c w hr (by have := HLN.out i; unfold leavesO; omega))
    have HVO := Lib.hid (fun (i : Nat) (h0 : leavesO g i ≠ []) => vote_at hmay (fun t ht => by have := hok.tt t ht; omega) hok.lt h0)
    have HLE : Hid (∀ i, leavesGo (rowO g.rows g.cols g.cells i) i (g.trees.drop 0) (g.weights.drop 0) = leavesO g i) := Lib.hid (fun i => by rw [List.drop_zero, List.drop_zero]; rfl)
    have hgA : grvA g Ac At Aw Ag cc ct cw cg = #[.int .i64 g.k, .int .i64 g.cl, .int .i64 g.b, .int .i64 g.t, .int .i64 g.d, .int .i64 g.l, .int .i64 g.p, .int .i64 n, .int .i64 g.cols, .slice Ac g.cells.length cc, .slice At g.trees.length ct, .slice Aw g.weights.length cw, .slice Ag g.tgt.length cg] := by unfold grvA; rw [hn]
    have HGA := Lib.hid (hGV ▸ hgA)
    rw [hGV] at KM ⊢
    have hsz : (Try.prog.info? 79).map (·.size) = some GV.size := by rw [← hGV]; kernel_rfl
    obtain ⟨VS, hVS⟩ : ∃ VS, votesO g = VS := ⟨_, rfl⟩
    rw [hVS] at hvl HVA ⊢
    rw [hvl]
    have HVL := Lib.hid hvl
    unfold cfgA at KV
    obtain ⟨k, hk⟩ : ∃ x, g.k = x := ⟨_, rfl⟩
    obtain ⟨cl, hcl⟩ : ∃ x, g.cl = x := ⟨_, rfl⟩
    obtain ⟨b, hb⟩ : ∃ x, g.b = x := ⟨_, rfl⟩
    obtain ⟨t, ht⟩ : ∃ x, g.t = x := ⟨_, rfl⟩
    obtain ⟨d, hd⟩ : ∃ x, g.d = x := ⟨_, rfl⟩
    obtain ⟨l, hl⟩ : ∃ x, g.l = x := ⟨_, rfl⟩
    obtain ⟨p, hp⟩ : ∃ x, g.p = x := ⟨_, rfl⟩
    rw [hk, hcl, hb, ht, hd, hl, hp] at KV HGA
    rw [hk, hcl] at HVO
    have HVT : Hid (∀ i, voteAt g i = if leavesO g i = [] then none else some (voteO k cl (leavesO g i)).1) := Lib.hid (fun i => by unfold voteAt; rw [hk, hcl])
    obtain ⟨cols, hcols⟩ : ∃ x, g.cols = x := ⟨_, rfl⟩
    obtain ⟨nc, hnc⟩ : ∃ n, g.cells.length = n := ⟨_, rfl⟩
    obtain ⟨nt, hnt'⟩ : ∃ n, g.trees.length = n := ⟨_, rfl⟩
    have hnw : g.weights.length = nt := by rw [hlen, hnt']
    rw [hcols, hnc, hnt', hnw] at HGA
    rw [hn, hcols, hnc] at KR
    rw [hn, hcols] at HRL HTR HRI HLE
    rw [hcols] at hc1 hc2
    have hcb : cols.toNat ≤ 1024 := by omega
    have HCOL : Hid (cols ≤ (cols.toNat : Int)) := Lib.hid (by omega)
    have HNT := Lib.hid hnt'
    have HNW := Lib.hid hnw
    have hntb : nt ≤ 1048576 := by rw [← hnt']; exact hok.lt
    have HOK := Lib.hid hok
    have HRN := Lib.hid hn
    have HLL := Lib.hid (fun i => leaves_len (rowO g.rows g.cols g.cells i) i g.trees g.weights)
    rw [hnt'] at HLL
    obtain ⟨i0, hi0, hz0, hz1, hz2⟩ := info_parts info_node
    obtain ⟨j0, hj0, hy0, hy1, hy2⟩ := info_parts info_rvote
    clear e hGV hmay m1 m2 hmat hlen hn hnt hvl hgA hVS hok hr hk hcl hb ht hd hl hp hcols hnc hnt' hnw hmb hc1 hc2
    go_enter Try.func149, Try.ntmps149
    go_upto_region 1 with (fail)
    have kB := Blk.new w GV 79
    have HBE := Lib.hid ((Below.refl w.heap.size w).alloc (Nat.le_refl _) (.cells GV 79))
    go_wp2_with (refine wpList_load_row rfl 79 (.tmp 1) rfl w.heap.size rfl 79 GV (0, 0) _ kB Try.underlying79 rfl hsz ?_)
    refine (KM.out _ (HRG.out.below HBE.out)).mono ?_
    rintro e w1 ⟨rfl, hb⟩
    have HBE1 := Lib.hid (HBE.out.trans (hb.mono HBE.out.size))
    replace kB := Lib.hid (kB.below hb)
    have hl1 : w.heap.size + 1 ≤ w1.heap.size := kB.out.lt
    clear hb hsz
    go_wp2_with fail
    go_loopw [4, 5] (fun o iv wr => ∃ (j : Nat) (a : Option Addr) (c : Nat), j ≤ n ∧ iv = .int .i64 j ∧ o = .slice a j c ∧ Hid (wr.ownsRow (w.heap.size + 1) 233 2 (.slice a j c) j ((VS.take j).flatMap voteC)) ∧ Hid (Blk wr w.heap.size GV 79 ∧ Below w.heap.size w wr)) (fun _ iv _ => n - (intOf iv).toNat)
    case atStart =>
      refine ⟨0, _, _, Nat.zero_le _, rfl, rfl, Lib.hid ?_, Lib.hid ⟨kB.out.below ((Below.refl _ _).alloc (Nat.le_refl _) _), HBE1.out.alloc HBE1.out.size _⟩⟩
      exact World.ownsRow_made w1 #[] 0 hl1 (Nat.zero_le _) rfl
    case round =>
      obtain ⟨j, a, c, hj, rfl, rfl, HO, HX⟩ := hrel
      obtain ⟨wo, hwo⟩ : ∃ x, x = wr := ⟨_, rfl⟩
      subst hwo
      have hlo : w.heap.size < wo.heap.size := HX.out.1.lt
      have gg := HX.out.1
      rw [HGA.out] at gg
      obtain ⟨q0, q1, q2, q3, q4, q5, q6, q7, q8, q9, q10, q11, q12⟩ := gg.cells13
      by_cases hlt : j < n
      · have hlt' : (j : Int) < n := by omega
        obtain ⟨x, hx1⟩ : ∃ x, VS[j]? = some x := ⟨_, List.getElem?_eq_getElem (by rw [HVL.out]; exact hlt)⟩
        have hxv : x = voteAt g j := by have := HVA.out j hlt; rw [hx1] at this; exact Option.some.inj this
        have HX1 := Lib.hid hx1
        obtain ⟨L, hL⟩ : ∃ L, leavesO g j = L := ⟨_, rfl⟩
        obtain ⟨R, hR⟩ : ∃ R, rowO n cols g.cells j = R := ⟨_, rfl⟩
        have HLO2 := Lib.hid (HLO.out wo (HRG.out.below HX.out.2) j)
        have HVO2 := Lib.hid (HVO.out j)
        have KV2 := Lib.hid (KV.out j)
        have HLE2 := Lib.hid (HLE.out j)
        have KR2 := Lib.hid (fun w hr => KR.out j w hr hlt')
        have HRL2 := Lib.hid (HRL.out j)
        have HRI2 := Lib.hid (HRI.out j)
        have hxv2 := HVT.out j
        rw [hL] at HLO2 HVO2 KV2 HLE2 hxv2
        rw [hR] at HLE2 KR2 HRL2 HRI2
        have HLL2 : Hid (L.length ≤ nt) := Lib.hid (by rw [← hL]; exact HLL.out j)
        have HXV := Lib.hid (hxv.trans hxv2)
        clear hx1 hxv hxv2 hL hR gg
        go_wp2_with fail
        go_loopw [6, 7] (fun o iv wr => ∃ (kk m : Nat) (a : Option Addr) (c : Nat), kk ≤ nt ∧ m ≤ kk ∧ iv = .int .i64 kk ∧ o = .slice a m c ∧ Hid (∃ pre : List Nd, pre.length = m ∧ pre ++ leavesGo R j (g.trees.drop kk) (g.weights.drop kk) = L ∧ wr.ownsRow wo.heap.size 90 6 (.slice a m c) m (pre.flatMap ndC)) ∧ Hid (Below wo.heap.size wo wr)) (fun _ iv _ => nt - (intOf iv).toNat)
        case atStart =>
          refine ⟨0, 0, _, _, Nat.zero_le _, Nat.le_refl _, rfl, rfl, Lib.hid ⟨[], rfl, HLE2.out, ?_⟩, Lib.hid ((Below.refl _ _).alloc (Nat.le_refl _) _)⟩
          exact World.ownsRow_made wo #[] 0 (Nat.le_refl _) (Nat.zero_le _) rfl
        case round =>
          obtain ⟨kk, m, a2, c2, hk, hmk, rfl, rfl, HO2, HB2⟩ := hrel
          have gg := HX.out.1.below HB2.out
          have hlB := gg.lt
          rw [HGA.out] at gg
          clear q0 q1 q2 q3 q4 q5 q6 q7 q8 q9 q10 q11 q12
          obtain ⟨q0, q1, q2, q3, q4, q5, q6, q7, q8, q9, q10, q11, q12⟩ := gg.cells13
          have HBX := Lib.hid (HX.out.2.trans (HB2.out.mono HX.out.2.size))
          by_cases hltk : kk < nt
          · have hltk' : (kk : Int) < nt := by omega
            have HR2 := Lib.hid (HRG.out.below HBX.out)
            obtain ⟨adt, rfl, tr, Bt, capt, ht1, ht2, ht3, ht4, ht5⟩ := HR2.out.rt.at (i := kk) (by rw [HNT.out]; exact hltk)
            obtain ⟨adw, rfl, wk, Bw, capw, hw1, hw2, hw3, hw4, hw5⟩ := HR2.out.rw.at (i := kk) (by rw [HNW.out]; exact hltk)
            obtain ⟨htr1, htr2⟩ := HTR.out kk tr wk ht1 hw1
            have hiw : j < wk.length := by have := HRN.out; omega
            obtain ⟨adx, rfl, hxin, hx⟩ := hw5.at hiw
            obtain ⟨nwk, hnwk⟩ : ∃ n, wk.length = n := ⟨_, rfl⟩
            rw [hnwk] at hw2 hiw
            have hiw' : (j : Int) < nwk := by omega
            obtain ⟨xw, hxx⟩ : ∃ x, wk.getD j 0 = x := ⟨_, rfl⟩
            rw [hxx] at hx
            have htl := HOK.out.tt tr (List.mem_of_getElem? ht1)
            by_cases hx0 : xw = 0
            · have HSK := Lib.hid (leaves_take (row := R) ht1 hw1 (i := j) (by rw [hxx]; exact hx0))
              obtain ⟨pl1, pl2, pl3⟩ := place_right htr2 (by omega) R (by rw [HRL2.out]; exact HCOL.out)
              have HNX : Hid (ndAt tr (placeO tr R)).ok := Lib.hid (ht5.ok _ (List.mem_of_getElem? (ndAt_get pl1 pl2)))
              obtain ⟨pN, hpN⟩ := Int.eq_ofNat_of_zero_le pl1
              have KP := Lib.hid (fun Ar cr w hr hrr => rplace_any tr R Bt Ar capt cr w hr hrr htl (by rw [HRL2.out]; omega))
              have hget := ndAt_get pl1 pl2
              rw [hpN] at KP hget HSK HNX pl2
              rw [Int.toNat_natCast] at hget
              rw [HRL2.out] at KP
              obtain ⟨ntr, hntr⟩ : ∃ n, tr.length = n := ⟨_, rfl⟩
              rw [hntr] at KP ht2 ht3 pl2 htl
              have hpn2 : pN < ntr := by omega
              have HRT := Lib.hid ht5
              have HNTR := Lib.hid hntr
              have HGET := Lib.hid hget
              have FS := Lib.hid (fun w' (hb : Below wr.heap.size wr w') => And.intro ((hb.cell (p := ⟨w.heap.size, 7, none⟩) hlB).trans q7) (And.intro ((hb.cell (p := ⟨w.heap.size, 8, none⟩) hlB).trans q8) (And.intro ((hb.cell (p := ⟨w.heap.size, 9, none⟩) hlB).trans q9) (And.intro ((hb.cell (p := ⟨w.heap.size, 10, none⟩) hlB).trans q10) ((hb.cell (World.block_lt_of_cell? wr _ ht2)).trans ht2)))))
              subst hx0
              clear ht1 hw1 htr1 htr2 hxin hnwk hxx pl1 pl3 hpN hntr ht5 hw5 hget
              go_wp2_with fail
              clear q0 q1 q2 q3 q4 q5 q6 q11 q12 hw2 hx
              go_cut [8] (fun av wc => av = .int .i64 (pN : Int) ∧ Hid (Below wr.heap.size wr wc))
              case first =>
                go_region_held3 (fun W => W.cell? ⟨w.heap.size, 7, none⟩ = some (.int .i64 (n : Int)) ∧ W.cell? ⟨w.heap.size, 8, none⟩ = some (.int .i64 cols) ∧ W.cell? ⟨w.heap.size, 9, none⟩ = some (.slice Ac nc cc) ∧ W.cell? ⟨w.heap.size, 10, none⟩ = some (.slice (some adt) nt ct) ∧ W.cell? (adt.add kk) = some (.slice Bt ntr capt)) (go_keep)
                  (first | (go_at_call 192; refine (KR2.out _ (by exact HR2.out.rc)).mono ?_; rintro e w8 ⟨v8, rfl, ho8, hb8⟩; obtain ⟨Ar, cr, rfl⟩ := own_slice ho8; have HV8 : Hid (RI1 w8 Ar R) := Lib.hid (RI1.own (by rw [HRL2.out]; exact ho8) (fun x hx => by have := HRI2.out x hx; unfold in64; omega)); have HB8 := Lib.hid (((Below.refl wr.heap.size wr).drew).trans hb8); clear ho8 hb8; obtain ⟨f1, f2, f3, f4, f5⟩ := FS.out w8 HB8.out) | (go_at_call 161; refine (KP.out _ _ _ (by exact HRT.out.below HB8.out) (by exact HV8.out)).mono ?_; rintro e w9 ⟨rfl, hb9⟩; have HB9 := Lib.hid (HB8.out.trans (hb9.mono HB8.out.size)); clear hb9; obtain ⟨f1, f2, f3, f4, f5⟩ := FS.out w9 HB9.out))
                all_goals
                  go_wp2
                  go_meet
                  case rel => exact ⟨rfl, HB9⟩
              case rest =>
              obtain ⟨rfl, HBC⟩ := hcut
              obtain ⟨f1, f2, f3, f4, f5⟩ := FS.out wc HBC.out
              obtain ⟨adn, rfl, y, hy, hyok, hat⟩ := (HRT.out.below HBC.out).at (i := pN) (by rw [HNTR.out]; exact hpn2)
              have hye : ndAt tr (pN : Int) = y := by have := HGET.out; rw [hy] at this; exact (Option.some.inj this).symm
              rw [hye] at HSK
              obtain ⟨p0, p1, p2, p3, p4, p5⟩ := hat
              have HB3 := Lib.hid (HB2.out.trans (HBC.out.mono HB2.out.size))
              have hs2 : wo.heap.size ≤ wc.heap.size := HB3.out.size
              obtain ⟨pre, h1, h2, h3⟩ := HO2.out
              have HP1 := Lib.hid h1
              have HP2 := Lib.hid h2
              have HP3 := Lib.hid (own_below h3 HBC.out)
              obtain ⟨f, b2, ll, cc2, sx, q⟩ := y
              simp only at p0 p1 p2 p3 p4 p5
              have d0 : decide (0 ≤ (pN : Int)) = true := decide_eq_true (by omega)
              have hpn3 : (pN : Int) < ntr := by omega
              clear hy hyok hye h1 h2 h3 f1 f2 f3 q7 q8 q9 q10 ht2 hlB gg
              go_wp2_with (at_builtin; refine wpList_append_lies _ rfl _ _ 88 rfl wo.heap.size 90 i0 (.agg #[.int .i64 0, .int .i64 0, .int .i64 0, .int .i64 0, .int .i64 0, .int .i64 0]) 6 48 Try.underlying88 hi0 hz0 hz1 hz2 rfl (by decide) _ _ _ rfl (HP3.out.alloc _) ⟨wc.heap.size, 0, none⟩ 1 1 [.int .i64 f, .int .i64 b2, .int .i64 ll, .int .i64 cc2, .int .i64 sx, .int .i64 q] rfl rfl (cell_six _ _ _ _ _ _ _ _) (by simp [Value.oneCell']) (by decide) (by unfold maxLen; omega) (by omega) (by simp; omega) _ rfl ?_; intro g3 c3 w3 hown3 hg3 hat3 hlt3)
              go_roundw
              case rel =>
                refine ⟨kk + 1, m + 1, _, c3, hltk, by omega, by go_num, rfl, Lib.hid ⟨pre ++ [⟨f, b2, ll, cc2, sx, q⟩], by simp [HP1.out], ?_, ?_⟩, Lib.hid ?_⟩
                · have := HP2.out
                  rw [HSK.out] at this
                  rw [List.append_assoc]; exact this
                · rw [List.flatMap_append]; exact hown3
                · exact (HB3.out.alloc (by omega) _).grown hg3 (by simp; omega) (fun q e => (World.ownsRow.lt HP3.out q e).1)
              case measure => simp [intOf]; omega
            · have HSK := Lib.hid (leaves_skip (row := R) ht1 hw1 (i := j) (by rw [hxx]; exact hx0))
              have d1 : (xw == 0) = false := beq_eq_false_iff_ne.2 hx0
              clear ht1 hw1 htr1 htr2 hxin hnwk hxx ht5 hw5 hx0
              go_wp2_with fail
              go_roundw
              case rel =>
                refine ⟨kk + 1, m, a2, c2, hltk, by omega, by go_num, rfl, Lib.hid ?_, HB2⟩
                obtain ⟨pre, h1, h2, h3⟩ := HO2.out
                exact ⟨pre, h1, by rw [← HSK.out]; exact h2, h3⟩
              case measure => simp [intOf]; omega
          · obtain rfl : nt = kk := by omega
            clear q7 q8 q9 q11 q12
            obtain ⟨pre, h1, h2, h3⟩ := HO2.out
            have e0 : leavesGo R j (g.trees.drop nt) (g.weights.drop nt) = [] := by
              rw [List.drop_of_length_le (by rw [HNT.out]; exact Nat.le_refl _)]
              rfl
            rw [e0, List.append_nil] at h2
            subst h2
            have HM := Lib.hid h1
            have HRN4 : Hid (RN wr a2 pre) := Lib.hid (RN.own (by rw [h1]; exact h3) HLO2.out)
            have HB4 := Lib.hid HB2.out
            have hlw : w.heap.size < wr.heap.size := hlB
            have hlo2 : wo.heap.size ≤ wr.heap.size := HB4.out.size
            have hmb : m ≤ 1048576 := by omega
            clear h1 h3 e0 HO2
            by_cases hm0 : m = 0
            · have HXN : Hid (x = none) := Lib.hid (by rw [HXV.out, if_pos (List.length_eq_zero_iff.1 (by rw [HM.out]; exact hm0))])
              have d0 : decide ((0 : Int) < m) = false := decide_eq_false (by omega)
              have d1 : decide (0 < m) = false := decide_eq_false (by omega)
              clear hm0 gg
              go_upto_region 18 with (fail)
              have HB5 := Lib.hid (HB4.out.alloc HB4.out.size (.cells #[.bool false, .int .i64 0] 233))
              have kV := Blk.new wr #[.bool false, .int .i64 0] 233
              obtain ⟨W5, hW5⟩ : ∃ W, wr.alloc (.cells #[.bool false, .int .i64 0] 233) = W := ⟨_, rfl⟩
              rw [hW5] at HB5 kV ⊢
              have z0 := kV.cell 0
              have z1 := kV.cell 1
              simp only [List.getElem?_toArray, List.getElem?_cons_zero, List.getElem?_cons_succ] at z0 z1
              have HO5 := Lib.hid (own_below HO.out HB5.out)
              have HX5 : Hid (Blk W5 w.heap.size GV 79 ∧ Below w.heap.size w W5) := Lib.hid ⟨HX.out.1.below HB5.out, HX.out.2.trans (HB5.out.mono HX.out.2.size)⟩
              have hl5 : w.heap.size < W5.heap.size := HX5.out.1.lt
              clear kV hW5
              go_wp2_with (at_builtin; refine wpList_append_lies _ rfl _ _ 229 rfl (w.heap.size + 1) 233 j0 (.agg #[.bool false, .int .i64 0]) 2 16 Try.underlying229 hj0 hy0 hy1 hy2 rfl (by decide) _ _ _ rfl (HO5.out.alloc _) ⟨W5.heap.size, 0, none⟩ 1 1 [.bool false, .int .i64 0] rfl rfl (cell_two _ _ _ _) (by simp [Value.oneCell']) (by decide) (by unfold maxLen; omega) (by omega) (by simp; omega) _ rfl ?_; intro g3 c3 w3 hown3 hg3 hat3 hlt3)
              go_roundw
              case rel =>
                refine ⟨j + 1, _, c3, hlt, by go_num, rfl, Lib.hid ?_, Lib.hid ⟨?_, ?_⟩⟩
                · rw [votes_snoc HVL.out HX1.out, HXN.out]; exact hown3
                · exact own_blk (HX5.out.1.below ((Below.refl _ _).alloc (Nat.le_refl _) _)) hg3 (own_base HO5.out (Nat.lt_succ_self _))
                · exact (HX5.out.2.alloc (by omega) _).grown hg3 (by simp; omega) (fun q e => by have := (World.ownsRow.lt HO5.out q e).1; omega)
              case measure => simp [intOf]; omega
            · have hL0 : pre ≠ [] := fun e => hm0 (by rw [← HM.out, e]; rfl)
              obtain ⟨v, hv1, _, _⟩ := HVO2.out hL0
              have HXS : Hid (x = some v) := Lib.hid (by rw [HXV.out, if_neg hL0, hv1])
              have KV3 := Lib.hid (fun w hr => KV2.out a2 c2 w hr)
              rw [hv1, HM.out] at KV3
              simp only [resP] at KV3
              have d0 : decide ((0 : Int) < m) = true := decide_eq_true (by omega)
              have d1 : decide (0 < m) = true := decide_eq_true (by omega)
              clear hL0 hv1 hm0 gg
              go_upto_region 16 with (fail)
              have HB5 := Lib.hid (HB4.out.alloc HB4.out.size (.cells #[.bool false, .int .i64 0] 233))
              have kV := Blk.new wr #[.bool false, .int .i64 0] 233
              have HRN5 := Lib.hid (HRN4.out.below ((Below.refl _ wr).alloc (Nat.le_refl _) (.cells #[.bool false, .int .i64 0] 233)))
              have hs5 : (wr.alloc (.cells #[.bool false, .int .i64 0] 233)).heap.size = wr.heap.size + 1 := by simp
              obtain ⟨V, hV⟩ : ∃ V, wr.heap.size = V := ⟨_, rfl⟩
              obtain ⟨W5, hW5⟩ : ∃ W, wr.alloc (.cells #[.bool false, .int .i64 0] 233) = W := ⟨_, rfl⟩
              rw [hW5] at HB5 kV HRN5 hs5 ⊢
              rw [hV] at kV hs5 hlw hlo2 ⊢
              have HX5 : Hid (Blk W5 w.heap.size GV 79 ∧ Below w.heap.size w W5) := Lib.hid ⟨HX.out.1.below HB5.out, HX.out.2.trans (HB5.out.mono HX.out.2.size)⟩
              have HS5 := Lib.hid hs5
              have HKV := Lib.hid kV
              have gg := HX5.out.1
              rw [HGA.out] at gg
              have hlB5 := gg.lt
              clear q0 q1 q2 q3 q4 q5 q6 q10 hlB kV hW5 hs5 hV
              obtain ⟨q0, q1, q2, q3, q4, q5, q6, q7, q8, q9, q10, q11, q12⟩ := gg.cells13
              clear q7 q8 q9 q10 q11 q12 gg
              go_wp2_with fail
              refine (KV3.out _ HRN5.out).mono ?_
              rintro e w6 ⟨rfl, hb6⟩
              have HB6 := Lib.hid (HB5.out.trans (hb6.mono HB5.out.size))
              have kV6 := HKV.out.below hb6
              have y0 := kV6.cell 0
              have y1 := kV6.cell 1
              simp only [List.getElem?_toArray, List.getElem?_cons_zero, List.getElem?_cons_succ] at y0 y1
              have yf := fun i => kV6.frozen i
              have hV6 : V < w6.heap.size := kV6.lt
              have HKV6 := Lib.hid kV6
              clear q0 q1 q2 q3 q4 q5 q6 hb6 kV6
              go_upto_region 18 with (fail)
              have HB7 := Lib.hid ((HB6.out.setCell (p := ⟨V, 0, none⟩) hlo2 (.bool true)).setCell (p := ⟨V, 1, none⟩) hlo2 (.int .i64 v))
              have kV7 : Blk ((w6.setCell ⟨V, 0, none⟩ (.bool true)).setCell ⟨V, 1, none⟩ (.int .i64 v)) V #[.bool true, .int .i64 v] 233 := (HKV6.out.set 0 (.bool true)).set 1 (.int .i64 v)
              obtain ⟨W5', hW5'⟩ : ∃ W, (w6.setCell ⟨V, 0, none⟩ (.bool true)).setCell ⟨V, 1, none⟩ (.int .i64 v) = W := ⟨_, rfl⟩
              rw [hW5'] at HB7 kV7 ⊢
              have z0 := kV7.cell 0
              have z1 := kV7.cell 1
              simp only [List.getElem?_toArray, List.getElem?_cons_zero, List.getElem?_cons_succ] at z0 z1
              have HO5 := Lib.hid (own_below HO.out HB7.out)
              have HX5 : Hid (Blk W5' w.heap.size GV 79 ∧ Below w.heap.size w W5') := Lib.hid ⟨HX.out.1.below HB7.out, HX.out.2.trans (HB7.out.mono HX.out.2.size)⟩
              have hl5 : w.heap.size < W5'.heap.size := HX5.out.1.lt
              clear kV7 hW5' y0 y1 yf hV6
              go_wp2_with (at_builtin; refine wpList_append_lies _ rfl _ _ 229 rfl (w.heap.size + 1) 233 j0 (.agg #[.bool false, .int .i64 0]) 2 16 Try.underlying229 hj0 hy0 hy1 hy2 rfl (by decide) _ _ _ rfl (HO5.out.alloc _) ⟨W5'.heap.size, 0, none⟩ 1 1 [.bool true, .int .i64 v] rfl rfl (cell_two _ _ _ _) (by simp [Value.oneCell']) (by decide) (by unfold maxLen; omega) (by omega) (by simp; omega) _ rfl ?_; intro g3 c3 w3 hown3 hg3 hat3 hlt3)
              go_roundw
              case rel =>
                refine ⟨j + 1, _, c3, hlt, by go_num, rfl, Lib.hid ?_, Lib.hid ⟨?_, ?_⟩⟩
                · rw [votes_snoc HVL.out HX1.out, HXS.out]; exact hown3
                · exact own_blk (HX5.out.1.below ((Below.refl _ _).alloc (Nat.le_refl _) _)) hg3 (own_base HO5.out (Nat.lt_succ_self _))
                · exact (HX5.out.2.alloc (by omega) _).grown hg3 (by simp; omega) (fun q e => by have := (World.ownsRow.lt HO5.out q e).1; omega)
              case measure => simp [intOf]; omega
      · obtain rfl : n = j := by omega
        go_wp2_with fail
        go_ret2
        refine ⟨_, rfl, ?_, HX.out.2⟩
        have := HO.out
        rw [List.take_of_length_le (by rw [HVL.out]; exact Nat.le_refl _)] at this
        exact World.ownsRow.mono this (Nat.le_succ _)
end Go.Proofs.Ytpekofpiodaadaa.Hb
end

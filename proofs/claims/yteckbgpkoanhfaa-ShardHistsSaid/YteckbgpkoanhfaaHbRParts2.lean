/- The document's answer, layer 13: Parts, of any number of parts. -/
import Derived.Test.YteckbgpkoanhfaaHbRParts
namespace Go.Proofs.Yteckbgpkoanhfaa.Hb
set_option linter.unusedVariables false
open Go.RowKit

set_option maxRecDepth 100000 in
set_option maxHeartbeats 1000000 in
theorem rparts_no (s : Smp) (A1 A2 A3 : Option Addr) (c1 c2 c3 : Nat) (col : Int) (is : List Int) (Ar : Option Addr) (cr : Nat) (p : Int) (w : World) (hp : ¬ (1 ≤ p ∧ p ≤ 64)) :
    Calls Try.prog 37 #[.agg (smpC s A1 A2 A3 c1 c2 c3), .int .i64 col, .slice Ar is.length cr, .int .i64 p] w (ResH (partsO s col is p) w) := by
  have hpo : partsO s col is p = .error 1 := by unfold partsO; rw [if_neg hp]
  rw [hpo]
  obtain ⟨n, hn⟩ : ∃ n, is.length = n := ⟨_, rfl⟩
  rw [hn]
  have KC := Lib.hid (fun w => rcut_no (n : Int) p (by omega) w)
  unfold smpC
  clear hpo hp hn
  go_enter Try.func37, Try.ntmps37
  go_wp2_with fail
  obtain ⟨W2, e2⟩ : ∃ W, W = (w.alloc (.cells #[.int .i64 s.k, .int .i64 s.cl, .int .i64 s.b, .int .i64 s.t, .int .i64 s.d, .int .i64 s.l, .int .i64 s.p, .int .i64 s.rows, .int .i64 s.cols, .slice A1 s.cells.length c1, .slice A2 s.tgt.length c2, .slice A3 s.wgt.length c3] 72)).alloc (.cells #[.int .i64 0, .int .i64 0, .int .i64 0, .slice none 0 0, .slice none 0 0] 36) := ⟨_, rfl⟩
  rw [← e2]
  have X := RH.new _ _ _ _ _ _ _ _ _ e2
  clear e2
  refine (KC.out _).mono ?_
  rintro e w3 ⟨⟨a, c, rfl⟩, hb3⟩
  replace X := X.below hb3
  clear hb3
  obtain ⟨p0, p1, p2, p3, p4⟩ := X.b1.cells5
  have pf := X.b1.frozen
  have pl := X.b1.lt
  go_wp2
  refine bodyPost_ret (results_ct rfl _ _ (w.heap.size + 1) 36 _ _ rfl (set5 X.b1 _ _ _ _ _) Try.underlying36 rfl size_hist) rfl ?_
  exact ⟨_, rfl, HNew.zero _ _, below5 X.be (by omega) _ _ _ _ _⟩
theorem rparts_any (s : Smp) (A1 A2 A3 : Option Addr) (c1 c2 c3 : Nat) (col : Int) (is : List Int) (Ar : Option Addr) (cr : Nat) (p : Int) (w : World) (RS : RdS w s A1 A2 A3) (RI : RdI w Ar is) (hli : is.length ≤ 9223372036854775807) (hcr : is.length ≤ cr) :
    Calls Try.prog 37 #[.agg (smpC s A1 A2 A3 c1 c2 c3), .int .i64 col, .slice Ar is.length cr, .int .i64 p] w (ResH (partsO s col is p) w) := by
  by_cases hp : 1 ≤ p ∧ p ≤ 64
  · exact rparts_yes s A1 A2 A3 c1 c2 c3 col is Ar cr p w RS RI hli hcr hp.1 hp.2
  · exact rparts_no s A1 A2 A3 c1 c2 c3 col is Ar cr p w hp
end Go.Proofs.Yteckbgpkoanhfaa.Hb

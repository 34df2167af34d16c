/- What is done with what is drawn: the closures of deal. -/
import Derived.Test.YtbhikceekldenaaHbDraws
import Derived.BigRegion
namespace Go.Proofs.Ytbhikceekldenaa.Hb
set_option linter.unusedVariables false
open Go.RowKit

theorem ints_set (l : List Int) (k : Nat) (z : Int) : (ints l).set k (.int .i64 z) = ints (l.set k z) := by simp [ints, List.map_set]
theorem blk_grown {w w' : World} {g : Nat} {cs : Array Value} {t : TypeId} {row : Option Nat} (h : Blk w g cs t) (hg : w.grownBy w' row) (hne : some g ≠ row) : Blk w' g cs t := (hg.block g h.lt hne).trans h
/-- A row that is owned, from its first cell on. -/
abbrev OwnI (W : World) (base g n c : Nat) (p : List Int) : Prop := W.ownsRow base 3 1 (.slice (some ⟨g, 0, none⟩) n c) n (ints p)
theorem OwnI.len {W : World} {base g n c : Nat} {p : List Int} (h : OwnI W base g n c p) : p.length = n := by
  have := h.1
  rw [ints_len] at this
  omega
theorem OwnI.at {W : World} {base g n c : Nat} {p : List Int} (h : OwnI W base g n c p) {i : Nat} (hi : i < n) : W.cell? ⟨g, i, none⟩ = some (.int .i64 (p.getD i 0)) := by
  rw [World.ownsRow.cellAt h i (by omega), ints_get (by rw [OwnI.len h]; exact hi)]
theorem swap_own {W : World} {base g n c : Nat} {p : List Int} (h : OwnI W base g n c p) (i j : Nat) :
    OwnI ((W.setCell ⟨g, i, none⟩ (.int .i64 (p.getD j 0))).setCell ⟨g, j, none⟩ (.int .i64 (p.getD i 0))) base g n c (swapL p i j) ∧ W.grownBy ((W.setCell ⟨g, i, none⟩ (.int .i64 (p.getD j 0))).setCell ⟨g, j, none⟩ (.int .i64 (p.getD i 0))) (some g) := by
  have s1 := World.ownsRow.stored h i (.int .i64 (p.getD j 0))
  have s2 := World.ownsRow.stored s1.1 j (.int .i64 (p.getD i 0))
  refine ⟨?_, grown_trans s1.2 s2.2⟩
  have := s2.1
  rw [ints_set, ints_set] at this
  exact this
set_option maxRecDepth 100000 in
set_option maxHeartbeats 2000000 in
theorem doPerm_any (base g gp gb n c : Nat) (p : List Int) (ad : Addr) (nb cb : Nat) (i k x : Nat) (W : World) (hi : i < nb) (hk : k < n) (hx : x < n) (hn : n ≤ 1048576) (ho : OwnI W base g n c p) (hne : gp ≠ g)
    (hp : W.cell? ⟨gp, 0, none⟩ = some (.slice (some ⟨g, 0, none⟩) n c)) (hb : W.cell? ⟨gb, 0, none⟩ = some (.slice (some ad) nb cb)) (hbi : W.cell? (ad.add i) = some (.int .i64 ((k : Int) + 1))) :
    Calls Try.prog 51 #[.int .i64 i, .int .i64 x, .pointer (some ⟨gb, 0, none⟩), .pointer (some ⟨gp, 0, none⟩)] W fun e W' => (∃ u, e = .returned u) ∧ OwnI W' base g n c (swapL p k x) ∧ W.grownBy W' (some g) := by
  have c1 := ho.at hx
  have c2 := ho.at hk
  have cf := World.ownsRow.frozenAt ho
  have hs := swap_own ho k x
  obtain ⟨px, e1⟩ : ∃ px, p.getD x 0 = px := ⟨_, rfl⟩
  obtain ⟨pk, e2⟩ : ∃ pk, p.getD k 0 = pk := ⟨_, rfl⟩
  rw [e1] at c1
  rw [e2] at c2
  rw [e1, e2] at hs
  have HS := Lib.hid hs
  obtain ⟨z, c3⟩ : ∃ z, (W.setCell ⟨g, k, none⟩ (.int .i64 px)).cell? ⟨g, x, none⟩ = some (.int .i64 z) := by
    have s1 := (World.ownsRow.stored ho k (.int .i64 px)).1
    rw [ints_set] at s1
    exact ⟨_, OwnI.at s1 hx⟩
  have c4 : (W.setCell ⟨g, k, none⟩ (.int .i64 px)).cell? ⟨gp, 0, none⟩ = some (.slice (some ⟨g, 0, none⟩) n c) := by
    rw [← hp]
    exact World.cell?_of_block (Below.heap_setCell _ _ _ _ hne)
  have hw : IntKind.i64.wrap ((k : Int) + 1 - 1) = k := by rw [IntKind.wrap_i64]; omega
  have hk' : (k : Int) < n := by omega
  have hx' : (x : Int) < n := by omega
  have hi' : (i : Int) < nb := by omega
  clear hs e1 e2 ho
  go_enter Try.func51, Try.ntmps51
  go_wp2_with fail
  go_region
  go_wp2
  go_end0
  exact ⟨⟨_, rfl⟩, HS.out.1, grown_drew HS.out.2⟩
set_option maxRecDepth 100000 in
set_option maxHeartbeats 4000000 in
theorem doChoose_any (base g gp n c : Nat) (p : List Int) (i x : Nat) (W : World) (hx : i + x < n) (hn : n ≤ 1048576) (ho : OwnI W base g n c p) (hne : gp ≠ g)
    (hp : W.cell? ⟨gp, 0, none⟩ = some (.slice (some ⟨g, 0, none⟩) n c)) :
    Calls Try.prog 54 #[.int .i64 i, .int .i64 x, .pointer (some ⟨gp, 0, none⟩)] W fun e W' => (∃ u, e = .returned u) ∧ OwnI W' base g n c (swapL p i (i + x)) ∧ W.grownBy W' (some g) := by
  have hi : i < n := by omega
  have c1 := ho.at hx
  have c2 := ho.at hi
  have cf := World.ownsRow.frozenAt ho
  have hs := swap_own ho i (i + x)
  obtain ⟨px, e1⟩ : ∃ px, p.getD (i + x) 0 = px := ⟨_, rfl⟩
  obtain ⟨pk, e2⟩ : ∃ pk, p.getD i 0 = pk := ⟨_, rfl⟩
  rw [e1] at c1
  rw [e2] at c2
  rw [e1, e2] at hs
  obtain ⟨y, hy⟩ : ∃ y, i + x = y := ⟨_, rfl⟩
  rw [hy] at c1 hs hx ⊢
  have hw : IntKind.i64.wrap ((i : Int) + x) = (y : Int) := by rw [IntKind.wrap_i64]; omega
  have HS := Lib.hid hs
  obtain ⟨z, c3⟩ : ∃ z, (W.setCell ⟨g, i, none⟩ (.int .i64 px)).cell? ⟨g, y, none⟩ = some (.int .i64 z) := by
    have s1 := (World.ownsRow.stored ho i (.int .i64 px)).1
    rw [ints_set] at s1
    exact ⟨_, OwnI.at s1 hx⟩
  have c4 : (W.setCell ⟨g, i, none⟩ (.int .i64 px)).cell? ⟨gp, 0, none⟩ = some (.slice (some ⟨g, 0, none⟩) n c) := by
    rw [← hp]
    exact World.cell?_of_block (Below.heap_setCell _ _ _ _ hne)
  have hy' : (y : Int) < n := by omega
  have hi' : (i : Int) < n := by omega
  have hsum : (i : Int) + x = (y : Int) := by omega
  clear hs e1 e2 ho hy hne hw
  go_enter Try.func54, Try.ntmps54
  go_wp2_with fail
  go_region
  go_wp2
  go_end0
  exact ⟨⟨_, rfl⟩, HS.out.1, grown_drew HS.out.2⟩
set_option maxRecDepth 100000 in
set_option maxHeartbeats 1000000 in
theorem doDeal_any (base g gp n c : Nat) (p : List Int) (i x : Nat) (W : World) (hx : x < n) (hn : n ≤ 1048576) (hpx : 0 ≤ p.getD x 0 ∧ p.getD x 0 ≤ 1048576) (ho : OwnI W base g n c p)
    (hp : W.cell? ⟨gp, 0, none⟩ = some (.slice (some ⟨g, 0, none⟩) n c)) :
    Calls Try.prog 59 #[.int .i64 i, .int .i64 x, .pointer (some ⟨gp, 0, none⟩)] W fun e W' => (∃ u, e = .returned u) ∧ OwnI W' base g n c (p.set x (p.getD x 0 + 1)) ∧ W.grownBy W' (some g) := by
  have c1 := ho.at hx
  have cf := World.ownsRow.frozenAt ho
  have hs := World.ownsRow.stored ho x (.int .i64 (p.getD x 0 + 1))
  rw [ints_set] at hs
  obtain ⟨px, e1⟩ : ∃ px, p.getD x 0 = px := ⟨_, rfl⟩
  rw [e1] at c1 hs hpx ⊢
  have HS := Lib.hid hs
  have hx' : (x : Int) < n := by omega
  obtain ⟨hpx0, hpx1⟩ := hpx
  clear hs e1 ho
  go_enter Try.func59, Try.ntmps59
  go_wp2
  go_end0
  exact ⟨⟨_, rfl⟩, HS.out.1, HS.out.2⟩
end Go.Proofs.Ytbhikceekldenaa.Hb

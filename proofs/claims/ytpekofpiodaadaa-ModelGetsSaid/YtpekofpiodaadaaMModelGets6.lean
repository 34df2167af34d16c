/- Texts joined: the walks and the plain laws that the claim ModelGets rests on. -/
import Derived.Test.YtpekofpiodaadaaMModelGets5
import Derived.Test.YtpekofpiodaadaaMModelGets4
import Derived.Test.YtpekofpiodaadaaRows
import Derived.Conc.Holds
import Derived.Leaving
section
/- What is read has those bytes: pure. -/
namespace Go.Proofs.Ytpekofpiodaadaa.Hb
set_option linter.unusedVariables false
set_option linter.unusedSimpArgs false
open Go.RowKit

theorem be_push : ∀ (k q y : Nat), y < 256 → beN (256 * q + y) (k + 1) = beN q k ++ [y]
  | 0, q, y, hy => by simp only [beN, Nat.pow_zero, Nat.div_one, List.nil_append, List.cons.injEq, and_true]; omega
  | k + 1, q, y, hy => by
    have e : beN (256 * q + y) (k + 1 + 1) = (256 * q + y) / 256 ^ (k + 1) % 256 :: beN (256 * q + y) (k + 1) := rfl
    rw [e, be_push k q y hy, beN, List.cons_append]
    congr 1
    rw [Nat.pow_succ, Nat.mul_comm (256 ^ k) 256, ← Nat.div_div_eq_div_mul, show (256 * q + y) / 256 = q by omega]
theorem be_numB (l : List Nat) (hb : ∀ b ∈ l, b < 256) : beN (numB l) l.length = l := by
  have key : ∀ (m : List Nat), (∀ b ∈ m, b < 256) → beN (numB m.reverse) m.length = m.reverse := by
    intro m
    induction m with
    | nil => intro _; rfl
    | cons x r ih =>
      intro h
      rw [List.reverse_cons, numB_snoc, List.length_cons, be_push _ _ _ (h x (List.mem_cons_self ..)), ih (fun b hm => h b (List.mem_cons_of_mem _ hm))]
  have h := key l.reverse (fun b hm => hb b (List.mem_reverse.1 hm))
  rw [List.reverse_reverse, List.length_reverse] at h
  exact h
theorem be1 (x : Nat) : beN x 1 = [x % 256] := by simp [beN]
theorem u64N_of {x : Nat} (h : x < 18446744073709551616) : u64N (x : Int) = x := by unfold u64N; omega
theorem u64N_sI {x : Nat} (h : x < 18446744073709551616) : u64N (sI x) = x := by unfold sI; rw [wrapI_fst]; unfold wrap64 u64N; omega
theorem num_back {k : Nat} {l r : List Nat} {x : Nat} (hb : ∀ b ∈ l, b < 256) (h : numP k l = .ok (x, r)) : l = beN x k ++ r ∧ x < 256 ^ k ∧ ∀ b ∈ r, b < 256 := by
  unfold numP at h
  split at h
  · cases h
  rename_i hl
  simp only [Except.ok.injEq, Prod.mk.injEq] at h
  obtain ⟨rfl, rfl⟩ := h
  have hk : (l.take k).length = k := by rw [List.length_take]; omega
  have h1 := be_numB (l.take k) (fun b hm => hb b (List.mem_of_mem_take hm))
  have h2 := numB_lt (l := l.take k) (fun b hm => hb b (List.mem_of_mem_take hm))
  rw [hk] at h1 h2
  exact ⟨by rw [h1, List.take_append_drop], h2, fun b hm => hb b (List.mem_of_mem_drop hm)⟩
theorem bind_back {α β : Type} {p : Prs α} {f : α → Prs β} {l r : List Nat} {y : β} (h : bindP p f l = .ok (y, r)) : ∃ x r1, p l = .ok (x, r1) ∧ f x r1 = .ok (y, r) := by
  unfold bindP at h
  split at h
  · rename_i x r1 e
    exact ⟨x, r1, e, h⟩
  · cases h
theorem pure_back {α : Type} {x y : α} {l r : List Nat} (h : pureP x l = .ok (y, r)) : x = y ∧ l = r := by
  simp only [pureP, Except.ok.injEq, Prod.mk.injEq] at h
  exact h
theorem one_back {kind left : Int} {l r : List Nat} {n : Nd} (hb : ∀ b ∈ l, b < 256) (h : oneN kind left l = .ok (n, r)) : l = ndB kind n ++ r ∧ ∀ b ∈ r, b < 256 := by
  unfold oneN at h
  obtain ⟨x, r1, h1, h⟩ := bind_back h
  obtain ⟨e1, x1, hb1⟩ := num_back hb h1
  split at h
  · rename_i hx
    subst hx
    split at h
    · rename_i hk
      obtain ⟨c, r2, h2, h⟩ := bind_back h
      obtain ⟨e2, x2, hb2⟩ := num_back hb1 h2
      obtain ⟨rfl, rfl⟩ := pure_back h
      refine ⟨?_, hb2⟩
      rw [ndB_leaf0 rfl hk, e1, e2, be1, be1, u64N_of (by omega)]
      rfl
    · rename_i hk
      obtain ⟨s, r2, h2, h⟩ := bind_back h
      obtain ⟨e2, x2, hb2⟩ := num_back hb1 h2
      obtain ⟨k, r3, h3, h⟩ := bind_back h
      obtain ⟨e3, x3, hb3⟩ := num_back hb2 h3
      obtain ⟨rfl, rfl⟩ := pure_back h
      refine ⟨?_, hb3⟩
      rw [ndB_leaf1 rfl hk, e1, e2, e3, be1, u64N_sI (by omega), u64N_of (by omega)]
      simp
  · split at h
    · rename_i hx
      subst hx
      obtain ⟨f, r2, h2, h⟩ := bind_back h
      obtain ⟨e2, x2, hb2⟩ := num_back hb1 h2
      obtain ⟨b, r3, h3, h⟩ := bind_back h
      obtain ⟨e3, x3, hb3⟩ := num_back hb2 h3
      obtain ⟨rfl, rfl⟩ := pure_back h
      refine ⟨?_, hb3⟩
      rw [ndB_split (show ¬ ((f : Nat) : Int) = -1 by omega), e1, e2, e3, be1, u64N_of (by omega), u64N_of (by omega)]
      simp
    · cases h
theorem nodes_back {kind : Int} : ∀ (n : Nat) (left : Int) (out : List Nd) (l r : List Nat) (t : List Nd), (∀ b ∈ l, b < 256) → nodesA kind n left out l = .ok (t, r) → ∃ t', t = out ++ t' ∧ t'.length = n ∧ l = t'.flatMap (ndB kind) ++ r ∧ ∀ b ∈ r, b < 256
  | 0, left, out, l, r, t, hb, h => by
    obtain ⟨rfl, rfl⟩ := pure_back h
    exact ⟨[], by simp, rfl, by simp, hb⟩
  | n + 1, left, out, l, r, t, hb, h => by
    obtain ⟨x, r1, h1, h⟩ := bind_back h
    obtain ⟨e1, hb1⟩ := one_back hb h1
    obtain ⟨t', e2, e3, e4, hb2⟩ := nodes_back n _ _ _ _ _ hb1 h
    exact ⟨x :: t', by rw [e2, List.append_assoc]; rfl, by rw [List.length_cons, e3], by rw [e1, e4, List.flatMap_cons, List.append_assoc], hb2⟩
theorem tree_back {cols bins kind classes : Int} {l r : List Nat} {t : List Nd} (hb : ∀ b ∈ l, b < 256) (h : treeP cols bins kind classes l = .ok (t, r)) : l = treeB kind t ++ r ∧ ∀ b ∈ r, b < 256 := by
  unfold treeP at h
  obtain ⟨n, r1, h1, h⟩ := bind_back h
  obtain ⟨e1, x1, hb1⟩ := num_back hb h1
  split at h
  · cases h
  obtain ⟨t1, r2, h2, h⟩ := bind_back h
  obtain ⟨t', e2, e3, e4, hb2⟩ := nodes_back _ _ _ _ _ _ hb1 h2
  split at h
  · obtain ⟨rfl, rfl⟩ := pure_back h
    refine ⟨?_, hb2⟩
    rw [List.nil_append] at e2
    subst e2
    unfold treeB
    rw [e1, e4, e3, List.append_assoc]
  · cases h
theorem vals_back : ∀ (n : Nat) (out : List Nat) (l r es : List Nat), (∀ b ∈ l, b < 256) → valsA n out l = .ok (es, r) → ∃ v, es = out ++ v ∧ v.length = n ∧ l = v.flatMap valB ++ r ∧ ∀ b ∈ r, b < 256
  | 0, out, l, r, es, hb, h => by
    obtain ⟨rfl, rfl⟩ := pure_back h
    exact ⟨[], by simp, rfl, by simp, hb⟩
  | n + 1, out, l, r, es, hb, h => by
    obtain ⟨x, r1, h1, h⟩ := bind_back h
    obtain ⟨e1, _, hb1⟩ := num_back hb h1
    obtain ⟨v, e2, e3, e4, hb2⟩ := vals_back n _ _ _ _ hb1 h
    exact ⟨x :: v, by rw [e2, List.append_assoc]; rfl, by rw [List.length_cons, e3], by rw [e1, e4, List.flatMap_cons, List.append_assoc]; rfl, hb2⟩
theorem cols_back {b den : Int} : ∀ (n : Nat) (E : List (List Nat)) (S : List (Int × Int)) (l r : List Nat) (E' : List (List Nat)) (S' : List (Int × Int)), (∀ b ∈ l, b < 256) → colsA b den n E S l = .ok ((E', S'), r) →
    ∃ D : List (List Nat × (Int × Int)), E' = E ++ D.map Prod.fst ∧ S' = S ++ D.map Prod.snd ∧ l = D.flatMap colX ++ r ∧ ∀ b ∈ r, b < 256
  | 0, E, S, l, r, E', S', hb, h => by
    obtain ⟨e, rfl⟩ := pure_back h
    simp only [Prod.mk.injEq] at e
    obtain ⟨rfl, rfl⟩ := e
    exact ⟨[], by simp, by simp, by simp, hb⟩
  | n + 1, E, S, l, r, E', S', hb, h => by
    obtain ⟨m, r1, h1, h⟩ := bind_back h
    obtain ⟨e1, x1, hb1⟩ := num_back hb h1
    obtain ⟨es, r2, h2, h⟩ := bind_back h
    obtain ⟨v, e2, e3, e4, hb2⟩ := vals_back _ _ _ _ _ hb1 h2
    rw [List.nil_append] at e2
    subst e2
    split at h
    · obtain ⟨x, r3, h3, h⟩ := bind_back h
      obtain ⟨e5, x5, hb3⟩ := num_back hb2 h3
      obtain ⟨D, f1, f2, f3, hb4⟩ := cols_back n _ _ _ _ _ _ hb3 h
      refine ⟨(es, (sI x, den)) :: D, by rw [f1, List.append_assoc]; rfl, by rw [f2, List.append_assoc]; rfl, ?_, hb4⟩
      rw [e1, e4, e5, f3, List.flatMap_cons]
      unfold colX colB
      simp only [List.append_assoc]
      rw [e3, u64N_sI (by omega)]
    · cases h
theorem trees_back {f : Fst} : ∀ (n : Nat) (T : List (List Nd)) (l r : List Nat) (T' : List (List Nd)), (∀ b ∈ l, b < 256) → treesA f n T l = .ok (T', r) → ∃ D, T' = T ++ D ∧ l = D.flatMap (treeB f.k) ++ r ∧ ∀ b ∈ r, b < 256
  | 0, T, l, r, T', hb, h => by
    obtain ⟨rfl, rfl⟩ := pure_back h
    exact ⟨[], by simp, by simp, hb⟩
  | n + 1, T, l, r, T', hb, h => by
    obtain ⟨t, r1, h1, h⟩ := bind_back h
    obtain ⟨e1, hb1⟩ := tree_back hb h1
    split at h
    · obtain ⟨D, f1, f2, hb2⟩ := trees_back n _ _ _ _ hb1 h
      exact ⟨t :: D, by rw [f1, List.append_assoc]; rfl, by rw [e1, f2, List.flatMap_cons, List.append_assoc], hb2⟩
    · cases h
theorem fields_back {k : Nat} {ks : List Nat} {acc c : List Int} {l r : List Nat} (hb : ∀ b ∈ l, b < 256) (h : fieldsA (k :: ks) acc l = .ok (c, r)) : ∃ x r1, l = beN x k ++ r1 ∧ x < 256 ^ k ∧ (∀ b ∈ r1, b < 256) ∧ fieldsA ks (acc ++ [(x : Int)]) r1 = .ok (c, r) := by
  obtain ⟨x, r1, h1, h⟩ := bind_back h
  obtain ⟨e1, x1, hb1⟩ := num_back hb h1
  exact ⟨x, r1, e1, x1, hb1, h⟩
theorem cfg_back {l r : List Nat} {c : List Int} (hb : ∀ b ∈ l, b < 256) (h : cfgP l = .ok (c, r)) : l = cfgB (c.getD 0 0) (c.getD 1 0) (c.getD 2 0) (c.getD 3 0) (c.getD 4 0) (c.getD 5 0) (c.getD 6 0) ++ r ∧ ∀ b ∈ r, b < 256 := by
  unfold cfgP szs at h
  obtain ⟨c1, r0, h0, h⟩ := bind_back h
  obtain ⟨x0, r1, e0, b0, hb1, h0⟩ := fields_back hb h0
  obtain ⟨x1, r2, e1, b1, hb2, h0⟩ := fields_back hb1 h0
  obtain ⟨x2, r3, e2, b2, hb3, h0⟩ := fields_back hb2 h0
  obtain ⟨x3, r4, e3, b3, hb4, h0⟩ := fields_back hb3 h0
  obtain ⟨x4, r5, e4, b4, hb5, h0⟩ := fields_back hb4 h0
  obtain ⟨x5, r6, e5, b5, hb6, h0⟩ := fields_back hb5 h0
  obtain ⟨x6, r7, e6, b6, hb7, h0⟩ := fields_back hb6 h0
  obtain ⟨hc, rfl⟩ := pure_back h0
  split at h
  · obtain ⟨rfl, rfl⟩ := pure_back h
    subst hc
    refine ⟨?_, hb7⟩
    simp only [List.nil_append, List.cons_append, List.getD_cons_zero, List.getD_cons_succ, cfgB, cfgL, fldB, List.flatMap_cons, List.flatMap_nil, List.append_nil, List.append_assoc]
    rw [u64N_of (by omega), u64N_of (by omega), u64N_of (by omega), u64N_of (by omega), u64N_of (by omega), u64N_of (by omega), u64N_of (by omega), e0, e1, e2, e3, e4, e5, e6]
  · cases h
theorem zip_back {α β : Type} : ∀ (D : List (α × β)), (D.map Prod.fst).zip (D.map Prod.snd) = D
  | [] => rfl
  | x :: r => by rw [List.map_cons, List.map_cons, List.zip_cons_cons, zip_back r]
theorem getP_back {l r : List Nat} {f : Fst} (hb : ∀ b ∈ l, b < 256) (h : getP l = .ok (f, r)) : l = putF f ++ r ∧ mayF f = true := by
  unfold getP at h
  obtain ⟨m, r1, h1, h⟩ := bind_back h
  obtain ⟨e1, _, hb1⟩ := num_back hb h1
  split at h
  · cases h
  rename_i hm
  have hm' : m = 1414677829 := by omega
  subst hm'
  obtain ⟨c, r2, h2, h⟩ := bind_back h
  obtain ⟨e2, hb2⟩ := cfg_back hb1 h2
  obtain ⟨cols, r3, h3, h⟩ := bind_back h
  obtain ⟨e3, x3, hb3⟩ := num_back hb2 h3
  split at h
  · cases h
  split at h
  · cases h
  obtain ⟨seed, r4, h4, h⟩ := bind_back h
  obtain ⟨e4, x4, hb4⟩ := num_back hb3 h4
  obtain ⟨num, r5, h5, h⟩ := bind_back h
  obtain ⟨e5, x5, hb5⟩ := num_back hb4 h5
  obtain ⟨den, r6, h6, h⟩ := bind_back h
  obtain ⟨e6, x6, hb6⟩ := num_back hb5 h6
  obtain ⟨⟨E, S⟩, r7, h7, h⟩ := bind_back h
  obtain ⟨D, d1, d2, e7, hb7⟩ := cols_back _ _ _ _ _ _ _ hb6 h7
  obtain ⟨T, r8, h8, h⟩ := bind_back h
  obtain ⟨T', t1, e8, hb8⟩ := trees_back _ _ _ _ _ hb7 h8
  split at h
  · rename_i hmay
    obtain ⟨rfl, rfl⟩ := pure_back h
    refine ⟨?_, hmay⟩
    rw [List.nil_append] at d1 d2 t1
    subst d1 d2 t1
    have hz := zip_back D
    unfold putF fstB Fst.head
    simp only
    rw [hz, u64N_of (x := cols) (by omega), u64N_sI (x := num) (by omega), u64N_of (x := den) (by omega), e1, e2, e3, e4, e5, e6, e7, e8]
    simp only [List.append_assoc]
    rfl
  · cases h
theorem getF_back {l : List Nat} {f : Fst} (hb : ∀ b ∈ l, b < 256) (h : getF l = .ok f) : putF f = l ∧ mayF f = true := by
  unfold getF at h
  split at h
  · rename_i g r hg
    split at h
    · rename_i hr
      cases h
      obtain ⟨h1, h2⟩ := getP_back hb hg
      rw [hr, List.append_nil] at h1
      exact ⟨h1.symm, h2⟩
    · cases h
  · cases h
end Go.Proofs.Ytpekofpiodaadaa.Hb
end

section
/- The walk of ref28.Get: the forest of a text. -/
namespace Go.Proofs.Ytpekofpiodaadaa.Hb
set_option linter.unusedVariables false
set_option linter.unusedSimpArgs false
open Go.RowKit

def Z14 : Array Value := #[.int .i64 0, .int .i64 0, .int .i64 0, .int .i64 0, .int .i64 0, .int .i64 0, .int .i64 0, .int .i64 0, .int .u64 0, .slice none 0 0, .slice none 0 0, .int .i64 0, .int .i64 0, .slice none 0 0]
def uRow (v : Value) (acc : List Nat) : ORow := ⟨v, 34, 1, acc.length, u6s acc⟩
def zRow (v : Value) : ORow := ⟨v, 3, 1, 3, ints [8, 8, 4]⟩
/-- What ref28.Get has: the result, none, the config, the forest, and the rows behind it. -/
structure S28 (g0 g1 gc g3 : Nat) (CV FV : Array Value) (L : List ORow) (w wr : World) : Prop where
  k0 : Blk wr g0 Z14 59
  k1 : Blk wr g1 Z14 59
  kC : Blk wr gc CV 45
  kF : Blk wr g3 FV 59
  ro : ORows wr (g3 + 1) L
  lt : g0 < g1 ∧ g1 < gc ∧ gc < g3
  be : Below g0 w wr
section
variable {g0 g1 gc g3 : Nat} {CV FV : Array Value} {L M : List ORow} {w wr w' : World} {r r1 : ORow}
theorem S28.below (h : S28 g0 g1 gc g3 CV FV L w wr) (hb : Below wr.heap.size wr w') : S28 g0 g1 gc g3 CV FV L w w' :=
  ⟨h.k0.below hb, h.k1.below hb, h.kC.below hb, h.kF.below hb, h.ro.below hb, h.lt, h.be.trans (hb.mono (Nat.le_of_lt h.k0.lt))⟩
theorem S28.set (h : S28 g0 g1 gc g3 CV FV L w wr) (off : Nat) (v : Value) : S28 g0 g1 gc g3 CV (FV.setIfInBounds off v) L w (wr.setCell ⟨g3, off, none⟩ v) := by
  have hl := h.lt
  have hg := gr_cell wr g3 off v
  exact ⟨own_blk h.k0 hg (fun e => by simp only [Option.some.injEq] at e; omega), own_blk h.k1 hg (fun e => by simp only [Option.some.injEq] at e; omega), own_blk h.kC hg (fun e => by simp only [Option.some.injEq] at e; omega), h.kF.set off v, h.ro.kept hg (by omega), h.lt, h.be.setCell (p := ⟨g3, off, none⟩) (by show g0 ≤ g3; omega) v⟩
theorem S28.grow (h : S28 g0 g1 gc g3 CV FV (r :: L) w wr) (hg : wr.grownBy w' r.v.ownBlock) (ho : w'.ownsRow (g3 + 1) r1.e r1.sz r1.v r1.n r1.xs) (hat : ∀ q, r1.v.ownBlock = some q → r.v.ownBlock = some q ∨ q = wr.heap.size) : S28 g0 g1 gc g3 CV FV (r1 :: L) w w' := by
  have hl := h.lt
  have hq : ∀ q, r.v.ownBlock = some q → g3 + 1 ≤ q := fun q e => (World.ownsRow.lt (h.ro.own r (List.mem_cons_self ..)) q e).1
  exact ⟨own_blk h.k0 hg (fun e => by have := hq _ e; omega), own_blk h.k1 hg (fun e => by have := hq _ e; omega), own_blk h.kC hg (fun e => by have := hq _ e; omega), own_blk h.kF hg (fun e => by have := hq _ e; omega), h.ro.grow hg ho hat, h.lt, h.be.grown hg (Nat.le_of_lt h.k0.lt) (fun q e => by have := hq q e; omega)⟩
theorem S28.drew (h : S28 g0 g1 gc g3 CV FV L w wr) : S28 g0 g1 gc g3 CV FV L w wr.drew := ⟨h.k0, h.k1, h.kC, h.kF, ⟨fun x hx => h.ro.own x hx, h.ro.sep⟩, h.lt, h.be.drew⟩
theorem S28.perm (h : S28 g0 g1 gc g3 CV FV L w wr) (hp : L.Perm M) : S28 g0 g1 gc g3 CV FV M w wr := ⟨h.k0, h.k1, h.kC, h.kF, h.ro.perm hp, h.lt, h.be⟩
theorem S28.new (h : S28 g0 g1 gc g3 CV FV L w wr) (hb : Below wr.heap.size wr w') (ho : w'.ownsRow wr.heap.size r.e r.sz r.v r.n r.xs) : S28 g0 g1 gc g3 CV FV (r :: L) w w' := by
  have h2 := h.below hb
  exact ⟨h2.k0, h2.k1, h2.kC, h2.kF, h.ro.new h2.ro ho h.kF.lt (Nat.le_refl _), h.lt, h2.be⟩
theorem S28.empty (h : S28 g0 g1 gc g3 CV FV L w wr) (e : TypeId) (sz : Nat) : S28 g0 g1 gc g3 CV FV (⟨.slice none 0 0, e, sz, 0, []⟩ :: L) w wr := ⟨h.k0, h.k1, h.kC, h.kF, h.ro.empty e sz, h.lt, h.be⟩
theorem S28.tail (h : S28 g0 g1 gc g3 CV FV (r :: L) w wr) : S28 g0 g1 gc g3 CV FV L w wr := ⟨h.k0, h.k1, h.kC, h.kF, ⟨fun x hx => h.ro.own x (List.mem_cons_of_mem _ hx), (List.pairwise_cons.1 h.ro.sep).2⟩, h.lt, h.be⟩
end
theorem three_err {α : Type} {F : Nat → Nat → Nat → Prs α} {r : List Nat} {e : Int} (h : numsP [8, 8, 4] [] r = .error e) : (bindP (numP 8) fun a => bindP (numP 8) fun b => bindP (numP 4) fun c => F a b c) r = .error e := by
  simp only [numsP, bindP, pureP] at h
  simp only [bindP]
  cases h1 : numP 8 r with
  | error e1 => simp only [h1] at h ⊢; cases h; rfl
  | ok y =>
    obtain ⟨f, r1⟩ := y
    simp only [h1] at h ⊢
    cases h2 : numP 8 r1 with
    | error e1 => simp only [h2] at h ⊢; cases h; rfl
    | ok y =>
      obtain ⟨f2, r2⟩ := y
      simp only [h2] at h ⊢
      cases h3 : numP 4 r2 with
      | error e1 => simp only [h3] at h ⊢; cases h; rfl
      | ok y => obtain ⟨f3, r3⟩ := y; simp only [h3] at h; cases h
theorem three_ok {x y z : Nat} {r r' : List Nat} (h : numsP [8, 8, 4] [] r = .ok ([x, y, z], r')) : ∃ r6 r8, numP 8 r = .ok (x, r6) ∧ numP 8 r6 = .ok (y, r8) ∧ numP 4 r8 = .ok (z, r') := by
  obtain ⟨a, r1, h1, h⟩ := bind_back h
  obtain ⟨b, r2, h2, h⟩ := bind_back h
  obtain ⟨c, r3, h3, h⟩ := bind_back h
  obtain ⟨e, rfl⟩ := pure_back h
  simp only [List.nil_append, List.cons_append, List.cons.injEq, and_true] at e
  obtain ⟨rfl, rfl, rfl⟩ := e
  exact ⟨r1, r2, h1, h2, h3⟩
theorem copy_to (m : List UInt8) : ({ data := m.toArray : ByteArray }.copySlice 0 ByteArray.empty 0 4).data = (m.take 4).toArray := by
  have e : ByteArray.empty.data = #[] := rfl
  unfold ByteArray.copySlice
  rw [e]
  simp only [Nat.zero_add, Array.extract_empty, Array.empty_append, Array.append_empty]
  apply Array.ext'
  simp
theorem copy_from (m : List UInt8) (n : Nat) (h : m.length = n) : ({ data := m.toArray : ByteArray }.copySlice 4 ByteArray.empty 0 (n - 4)).data = (m.drop 4).toArray := by
  have e : ByteArray.empty.data = #[] := rfl
  unfold ByteArray.copySlice
  rw [e]
  simp only [Nat.zero_add, Array.extract_empty, Array.empty_append, Array.append_empty]
  apply Array.ext'
  simp
  exact List.take_of_length_le (by rw [List.length_drop]; omega)
theorem tree_first {l : List Nat} (hb : ∀ b ∈ l, b < 256) (h4 : 4 ≤ l.length) : numB (l.take 4) = 1414677829 ↔ l.take 4 = [84, 82, 69, 69] := by
  constructor
  · intro h
    have h2 := be_numB (l.take 4) (fun b hm => hb b (List.mem_of_mem_take hm))
    rw [h, List.length_take, Nat.min_eq_left h4] at h2
    rw [← h2]
    decide
  · intro h; rw [h]; decide
theorem slice_to (l : List Nat) (h4 : 4 ≤ l.length) (w : World) : (Instr.slice 9 (.string (strB l)) none (some (.int .i64 4)) none).run Try.prog w = .ok (.string (strB (l.take 4))) w := by
  have hs := strB_size l
  have h1 : ¬ ((l.length : Int) < 4) := by omega
  have h2 : (4 : Int) ≤ l.length := by omega
  simp [Instr.slice, run_underlying Try.underlying9, Instr.sliceBounds, Instr.sliceBound, asIntOf, go_sem, hs, h1, h2]
  unfold strB
  rw [List.map_take]
  apply ByteArray.ext
  exact copy_to _
theorem slice_from (l : List Nat) (h4 : 4 ≤ l.length) (w : World) : (Instr.slice 9 (.string (strB l)) (some (.int .i64 4)) none none).run Try.prog w = .ok (.string (strB (l.drop 4))) w := by
  have hs := strB_size l
  have h1 : ¬ ((l.length : Int) < 4) := by omega
  have h2 : (4 : Int) ≤ l.length := by omega
  simp [Instr.slice, run_underlying Try.underlying9, Instr.sliceBounds, Instr.sliceBound, asIntOf, go_sem, hs, h1, h2]
  unfold strB
  rw [List.map_drop]
  apply ByteArray.ext
  exact copy_from _ _ (by rw [List.length_map])
theorem strB_tree2 : strB [84, 82, 69, 69] = ⟨#[84, 82, 69, 69]⟩ := rfl
theorem str_neq_tree (l : List Nat) (hb : ∀ b ∈ l, b < 256) : ((strB l).toList == ([84, 82, 69, 69] : List UInt8)) = decide (l = [84, 82, 69, 69]) := by
  have e : ([84, 82, 69, 69] : List UInt8) = (strB [84, 82, 69, 69]).toList := by rw [ByteArray.toList_eq]; rfl
  rw [e]
  exact str_eq l [84, 82, 69, 69] hb (by decide)
theorem tree_no {cols bins kind classes : Int} {t : List Nd} {q r : List Nat} (h : rightT cols bins kind classes t = false) : ¬ (bindP (numP 4) (fun n => if 4194304 < n then failP 4 else bindP (nodesA kind n 1 []) fun t => if rightT cols bins kind classes t then pureP t else failP 3)) q = .ok (t, r) := by
  intro hp
  obtain ⟨n, r1, h1, hp⟩ := bind_back hp
  split at hp
  · cases hp
  obtain ⟨t1, r2, h2, hp⟩ := bind_back hp
  split at hp
  · rename_i hh
    obtain ⟨rfl, _⟩ := pure_back hp
    rw [h] at hh
    cases hh
  · cases hp
def RG28 (l : List Nat) (w : World) (e : Ending) (w' : World) : Prop := Below w.heap.size w w' ∧
  ((∃ (f : Fst) (Ae At As : Option Addr) (ce ct cs : Nat), getF l = .ok f ∧ e = .returned (.tuple #[.agg (forA f Ae At As ce ct cs), .int .i64 0]) ∧ RFo w' f Ae At As ∧ OkB f) ∨ ∃ k, getF l = .error k ∧ k ≠ 0 ∧ e = .returned (.tuple #[.agg Z14, .int .i64 k]))
set_option maxRecDepth 100000 in
set_option maxHeartbeats 32000000 in
theorem rget28_any (l : List Nat) (hb : ∀ x ∈ l, x < 256) (hn : l.length ≤ 1048576) (w : World) : Calls Try.prog 37 #[.string (strB l)] w (RG28 l w) := by
  have HBY := Lib.hid hb
  have KY := Lib.hid (fun (a k : Nat) (A K : Int) hA hK hk h w => rget7_yes l a k A K hA hK hb hk (by omega) h w)
  have KN := Lib.hid (fun (a k : Nat) (A K : Int) hA hK ha hk h w => rget7_no l a k A K hA hK ha hk (by omega) h w)
  have KC := Lib.hid (fun w => rget8_any (l.drop 4) (fun x hx => hb x (List.mem_of_mem_drop hx)) (by rw [List.length_drop]; omega) w)
  have KT := Lib.hid (fun cols bins kind classes o ho w => rget18_any cols bins kind classes l o hb (by omega) ho w)
  have HNB := Lib.hid (numB_at hb)
  have HAT := Lib.hid (fun (o k : Nat) (h : o + k ≤ l.length) => num_at (l := l) h)
  have HOUT := Lib.hid (fun (o k : Nat) (h : l.length < o + k) (ho : o ≤ l.length) => num_out (l := l) h ho)
  have HTF := Lib.hid (fun h4 => tree_first (l := l) hb h4)
  have HST := Lib.hid (fun h4 w => slice_to l h4 w)
  have HSF := Lib.hid (fun h4 w => slice_from l h4 w)
  have HSQ := Lib.hid (str_neq_tree (l.take 4) (fun b hm => hb b (List.mem_of_mem_take hm)))
  have honeZ : ∀ v ∈ Z14.toList, v.oneCell' = true := by simp [Z14, Value.oneCell']
  have hs := strB_size l
  have HL := Lib.hid (rfl : l.length = l.length)
  unfold RG28
  obtain ⟨X, hX⟩ : ∃ X, strB l = X := ⟨_, rfl⟩
  rw [hX] at hs KY KN KT HST HSF ⊢
  obtain ⟨n, hnn⟩ : ∃ n, l.length = n := ⟨_, rfl⟩
  rw [hnn] at hs hn KY KN KT HAT HOUT HTF HST HSF
  have HN := Lib.hid hnn
  clear hX hnn hb HL
  by_cases h4 : n < 4
  · have d1 : decide ((n : Int) < 4) = true := decide_eq_true (by omega)
    have d2 : decide (n < 4) = true := decide_eq_true h4
    have HE : Hid (getF l = .error 2) := Lib.hid (getF_err (by unfold getP; exact bind_err (num_short (by rw [HN.out]; exact h4))))
    clear h4
    go_enter Try.func37, Try.ntmps37
    go_upto_region 3 with (fail)
    have k00 := (Blk.new w Z14 59).below ((Below.refl _ (w.alloc (.cells Z14 59))).alloc (Nat.le_refl _) (.cells Z14 59))
    have k10 := Blk.new (w.alloc (.cells Z14 59)) Z14 59
    rw [World.size_alloc] at k10
    have HBE0 := Lib.hid (((Below.refl w.heap.size w).alloc (Nat.le_refl _) (.cells Z14 59)).alloc (by simp) (.cells Z14 59))
    obtain ⟨W, hW⟩ : ∃ W, ((w.alloc (.cells Z14 59)).alloc (.cells Z14 59)) = W := ⟨_, rfl⟩
    rw [hW] at k00 k10 HBE0
    rw [show ((w.alloc (.cells #[.int .i64 0, .int .i64 0, .int .i64 0, .int .i64 0, .int .i64 0, .int .i64 0, .int .i64 0, .int .i64 0, .int .u64 0, .slice none 0 0, .slice none 0 0, .int .i64 0, .int .i64 0, .slice none 0 0] 59)).alloc (.cells #[.int .i64 0, .int .i64 0, .int .i64 0, .int .i64 0, .int .i64 0, .int .i64 0, .int .i64 0, .int .i64 0, .int .u64 0, .slice none 0 0, .slice none 0 0, .int .i64 0, .int .i64 0, .slice none 0 0] 59)) = W from hW]
    obtain ⟨g0, hg0⟩ : ∃ z, w.heap.size = z := ⟨_, rfl⟩
    rw [hg0] at k00 k10 HBE0 ⊢
    have HSZ := Lib.hid hg0
    obtain ⟨g1, hg1⟩ : ∃ z, g0 + 1 = z := ⟨_, rfl⟩
    rw [hg1] at k10 ⊢
    have hlt01 : g0 < g1 := by omega
    have HK0 := Lib.hid (And.intro k00 k10)
    clear hW hg0 hg1 k00 k10
    have k0 := HK0.out.1
    have k1 := HK0.out.2
    go_wp2_with (first | (refine wpList_load_row rfl 59 (.tmp 4) rfl g1 rfl 59 _ (0, 0) _ k1 Try.underlying59 rfl forest_sz ?_) | (refine wpList_store_row rfl 59 (.tmp 2) (.tmp 35) rfl g0 rfl 59 _ Z14 rfl k0 forest_sz rfl honeZ ?_))
    exact bodyPost_ret (results_ct rfl _ _ g0 59 Z14 _ rfl k0.row Try.underlying59 rfl forest_sz) rfl ⟨by rw [HSZ.out]; exact below_row0 HBE0.out (Nat.le_refl _), .inr ⟨2, HE.out, by decide, rfl⟩⟩
  have h4n : 4 ≤ n := by omega
  have hst := HST.out h4n
  have hsf := HSF.out h4n
  have htf := HTF.out h4n
  have HP0 : Hid (numP 4 l = .ok (numB (l.take 4), l.drop 4)) := Lib.hid (num_some (by rw [HN.out]; exact h4n))
  have d1 : decide ((n : Int) < 4) = false := decide_eq_false (by omega)
  have d2 : decide (n < 4) = false := decide_eq_false (by omega)
  have hq := HSQ.out
  obtain ⟨X4, hX4⟩ : ∃ X, strB (l.take 4) = X := ⟨_, rfl⟩
  rw [hX4] at hst hq
  obtain ⟨X5, hX5⟩ : ∃ X, strB (l.drop 4) = X := ⟨_, rfl⟩
  rw [hX5] at hsf KC
  clear hX4 hX5
  by_cases hT : l.take 4 = [84, 82, 69, 69]
  rotate_left
  · rw [decide_eq_false hT] at hq
    have HE : Hid (getF l = .error 3) := Lib.hid (getF_err (by unfold getP; rw [bind_ok HP0.out, if_pos (fun h => hT (htf.1 h))]; rfl))
    clear hT htf
    go_enter Try.func37, Try.ntmps37
    go_upto_region 5 with (fail)
    have k00 := (Blk.new w Z14 59).below ((Below.refl _ (w.alloc (.cells Z14 59))).alloc (Nat.le_refl _) (.cells Z14 59))
    have k10 := Blk.new (w.alloc (.cells Z14 59)) Z14 59
    rw [World.size_alloc] at k10
    have HBE0 := Lib.hid (((Below.refl w.heap.size w).alloc (Nat.le_refl _) (.cells Z14 59)).alloc (by simp) (.cells Z14 59))
    obtain ⟨W, hW⟩ : ∃ W, ((w.alloc (.cells Z14 59)).alloc (.cells Z14 59)) = W := ⟨_, rfl⟩
    rw [hW] at k00 k10 HBE0
    rw [show ((w.alloc (.cells #[.int .i64 0, .int .i64 0, .int .i64 0, .int .i64 0, .int .i64 0, .int .i64 0, .int .i64 0, .int .i64 0, .int .u64 0, .slice none 0 0, .slice none 0 0, .int .i64 0, .int .i64 0, .slice none 0 0] 59)).alloc (.cells #[.int .i64 0, .int .i64 0, .int .i64 0, .int .i64 0, .int .i64 0, .int .i64 0, .int .i64 0, .int .i64 0, .int .u64 0, .slice none 0 0, .slice none 0 0, .int .i64 0, .int .i64 0, .slice none 0 0] 59)) = W from hW]
    obtain ⟨g0, hg0⟩ : ∃ z, w.heap.size = z := ⟨_, rfl⟩
    rw [hg0] at k00 k10 HBE0 ⊢
    have HSZ := Lib.hid hg0
    obtain ⟨g1, hg1⟩ : ∃ z, g0 + 1 = z := ⟨_, rfl⟩
    rw [hg1] at k10 ⊢
    have hlt01 : g0 < g1 := by omega
    have HK0 := Lib.hid (And.intro k00 k10)
    clear hW hg0 hg1 k00 k10
    have k0 := HK0.out.1
    have k1 := HK0.out.2
    go_wp2_with (first | (refine wpList_load_row rfl 59 (.tmp 4) rfl g1 rfl 59 _ (0, 0) _ k1 Try.underlying59 rfl forest_sz ?_) | (refine wpList_store_row rfl 59 (.tmp 2) (.tmp 39) rfl g0 rfl 59 _ Z14 rfl k0 forest_sz rfl honeZ ?_))
    exact bodyPost_ret (results_ct rfl _ _ g0 59 Z14 _ rfl k0.row Try.underlying59 rfl forest_sz) rfl ⟨by rw [HSZ.out]; exact below_row0 HBE0.out (Nat.le_refl _), .inr ⟨3, HE.out, by decide, rfl⟩⟩
  rw [decide_eq_true hT] at hq
  have HP1 : Hid (numP 4 l = .ok (1414677829, l.drop 4)) := Lib.hid (by rw [HP0.out, htf.2 hT])
  clear hT htf HP0
  go_enter Try.func37, Try.ntmps37
  go_upto_region 6 with (fail)
  have k00 := (Blk.new w Z14 59).below ((Below.refl _ (w.alloc (.cells Z14 59))).alloc (Nat.le_refl _) (.cells Z14 59))
  have k10 := Blk.new (w.alloc (.cells Z14 59)) Z14 59
  rw [World.size_alloc] at k10
  have HBE0 := Lib.hid (((Below.refl w.heap.size w).alloc (Nat.le_refl _) (.cells Z14 59)).alloc (by simp) (.cells Z14 59))
  obtain ⟨W, hW⟩ : ∃ W, ((w.alloc (.cells Z14 59)).alloc (.cells Z14 59)) = W := ⟨_, rfl⟩
  rw [hW] at k00 k10 HBE0
  rw [show ((w.alloc (.cells #[.int .i64 0, .int .i64 0, .int .i64 0, .int .i64 0, .int .i64 0, .int .i64 0, .int .i64 0, .int .i64 0, .int .u64 0, .slice none 0 0, .slice none 0 0, .int .i64 0, .int .i64 0, .slice none 0 0] 59)).alloc (.cells #[.int .i64 0, .int .i64 0, .int .i64 0, .int .i64 0, .int .i64 0, .int .i64 0, .int .i64 0, .int .i64 0, .int .u64 0, .slice none 0 0, .slice none 0 0, .int .i64 0, .int .i64 0, .slice none 0 0] 59)) = W from hW]
  obtain ⟨g0, hg0⟩ : ∃ z, w.heap.size = z := ⟨_, rfl⟩
  rw [hg0] at k00 k10 HBE0 ⊢
  have HSZ := Lib.hid hg0
  obtain ⟨g1, hg1⟩ : ∃ z, g0 + 1 = z := ⟨_, rfl⟩
  rw [hg1] at k10 ⊢
  have hlt01 : g0 < g1 := by omega
  have HK0 := Lib.hid (And.intro k00 k10)
  clear hW hg0 hg1 k00 k10
  go_wp2_with fail
  refine (KC.out _).mono ?_
  rintro e w2 ⟨hb, ⟨k, cl, b, tt, d, lf, p, hc, rfl⟩ | ⟨ek, hc, hek, rfl⟩⟩
  rotate_left
  · have HK2 := Lib.hid (And.intro (HK0.out.1.below hb) (HK0.out.2.below hb))
    have HB2 := Lib.hid (HBE0.out.trans (hb.mono (Nat.le_of_lt HK0.out.1.lt)))
    have HE : Hid (getF l = .error ek) := Lib.hid (getF_err (by unfold getP; rw [bind_ok HP1.out, if_neg (by decide)]; exact bind_err hc))
    have HEK := Lib.hid hek
    have e1 : ((ek : Int) == 0) = false := beq_eq_false_iff_ne.2 hek
    have e2 : ((ek : Int) != 0) = true := bne_iff_ne.2 hek
    clear hb hc hek
    unfold Z7
    go_upto_region 8 with (fail)
    have hb2 : Below w2.heap.size w2 (w2.alloc (.cells Z7 45)) := (Below.refl _ _).alloc (Nat.le_refl _) _
    have HK3 := Lib.hid (And.intro (HK2.out.1.below hb2) (HK2.out.2.below hb2))
    have HB3 := Lib.hid (HB2.out.trans (hb2.mono (Nat.le_of_lt HK2.out.1.lt)))
    obtain ⟨W3, hW3⟩ : ∃ W, w2.alloc (.cells Z7 45) = W := ⟨_, rfl⟩
    rw [hW3] at HK3 HB3
    rw [show w2.alloc (.cells #[.int .i64 0, .int .i64 0, .int .i64 0, .int .i64 0, .int .i64 0, .int .i64 0, .int .i64 0] 45) = W3 from hW3]
    clear hb2 hW3
    have k0 := HK3.out.1
    have k1 := HK3.out.2
    go_wp2_with (first | (refine wpList_load_row rfl 59 (.tmp 4) rfl g1 rfl 59 _ (0, 0) _ k1 Try.underlying59 rfl forest_sz ?_) | (refine wpList_store_row rfl 59 (.tmp 2) (.tmp 48) rfl g0 rfl 59 _ Z14 rfl k0 forest_sz rfl honeZ ?_))
    exact bodyPost_ret (results_ct rfl _ _ g0 59 Z14 _ rfl k0.row Try.underlying59 rfl forest_sz) rfl ⟨by rw [HSZ.out]; exact below_row0 HB3.out (Nat.le_refl _), .inr ⟨ek, HE.out, HEK.out, rfl⟩⟩
  have HK2 := Lib.hid (And.intro (HK0.out.1.below hb) (HK0.out.2.below hb))
  have HB2 := Lib.hid (HBE0.out.trans (hb.mono (Nat.le_of_lt HK0.out.1.lt)))
  have hlt1 : g1 < w2.heap.size := HK2.out.2.lt
  rw [List.drop_drop, show 4 + 14 = 18 from rfl] at hc
  obtain ⟨x2, hx2⟩ : ∃ x, [k, cl, b, tt, d, lf, p] = x := ⟨_, rfl⟩
  have HH : Hid ((∀ cols seed num den, Fst.head x2 cols seed num den = ⟨k, cl, b, tt, d, lf, p, cols, seed, [], [], num, den, []⟩) ∧ x2.getD 2 0 = b ∧ x2.getD 3 0 = tt) := Lib.hid (by rw [← hx2]; exact ⟨fun _ _ _ _ => rfl, rfl, rfl⟩)
  rw [hx2] at hc
  have HP2 := Lib.hid hc
  clear hb hc hx2
  go_upto_region 9 with (fail)
  have hb2 : Below w2.heap.size w2 (w2.alloc (.cells #[.int .i64 k, .int .i64 cl, .int .i64 b, .int .i64 tt, .int .i64 d, .int .i64 lf, .int .i64 p] 45)) := (Below.refl _ _).alloc (Nat.le_refl _) _
  have HKC := Lib.hid (Blk.new w2 #[.int .i64 k, .int .i64 cl, .int .i64 b, .int .i64 tt, .int .i64 d, .int .i64 lf, .int .i64 p] 45)
  have HK3 := Lib.hid (And.intro (HK2.out.1.below hb2) (HK2.out.2.below hb2))
  have HB3 := Lib.hid (HB2.out.trans (hb2.mono (Nat.le_of_lt HK2.out.1.lt)))
  obtain ⟨W3, hW3⟩ : ∃ W, w2.alloc (.cells #[.int .i64 k, .int .i64 cl, .int .i64 b, .int .i64 tt, .int .i64 d, .int .i64 lf, .int .i64 p] 45) = W := ⟨_, rfl⟩
  rw [hW3] at HK3 HB3 HKC ⊢
  obtain ⟨gc, hgc⟩ : ∃ z, w2.heap.size = z := ⟨_, rfl⟩
  rw [hgc] at HKC hlt1 ⊢
  clear hb2 hW3 hgc HK2 HB2 HK0 HBE0 d1 d2 hst hsf hq
  by_cases hq : n < 18 + 2
  · have HE : Hid (getF l = .error 2) := Lib.hid (getF_err (by unfold getP; rw [bind_ok HP1.out, if_neg (by decide)]; rw [bind_ok HP2.out]; exact bind_err (num_short (by rw [List.length_drop, HN.out]; omega))))
    have h18 : 18 ≤ n := by
      by_cases h : 14 ≤ (l.drop 4).length
      · rw [List.length_drop, HN.out] at h; omega
      · have := cfg_short (l := l.drop 4) (by omega); rw [HP2.out] at this; cases this
    have KX := Lib.hid (fun w => KN.out 18 2 18 2 rfl rfl h18 (by omega) hq w)
    clear hq
    go_wp2_with fail
    refine (KX.out _).mono ?_
    rintro e w3 ⟨rfl, rfl⟩
    have k0 := HK3.out.1
    have k1 := HK3.out.2
    go_wp2_with (first | (refine wpList_load_row rfl 59 (.tmp 4) rfl g1 rfl 59 _ (0, 0) _ k1 Try.underlying59 rfl forest_sz ?_) | (refine wpList_store_row rfl 59 (.tmp 2) (.tmp 58) rfl g0 rfl 59 _ Z14 rfl k0 forest_sz rfl honeZ ?_))
    exact bodyPost_ret (results_ct rfl _ _ g0 59 Z14 _ rfl k0.row Try.underlying59 rfl forest_sz) rfl ⟨by rw [HSZ.out]; exact below_row0 HB3.out (Nat.le_refl _), .inr ⟨2, HE.out, by decide, rfl⟩⟩
  have KX := Lib.hid (fun w => KY.out 18 2 18 2 rfl rfl (by omega) (by omega) w)
  have HP4 := Lib.hid (HAT.out 18 2 (by omega))
  have hx4 := HNB.out 18 2
  have h20 : 20 ≤ n := by omega
  obtain ⟨x4, hxx⟩ : ∃ x, numB ((l.drop 18).take 2) = x := ⟨_, rfl⟩
  rw [hxx] at HP4 KX hx4
  have hx16 : x4 < 65536 := hx4
  clear hq hxx hx4
  go_wp2_with fail
  refine (KX.out _).mono ?_
  rintro e w3 ⟨rfl, rfl⟩
  clear KX
  by_cases hc0 : x4 = 0
  · subst hc0
    have k0 := HK3.out.1
    have k1 := HK3.out.2
    go_wp2_with (first | (refine wpList_load_row rfl 59 (.tmp 4) rfl g1 rfl 59 _ (0, 0) _ k1 Try.underlying59 rfl forest_sz ?_) | (refine wpList_store_row rfl 59 (.tmp 2) (.tmp 61) rfl g0 rfl 59 _ Z14 rfl k0 forest_sz rfl honeZ ?_))
    exact bodyPost_ret (results_ct rfl _ _ g0 59 Z14 _ rfl k0.row Try.underlying59 rfl forest_sz) rfl ⟨by rw [HSZ.out]; exact below_row0 HB3.out (Nat.le_refl _), .inr ⟨3, getF_err (by unfold getP; rw [bind_ok HP1.out, if_neg (by decide)]; rw [bind_ok HP2.out]; rw [bind_ok HP4.out]; rw [if_pos rfl]; rfl), by decide, rfl⟩⟩
  have e1 : ((x4 : Int) == 0) = false := beq_eq_false_iff_ne.2 (by omega)
  by_cases hc1 : 1024 < x4
  · have d1 : decide (1024 < x4) = true := decide_eq_true hc1
    have d1' : decide ((1024 : Int) < x4) = true := decide_eq_true (by omega)
    have HC0 := Lib.hid (And.intro hc0 hc1)
    clear hc0 hc1
    have k0 := HK3.out.1
    have k1 := HK3.out.2
    go_wp2_with (first | (refine wpList_load_row rfl 59 (.tmp 4) rfl g1 rfl 59 _ (0, 0) _ k1 Try.underlying59 rfl forest_sz ?_) | (refine wpList_store_row rfl 59 (.tmp 2) (.tmp 64) rfl g0 rfl 59 _ Z14 rfl k0 forest_sz rfl honeZ ?_))
    exact bodyPost_ret (results_ct rfl _ _ g0 59 Z14 _ rfl k0.row Try.underlying59 rfl forest_sz) rfl ⟨by rw [HSZ.out]; exact below_row0 HB3.out (Nat.le_refl _), .inr ⟨4, getF_err (by unfold getP; rw [bind_ok HP1.out, if_neg (by decide)]; rw [bind_ok HP2.out]; rw [bind_ok HP4.out]; rw [if_neg HC0.out.1, if_pos HC0.out.2]; rfl), by decide, rfl⟩⟩
  have d1 : decide (1024 < x4) = false := decide_eq_false hc1
  have d1' : decide ((1024 : Int) < x4) = false := decide_eq_false (by omega)
  have HC0 := Lib.hid (And.intro hc0 hc1)
  have hx4 : x4 ≤ 1024 := by omega
  have hwc : IntKind.i64.wrap (x4 : Int) = (x4 : Int) := by rw [IntKind.wrap_i64]; omega
  clear hc0 hc1
  have kC := HKC.out
  have c0 := kC.cell 0
  have c1 := kC.cell 1
  have c2 := kC.cell 2
  have c3 := kC.cell 3
  have c4 := kC.cell 4
  have c5 := kC.cell 5
  have c6 := kC.cell 6
  clear kC
  go_upto_region 17 with (fail)
  have hb2 : Below w3.heap.size w3 (w3.alloc (.cells #[.int .i64 k, .int .i64 cl, .int .i64 b, .int .i64 tt, .int .i64 d, .int .i64 lf, .int .i64 p, .int .i64 (x4 : Int), .int .u64 0, .slice none 0 0, .slice none 0 0, .int .i64 0, .int .i64 0, .slice none 0 0] 59)) := (Below.refl _ _).alloc (Nat.le_refl _) _
  have HS4 : Hid (S28 g0 g1 gc w3.heap.size #[.int .i64 k, .int .i64 cl, .int .i64 b, .int .i64 tt, .int .i64 d, .int .i64 lf, .int .i64 p] #[.int .i64 k, .int .i64 cl, .int .i64 b, .int .i64 tt, .int .i64 d, .int .i64 lf, .int .i64 p, .int .i64 (x4 : Int), .int .u64 0, .slice none 0 0, .slice none 0 0, .int .i64 0, .int .i64 0, .slice none 0 0] [] w (w3.alloc (.cells #[.int .i64 k, .int .i64 cl, .int .i64 b, .int .i64 tt, .int .i64 d, .int .i64 lf, .int .i64 p, .int .i64 (x4 : Int), .int .u64 0, .slice none 0 0, .slice none 0 0, .int .i64 0, .int .i64 0, .slice none 0 0] 59))) := Lib.hid ⟨HK3.out.1.below hb2, HK3.out.2.below hb2, HKC.out.below hb2, Blk.new _ _ _, ORows.nil _ _, ⟨hlt01, hlt1, HKC.out.lt⟩, HB3.out.trans (hb2.mono (Nat.le_of_lt HK3.out.1.lt))⟩
  obtain ⟨W4, hW4⟩ : ∃ W, w3.alloc (.cells #[.int .i64 k, .int .i64 cl, .int .i64 b, .int .i64 tt, .int .i64 d, .int .i64 lf, .int .i64 p, .int .i64 (x4 : Int), .int .u64 0, .slice none 0 0, .slice none 0 0, .int .i64 0, .int .i64 0, .slice none 0 0] 59) = W := ⟨_, rfl⟩
  rw [hW4] at HS4 ⊢
  obtain ⟨g3, hg3⟩ : ∃ z, w3.heap.size = z := ⟨_, rfl⟩
  rw [hg3] at HS4 ⊢
  clear hb2 hW4 hg3 HK3 HB3 HKC c0 c1 c2 c3 c4 c5 c6 d1 d1' e1 hwc hlt01 hlt1
  obtain ⟨i9, hi9, hu0, hu1, hu2⟩ := info_parts info_u64r
  go_wp2_with fail
  have hoU := World.ownsRow_made W4 (e := 34) (size := 1) #[] 0 (Nat.le_refl _) (Nat.zero_le _) rfl
  have hbU : Below W4.heap.size W4 (W4.alloc (.cells #[] 34)) := (Below.refl _ _).alloc (Nat.le_refl _) _
  have hoZ := World.ownsRow_lit (e := 3) (size := 1) (W4.alloc (.cells #[] 34)) #[.int .i64 8, .int .i64 8, .int .i64 4] 3 (Nat.le_refl _) (by decide) rfl
  have hbZ : Below (W4.alloc (.cells #[] 34)).heap.size (W4.alloc (.cells #[] 34)) ((W4.alloc (.cells #[] 34)).alloc (.cells #[.int .i64 8, .int .i64 8, .int .i64 4] 3)) := (Below.refl _ _).alloc (Nat.le_refl _) _
  have HS5 : Hid (S28 g0 g1 gc g3 #[.int .i64 k, .int .i64 cl, .int .i64 b, .int .i64 tt, .int .i64 d, .int .i64 lf, .int .i64 p] #[.int .i64 k, .int .i64 cl, .int .i64 b, .int .i64 tt, .int .i64 d, .int .i64 lf, .int .i64 p, .int .i64 (x4 : Int), .int .u64 0, .slice none 0 0, .slice none 0 0, .int .i64 0, .int .i64 0, .slice none 0 0] [uRow (.slice (some ⟨W4.heap.size, 0, none⟩) 0 0) [], zRow (.slice (some ⟨W4.heap.size + 1, 0, none⟩) 3 3)] w ((W4.alloc (.cells #[] 34)).alloc (.cells #[.int .i64 8, .int .i64 8, .int .i64 4] 3))) := Lib.hid (((HS4.out.new (r := uRow (.slice (some ⟨W4.heap.size, 0, none⟩) 0 0) []) hbU hoU).new (r := zRow (.slice (some ⟨W4.heap.size + 1, 0, none⟩) 3 3)) hbZ (by simpa [zRow, ints] using hoZ)).perm (List.Perm.swap _ _ _))
  obtain ⟨W5, hW5⟩ : ∃ W, (W4.alloc (.cells #[] 34)).alloc (.cells #[.int .i64 8, .int .i64 8, .int .i64 4] 3) = W := ⟨_, rfl⟩
  rw [hW5] at HS5 ⊢
  obtain ⟨gu, hgu⟩ : ∃ z, W4.heap.size = z := ⟨_, rfl⟩
  rw [hgu] at HS5 ⊢
  clear hoU hbU hoZ hbZ hW5 hgu HS4
  obtain ⟨RZ, hRZ⟩ : ∃ z, numsP [8, 8, 4] [] (l.drop 20) = z := ⟨_, rfl⟩
  have HRZ := Lib.hid hRZ
  have HZE : Hid (∀ e, RZ = .error e → getF l = .error e) := Lib.hid (fun e h => getF_err (by unfold getP; rw [bind_ok HP1.out, if_neg (by decide)]; rw [bind_ok HP2.out]; rw [bind_ok HP4.out]; rw [if_neg HC0.out.1, if_neg HC0.out.2]; exact three_err (hRZ.trans h)))
  clear hRZ
  go_loopw [8, 11, 13] (fun av lv kv wz => ∃ (i oz : Nat) (LA : Option Addr) (lc : Nat) (acc : List Nat), i ≤ 3 ∧ kv = .int .i64 i ∧ av = .int .i64 oz ∧ lv = .slice LA i lc ∧ oz ≤ n ∧ Hid (acc.length = i ∧ ∀ j x, acc[j]? = some x → x < 256 ^ (([8, 8, 4] : List Nat).getD j 0)) ∧ Hid (numsP (([8, 8, 4] : List Nat).drop i) acc (l.drop oz) = RZ) ∧ Hid (S28 g0 g1 gc g3 #[.int .i64 k, .int .i64 cl, .int .i64 b, .int .i64 tt, .int .i64 d, .int .i64 lf, .int .i64 p] #[.int .i64 k, .int .i64 cl, .int .i64 b, .int .i64 tt, .int .i64 d, .int .i64 lf, .int .i64 p, .int .i64 (x4 : Int), .int .u64 0, .slice none 0 0, .slice none 0 0, .int .i64 0, .int .i64 0, .slice none 0 0] [uRow (.slice LA i lc) acc, zRow (.slice (some ⟨gu + 1, 0, none⟩) 3 3)] w wz)) (fun _ _ kv _ => 3 - (intOf kv).toNat)
  case atStart => exact ⟨0, 20, _, 0, [], by omega, rfl, rfl, rfl, h20, Lib.hid ⟨rfl, by simp⟩, HRZ, HS5⟩
  case round =>
    obtain ⟨i, oz, LA, lc, acc, hi3, rfl, rfl, rfl, hoz, HA, HNZ, HS⟩ := hrel
    clear HS5
    by_cases hkq : i < 3
    · have hkq' : (i : Int) < 3 := by omega
      obtain ⟨z, hsv, hz8, hdr, hgd⟩ : ∃ z : Nat, (ints [8, 8, 4])[i]? = some (.int .i64 (z : Int)) ∧ z ≤ 8 ∧ ([8, 8, 4] : List Nat).drop i = z :: ([8, 8, 4] : List Nat).drop (i + 1) ∧ ([8, 8, 4] : List Nat).getD i 0 = z := by
        obtain e | e | e : i = 0 ∨ i = 1 ∨ i = 2 := by omega
        · subst e; exact ⟨8, rfl, by decide, rfl, rfl⟩
        · subst e; exact ⟨8, rfl, by decide, rfl, rfl⟩
        · subst e; exact ⟨4, rfl, by decide, rfl, rfl⟩
      obtain ⟨gz, cz, hvz, _, _, _, hcz⟩ := own_open (HS.out.ro.own (zRow (.slice (some ⟨gu + 1, 0, none⟩) 3 3)) (by simp)) (show 0 < 3 by decide)
      simp only [zRow, Value.slice.injEq, Option.some.injEq, Addr.mk.injEq, and_true] at hvz
      obtain ⟨rfl, _, rfl⟩ := hvz
      have s0 : wr.cell? ⟨gu + 1, i, none⟩ = some (.int .i64 (z : Int)) := hcz i _ hsv
      have HNZ2 : Hid (RZ = numsP (z :: ([8, 8, 4] : List Nat).drop (i + 1)) acc (l.drop oz)) := Lib.hid (by rw [← hdr, HNZ.out])
      have HGD := Lib.hid hgd
      clear hsv hdr hgd HNZ hcz
      by_cases hz : n < oz + z
      · have HE2 := Lib.hid (HOUT.out oz z hz hoz)
        have KX := Lib.hid (fun w => KN.out oz z (oz : Int) (z : Int) rfl rfl hoz hz8 hz w)
        clear hz
        go_wp2_with fail
        refine (KX.out _).mono ?_
        rintro e w6 ⟨rfl, rfl⟩
        have k0 := HS.out.k0
        have k1 := HS.out.k1
        go_wp2_with (first | (refine wpList_load_row rfl 59 (.tmp 4) rfl g1 rfl 59 _ (0, 0) _ k1 Try.underlying59 rfl forest_sz ?_) | (refine wpList_store_row rfl 59 (.tmp 2) (.tmp 88) rfl g0 rfl 59 _ Z14 rfl k0 forest_sz rfl honeZ ?_))
        exact bodyPost_ret (results_ct rfl _ _ g0 59 Z14 _ rfl k0.row Try.underlying59 rfl forest_sz) rfl ⟨by rw [HSZ.out]; exact below_row0 HS.out.be (Nat.le_refl _), .inr ⟨2, HZE.out 2 (HNZ2.out.trans (by rw [numsP]; exact bind_err HE2.out)), by decide, rfl⟩⟩
      have HE2 := Lib.hid (HAT.out oz z (by omega))
      have KX := Lib.hid (fun w => KY.out oz z (oz : Int) (z : Int) rfl rfl hz8 (by omega) w)
      have hy := HNB.out oz z
      obtain ⟨y, hyy⟩ : ∃ x, numB ((l.drop oz).take z) = x := ⟨_, rfl⟩
      rw [hyy] at HE2 KX hy
      have HY := Lib.hid hy
      have HNZ3 : Hid (numsP (([8, 8, 4] : List Nat).drop (i + 1)) (acc ++ [y]) (l.drop (oz + z)) = RZ) := Lib.hid (by rw [HNZ2.out, numsP, bind_ok HE2.out])
      obtain ⟨o3, ho3⟩ : ∃ z', oz + z = z' := ⟨_, rfl⟩
      rw [ho3] at HNZ3 KX
      have ho3n : o3 ≤ n := by omega
      clear hyy hz ho3 HNZ2 hy
      have hlo := HS.out.ro.own _ (List.mem_cons_self ..)
      simp only [uRow] at hlo
      rw [HA.out.1] at hlo
      have HLO := Lib.hid hlo
      have hlw := HS.out.kF.lt
      clear hlo
      go_wp2_with fail
      refine (KX.out _).mono ?_
      rintro e w6 ⟨rfl, rfl⟩
      go_wp2_with (at_builtin; refine wpList_append_lies _ rfl _ _ 31 rfl (g3 + 1) 34 i9 (.int .u64 0) 1 8 Try.underlying31 hi9 hu0 hu1 hu2 rfl (by decide) (.slice LA i lc) i (u6s acc) rfl (HLO.out.alloc _) ⟨w6.heap.size, 0, none⟩ 1 1 [.int .u64 (y : Int)] rfl rfl (cell_one_new _ _ _) (by simp [Value.oneCell']) (by decide) (by unfold maxLen; omega) (by omega) (by simp; omega) _ rfl ?_; intro g5 c5 w5 hown5 hg5 hat5 hlt5)
      have AL : Below w6.heap.size w6 (w6.alloc (.cells #[.int .u64 (y : Int)] 34)) := (Below.refl _ _).alloc (Nat.le_refl _) _
      have HS6 := Lib.hid ((HS.out.below AL).grow (r1 := uRow (.slice (some ⟨g5, 0, none⟩) (i + 1) c5) (acc ++ [y])) hg5 (by simp only [uRow]; rw [List.length_append, HA.out.1, show u6s (acc ++ [y]) = u6s acc ++ [.int .u64 (y : Int)] from by simp [u6s]]; exact hown5) (fun q e => by simp only [uRow, Value.ownBlock, Option.some.injEq] at e; subst e; exact hat5))
      clear AL hown5 hg5 hat5 hlt5
      go_roundw
      case rel => exact ⟨i + 1, o3, _, c5, acc ++ [y], hkq, by go_num, rfl, rfl, ho3n, Lib.hid ⟨by rw [List.length_append, HA.out.1]; rfl, fun j x hj => by
        rcases Nat.lt_or_ge j acc.length with h | h
        · rw [List.getElem?_append_left h] at hj; exact HA.out.2 j x hj
        · rw [List.getElem?_append_right h] at hj
          obtain rfl : j = i := by have h2 := (List.getElem?_eq_some_iff.1 hj).1; simp at h2; have := HA.out.1; omega
          rw [HA.out.1, Nat.sub_self] at hj; simp at hj; subst hj; rw [HGD.out]; exact HY.out⟩, HNZ3, HS6⟩
      case measure => simp [intOf]; omega
    · obtain rfl : 3 = i := by omega
      rw [show ((3 : Nat) : Int) = 3 from rfl]
      obtain ⟨x6, x8, x10, rfl⟩ : ∃ a b c, acc = [a, b, c] := by
        have h := HA.out.1
        rcases acc with _ | ⟨a0, _ | ⟨a1, _ | ⟨a2, _ | ⟨a3, r⟩⟩⟩⟩
        all_goals simp only [List.length_cons, List.length_nil] at h
        all_goals first | omega | exact ⟨_, _, _, rfl⟩
      have hx6 := HA.out.2 0 x6 rfl
      have hx10 := HA.out.2 2 x10 rfl
      simp only [List.getD_cons_zero, List.getD_cons_succ] at hx6 hx10
      have HX6 : Hid (x6 < 18446744073709551616) := Lib.hid hx6
      have HX10 : Hid (x10 < 4294967296) := Lib.hid hx10
      obtain ⟨r6, r8, hp6, hp8, hp10⟩ := three_ok (HRZ.out.trans HNZ.out.symm)
      have HP6 := Lib.hid hp6
      have HP8 := Lib.hid hp8
      have HP10 := Lib.hid hp10
      obtain ⟨gl, cap, hv, _, _, _, hc⟩ := own_open (HS.out.ro.own _ (List.mem_cons_self ..)) (by simp [uRow])
      simp only [uRow, List.length_cons, List.length_nil, Value.slice.injEq] at hv
      obtain ⟨rfl, _, rfl⟩ := hv
      have hglB := (World.ownsRow.lt (HS.out.ro.own _ (List.mem_cons_self ..)) gl rfl).1
      have s0 : wr.cell? ⟨gl, 0, none⟩ = some (.int .u64 (x6 : Int)) := hc 0 _ rfl
      have s1 : wr.cell? ⟨gl, 1, none⟩ = some (.int .u64 (x8 : Int)) := hc 1 _ rfl
      have s2 : wr.cell? ⟨gl, 2, none⟩ = some (.int .u64 (x10 : Int)) := hc 2 _ rfl
      have w8 : IntKind.i64.wrap (x8 : Int) = sI x8 := rfl
      have w10 : IntKind.i64.wrap (x10 : Int) = (x10 : Int) := by rw [IntKind.wrap_i64]; omega
      have hns : gl ≠ g3 := by omega
      have hns2 : g3 ≠ gl := by omega
      have f0 := HS.out.kF.cell 8
      have f1 := fun i => HS.out.kF.frozen i
      have f2 := HS.out.kF.lt
      have f3 := HS.out.kF.cell 11
      have f4 := HS.out.kF.cell 12
      clear hc hx6 hx10 hp6 hp8 hp10
      go_upto_region 27 with (fail)
      go_cut [] (fun wc => Hid (S28 g0 g1 gc g3 #[.int .i64 k, .int .i64 cl, .int .i64 b, .int .i64 tt, .int .i64 d, .int .i64 lf, .int .i64 p] #[.int .i64 k, .int .i64 cl, .int .i64 b, .int .i64 tt, .int .i64 d, .int .i64 lf, .int .i64 p, .int .i64 (x4 : Int), .int .u64 (x6 : Int), .slice none 0 0, .slice none 0 0, .int .i64 0, .int .i64 0, .slice none 0 0] [uRow (.slice (some ⟨gl, 0, none⟩) 3 lc) [x6, x8, x10], zRow (.slice (some ⟨gu + 1, 0, none⟩) 3 3)] w wc))
      case first =>
        go_wp2_with fail
        go_meet
        case rel => exact Lib.hid (HS.out.set 8 _)
      case rest =>
        have HS6 := hcut
        clear hcut s0 s1 s2 f0 f1 f2 f3 f4 HS
        obtain ⟨gl2, cap, hv, _, _, _, hc⟩ := own_open (HS6.out.ro.own _ (List.mem_cons_self ..)) (by simp [uRow])
        simp only [uRow, List.length_cons, List.length_nil, Value.slice.injEq, Option.some.injEq, Addr.mk.injEq, and_true] at hv
        obtain ⟨rfl, _, rfl⟩ := hv
        have s1 : wc.cell? ⟨gl, 1, none⟩ = some (.int .u64 (x8 : Int)) := hc 1 _ rfl
        have s2 : wc.cell? ⟨gl, 2, none⟩ = some (.int .u64 (x10 : Int)) := hc 2 _ rfl
        have f1 := fun i => HS6.out.kF.frozen i
        have f2 := HS6.out.kF.lt
        have f3 := HS6.out.kF.cell 11
        have f4 := HS6.out.kF.cell 12
        clear hc
        go_upto_region 28 with (fail)
        go_cut [] (fun wd => Hid (S28 g0 g1 gc g3 #[.int .i64 k, .int .i64 cl, .int .i64 b, .int .i64 tt, .int .i64 d, .int .i64 lf, .int .i64 p] #[.int .i64 k, .int .i64 cl, .int .i64 b, .int .i64 tt, .int .i64 d, .int .i64 lf, .int .i64 p, .int .i64 (x4 : Int), .int .u64 (x6 : Int), .slice none 0 0, .slice none 0 0, .int .i64 (sI x8), .int .i64 (x10 : Int), .slice none 0 0] [uRow (.slice (some ⟨gl, 0, none⟩) 3 lc) [x6, x8, x10], zRow (.slice (some ⟨gu + 1, 0, none⟩) 3 3)] w wd))
        case first =>
          go_region_held3 (fun W => W.cell? ⟨gl, 1, none⟩ = some (.int .u64 (x8 : Int)) ∧ W.cell? ⟨gl, 2, none⟩ = some (.int .u64 (x10 : Int))) (go_keep) (fail)
          all_goals
            go_wp2
            go_meet
            case rel => exact Lib.hid (((HS6.out).set 11 _).set 12 _).drew
        case rest =>
          have HS11 := Lib.hid (hcut.out.tail.tail)
          clear hcut s1 s2 f1 f2 f3 f4 HS6 w8 w10 hns hns2 hglB
          obtain ⟨i0, hi0, hz0, hz1, hz2⟩ := info_parts info_f64
          obtain ⟨i1, hi1, hy0, hy1, hy2⟩ := info_parts info_fs
          obtain ⟨i2, hi2, hv0, hv1, hv2⟩ := info_parts info_sg
          have KCU := Lib.hid (fun es A cap w hr hl => rcuts28_any b es A cap w hr hl)
          obtain ⟨R, hR⟩ : ∃ R, colsA b (x10 : Int) x4 [] [] (l.drop oz) = R := ⟨_, rfl⟩
          have HRR := Lib.hid hR
          have HCE : Hid (∀ e, R = .error e → getF l = .error e) := Lib.hid (fun e h => getF_err (by unfold getP; rw [bind_ok HP1.out, if_neg (by decide)]; rw [bind_ok HP2.out]; rw [bind_ok HP4.out]; rw [if_neg HC0.out.1, if_neg HC0.out.2]; rw [bind_ok HP6.out, bind_ok HP8.out, bind_ok HP10.out]; rw [HH.out.2.1]; exact bind_err (hR.trans h)))
          clear hR
          have q7 := HS11.out.kF.cell 7
          go_wp2_with fail
          clear q7
          go_loopw [8, 17] (fun av iv wr => ∃ (j o : Nat) (Ae As : Option Addr) (ce cs : Nat) (I : List (Value × List Nat)) (S : List (Int × Int)), j ≤ x4 ∧ iv = .int .i64 j ∧ av = .int .i64 o ∧ o ≤ n ∧ Hid (S28 g0 g1 gc g3 #[.int .i64 k, .int .i64 cl, .int .i64 b, .int .i64 tt, .int .i64 d, .int .i64 lf, .int .i64 p] #[.int .i64 k, .int .i64 cl, .int .i64 b, .int .i64 tt, .int .i64 d, .int .i64 lf, .int .i64 p, .int .i64 (x4 : Int), .int .u64 (x6 : Int), .slice Ae j ce, .slice none 0 0, .int .i64 (sI x8), .int .i64 (x10 : Int), .slice As j cs] (esRow (.slice Ae j ce) I :: sgRow (.slice As j cs) S :: I.map eRow) w wr) ∧ Hid (I.length = j ∧ S.length = j ∧ (∀ p ∈ I, ∃ a c, p.1 = .slice a p.2.length c) ∧ (∀ p ∈ I, p.2.length ≤ 255 ∧ ∀ x ∈ p.2, x < 18446744073709551616) ∧ ∀ x ∈ S, in64 x.1 ∧ in64 x.2) ∧ Hid (colsA b (x10 : Int) (x4 - j) (I.map Prod.snd) S (l.drop o) = R)) (fun _ iv _ => x4 - (intOf iv).toNat)
          case atStart => exact ⟨0, oz, none, none, 0, 0, [], [], Nat.zero_le _, rfl, rfl, hoz, Lib.hid ((HS11.out.empty _ _).empty _ _), Lib.hid ⟨rfl, rfl, by simp, by simp, by simp⟩, HRR⟩
          case round =>
            obtain ⟨j, o, Ae, As, ce, cs, I, S, hj, rfl, rfl, hon, HS19, HI, HNO⟩ := hrel
            clear HS11
            have q7 := HS19.out.kF.cell 7
            by_cases hlt : j < x4
            · have hlt' : (j : Int) < x4 := by omega
              have HSR : Hid (R = bindP (numP 1) (fun m => bindP (valsA m []) fun es => if cutsE b es then bindP (numP 8) fun x => colsA b (x10 : Int) (x4 - (j + 1)) (I.map Prod.snd ++ [es]) (S ++ [(sI x, (x10 : Int))]) else failP 3) (l.drop o)) := Lib.hid (by rw [← HNO.out, show x4 - j = (x4 - (j + 1)) + 1 from by omega]; rfl)
              clear HNO
              by_cases hh : n < o + 1
              · have HE2 := Lib.hid (HOUT.out o 1 hh (by omega))
                have KX := Lib.hid (fun w => KN.out o 1 (o : Int) 1 rfl rfl (by omega) (by omega) hh w)
                clear hh
                go_wp2_with fail
                refine (KX.out _).mono ?_
                rintro e we ⟨rfl, rfl⟩
                have k0 := HS19.out.k0
                have k1 := HS19.out.k1
                go_wp2_with (first | (refine wpList_load_row rfl 59 (.tmp 4) rfl g1 rfl 59 _ (0, 0) _ k1 Try.underlying59 rfl forest_sz ?_) | (refine wpList_store_row rfl 59 (.tmp 2) (.tmp 123) rfl g0 rfl 59 _ Z14 rfl k0 forest_sz rfl honeZ ?_))
                exact bodyPost_ret (results_ct rfl _ _ g0 59 Z14 _ rfl k0.row Try.underlying59 rfl forest_sz) rfl ⟨by rw [HSZ.out]; exact below_row0 HS19.out.be (Nat.le_refl _), .inr ⟨2, HCE.out 2 (HSR.out.trans (bind_err HE2.out)), by decide, rfl⟩⟩
              have HE20 := Lib.hid (HAT.out o 1 (by omega))
              have KX := Lib.hid (fun w => KY.out o 1 (o : Int) 1 rfl rfl (by omega) (by omega) w)
              have hxl := HNB.out o 1
              obtain ⟨x20, hxx⟩ : ∃ x, numB ((l.drop o).take 1) = x := ⟨_, rfl⟩
              rw [hxx] at HE20 KX hxl
              have hx20 : x20 < 256 := Nat.lt_of_lt_of_le hxl (by decide)
              obtain ⟨o20, hoo⟩ : ∃ z, o + 1 = z := ⟨_, rfl⟩
              rw [hoo] at HE20 KX
              have ho20 : o20 ≤ n := by omega
              clear hh hxl hxx hoo
              go_wp2_with fail
              refine (KX.out _).mono ?_
              rintro e we ⟨rfl, rfl⟩
              clear KX
              have HS20 : Hid (R = bindP (valsA x20 []) (fun es => if cutsE b es then bindP (numP 8) fun x => colsA b (x10 : Int) (x4 - (j + 1)) (I.map Prod.snd ++ [es]) (S ++ [(sI x, (x10 : Int))]) else failP 3) (l.drop o20)) := Lib.hid (by rw [HSR.out, bind_ok HE20.out])
              clear HSR HE20 q7
              obtain ⟨R2, hR2⟩ : ∃ R, valsA x20 [] (l.drop o20) = R := ⟨_, rfl⟩
              have HRR2 := Lib.hid hR2
              clear hR2
              obtain ⟨LR, hLR⟩ : ∃ L, (esRow (.slice Ae j ce) I :: sgRow (.slice As j cs) S :: I.map eRow) = L := ⟨_, rfl⟩
              rw [hLR] at HS19
              have HLR := Lib.hid hLR
              clear hLR
              have hwx : IntKind.i64.wrap (x20 : Int) = (x20 : Int) := by rw [IntKind.wrap_i64]; omega
              go_wp2_with fail
              have hoE := World.ownsRow_made we (e := 139) (size := 1) #[] 0 (Nat.le_refl _) (Nat.zero_le _) rfl
              have hbE : Below we.heap.size we (we.alloc (.cells #[] 139)) := (Below.refl _ _).alloc (Nat.le_refl _) _
              have HS21 := Lib.hid (HS19.out.new (r := ⟨.slice (some ⟨we.heap.size, 0, none⟩) 0 0, 139, 1, 0, flts []⟩) hbE hoE)
              obtain ⟨W21, hW21⟩ : ∃ W, we.alloc (.cells #[] 139) = W := ⟨_, rfl⟩
              rw [hW21] at HS21 ⊢
              clear hoE hbE hW21
              go_loopw [8, 21, 22] (fun av o iv wv => ∃ (i ov : Nat) (a : Option Addr) (c : Nat) (out : List Nat), i ≤ x20 ∧ iv = .int .i64 i ∧ o = .slice a i c ∧ av = .int .i64 ov ∧ ov ≤ n ∧ Hid (out.length = i ∧ ∀ x ∈ out, x < 18446744073709551616) ∧ Hid (S28 g0 g1 gc g3 #[.int .i64 k, .int .i64 cl, .int .i64 b, .int .i64 tt, .int .i64 d, .int .i64 lf, .int .i64 p] #[.int .i64 k, .int .i64 cl, .int .i64 b, .int .i64 tt, .int .i64 d, .int .i64 lf, .int .i64 p, .int .i64 (x4 : Int), .int .u64 (x6 : Int), .slice Ae j ce, .slice none 0 0, .int .i64 (sI x8), .int .i64 (x10 : Int), .slice As j cs] (⟨.slice a i c, 139, 1, i, flts out⟩ :: LR) w wv) ∧ Hid (valsA (x20 - i) out (l.drop ov) = R2)) (fun _ _ iv _ => x20 - (intOf iv).toNat)
              case atStart => exact ⟨0, o20, _, 0, [], Nat.zero_le _, rfl, rfl, rfl, ho20, Lib.hid ⟨rfl, by simp⟩, HS21, HRR2⟩
              case round =>
                obtain ⟨i, ov, a, c, out, hi, rfl, rfl, rfl, hov, HV, HS29, HNO⟩ := hrel
                clear HS21
                by_cases hlt2 : i < x20
                · have hlt2' : (i : Int) < x20 := by omega
                  have HSV : Hid (R2 = bindP (numP 8) (fun x => valsA (x20 - (i + 1)) (out ++ [x])) (l.drop ov)) := Lib.hid (by rw [← HNO.out, show x20 - i = (x20 - (i + 1)) + 1 from by omega]; rfl)
                  clear HNO
                  by_cases hh : n < ov + 8
                  · have HE2 := Lib.hid (HOUT.out ov 8 hh (by omega))
                    have KX := Lib.hid (fun w => KN.out ov 8 (ov : Int) 8 rfl rfl (by omega) (by omega) hh w)
                    clear hh
                    go_wp2_with fail
                    refine (KX.out _).mono ?_
                    rintro e we ⟨rfl, rfl⟩
                    have k0 := HS29.out.k0
                    have k1 := HS29.out.k1
                    go_wp2_with (first | (refine wpList_load_row rfl 59 (.tmp 4) rfl g1 rfl 59 _ (0, 0) _ k1 Try.underlying59 rfl forest_sz ?_) | (refine wpList_store_row rfl 59 (.tmp 2) (.tmp 141) rfl g0 rfl 59 _ Z14 rfl k0 forest_sz rfl honeZ ?_))
                    exact bodyPost_ret (results_ct rfl _ _ g0 59 Z14 _ rfl k0.row Try.underlying59 rfl forest_sz) rfl ⟨by rw [HSZ.out]; exact below_row0 HS29.out.be (Nat.le_refl _), .inr ⟨2, HCE.out 2 (HS20.out.trans (bind_err (HRR2.out.trans (HSV.out.trans (bind_err HE2.out))))), by decide, rfl⟩⟩
                  have HE30 := Lib.hid (HAT.out ov 8 (by omega))
                  have KX := Lib.hid (fun w => KY.out ov 8 (ov : Int) 8 rfl rfl (by omega) (by omega) w)
                  have hxl := HNB.out ov 8
                  obtain ⟨x30, hxx⟩ : ∃ x, numB ((l.drop ov).take 8) = x := ⟨_, rfl⟩
                  rw [hxx] at HE30 KX hxl
                  have hx30 : x30 < 18446744073709551616 := Nat.lt_of_lt_of_le hxl (by decide)
                  obtain ⟨o30, hoo⟩ : ∃ z, ov + 8 = z := ⟨_, rfl⟩
                  rw [hoo] at HE30 KX
                  have ho30 : o30 ≤ n := by omega
                  clear hh hxl hxx hoo
                  go_wp2_with fail
                  refine (KX.out _).mono ?_
                  rintro e we ⟨rfl, rfl⟩
                  clear KX
                  have HSV2 : Hid (valsA (x20 - (i + 1)) (out ++ [x30]) (l.drop o30) = R2) := Lib.hid (by rw [HSV.out, bind_ok HE30.out])
                  have HOW := Lib.hid (HS29.out.ro.own _ (List.mem_cons_self ..))
                  have hl30 := HS29.out.kF.lt
                  have hff := f64from_run x30
                  go_wp2_with (at_builtin; refine wpList_append_lies _ rfl _ _ 94 rfl (g3 + 1) 139 i0 (.float .f64 0) 1 8 Try.underlying94 hi0 hz0 hz1 hz2 rfl (by decide) (.slice a i c) i (flts out) rfl (HOW.out.alloc _) ⟨we.heap.size, 0, none⟩ 1 1 [.float .f64 x30] rfl rfl (cell_one_new _ _ _) (by simp [Value.oneCell']) (by decide) (by unfold maxLen; omega) (by omega) (by simp; omega) _ rfl ?_; intro g5 c5 w5 hown5 hg5 hat5 hlt5)
                  have HS30 := Lib.hid ((HS29.out.below ((Below.refl we.heap.size we).alloc (Nat.le_refl _) (.cells #[.float .f64 x30] 139))).grow (r1 := ⟨.slice (some ⟨g5, 0, none⟩) (i + 1) c5, 139, 1, i + 1, flts (out ++ [x30])⟩) hg5 (by rw [show flts (out ++ [x30]) = flts out ++ [.float .f64 x30] from by unfold flts; rw [List.map_append]; rfl]; exact hown5) (fun q e => by simp only [Value.ownBlock, Option.some.injEq] at e; subst e; exact hat5))
                  clear hown5 hg5 hat5 hlt5
                  go_roundw
                  case rel => exact ⟨i + 1, o30, _, c5, out ++ [x30], hlt2, by go_num, rfl, rfl, ho30, Lib.hid ⟨by rw [List.length_append, HV.out.1]; rfl, fun x hx => by
                    rcases List.mem_append.1 hx with hx | hx
                    · exact HV.out.2 x hx
                    · simp only [List.mem_singleton] at hx; subst hx; exact hx30⟩, HS30, HSV2⟩
                  case measure => simp [intOf]; omega
                · obtain rfl : x20 = i := by omega
                  have HS29R : Hid (R = (if cutsE b out then bindP (numP 8) fun x => colsA b (x10 : Int) (x4 - (j + 1)) (I.map Prod.snd ++ [out]) (S ++ [(sI x, (x10 : Int))]) else failP 3) (l.drop ov)) := Lib.hid (by rw [HS20.out, bind_ok (HRR2.out.trans (by rw [← HNO.out, Nat.sub_self]; rfl))])
                  have HOW := Lib.hid (HS29.out.ro.own _ (List.mem_cons_self ..))
                  have KCX := Lib.hid (KCU.out out a c wr (RF.own (by have := HOW.out; simp only at this; rw [← HV.out.1] at this; exact this) HV.out.2) (by rw [HV.out.1]; omega))
                  rw [HV.out.1] at KCX
                  have c2 := HS29.out.kC.cell 2
                  clear HS20 HRR2 HNO
                  obtain ⟨ct, hct⟩ : ∃ z, cutsE b out = z := ⟨_, rfl⟩
                  rw [hct] at KCX
                  have HCT := Lib.hid hct
                  clear hct
                  go_wp2_with fail
                  refine KCX.out.mono ?_
                  rintro e w31 ⟨rfl, hb⟩
                  have HS31 := Lib.hid (HS29.out.below hb)
                  clear hb c2 HS29 HOW KCX
                  cases ct with
                  | false =>
                    have k0 := HS31.out.k0
                    have k1 := HS31.out.k1
                    go_wp2_with (first | (refine wpList_load_row rfl 59 (.tmp 4) rfl g1 rfl 59 _ (0, 0) _ k1 Try.underlying59 rfl forest_sz ?_) | (refine wpList_store_row rfl 59 (.tmp 2) (.tmp 153) rfl g0 rfl 59 _ Z14 rfl k0 forest_sz rfl honeZ ?_))
                    exact bodyPost_ret (results_ct rfl _ _ g0 59 Z14 _ rfl k0.row Try.underlying59 rfl forest_sz) rfl ⟨by rw [HSZ.out]; exact below_row0 HS31.out.be (Nat.le_refl _), .inr ⟨3, HCE.out 3 (HS29R.out.trans (by rw [if_neg (by rw [HCT.out]; decide)]; rfl)), by decide, rfl⟩⟩
                  | true =>
                    have HSX : Hid (R = bindP (numP 8) (fun x => colsA b (x10 : Int) (x4 - (j + 1)) (I.map Prod.snd ++ [out]) (S ++ [(sI x, (x10 : Int))])) (l.drop ov)) := Lib.hid (by rw [HS29R.out, if_pos HCT.out])
                    clear HS29R
                    by_cases hh : n < ov + 8
                    · have HE2 := Lib.hid (HOUT.out ov 8 hh (by omega))
                      have KX := Lib.hid (fun w => KN.out ov 8 (ov : Int) 8 rfl rfl (by omega) (by omega) hh w)
                      clear hh
                      go_wp2_with fail
                      refine (KX.out _).mono ?_
                      rintro e we ⟨rfl, rfl⟩
                      have k0 := HS31.out.k0
                      have k1 := HS31.out.k1
                      go_wp2_with (first | (refine wpList_load_row rfl 59 (.tmp 4) rfl g1 rfl 59 _ (0, 0) _ k1 Try.underlying59 rfl forest_sz ?_) | (refine wpList_store_row rfl 59 (.tmp 2) (.tmp 163) rfl g0 rfl 59 _ Z14 rfl k0 forest_sz rfl honeZ ?_))
                      exact bodyPost_ret (results_ct rfl _ _ g0 59 Z14 _ rfl k0.row Try.underlying59 rfl forest_sz) rfl ⟨by rw [HSZ.out]; exact below_row0 HS31.out.be (Nat.le_refl _), .inr ⟨2, HCE.out 2 (HSX.out.trans (bind_err HE2.out)), by decide, rfl⟩⟩
                    have HE40 := Lib.hid (HAT.out ov 8 (by omega))
                    have KX := Lib.hid (fun w => KY.out ov 8 (ov : Int) 8 rfl rfl (by omega) (by omega) w)
                    have hxl := HNB.out ov 8
                    obtain ⟨x40, hxx⟩ : ∃ x, numB ((l.drop ov).take 8) = x := ⟨_, rfl⟩
                    rw [hxx] at HE40 KX hxl
                    have hx40 : x40 < 18446744073709551616 := Nat.lt_of_lt_of_le hxl (by decide)
                    obtain ⟨o40, hoo⟩ : ∃ z, ov + 8 = z := ⟨_, rfl⟩
                    rw [hoo] at HE40 KX
                    have ho40 : o40 ≤ n := by omega
                    clear hh hxl hxx hoo
                    go_wp2_with fail
                    refine (KX.out _).mono ?_
                    rintro e we ⟨rfl, rfl⟩
                    clear KX
                    have HP40 : Hid (R = colsA b (x10 : Int) (x4 - (j + 1)) (I.map Prod.snd ++ [out]) (S ++ [(sI x40, (x10 : Int))]) (l.drop o40)) := Lib.hid (by rw [HSX.out, bind_ok HE40.out])
                    rw [← HLR.out] at HS31
                    have HS32 := Lib.hid (HS31.out.perm (List.Perm.swap _ _ _))
                    have HOW := Lib.hid (HS32.out.ro.own _ (List.mem_cons_self ..))
                    have hl31 := HS31.out.kF.lt
                    have HOW2 : Hid (we.ownsRow (g3 + 1) 94 1 (.slice Ae j ce) j (I.map Prod.fst)) := Lib.hid (by have := HOW.out; simp only [esRow] at this; rw [HI.out.1] at this; exact this)
                    have q9 := HS31.out.kF.cell 9
                    clear HSX HE40
                    go_upto_region 52 with (at_builtin; refine wpList_append_lies _ rfl _ _ 57 rfl (g3 + 1) 94 i1 (.slice none 0 0) 1 24 Try.underlying57 hi1 hy0 hy1 hy2 rfl (by decide) (.slice Ae j ce) j (I.map Prod.fst) rfl (HOW2.out.alloc _) ⟨we.heap.size, 0, none⟩ 1 1 [.slice a x20 c] rfl rfl (cell_one_new _ _ _) (by simp [Value.oneCell']) (by decide) (by unfold maxLen; omega) (by omega) (by simp; omega) _ rfl ?_; intro g5 c5 w5 hown5 hg5 hat5 hlt5; have HS33 := Lib.hid ((HS32.out.below ((Below.refl we.heap.size we).alloc (Nat.le_refl _) (.cells #[.slice a x20 c] 94))).grow (r1 := esRow (.slice (some ⟨g5, 0, none⟩) (j + 1) c5) (I ++ [(.slice a x20 c, out)])) hg5 (by simp only [esRow]; rw [List.length_append, HI.out.1, List.map_append]; exact hown5) (fun q e => by simp only [esRow, Value.ownBlock, Option.some.injEq] at e; subst e; exact hat5)); have f0 := HS33.out.kF.cell 9; have f1 := fun i => HS33.out.kF.frozen i; have f2 := HS33.out.kF.lt)
                    have h9 := HS33.out.set 9 (.slice (some ⟨g5, 0, none⟩) (j + 1) c5)
                    have h9b : S28 g0 g1 gc g3 #[.int .i64 k, .int .i64 cl, .int .i64 b, .int .i64 tt, .int .i64 d, .int .i64 lf, .int .i64 p] #[.int .i64 k, .int .i64 cl, .int .i64 b, .int .i64 tt, .int .i64 d, .int .i64 lf, .int .i64 p, .int .i64 (x4 : Int), .int .u64 (x6 : Int), .slice (some ⟨g5, 0, none⟩) (j + 1) c5, .slice none 0 0, .int .i64 (sI x8), .int .i64 (x10 : Int), .slice As j cs] _ w _ := h9
                    have HS34 := Lib.hid (h9b.perm ((List.Perm.cons _ (List.Perm.swap _ _ _)).trans (List.Perm.swap _ _ _)))
                    clear h9 h9b
                    obtain ⟨W34, hW34⟩ : ∃ W, w5.setCell ⟨g3, 9, none⟩ (.slice (some ⟨g5, 0, none⟩) (j + 1) c5) = W := ⟨_, rfl⟩
                    rw [hW34] at HS34 ⊢
                    clear hW34 f0 f1 f2 q9 hown5 hg5 hat5 hlt5 HS33 HS32 HS31 HOW HOW2 hl31
                    have HOW := Lib.hid (HS34.out.ro.own _ (List.mem_cons_self ..))
                    have hl34 := HS34.out.kF.lt
                    have HOW2 : Hid (W34.ownsRow (g3 + 1) 49 2 (.slice As j cs) j (S.flatMap sgC)) := Lib.hid (by have := HOW.out; simp only [sgRow] at this; rw [HI.out.2.1] at this; exact this)
                    have q13 := HS34.out.kF.cell 13
                    have q12 := HS34.out.kF.cell 12
                    have hwx4 : IntKind.i64.wrap (x40 : Int) = sI x40 := rfl
                    have hAS : Below W34.heap.size W34 (W34.alloc (.cells #[.int .i64 (sI x40), .int .i64 (x10 : Int)] 49)) := (Below.refl _ _).alloc (Nat.le_refl _) _
                    go_upto_region 31 with (at_builtin; refine wpList_append_lies _ rfl _ _ 50 rfl (g3 + 1) 49 i2 (.agg #[.int .i64 0, .int .i64 0]) 2 16 Try.underlying50 hi2 hv0 hv1 hv2 rfl (by decide) (.slice As j cs) j (S.flatMap sgC) rfl (HOW2.out.alloc _) ⟨W34.heap.size, 0, none⟩ 1 1 [.int .i64 (sI x40), .int .i64 (x10 : Int)] rfl rfl (World.news_of_block (show _ from Blk.new W34 #[.int .i64 (sI x40), .int .i64 (x10 : Int)] 49)) (by simp [Value.oneCell']) (by decide) (by unfold maxLen; omega) (by omega) (by simp; omega) _ rfl ?_; intro g7 c7 w7 hown7 hg7 hat7 hlt7; have HS35 := Lib.hid ((HS34.out.below hAS).grow (r1 := sgRow (.slice (some ⟨g7, 0, none⟩) (j + 1) c7) (S ++ [(sI x40, (x10 : Int))])) hg7 (by simp only [sgRow]; rw [List.length_append, HI.out.2.1, List.flatMap_append]; exact hown7) (fun q e => by simp only [sgRow, Value.ownBlock, Option.some.injEq] at e; subst e; exact hat7)); have f0 := HS35.out.kF.cell 13; have f1 := fun i => HS35.out.kF.frozen i; have f2 := HS35.out.kF.lt)
                    have HPM : Hid (∀ {r1 r2 : ORow}, (r1 :: r2 :: ⟨Value.slice a x20 c, 139, 1, x20, flts out⟩ :: I.map eRow).Perm (r2 :: r1 :: (I ++ [(Value.slice a x20 c, out)]).map eRow)) := Lib.hid (by
                      have hl : eRow (Value.slice a x20 c, out) = ⟨Value.slice a x20 c, 139, 1, x20, flts out⟩ := by unfold eRow; rw [HV.out.1]
                      rw [← hl, List.map_append]
                      exact (List.Perm.swap _ _ _).trans (List.Perm.cons _ (List.Perm.cons _ (List.perm_append_singleton _ _).symm)))
                    have h9 := HS35.out.set 13 (.slice (some ⟨g7, 0, none⟩) (j + 1) c7)
                    have h9b : S28 g0 g1 gc g3 #[.int .i64 k, .int .i64 cl, .int .i64 b, .int .i64 tt, .int .i64 d, .int .i64 lf, .int .i64 p] #[.int .i64 k, .int .i64 cl, .int .i64 b, .int .i64 tt, .int .i64 d, .int .i64 lf, .int .i64 p, .int .i64 (x4 : Int), .int .u64 (x6 : Int), .slice (some ⟨g5, 0, none⟩) (j + 1) c5, .slice none 0 0, .int .i64 (sI x8), .int .i64 (x10 : Int), .slice (some ⟨g7, 0, none⟩) (j + 1) c7] _ w _ := h9
                    have HS36 := Lib.hid (h9b.perm HPM.out)
                    clear h9 h9b
                    clear f0 f1 f2 q13 q12 hown7 hg7 hat7 hlt7 hAS
                    have HP41 : Hid (colsA b (x10 : Int) (x4 - (j + 1)) ((I ++ [(Value.slice a x20 c, out)]).map Prod.snd) (S ++ [(sI x40, (x10 : Int))]) (l.drop o40) = R) := Lib.hid (by rw [List.map_append]; exact HP40.out.symm)
                    have HFI2 : Hid ((I ++ [(Value.slice a x20 c, out)]).length = j + 1 ∧ (S ++ [(sI x40, (x10 : Int))]).length = j + 1 ∧ (∀ p ∈ I ++ [(Value.slice a x20 c, out)], ∃ a c, p.1 = .slice a p.2.length c) ∧ (∀ p ∈ I ++ [(Value.slice a x20 c, out)], p.2.length ≤ 255 ∧ ∀ x ∈ p.2, x < 18446744073709551616) ∧ ∀ x ∈ S ++ [(sI x40, (x10 : Int))], in64 x.1 ∧ in64 x.2) := Lib.hid (by
                      obtain ⟨a1, a2, a3, a4, a5⟩ := HI.out
                      refine ⟨by rw [List.length_append, a1]; rfl, by rw [List.length_append, a2]; rfl, fun p hp => ?_, fun p hp => ?_, fun y hy => ?_⟩
                      · rcases List.mem_append.1 hp with hp | hp
                        · exact a3 p hp
                        · simp only [List.mem_singleton] at hp; subst hp; exact ⟨a, c, by simp only; rw [HV.out.1]⟩
                      · rcases List.mem_append.1 hp with hp | hp
                        · exact a4 p hp
                        · simp only [List.mem_singleton] at hp; subst hp; exact ⟨by simp only; rw [HV.out.1]; omega, HV.out.2⟩
                      · rcases List.mem_append.1 hy with hy | hy
                        · exact a5 y hy
                        · simp only [List.mem_singleton] at hy; subst hy; exact ⟨sI_in _, by have := HX10.out; unfold in64; simp only; omega⟩)
                    go_wp2_with fail
                    go_roundw
                    case rel =>
                      refine ⟨j + 1, o40, some ⟨g5, 0, none⟩, some ⟨g7, 0, none⟩, c5, c7, I ++ [(Value.slice a x20 c, out)], S ++ [(sI x40, (x10 : Int))], hlt, ?_, ?_, ho40, ?_, ?_, ?_⟩
                      · go_num
                      · first | rfl | go_num
                      · exact HS36
                      · exact HFI2
                      · exact HP41
                    case measure => simp [intOf]; omega
            · obtain rfl : x4 = j := by omega
              have HRE : Hid (colsA b (x10 : Int) x4 [] [] (l.drop oz) = .ok ((I.map Prod.snd, S), l.drop o)) := Lib.hid (by rw [HRR.out, ← HNO.out, Nat.sub_self]; rfl)
              have hck := (chk_is (cfg_ok HP2.out)).t
              rw [HH.out.2.2] at hck
              obtain ⟨tn, htn⟩ : ∃ n : Nat, (n : Int) = tt := ⟨tt.toNat, by omega⟩
              have htl : tn ≤ 4096 := by omega
              obtain ⟨i3, hi3, ha0, ha1, ha2⟩ := info_parts info_ns
              have HTN : Hid (tt.toNat = tn) := Lib.hid (by omega)
              subst htn
              obtain ⟨R3, hR3⟩ : ∃ R, treesA (⟨k, cl, b, (tn : Int), d, lf, p, (x4 : Int), x6, [], [], sI x8, (x10 : Int), []⟩ : Fst) tn [] (l.drop o) = R := ⟨_, rfl⟩
              have HRR3 := Lib.hid hR3
              have HTE : Hid (∀ e, R3 = .error e → getF l = .error e) := Lib.hid (fun e h => getF_err (by unfold getP; rw [bind_ok HP1.out, if_neg (by decide)]; rw [bind_ok HP2.out]; rw [bind_ok HP4.out]; rw [if_neg HC0.out.1, if_neg HC0.out.2]; rw [bind_ok HP6.out, bind_ok HP8.out, bind_ok HP10.out]; rw [HH.out.2.1, bind_ok HRE.out, HH.out.2.2, HH.out.1, HTN.out]; exact bind_err (hR3.trans h)))
              have HTO : Hid (∀ T r, R3 = .ok (T, r) → getP l = if mayF (⟨k, cl, b, (tn : Int), d, lf, p, (x4 : Int), x6, I.map Prod.snd, T, sI x8, (x10 : Int), S⟩ : Fst) then .ok ((⟨k, cl, b, (tn : Int), d, lf, p, (x4 : Int), x6, I.map Prod.snd, T, sI x8, (x10 : Int), S⟩ : Fst), r) else .error 3) := Lib.hid (fun T r h => by unfold getP; rw [bind_ok HP1.out, if_neg (by decide)]; rw [bind_ok HP2.out]; rw [bind_ok HP4.out]; rw [if_neg HC0.out.1, if_neg HC0.out.2]; rw [bind_ok HP6.out, bind_ok HP8.out, bind_ok HP10.out]; rw [HH.out.2.1, bind_ok HRE.out, HH.out.2.2, HH.out.1, HTN.out, bind_ok (hR3.trans h)]; split <;> rfl)
              clear hR3 hck HRR HNO HCE q7
              obtain ⟨LR, hLR⟩ : ∃ L, (esRow (.slice Ae x4 ce) I :: sgRow (.slice As x4 cs) S :: I.map eRow) = L := ⟨_, rfl⟩
              rw [hLR] at HS19
              have HLR := Lib.hid hLR
              clear hLR
              have q7 := HS19.out.kF.cell 7
              go_wp2_with fail
              clear q7
              go_loopw [8, 27] (fun av iv wr => ∃ (j o : Nat) (At : Option Addr) (ct : Nat) (J : List (Value × List Nd)), j ≤ tn ∧ iv = .int .i64 j ∧ av = .int .i64 o ∧ o ≤ n ∧ Hid (S28 g0 g1 gc g3 #[.int .i64 k, .int .i64 cl, .int .i64 b, .int .i64 (tn : Int), .int .i64 d, .int .i64 lf, .int .i64 p] #[.int .i64 k, .int .i64 cl, .int .i64 b, .int .i64 (tn : Int), .int .i64 d, .int .i64 lf, .int .i64 p, .int .i64 (x4 : Int), .int .u64 (x6 : Int), .slice Ae x4 ce, .slice At j ct, .int .i64 (sI x8), .int .i64 (x10 : Int), .slice As x4 cs] (tsRow (.slice At j ct) J :: (J.map tRow ++ LR)) w wr) ∧ Hid (J.length = j ∧ (∀ p ∈ J, ∃ a c, p.1 = Value.slice a p.2.length c) ∧ ∀ p ∈ J, (∀ x ∈ p.2, x.ok) ∧ p.2.length ≤ 4194304) ∧ Hid (treesA (⟨k, cl, b, (tn : Int), d, lf, p, (x4 : Int), x6, [], [], sI x8, (x10 : Int), []⟩ : Fst) (tn - j) (J.map Prod.snd) (l.drop o) = R3)) (fun _ iv _ => tn - (intOf iv).toNat)
              case atStart => exact ⟨0, o, none, 0, [], Nat.zero_le _, rfl, rfl, hon, Lib.hid (HS19.out.empty _ _), Lib.hid ⟨rfl, by simp, by simp⟩, HRR3⟩
              case round =>
                obtain ⟨j, o, At, ct, J, hj3, rfl, rfl, hon, HS59, HJ, HNO⟩ := hrel
                clear HS19
                have hfa : forA (⟨k, cl, b, (tn : Int), d, lf, p, (x4 : Int), x6, I.map Prod.snd, J.map Prod.snd, sI x8, (x10 : Int), S⟩ : Fst) Ae At As ce ct cs = #[.int .i64 k, .int .i64 cl, .int .i64 b, .int .i64 (tn : Int), .int .i64 d, .int .i64 lf, .int .i64 p, .int .i64 (x4 : Int), .int .u64 (x6 : Int), .slice Ae x4 ce, .slice At j ct, .int .i64 (sI x8), .int .i64 (x10 : Int), .slice As x4 cs] := by unfold forA; simp only [List.length_map]; rw [HI.out.1, HI.out.2.1, HJ.out.1]
                obtain ⟨fj, hfj⟩ : ∃ f, (⟨k, cl, b, (tn : Int), d, lf, p, (x4 : Int), x6, I.map Prod.snd, J.map Prod.snd, sI x8, (x10 : Int), S⟩ : Fst) = f := ⟨_, rfl⟩
                rw [hfj] at hfa
                have HFJ := Lib.hid hfj
                have c0 := HS59.out.kC.cell 0
                have c1 := HS59.out.kC.cell 1
                have c2 := HS59.out.kC.cell 2
                have c3 := HS59.out.kC.cell 3
                have c4 := HS59.out.kC.cell 4
                have q7 := HS59.out.kF.cell 7
                by_cases hlt3 : j < tn
                · have hlt3' : (j : Int) < tn := by omega
                  have HSR : Hid (R3 = bindP (treeP (x4 : Int) b k cl) (fun t => if treeE fj t then treesA (⟨k, cl, b, (tn : Int), d, lf, p, (x4 : Int), x6, [], [], sI x8, (x10 : Int), []⟩ : Fst) (tn - (j + 1)) (J.map Prod.snd ++ [t]) else failP 3) (l.drop o)) := Lib.hid (by rw [← HNO.out, show tn - j = (tn - (j + 1)) + 1 from by omega, ← HFJ.out]; rfl)
                  have HTT : Hid (∀ t, treeE fj t = (rightT (x4 : Int) b k cl t && decide (depO t ≤ d))) := Lib.hid (fun t => by rw [← HFJ.out]; rfl)
                  clear hfj HNO hfa
                  go_wp2_with fail
                  refine (KT.out (x4 : Int) b k cl o hon _).mono ?_
                  rintro e w61 ⟨hb, ⟨t, o2, a, c, hp, ho2, rfl, ho, hok, hlen⟩ | ⟨er, hp, her, rfl⟩⟩
                  rotate_left
                  · have HS61 := Lib.hid (HS59.out.below hb)
                    have HEE : Hid (getF l = .error er) := Lib.hid (HTE.out er (HSR.out.trans (bind_err hp)))
                    have HER := Lib.hid her
                    have e1 : ((er : Int) == 0) = false := beq_eq_false_iff_ne.2 her
                    have e2 : ((er : Int) != 0) = true := bne_iff_ne.2 her
                    clear hb hp her c0 c1 c2 c3 c4 q7
                    have k0 := HS61.out.k0
                    have k1 := HS61.out.k1
                    go_wp2_with (first | (refine wpList_load_row rfl 59 (.tmp 4) rfl g1 rfl 59 _ (0, 0) _ k1 Try.underlying59 rfl forest_sz ?_) | (refine wpList_store_row rfl 59 (.tmp 2) (.tmp 205) rfl g0 rfl 59 _ Z14 rfl k0 forest_sz rfl honeZ ?_))
                    exact bodyPost_ret (results_ct rfl _ _ g0 59 Z14 _ rfl k0.row Try.underlying59 rfl forest_sz) rfl ⟨by rw [HSZ.out]; exact below_row0 HS61.out.be (Nat.le_refl _), .inr ⟨er, HEE.out, HER.out, rfl⟩⟩
                  rw [HN.out] at ho2
                  have hl59 := HS59.out.kF.lt
                  obtain ⟨m, hm⟩ : ∃ n, t.length = n := ⟨_, rfl⟩
                  have HTOK := Lib.hid (And.intro hok (And.intro hlen hm))
                  have HRN := Lib.hid (RN.own ho hok)
                  have HOT : Hid (w61.ownsRow wr.heap.size 90 6 (.slice a m c) m (t.flatMap ndC)) := Lib.hid (by rw [← hm]; exact ho)
                  have HS61 := Lib.hid (HS59.out.new (r := ⟨.slice a m c, 90, 6, m, t.flatMap ndC⟩) hb HOT.out)
                  have hrt : rightT (x4 : Int) b k cl t = true := by
                    unfold treeP at hp
                    cases hr : rightT (x4 : Int) b k cl t with
                    | true => rfl
                    | false => exact absurd hp (tree_no hr)
                  have hdo : depO t = deepO t := dep_deep hrt
                  have HSQ2 : Hid (R3 = (if treeE fj t then treesA (⟨k, cl, b, (tn : Int), d, lf, p, (x4 : Int), x6, [], [], sI x8, (x10 : Int), []⟩ : Fst) (tn - (j + 1)) (J.map Prod.snd ++ [t]) else failP 3) (l.drop o2)) := Lib.hid (by rw [HSR.out, bind_ok hp])
                  have hfn : ∀ n ∈ t, -1 ≤ n.f := fun n hn => by
                    have := (rightT_is hrt).2.2.2.2 n hn
                    unfold oneP at this
                    split at this <;> omega
                  have KD := Lib.hid (fun w hr => rdeep_any t a c w hr (by omega) hfn)
                  rw [hm] at KD ⊢
                  obtain ⟨dd, hdd⟩ : ∃ z, deepO t = z := ⟨_, rfl⟩
                  rw [hdd] at KD hdo
                  have HTT2 : Hid (treeE fj t = decide (dd ≤ d)) := Lib.hid (by rw [HTT.out, hrt, hdo]; rfl)
                  clear hb hp ho hok hlen hm HSR HS59 HOT hrt hdo hfn hdd c0 c1 c2 c3 c4 q7
                  go_upto_region 59 with (fail)
                  have HSS : Hid (∀ W', Below w61.heap.size w61 W' → W'.cell? ⟨gc, 4, none⟩ = some (.int .i64 d)) := Lib.hid (fun W' hb => (HS61.out.kC.below hb).cell 4)
                  have HY0 := Lib.hid ((Below.refl w61.heap.size w61).drew)
                  refine wp_region_held_drew (S := (fun W' => W'.cell? ⟨gc, 4, none⟩ = some (.int .i64 d))) (by kernel_rfl) ?_ (fun hS0 => ?_)
                  · exact HSS.out _ HY0.out
                  refine' wpAnyH_take (i := 0) (v := _) rfl (by kernel_rfl) (by kernel_rfl) (by kernel_rfl) (fun _ _ _ h => h) (Or.inl ⟨by rfl, ?hym1⟩) hS0 ?restm1
                  case hym1 => (intro w hSw; (try dsimp only at hSw); go_simp; try with_reducible rfl)
                  simp only [Act.put, List.setIfInBounds_toArray, List.set_cons_zero, List.set_cons_succ, List.getElem_toArray, List.getElem_cons_zero, List.getElem_cons_succ]
                  refine' wpAnyH_take (i := 2) (v := _) rfl (by kernel_rfl) (by kernel_rfl) (by kernel_rfl) (fun _ _ _ h => h) (Or.inl ⟨by rfl, ?hym2⟩) hS0 ?restm2
                  case hym2 => (intro w hSw; (try dsimp only at hSw); go_simp; try with_reducible rfl)
                  simp only [Act.put, List.setIfInBounds_toArray, List.set_cons_zero, List.set_cons_succ, List.getElem_toArray, List.getElem_cons_zero, List.getElem_cons_succ]
                  refine' wpAnyH_take (i := 3) (v := _) rfl (by kernel_rfl) (by kernel_rfl) (by kernel_rfl) (fun _ _ _ h => h) (Or.inl ⟨by rfl, ?hym3⟩) hS0 ?restm3
                  case hym3 => (intro w hSw; (try dsimp only at hSw); go_simp; try with_reducible rfl)
                  simp only [Act.put, List.setIfInBounds_toArray, List.set_cons_zero, List.set_cons_succ, List.getElem_toArray, List.getElem_cons_zero, List.getElem_cons_succ]
                  refine wpAnyH_ready (rs := [1]) (by kernel_rfl) (by simp) ?_
                  refine AllReadyH.cons rfl (fun K hK => ?_) AllReadyH.nil
                  go_simp
                  refine (KD.out _ (HRN.out.below HY0.out)).mono ?_
                  rintro e wq1 ⟨rfl, hb⟩
                  have HY1 := Lib.hid (HY0.out.trans (hb.mono HY0.out.size))
                  clear hb
                  refine hK.out _ _ (HSS.out _ HY1.out) (fun hS1 => ?_)
                  clear hK K
                  by_cases hd : d < dd
                  · have a4 : decide (d < dd) = true := decide_eq_true hd
                    have HF : Hid (treeE fj t = false) := Lib.hid (by rw [HTT2.out, decide_eq_false (by omega)])
                    clear hd
                    refine' wpAnyH_take (i := 4) (v := _) rfl (by kernel_rfl) (by kernel_rfl) (by kernel_rfl) (fun _ _ _ h => h) (Or.inl ⟨by rfl, ?hym4⟩) hS1 ?restm4
                    case hym4 => (intro w hSw; (try dsimp only at hSw); go_simp; try with_reducible rfl)
                    simp only [Act.put, List.setIfInBounds_toArray, List.set_cons_zero, List.set_cons_succ, List.getElem_toArray, List.getElem_cons_zero, List.getElem_cons_succ]
                    refine wpAnyH_done (by kernel_rfl) ?_ _
                    have HS62 := Lib.hid (HS61.out.below HY1.out)
                    have k0 := HS62.out.k0
                    have k1 := HS62.out.k1
                    go_wp2_with (first | (refine wpList_load_row rfl 59 (.tmp 4) rfl g1 rfl 59 _ (0, 0) _ k1 Try.underlying59 rfl forest_sz ?_) | (refine wpList_store_row rfl 59 (.tmp 2) (.tmp 212) rfl g0 rfl 59 _ Z14 rfl k0 forest_sz rfl honeZ ?_))
                    exact bodyPost_ret (results_ct rfl _ _ g0 59 Z14 _ rfl k0.row Try.underlying59 rfl forest_sz) rfl ⟨by rw [HSZ.out]; exact below_row0 HS62.out.be (Nat.le_refl _), .inr ⟨3, HTE.out 3 (HSQ2.out.trans (by rw [if_neg (by rw [HF.out]; decide)]; rfl)), by decide, rfl⟩⟩
                  have a4 : decide (d < dd) = false := decide_eq_false hd
                  have HS62R : Hid (treesA (⟨k, cl, b, (tn : Int), d, lf, p, (x4 : Int), x6, [], [], sI x8, (x10 : Int), []⟩ : Fst) (tn - (j + 1)) (J.map Prod.snd ++ [t]) (l.drop o2) = R3) := Lib.hid (by rw [HSQ2.out, if_pos (by rw [HTT2.out, decide_eq_true (by omega)])])
                  clear hd
                  refine' wpAnyH_take (i := 4) (v := _) rfl (by kernel_rfl) (by kernel_rfl) (by kernel_rfl) (fun _ _ _ h => h) (Or.inl ⟨by rfl, ?hym5⟩) hS1 ?restm5
                  case hym5 => (intro w hSw; (try dsimp only at hSw); go_simp; try with_reducible rfl)
                  simp only [Act.put, List.setIfInBounds_toArray, List.set_cons_zero, List.set_cons_succ, List.getElem_toArray, List.getElem_cons_zero, List.getElem_cons_succ]
                  refine wpAnyH_done (by kernel_rfl) ?_ _
                  have HS62 := Lib.hid ((HS61.out.below HY1.out).perm (List.Perm.swap _ _ _))
                  obtain ⟨w62, hw62⟩ : ∃ W, wq1 = W := ⟨_, rfl⟩
                  rw [hw62] at HS62 ⊢
                  clear hw62 HY1 HY0 HSS hS0 hS1 HS61
                  have HOW := HS62.out.ro.own _ (List.mem_cons_self ..)
                  simp only [tsRow] at HOW
                  rw [HJ.out.1] at HOW
                  have HOW2 := Lib.hid HOW
                  have hl62 := HS62.out.kF.lt
                  have q10 := HS62.out.kF.cell 10
                  clear HOW
                  go_upto_region 62 with (at_builtin; refine wpList_append_lies _ rfl _ _ 47 rfl (g3 + 1) 88 i3 (.slice none 0 0) 1 24 Try.underlying47 hi3 ha0 ha1 ha2 rfl (by decide) (.slice At j ct) j (J.map Prod.fst) rfl (HOW2.out.alloc _) ⟨w62.heap.size, 0, none⟩ 1 1 [.slice a m c] rfl rfl (cell_one_new _ _ _) (by simp [Value.oneCell']) (by decide) (by unfold maxLen; omega) (by omega) (by simp; omega) _ rfl ?_; intro g5 c5 w5 hown5 hg5 hat5 hlt5; have HS63 := Lib.hid ((HS62.out.below ((Below.refl w62.heap.size w62).alloc (Nat.le_refl _) (.cells #[.slice a m c] 88))).grow (r1 := tsRow (.slice (some ⟨g5, 0, none⟩) (j + 1) c5) (J ++ [(Value.slice a m c, t)])) hg5 (by simp only [tsRow]; rw [List.length_append, HJ.out.1, List.map_append]; exact hown5) (fun q e => by simp only [tsRow, Value.ownBlock, Option.some.injEq] at e; subst e; exact hat5)); have f0 := HS63.out.kF.cell 10; have f1 := fun i => HS63.out.kF.frozen i; have f2 := HS63.out.kF.lt)
                  have h9 := HS63.out.set 10 (.slice (some ⟨g5, 0, none⟩) (j + 1) c5)
                  have h9b : S28 g0 g1 gc g3 #[.int .i64 k, .int .i64 cl, .int .i64 b, .int .i64 (tn : Int), .int .i64 d, .int .i64 lf, .int .i64 p] #[.int .i64 k, .int .i64 cl, .int .i64 b, .int .i64 (tn : Int), .int .i64 d, .int .i64 lf, .int .i64 p, .int .i64 (x4 : Int), .int .u64 (x6 : Int), .slice Ae x4 ce, .slice (some ⟨g5, 0, none⟩) (j + 1) c5, .int .i64 (sI x8), .int .i64 (x10 : Int), .slice As x4 cs] _ w _ := h9
                  have HPMT : (⟨Value.slice a m c, 90, 6, m, t.flatMap ndC⟩ :: (J.map tRow ++ LR)).Perm ((J ++ [(Value.slice a m c, t)]).map tRow ++ LR) := by
                    have hl : tRow (Value.slice a m c, t) = ⟨Value.slice a m c, 90, 6, m, t.flatMap ndC⟩ := by unfold tRow; rw [HTOK.out.2.2]
                    rw [List.map_append, List.append_assoc, ← hl]
                    exact List.perm_middle.symm
                  have HS64 := Lib.hid (h9b.perm (List.Perm.cons _ HPMT))
                  clear h9 h9b HPMT
                  clear f0 f1 f2 q10 hown5 hg5 hat5 hlt5
                  have HS63R : Hid (treesA (⟨k, cl, b, (tn : Int), d, lf, p, (x4 : Int), x6, [], [], sI x8, (x10 : Int), []⟩ : Fst) (tn - (j + 1)) ((J ++ [(Value.slice a m c, t)]).map Prod.snd) (l.drop o2) = R3) := Lib.hid (by rw [List.map_append]; exact HS62R.out)
                  have HJ2 : Hid ((J ++ [(Value.slice a m c, t)]).length = j + 1 ∧ (∀ p ∈ J ++ [(Value.slice a m c, t)], ∃ a c, p.1 = Value.slice a p.2.length c) ∧ ∀ p ∈ J ++ [(Value.slice a m c, t)], (∀ x ∈ p.2, x.ok) ∧ p.2.length ≤ 4194304) := Lib.hid ⟨by rw [List.length_append, HJ.out.1]; rfl, fun p hp => by
                    rcases List.mem_append.1 hp with hp | hp
                    · exact HJ.out.2.1 p hp
                    · simp only [List.mem_singleton] at hp; subst hp; exact ⟨a, c, by simp only; rw [HTOK.out.2.2]⟩, fun p hp => by
                    rcases List.mem_append.1 hp with hp | hp
                    · exact HJ.out.2.2 p hp
                    · simp only [List.mem_singleton] at hp; subst hp; exact ⟨HTOK.out.1, HTOK.out.2.1⟩⟩
                  go_wp2_with fail
                  go_roundw
                  case rel =>
                    refine ⟨j + 1, o2, some ⟨g5, 0, none⟩, c5, J ++ [(Value.slice a m c, t)], hlt3, ?_, ?_, ho2, ?_, ?_, ?_⟩
                    · go_num
                    · first | rfl | go_num
                    · exact HS64
                    · exact HJ2
                    · exact HS63R
                  case measure => simp [intOf]; omega
                · obtain rfl : tn = j := by omega
                  have HRE3 : Hid (R3 = .ok (J.map Prod.snd, l.drop o)) := Lib.hid (by rw [← HNO.out, Nat.sub_self]; rfl)
                  have HPJ : Hid (getP l = if mayF fj then .ok (fj, l.drop o) else .error 3) := Lib.hid (by rw [HTO.out _ _ HRE3.out, ← HFJ.out])
                  have HOKF : Hid (OkF fj) := Lib.hid (by rw [← HFJ.out]; exact ⟨by simp only [List.length_map]; rw [HI.out.1]; omega, by simp only [List.length_map]; rw [HJ.out.1]; omega, by simp only; rw [HI.out.2.1]; omega, fun t ht => by obtain ⟨p, hp, rfl⟩ := List.mem_map.1 ht; have := (HI.out.2.2.2.1 p hp).1; omega, fun t ht => by obtain ⟨p, hp, rfl⟩ := List.mem_map.1 ht; have := (HJ.out.2.2 p hp).2; omega⟩)
                  have HOKB : Hid (OkB fj) := Lib.hid (by rw [← HFJ.out]; exact ⟨HX6.out, fun t ht => by obtain ⟨p, hp, rfl⟩ := List.mem_map.1 ht; exact (HI.out.2.2.2.1 p hp).2, fun t ht => by obtain ⟨p, hp, rfl⟩ := List.mem_map.1 ht; have := (HJ.out.2.2 p hp).2; omega⟩)
                  have HIN : Hid (in64 fj.num ∧ in64 fj.den ∧ ∀ x ∈ fj.shake, in64 x.1 ∧ in64 x.2) := Lib.hid (by rw [← HFJ.out]; exact ⟨sI_in _, by have := HX10.out; unfold in64; simp only; omega, HI.out.2.2.2.2⟩)
                  have HRF : Hid (∀ w2, ORows w2 (g3 + 1) (tsRow (.slice At tn ct) J :: (J.map tRow ++ LR)) → RFo w2 fj Ae At As) := Lib.hid (fun w2 h => by
                    rw [← HFJ.out]; rw [← HLR.out] at h
                    exact ⟨h.re (c := ce) (n := x4) (by simp) (fun p hp => by simp only [List.mem_cons, List.mem_append, List.mem_map]; exact .inr (.inr (.inr (.inr ⟨p, hp, rfl⟩)))) HI.out.2.2.1 (fun p hp => (HI.out.2.2.2.1 p hp).2), h.rt (c := ct) (n := tn) (by simp) (fun p hp => by simp only [List.mem_cons, List.mem_append, List.mem_map]; exact .inr (.inl ⟨p, hp, rfl⟩)) HJ.out.2.1 (fun p hp => (HJ.out.2.2 p hp).1), h.rs (c := cs) (n := x4) (by simp) HI.out.2.2.2.2⟩)
                  have KM := Lib.hid (fun w hr => rmay28_any fj Ae At As ce ct cs w HOKF.out hr HIN.out)
                  rw [hfa] at KM
                  have HFA := Lib.hid hfa
                  obtain ⟨mf, hmf⟩ : ∃ z, mayF fj = z := ⟨_, rfl⟩
                  rw [hmf] at KM
                  have HMF := Lib.hid hmf
                  clear hfa hfj hmf HNO HRR3 c0 c1 c2 c4 q7
                  have kF := HS59.out.kF
                  go_wp2_with (refine wpList_load_row rfl 59 (.tmp 10) rfl g3 rfl 59 _ (0, 0) _ kF Try.underlying59 rfl forest_sz ?_)
                  refine (KM.out _ (HRF.out _ HS59.out.ro)).mono ?_
                  rintro e w60 ⟨rfl, hb⟩
                  have HS60 := Lib.hid (HS59.out.below hb)
                  clear hb kF HS59 c3
                  cases mf with
                  | false =>
                    have k0 := HS60.out.k0
                    have k1 := HS60.out.k1
                    go_wp2_with (first | (refine wpList_load_row rfl 59 (.tmp 4) rfl g1 rfl 59 _ (0, 0) _ k1 Try.underlying59 rfl forest_sz ?_) | (refine wpList_store_row rfl 59 (.tmp 2) (.tmp 229) rfl g0 rfl 59 _ Z14 rfl k0 forest_sz rfl honeZ ?_))
                    exact bodyPost_ret (results_ct rfl _ _ g0 59 Z14 _ rfl k0.row Try.underlying59 rfl forest_sz) rfl ⟨by rw [HSZ.out]; exact below_row0 HS60.out.be (Nat.le_refl _), .inr ⟨3, getF_err (by rw [HPJ.out, if_neg (by rw [HMF.out]; decide)]), by decide, rfl⟩⟩
                  | true =>
                    by_cases hlo : o < n
                    · have d1 : decide ((o : Int) < (n : Int)) = true := decide_eq_true (by omega)
                      have d2 : decide (o < n) = true := decide_eq_true hlo
                      have HM3 : Hid (getF l = .error 3) := Lib.hid (getF_more (f := fj) (r := l.drop o) (by rw [HPJ.out, if_pos HMF.out]) (fun e => by have := congrArg List.length e; rw [List.length_drop, HN.out, List.length_nil] at this; omega))
                      clear hlo
                      have k0 := HS60.out.k0
                      have k1 := HS60.out.k1
                      go_wp2_with (first | (refine wpList_load_row rfl 59 (.tmp 4) rfl g1 rfl 59 _ (0, 0) _ k1 Try.underlying59 rfl forest_sz ?_) | (refine wpList_store_row rfl 59 (.tmp 2) (.tmp 229) rfl g0 rfl 59 _ Z14 rfl k0 forest_sz rfl honeZ ?_))
                      exact bodyPost_ret (results_ct rfl _ _ g0 59 Z14 _ rfl k0.row Try.underlying59 rfl forest_sz) rfl ⟨by rw [HSZ.out]; exact below_row0 HS60.out.be (Nat.le_refl _), .inr ⟨3, HM3.out, by decide, rfl⟩⟩
                    have d1 : decide ((o : Int) < (n : Int)) = false := decide_eq_false (by omega)
                    have d2 : decide (o < n) = false := decide_eq_false hlo
                    have HOKG : Hid (getF l = .ok fj) := Lib.hid (getF_ok (r := l.drop o) (by rw [HPJ.out, if_pos HMF.out]) (by rw [List.drop_eq_nil_iff, HN.out]; omega))
                    clear hlo
                    have kF := HS60.out.kF
                    have k0 := HS60.out.k0
                    have hone : ∀ v ∈ (#[.int .i64 k, .int .i64 cl, .int .i64 b, .int .i64 (tn : Int), .int .i64 d, .int .i64 lf, .int .i64 p, .int .i64 (x4 : Int), .int .u64 (x6 : Int), .slice Ae x4 ce, .slice At tn ct, .int .i64 (sI x8), .int .i64 (x10 : Int), .slice As x4 cs] : Array Value).toList, v.oneCell' = true := by simp [Value.oneCell']
                    have HO61 := Lib.hid (HS60.out.ro.kept (gr_row _ g0 #[.int .i64 k, .int .i64 cl, .int .i64 b, .int .i64 (tn : Int), .int .i64 d, .int .i64 lf, .int .i64 p, .int .i64 (x4 : Int), .int .u64 (x6 : Int), .slice Ae x4 ce, .slice At tn ct, .int .i64 (sI x8), .int .i64 (x10 : Int), .slice As x4 cs]) (by have := HS60.out.lt; omega))
                    go_wp2_with (first | (refine wpList_load_row rfl 59 (.tmp 10) rfl g3 rfl 59 _ (0, 0) _ kF Try.underlying59 rfl forest_sz ?_) | (refine wpList_store_row rfl 59 (.tmp 2) (.tmp 230) rfl g0 rfl 59 _ #[.int .i64 k, .int .i64 cl, .int .i64 b, .int .i64 (tn : Int), .int .i64 d, .int .i64 lf, .int .i64 p, .int .i64 (x4 : Int), .int .u64 (x6 : Int), .slice Ae x4 ce, .slice At tn ct, .int .i64 (sI x8), .int .i64 (x10 : Int), .slice As x4 cs] rfl k0 forest_sz rfl hone ?_))
                    exact bodyPost_ret (results_ct rfl _ _ g0 59 #[.int .i64 k, .int .i64 cl, .int .i64 b, .int .i64 (tn : Int), .int .i64 d, .int .i64 lf, .int .i64 p, .int .i64 (x4 : Int), .int .u64 (x6 : Int), .slice Ae x4 ce, .slice At tn ct, .int .i64 (sI x8), .int .i64 (x10 : Int), .slice As x4 cs] _ rfl k0.row Try.underlying59 rfl forest_sz) rfl ⟨by rw [HSZ.out]; exact below_row0 HS60.out.be (Nat.le_refl _), .inl ⟨fj, Ae, At, As, ce, ct, cs, HOKG.out, by rw [HFA.out]; rfl, HRF.out _ HO61.out, HOKB.out⟩⟩
end Go.Proofs.Ytpekofpiodaadaa.Hb
end

section
/- The walk of the law ModelGets. -/
namespace Go.Proofs.Ytpekofpiodaadaa.Hb
set_option linter.unusedVariables false
set_option linter.unusedSimpArgs false
open Go.RowKit

theorem str_self (l : List Nat) : ((strB l).toList == (strB l).toList) = true := beq_self_eq_true _
theorem conv_none (A : Option Addr) (c : Nat) (w : World) : (convert 54 9 (.slice A 0 c)).run Try.prog w = .ok (.string (strB [])) w := by
  rw [run_convert_bytes_string (P := Try.prog) w 54 9 5 A 0 c Try.underlying54 Try.underlying5 Try.underlying9]
  cases A <;> first | rfl | (simp [go_sem, bytesToString]; done) | (simp [bytesToString]; rfl)
theorem conv_any (l : List Nat) (A : Option Addr) (c n : Nat) (w : World) (hr : RB w A l) (hn : l.length = n) : (convert 54 9 (.slice A n c)).run Try.prog w = .ok (.string (strB l)) w := by
  subst hn
  by_cases h : 0 < l.length
  · exact conv_str l A c w hr h
  · have e : l = [] := List.length_eq_zero_iff.1 (by omega)
    subst e
    exact conv_none A c w
theorem nd_pos (kind : Int) (n : Nd) : 1 ≤ (ndB kind n).length := by
  unfold ndB
  split
  · split <;> simp
  · simp
theorem tree_le {f : Fst} {t : List Nd} (h : t ∈ f.trees) : t.length ≤ (putF f).length := by
  have h1 : t.length ≤ (t.flatMap (ndB f.k)).length := by
    clear h
    induction t with
    | nil => simp
    | cons n r ih => have := nd_pos f.k n; simp only [List.flatMap_cons, List.length_append, List.length_cons]; omega
  have h2 : (treeB f.k t).length ≤ (f.trees.flatMap (treeB f.k)).length := by
    obtain ⟨a, b, e⟩ := List.append_of_mem h
    rw [e, List.flatMap_append, List.flatMap_cons]
    simp only [List.length_append]
    omega
  have h3 : t.length ≤ (treeB f.k t).length := by unfold treeB; rw [List.length_append]; omega
  unfold putF
  simp only [List.length_append]
  omega
theorem okF_read {f : Fst} (hm : mayF f = true) (hb : OkB f) : OkF f := by
  have h := mayF_is hm
  have h2 := (chk_is h.ck).t
  have h3 := h.nt
  have h4 := h.ne
  have h5 := h.ns
  have h6 := h.c1
  exact ⟨by omega, by omega, by omega, fun t ht => by have := h.ee t ht; omega, fun t ht => by have := hb.tt t ht; omega⟩
def Fz : Fst := ⟨0, 0, 0, 0, 0, 0, 0, 0, 0, [], [], 0, 0, []⟩
theorem rfo_z (w : World) : RFo w Fz none none none := ⟨fun h => by simp [Fz] at h, fun h => by simp [Fz] at h, fun h => by simp [Fz] at h⟩
theorem forA_z : forA Fz none none none 0 0 0 = Z14 := rfl
set_option maxRecDepth 100000 in
set_option maxHeartbeats 16000000 in
theorem gets28_any (l : List Nat) (A : Option Addr) (c : Nat) (w : World) (hr : RB w A l) (hb : ∀ x ∈ l, x < 256) (hl : l.length ≤ c) (hc : c ≤ 9223372036854775807) (hA : ∀ ad, A = some ad → ad.block < w.heap.size) :
    Calls Try.prog 9 #[.slice A l.length c] w (True0 w) := by
  have KX := Lib.hid fixed28_any
  have KG := Lib.hid (fun w hr hA => gget_any l A c w hr hl hc hA)
  have HR := Lib.hid hr
  have HA := Lib.hid hA
  have HCV := Lib.hid (fun w hr => conv_any l A c l.length w hr rfl)
  have HBY := Lib.hid hb
  have HL := Lib.hid (rfl : l.length = l.length)
  have hsl := str_self l
  by_cases hbig : 5000 < l.length
  · obtain ⟨n, hn⟩ : ∃ n, l.length = n := ⟨_, rfl⟩
    have HN := Lib.hid hn
    rw [hn] at hbig ⊢
    have d1 : decide (5000 < n) = true := decide_eq_true hbig
    have d2 : decide ((5000 : Int) < n) = true := decide_eq_true (by omega)
    have HX0 := Lib.hid (Below.refl w.heap.size w)
    clear hn hbig
    go_enter Try.func9, Try.ntmps9
    go_wp2_with fail
    refine (KX.out _).mono ?_
    rintro e wz ⟨rfl, hb⟩
    have HXZ := Lib.hid (HX0.out.trans (hb.mono HX0.out.size))
    clear hb
    go_wp2_with fail
    go_ret
    exact ⟨ret_bool (by first | rfl | simp), HXZ.out⟩
  have HBIG := Lib.hid hbig
  have KRG := Lib.hid (fun w => rget28_any l hb (by omega) w)
  obtain ⟨X0, hX0⟩ : ∃ X, strB l = X := ⟨_, rfl⟩
  have HX0E := Lib.hid hX0
  rw [hX0] at hsl HCV KRG
  clear hX0
  obtain ⟨n, hn⟩ : ∃ n, l.length = n := ⟨_, rfl⟩
  have HN := Lib.hid hn
  rw [hn] at hbig KG HCV hl ⊢
  have d1 : decide (5000 < n) = false := decide_eq_false hbig
  have d2 : decide ((5000 : Int) < n) = false := decide_eq_false (by omega)
  clear hn hbig
  go_enter Try.func9, Try.ntmps9
  go_wp2_with fail
  refine (KG.out _ HR.out HA.out).mono ?_
  rintro e w1 ⟨hb1, ⟨f, A1, A2, A3, c1, c2, c3, hg, rfl, hr1, ho1⟩ | ⟨k, hg, rfl⟩⟩
  rotate_left
  · have HG := Lib.hid hg
    have HX1 := Lib.hid hb1
    clear hb1 hg d1 d2
    go_upto_region 4 with (fail)
    have hk0 : Blk (w1.alloc (.cells Z14 59)) w1.heap.size Z14 59 := Blk.new w1 Z14 59
    have bb : Below w1.heap.size w1 (w1.alloc (.cells Z14 59)) := (Below.refl _ _).alloc (Nat.le_refl _) _
    have HX2 := Lib.hid (HX1.out.trans (bb.mono HX1.out.size))
    obtain ⟨W2, hW2⟩ : ∃ W, w1.alloc (.cells Z14 59) = W := ⟨_, rfl⟩
    rw [hW2] at hk0 HX2
    rw [show w1.alloc (.cells #[.int .i64 0, .int .i64 0, .int .i64 0, .int .i64 0, .int .i64 0, .int .i64 0, .int .i64 0, .int .i64 0, .int .u64 0, .slice none 0 0, .slice none 0 0, .int .i64 0, .int .i64 0, .slice none 0 0] 59) = W2 from hW2]
    obtain ⟨g3, hg3⟩ : ∃ z, w1.heap.size = z := ⟨_, rfl⟩
    rw [hg3] at hk0 ⊢
    have HK3 := Lib.hid hk0
    have hcv := HCV.out W2 (HR.out.below HX2.out)
    clear bb hW2 hg3 hk0
    go_wp2_with fail
    refine (KRG.out _).mono ?_
    rintro e w3 ⟨hb, ⟨f, _, _, _, _, _, _, hg2, _⟩ | ⟨k2, hg2, hk2, rfl⟩⟩
    · rw [HG.out] at hg2; cases hg2
    have hkk : k2 = k := by rw [HG.out] at hg2; cases hg2; rfl
    subst hkk
    have HK4 := Lib.hid (HK3.out.below hb)
    have HX3 := Lib.hid (HX2.out.trans (hb.mono HX2.out.size))
    clear hb
    clear hcv hg2
    rw [show Z14 = #[.int .i64 0, .int .i64 0, .int .i64 0, .int .i64 0, .int .i64 0, .int .i64 0, .int .i64 0, .int .i64 0, .int .u64 0, .slice none 0 0, .slice none 0 0, .int .i64 0, .int .i64 0, .slice none 0 0] from rfl]
    have e1 : (k2 == k2) = true := beq_self_eq_true _
    have e2 : (k2 != k2) = false := by simp
    have e3 : (k2 == 0) = false := beq_eq_false_iff_ne.2 hk2
    have e4 : (k2 != 0) = true := bne_iff_ne.2 hk2
    clear hk2
    go_upto_region 5 with (fail)
    have hk0 : Blk (w3.alloc (.cells Z14 59)) w3.heap.size Z14 59 := Blk.new w3 Z14 59
    have bb : Below w3.heap.size w3 (w3.alloc (.cells Z14 59)) := (Below.refl _ _).alloc (Nat.le_refl _) _
    have HX4 := Lib.hid (HX3.out.trans (bb.mono HX3.out.size))
    have HK5 := Lib.hid (HK4.out.below bb)
    obtain ⟨W4, hW4⟩ : ∃ W, w3.alloc (.cells Z14 59) = W := ⟨_, rfl⟩
    rw [hW4] at hk0 HX4 HK5
    first | rw [hW4] | rw [show w3.alloc (.cells #[.int .i64 0, .int .i64 0, .int .i64 0, .int .i64 0, .int .i64 0, .int .i64 0, .int .i64 0, .int .i64 0, .int .u64 0, .slice none 0 0, .slice none 0 0, .int .i64 0, .int .i64 0, .slice none 0 0] 59) = W4 from hW4]
    obtain ⟨g5, hg5⟩ : ∃ z, w3.heap.size = z := ⟨_, rfl⟩
    rw [hg5] at hk0 ⊢
    have kA := HK5.out
    have kB := hk0
    clear bb hW4 hg5
    have KSS := rsame27_any Fz Fz none none none none none none 0 0 0 0 0 0
    rw [forA_z, decide_eq_true (show Fz = Fz from rfl)] at KSS
    go_wp2_with (first | (refine wpList_load_row_g rfl 59 (.tmp 3) rfl g3 rfl 59 Z14 (0, 0) _ kA Try.underlying59 rfl forest_sz ?_) | (refine wpList_load_row_g rfl 59 (.tmp 5) rfl g5 rfl 59 Z14 (0, 0) _ kB Try.underlying59 rfl forest_sz ?_))
    refine (KSS _ (rfo_z _) (rfo_z _) ⟨by decide, by decide, by decide, by simp [Fz], by simp [Fz]⟩ ⟨by decide, by decide, by decide, by simp [Fz], by simp [Fz]⟩).mono ?_
    rintro e w5 ⟨rfl, hb⟩
    have HX5 := Lib.hid (HX4.out.trans (hb.mono HX4.out.size))
    clear hb
    go_wp2_with fail
    refine (KX.out _).mono ?_
    rintro e wz ⟨rfl, hb⟩
    have HXZ := Lib.hid (HX5.out.trans (hb.mono HX5.out.size))
    clear hb
    go_wp2_with fail
    go_ret
    exact ⟨ret_bool (by first | rfl | simp), HXZ.out⟩
  obtain ⟨hpf, hmay⟩ := getF_back HBY.out hg
  have HG := Lib.hid hg
  have HOK := Lib.hid (okF_read hmay ho1)
  have HX1 := Lib.hid hb1
  have KP := Lib.hid (fun w hr => mput_any f A1 A2 A3 c1 c2 c3 w HOK.out hr hmay (fun t ht => by have := tree_le ht; rw [hpf] at this; have := HBIG.out; omega))
  rw [hpf] at KP
  have hpl : l.length = n := HN.out
  rw [hpl] at KP
  have HR1 := Lib.hid (fun W' (hb : Below w1.heap.size w1 W') => hr1.below hb)
  obtain ⟨FV, hFV⟩ : ∃ V, forA f A1 A2 A3 c1 c2 c3 = V := ⟨_, rfl⟩
  have hszF : (Try.prog.info? 59).map (·.size) = some FV.size := by rw [← hFV]; kernel_rfl
  rw [hFV] at KP
  have HFV := Lib.hid hFV
  rw [show forA f A1 A2 A3 c1 c2 c3 = #[.int .i64 f.k, .int .i64 f.cl, .int .i64 f.b, .int .i64 f.t, .int .i64 f.d, .int .i64 f.l, .int .i64 f.p, .int .i64 f.cols, .int .u64 (f.seed : Int), .slice A1 f.edges.length c1, .slice A2 f.trees.length c2, .int .i64 f.num, .int .i64 f.den, .slice A3 f.shake.length c3] from rfl]
  clear hb1 hg d1 d2 hpf hmay hr1 hFV hpl
  go_upto_region 4 with (fail)
  rw [show #[.int .i64 f.k, .int .i64 f.cl, .int .i64 f.b, .int .i64 f.t, .int .i64 f.d, .int .i64 f.l, .int .i64 f.p, .int .i64 f.cols, .int .u64 (f.seed : Int), .slice A1 f.edges.length c1, .slice A2 f.trees.length c2, .int .i64 f.num, .int .i64 f.den, .slice A3 f.shake.length c3] = FV from HFV.out]
  have hk0 := Blk.new w1 FV 59
  have bb : Below w1.heap.size w1 (w1.alloc (.cells FV 59)) := (Below.refl _ _).alloc (Nat.le_refl _) _
  have HX2 := Lib.hid (HX1.out.trans (bb.mono HX1.out.size))
  have HY2 := Lib.hid bb
  obtain ⟨W2, hW2⟩ : ∃ W, w1.alloc (.cells FV 59) = W := ⟨_, rfl⟩
  rw [hW2] at hk0 HX2 HY2 ⊢
  obtain ⟨g3, hg3⟩ : ∃ z, w1.heap.size = z := ⟨_, rfl⟩
  rw [hg3] at hk0 ⊢
  have HK3 := Lib.hid hk0
  have hcv := HCV.out W2 (HR.out.below HX2.out)
  have hs2 : w1.heap.size ≤ W2.heap.size := bb.size |> fun h => by rw [← hW2]; exact h
  clear bb hW2 hk0
  go_wp2_with fail
  refine (KRG.out _).mono ?_
  rintro e w3 ⟨hb, ⟨f2, B1, B2, B3, d1, d2, d3, hg2, rfl, hr2, ho2⟩ | ⟨k2, hg2, hk2, rfl⟩⟩
  rotate_left
  · rw [HG.out] at hg2; cases hg2
  have hff : f2 = f := by rw [HG.out] at hg2; cases hg2; rfl
  subst hff
  have HK4 := Lib.hid (HK3.out.below hb)
  have HY3 := Lib.hid (HY2.out.trans (hb.mono hs2))
  have HX3 := Lib.hid (HX2.out.trans (hb.mono HX2.out.size))
  clear hb
  clear hcv hg2
  have HR2 := Lib.hid (fun W' (hb : Below w3.heap.size w3 W') => hr2.below hb)
  obtain ⟨GV, hGV⟩ : ∃ V, forA f2 B1 B2 B3 d1 d2 d3 = V := ⟨_, rfl⟩
  have hszG : (Try.prog.info? 59).map (·.size) = some GV.size := by rw [← hGV]; kernel_rfl
  have HGV := Lib.hid hGV
  rw [show forA f2 B1 B2 B3 d1 d2 d3 = #[.int .i64 f2.k, .int .i64 f2.cl, .int .i64 f2.b, .int .i64 f2.t, .int .i64 f2.d, .int .i64 f2.l, .int .i64 f2.p, .int .i64 f2.cols, .int .u64 (f2.seed : Int), .slice B1 f2.edges.length d1, .slice B2 f2.trees.length d2, .int .i64 f2.num, .int .i64 f2.den, .slice B3 f2.shake.length d3] from rfl]
  clear hr2 ho2 hGV ho1
  go_upto_region 5 with (fail)
  rw [show #[.int .i64 f2.k, .int .i64 f2.cl, .int .i64 f2.b, .int .i64 f2.t, .int .i64 f2.d, .int .i64 f2.l, .int .i64 f2.p, .int .i64 f2.cols, .int .u64 (f2.seed : Int), .slice B1 f2.edges.length d1, .slice B2 f2.trees.length d2, .int .i64 f2.num, .int .i64 f2.den, .slice B3 f2.shake.length d3] = GV from HGV.out]
  have hk0 := Blk.new w3 GV 59
  have bb : Below w3.heap.size w3 (w3.alloc (.cells GV 59)) := (Below.refl _ _).alloc (Nat.le_refl _) _
  have HX4 := Lib.hid (HX3.out.trans (bb.mono HX3.out.size))
  have HZ4 := Lib.hid bb
  have HK5 := Lib.hid (HK4.out.below bb)
  obtain ⟨W4, hW4⟩ : ∃ W, w3.alloc (.cells GV 59) = W := ⟨_, rfl⟩
  rw [hW4] at hk0 HX4 HK5 HZ4 ⊢
  obtain ⟨g5, hg5⟩ : ∃ z, w3.heap.size = z := ⟨_, rfl⟩
  rw [hg5] at hk0 ⊢
  have kA := HK5.out
  have kB := hk0
  have HY4 := Lib.hid (HY3.out.trans (HZ4.out.mono HY3.out.size))
  clear bb hW4 hg5
  have KSS := rsame27_any f2 f2 A1 A2 A3 B1 B2 B3 c1 c2 c3 d1 d2 d3 W4 (HR1.out _ HY4.out) (HR2.out _ HZ4.out) HOK.out HOK.out
  rw [HFV.out, HGV.out, decide_eq_true (show f2 = f2 from rfl)] at KSS
  go_wp2_with (first | (refine wpList_load_row_g rfl 59 (.tmp 3) rfl g3 rfl 59 FV (0, 0) _ kA Try.underlying59 rfl hszF ?_) | (refine wpList_load_row_g rfl 59 (.tmp 5) rfl g5 rfl 59 GV (0, 0) _ kB Try.underlying59 rfl hszG ?_))
  refine KSS.mono ?_
  clear KSS
  rintro e w5 ⟨rfl, hb⟩
  have kA5 := kA.below hb
  have HY5 := Lib.hid (HY4.out.trans (hb.mono HY4.out.size))
  have HX5 := Lib.hid (HX4.out.trans (hb.mono HX4.out.size))
  clear hb
  clear kA kB hk0
  go_wp2_with (refine wpList_load_row rfl 59 (.tmp 3) rfl g3 rfl 59 FV (0, 0) _ kA5 Try.underlying59 rfl hszF ?_)
  refine (KP.out _ (HR1.out _ HY5.out)).mono ?_
  rintro e w6 ⟨a6, c6, rfl, ho6, hb⟩
  have hrb6 := RB.own (by rw [HN.out]; exact ho6) HBY.out
  have HX6 := Lib.hid (HX5.out.trans (hb.mono HX5.out.size))
  clear hb
  have HRB := Lib.hid hrb6
  clear ho6 hrb6 kA5
  go_wp2_with fail
  refine (KX.out _).mono ?_
  rintro e w7 ⟨rfl, hb⟩
  have hcv1 : (convert 54 9 (.slice a6 n c6)).run Try.prog w7 = .ok (.string X0) w7 := by rw [← HX0E.out]; exact conv_any l a6 c6 n w7 (HRB.out.below hb) HN.out
  have HX7 := Lib.hid (HX6.out.trans (hb.mono HX6.out.size))
  clear hb
  have hcv2 := HCV.out w7 (HR.out.below HX7.out)
  go_wp2_with fail
  go_ret
  exact ⟨ret_bool (by first | rfl | simp), HX7.out⟩
end Go.Proofs.Ytpekofpiodaadaa.Hb
end

section
/- The law ModelGets, of whatever reads as its argument. -/
namespace Go.Proofs.Ytpekofpiodaadaa.Hb
set_option linter.unusedVariables false
open Go.RowKit
section
variable {T : Type} {enc : TypeId × Value → T} {W : World} {base : Nat} {sp : Nat → Bool} {held : Bool}
/-- Bytes, read. -/
def IsBy (W : World) (v : Value) : Prop := ∃ (l : List Nat) (A : Option Addr) (c : Nat), v = .slice A l.length c ∧ RB W A l ∧ (∀ x ∈ l, x < 256) ∧ l.length ≤ c ∧ c ≤ 9223372036854775807 ∧ ∀ ad, A = some ad → ad.block < W.heap.size
theorem rds_u8 : Rds enc Try.prog W base sp held 5 (fun cs => ∃ y, byR y cs) := (rds_int 0 255 Try.underlying5 rfl rfl).mono fun cs h => by
  obtain ⟨n, e, h1, h2⟩ := h
  refine ⟨n.toNat, ?_, by omega⟩
  rw [e, Int.toNat_of_nonneg h1]
set_option maxRecDepth 100000 in
theorem read_by {r : Reach} {b0 : Nat} {v : Value} {d : DataW T} {p : List MemPlace} (hv : Value.okWide Try.prog W r b0 54 v) (h : DataW.Trod enc Try.prog W base sp held 54 v d p) : IsBy W v := by
  obtain ⟨l, A, cap, e, h1, h2, h3⟩ := open_row Try.underlying54 hv h (rds_slice 1 Try.underlying54 (by kernel_rfl) rds_u8)
  simp only [List.cons.injEq, and_true] at e
  subst e
  refine ⟨l, A, cap, rfl, h3, fun x hx => ?_, h1, h2, fun ad e => ?_⟩
  · obtain ⟨i, hi, rfl⟩ := List.getElem_of_mem hx
    obtain ⟨ad, _, ha⟩ := h3 (by omega)
    obtain ⟨c, _, ⟨_, hlt⟩, _⟩ := ha i _ (List.getElem?_eq_getElem hi)
    exact hlt
  · subst e
    simp only [Value.okWide, Try.underlying54, Cell.okWide, Cell.ok] at hv
    obtain ⟨_, _, _, _, row, cells, hs, _⟩ := hv
    unfold World.shape? at hs
    rcases Nat.lt_or_ge ad.block W.heap.size with hlt | hge
    · exact hlt
    · rw [Array.getElem?_eq_none hge] at hs
      simp at hs
end
theorem gets28_row (w : World) (v : Value) (h : IsBy w v) : Calls Try.prog 9 #[v] w (True0 w) := by
  obtain ⟨l, A, c, rfl, hr, hb, hl, hc, hA⟩ := h
  exact gets28_any l A c w hr hb hl hc hA
end Go.Proofs.Ytpekofpiodaadaa.Hb
end

section
/- A run of one goroutine alone, in the form of a row that says 'leaving'. -/
namespace Go.Proofs.Ytpekofpiodaadaa.Hb
theorem leaving_of_handed {a : Assume} {C : Checked} {os : Os} {f : FuncId} {r : Reach} {Pre : World → Array Value → Prop} {Post : World → Array Value → Value → World → Prop} (h : ReturnsInHanded a C os f r Pre Post) : ReturnsInLeavingWide a C os f r Pre Post := fun enter =>
  let ⟨h0, h1, h2, h3, h4⟩ := h enter
  ⟨h0, h1, h2, h3, fun w tape i hf =>
    let ⟨n, v, w', e, c, ro, po, ⟨j, last, hj, hs, ha⟩, al⟩ := h4 w tape i hf
    ⟨n, v, w', e, c, ro, po, ⟨j, last, hj, hs, ha.2.1, onlyLeaving_of_quiet ha.1, ha.2.2⟩, al⟩⟩
end Go.Proofs.Ytpekofpiodaadaa.Hb
end

/- The walks of layer hist: numbers and moments made one; how a histogram is read. -/
import Derived.Test.YteckbgpkoanhfaaHbHist
import Derived.Test.YteckbgpkoanhfaaHbProd
namespace Go.Proofs.Yteckbgpkoanhfaa.Hb
open Go.RowKit

def intE (r : Except Int Int) : Value := .tuple #[.int .i64 (valO 0 r), .int .i64 (errO r)]
def momV (m : Mom) : Value := .agg #[.int .i64 m.c, .int .i64 m.s, .int .i64 m.q]
def momE (r : Except Int Mom) : Value := .tuple #[momV (valO m0 r), .int .i64 (errO r)]

/-- How two numbers are made one: of this program's functions f. -/
structure IsOp (f : Nat) (op : Int → Int → Bool → Except Int Int) : Prop where
  calls : ∀ (a b : Int) (sg : Bool) (w : World), inR a → inR b → Calls Try.prog f #[.int .i64 a, .int .i64 b, .bool sg] w fun e w' => e = .returned (intE (op a b sg)) ∧ w = w'
  ok : ∀ {a b x : Int} {sg : Bool}, op a b sg = .ok x → inR x
  f : ∀ args w, (callFunc f args).run Try.prog w = .ok (.enter f args) w
  err : ∀ {a b e : Int} {sg : Bool}, op a b sg = .error e → e = 5 ∨ e = 6

theorem opP_intE (a b : Int) (sg : Bool) : intE (opP a b sg) = res (lim (a + b)) := by
  unfold intE opP
  cases lim (a + b) <;> rfl
theorem plus_is : IsOp 48 opP where
  calls a b sg w ha hb := by
    rw [opP_intE]
    obtain ⟨x, y, hxy⟩ := res_form (lim (a + b))
    rw [hxy]
    have HXY := Lib.hid hxy
    clear hxy
    go_enter Try.func48, Try.ntmps48
    go_wp2_with (go_at_call 45; refine (pplus_any a b ha hb _).mono ?_; rintro e w1 ⟨rfl, rfl⟩; rw [HXY.out])
    go_ret2
    exact ⟨rfl, rfl⟩
  ok := opP_ok
  f := enters_of Try.func48 (by kernel_rfl) rfl
  err h := by
    unfold opP at h
    cases hl : lim (_ + _) with
    | none => rw [hl] at h; cases h; exact .inr rfl
    | some y => rw [hl] at h; cases h
theorem minus_is : IsOp 54 opM where
  calls a b sg w ha hb := by
    cases hl : lim (a - b) with
    | none =>
      rw [opM_none sg hl]
      have hp := pminus_any a b ha hb w
      rw [hl] at hp
      have HP := Lib.hid hp
      clear hp
      go_enter Try.func54, Try.ntmps54
      go_wp2_with (go_at_call 76; refine HP.out.mono ?_; rintro e w1 ⟨rfl, rfl⟩; simp only [res])
      go_ret2
      exact ⟨rfl, rfl⟩
    | some x =>
      have hp := pminus_any a b ha hb w
      rw [hl] at hp
      have HP := Lib.hid hp
      clear hp
      by_cases hx : x < 0
      · have hx' : decide (x < 0) = true := decide_eq_true hx
        cases sg
        · rw [opM_neg hl hx]
          clear hx hl
          go_enter Try.func54, Try.ntmps54
          go_wp2_with (go_at_call 76; refine HP.out.mono ?_; rintro e w1 ⟨rfl, rfl⟩; simp only [res])
          go_ret2
          exact ⟨rfl, rfl⟩
        · rw [opM_sg hl]
          clear hx hl
          go_enter Try.func54, Try.ntmps54
          go_wp2_with (go_at_call 76; refine HP.out.mono ?_; rintro e w1 ⟨rfl, rfl⟩; simp only [res])
          go_ret2
          exact ⟨rfl, rfl⟩
      · have hx' : decide (x < 0) = false := decide_eq_false hx
        rw [opM_pos sg hl hx]
        clear hx hl
        go_enter Try.func54, Try.ntmps54
        go_wp2_with (go_at_call 76; refine HP.out.mono ?_; rintro e w1 ⟨rfl, rfl⟩; simp only [res])
        go_ret2
        exact ⟨rfl, rfl⟩
  ok := opM_ok
  f := enters_of Try.func54 (by kernel_rfl) rfl
  err h := by
    unfold opM at h
    cases hl : lim (_ - _) with
    | none => rw [hl] at h; cases h; exact .inr rfl
    | some y =>
      rw [hl] at h
      simp only at h
      split at h
      · cases h; exact .inl rfl
      · cases h
end Go.Proofs.Yteckbgpkoanhfaa.Hb

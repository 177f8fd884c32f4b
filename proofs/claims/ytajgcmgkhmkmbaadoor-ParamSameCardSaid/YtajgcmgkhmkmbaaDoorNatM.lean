/- Naturals and whole numbers: long division by bits of the reference, and the functions on whole numbers. No condition. -/
import Derived.Test.YtajgcmgkhmkmbaaDoorNatL
import Derived.Test.YtajgcmgkhmkmbaaDoorDenG
namespace Go.Proofs.YtajgcmgkhmkmbaaDoor
set_option linter.unusedVariables false
set_option maxRecDepth 8000
open Go Go.Den Go.RowKit Go.Dig

/-- A whole number as it is told: its cells. -/
def wcells (neg : Bool) (v : Value) : List Value := [.bool neg, v]

/-- What a row of a whole number says. -/
def IV (neg : Bool) (X : Nat) : Int := if neg then -(X : Int) else X
/-- v is a whole number in memory, of the value z, as it is told: its size in own words. -/
def IntOf (h : Hp) (B : Nat) (v : Value) (z : Int) : Prop := ∃ a, v = .agg #[.bool (decide (z < 0)), a] ∧ OwnF h B 31 U a (dg 18446744073709551616 z.natAbs)
theorem IntOf.ext {h h' : Hp} {B : Nat} {v : Value} {z : Int} (s : IntOf h B v z) (e : Ext h h') : IntOf h' B v z := by obtain ⟨a, h1, h2⟩ := s; exact ⟨a, h1, h2.ext e⟩
theorem IntOf.base {h : Hp} {B B' : Nat} {v : Value} {z : Int} (s : IntOf h B v z) (hB : B' ≤ B) : IntOf h B' v z := by obtain ⟨a, h1, h2⟩ := s; exact ⟨a, h1, h2.base hB⟩
theorem iv_abs (neg : Bool) (X : Nat) : (IV neg X).natAbs = X ∧ decide (IV neg X < 0) = (neg && decide (X ≠ 0)) := by
  unfold IV
  cases neg with
  | true => simp only [if_true, Int.natAbs_neg, Int.natAbs_natCast, Bool.true_and, true_and, decide_eq_decide]; omega
  | false => simp only [Bool.false_eq_true, if_false, Int.natAbs_natCast, Bool.false_and, true_and, decide_eq_false_iff_not]; omega
theorem IntOf.of {h : Hp} {B : Nat} {neg : Bool} {Z : Nat} {v : Value} (o : OwnF h B 31 U v (dg 18446744073709551616 Z)) : IntOf h B (.agg #[.bool (neg && decide (Z ≠ 0)), v]) (IV neg Z) := by
  obtain ⟨h1, h2⟩ := iv_abs neg Z
  exact ⟨v, by rw [h2], by rw [h1]; exact o⟩
theorem iv_same (neg : Bool) (X Y : Nat) : IV neg (X + Y) = IV neg X + IV neg Y := by
  unfold IV; cases neg <;> simp <;> omega
theorem iv_other {n1 n2 : Bool} {X Y : Nat} (hn : n1 ≠ n2) (hle : Y ≤ X) : IV n1 (X - Y) = IV n1 X + IV n2 Y := by
  unfold IV; cases n1 <;> cases n2 <;> simp at hn ⊢ <;> omega
theorem dg_len_add {X Y m : Nat} {xs ys : List Nat} (hx : Al 18446744073709551616 xs) (hy : Al 18446744073709551616 ys) (hX : vl 18446744073709551616 xs = X) (hY : vl 18446744073709551616 ys = Y) (h1 : xs.length ≤ m) (h2 : ys.length ≤ m) : (dg 18446744073709551616 (X + Y)).length ≤ m + 1 := by
  apply dg_len (by omega)
  have a := vl_lt hx
  have b := vl_lt hy
  have c : 18446744073709551616 ^ xs.length ≤ 18446744073709551616 ^ m := Nat.pow_le_pow_right (by omega) h1
  have d : 18446744073709551616 ^ ys.length ≤ 18446744073709551616 ^ m := Nat.pow_le_pow_right (by omega) h2
  rw [Nat.pow_succ]
  omega
theorem dg_len_le {X Y : Nat} {xs : List Nat} (hx : Al 18446744073709551616 xs) (hX : vl 18446744073709551616 xs = X) (h : Y ≤ X) : (dg 18446744073709551616 Y).length ≤ xs.length := by
  apply dg_len (by omega)
  have a := vl_lt hx
  omega

theorem cmpI_pos {m n : Nat} : 0 < cmpI m n ↔ n < m := by
  unfold cmpI
  by_cases h1 : m < n
  · simp [h1]; omega
  · by_cases h2 : n < m <;> simp [h1, h2]
theorem cmpI_zero {m n : Nat} : cmpI m n = 0 ↔ m = n := by
  unfold cmpI
  by_cases h1 : m < n
  · simp [h1]; omega
  · by_cases h2 : n < m <;> simp [h1, h2] <;> omega
theorem iv_mul (n1 n2 : Bool) (X Y : Nat) : IV (decide (n1 ≠ n2)) (X * Y) = IV n1 X * IV n2 Y := by
  unfold IV; cases n1 <;> cases n2 <;> simp [Int.neg_mul, Int.mul_neg]
theorem dg_len_mul {xs ys : List Nat} (hx : Al 18446744073709551616 xs) (hy : Al 18446744073709551616 ys) : (dg 18446744073709551616 (vl 18446744073709551616 xs * vl 18446744073709551616 ys)).length ≤ xs.length + ys.length := by
  apply dg_len (by omega)
  rw [Nat.pow_add]
  exact Nat.mul_lt_mul'' (vl_lt hx) (vl_lt hy)

theorem ediv_of {n d k : Int} (hd : 0 < d) (h1 : d * k ≤ n) (h2 : n < d * k + d) : n / d = k := by
  have a := Int.emod_nonneg n (by omega : d ≠ 0)
  have b := Int.emod_lt_of_pos n hd
  have c := Int.mul_ediv_add_emod n d
  have e : d * (n / d - k) < d := by rw [Int.mul_sub]; omega
  have f : -d < d * (n / d - k) := by rw [Int.mul_sub]; omega
  have g1 : n / d - k < 1 := by
    refine Int.lt_of_not_ge fun hge => ?_
    have := Int.mul_le_mul_of_nonneg_left hge (Int.le_of_lt hd)
    omega
  have g2 : -1 < n / d - k := by
    refine Int.lt_of_not_ge fun hge => ?_
    have := Int.mul_le_mul_of_nonneg_left hge (Int.le_of_lt hd)
    rw [Int.mul_neg] at this
    omega
  omega
/-- The nearest whole number to a quotient; a half goes up. -/
def nearZ (z : Int) (Y : Nat) : Int := (2 * z + Y) / (2 * Y)
def nearQ (neg : Bool) (X Y : Nat) : Nat := X / Y + if Y < 2 * (X % Y) ∨ 2 * (X % Y) = Y ∧ (neg && decide (X ≠ 0)) = false then 1 else 0
theorem near_eq {neg : Bool} {X Y : Nat} (hY : 0 < Y) : nearZ (IV neg X) Y = IV neg (nearQ neg X Y) := by
  unfold nearZ nearQ
  have h1 := Nat.div_add_mod X Y
  have h2 := Nat.mod_lt X hY
  generalize X / Y = q at *
  generalize X % Y = r at *
  apply ediv_of (by omega)
  all_goals
    have hp : (Y : Int) * (q : Int) = ((Y * q : Nat) : Int) := by simp
    have hq0 : q = 0 → Y * q = 0 := fun h => by rw [h, Nat.mul_zero]
    unfold IV
    cases neg with
    | false =>
      simp only [Bool.false_and, and_true, Bool.false_eq_true, if_false]
      split <;> (simp only [Int.natCast_add, Int.mul_add, Int.mul_assoc, hp, Int.natCast_one, Int.natCast_zero, Int.mul_one, Int.mul_zero]; omega)
    | true =>
      simp only [Bool.true_and, decide_eq_false_iff_not, if_true]
      split <;> (simp only [Int.natCast_add, Int.mul_add, Int.mul_neg, Int.neg_add, Int.mul_assoc, hp, Int.natCast_one, Int.natCast_zero, Int.mul_one, Int.mul_zero]; omega)

end Go.Proofs.YtajgcmgkhmkmbaaDoor

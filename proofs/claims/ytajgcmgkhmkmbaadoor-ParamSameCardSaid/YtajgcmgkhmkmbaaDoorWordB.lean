/- Package word and its reference, by contracts: whole products, what is nearest to 0, residues of whole numbers, and the fixed calls. No condition. -/
import Derived.Test.YtajgcmgkhmkmbaaDoorWord
namespace Go.Proofs.YtajgcmgkhmkmbaaDoor
set_option linter.unusedVariables false
set_option maxRecDepth 8000
open Go Go.Den Go.RowKit

theorem or_low {a c : Nat} (hc : c < 2) : (a * 2 ||| c) = a * 2 + c := by
  have := Num.or_add (a := a) (b := c) (s := 1) (by omega)
  simpa using this

theorem lin1 {W H hi lo T q r : Nat} (hW : W = 2 * H) (h : hi * W + lo = T) (h1 : H * q + r = lo) : (hi * 2 + q) * W + r * 2 = 2 * T := by
  subst hW h h1
  grind
theorem wide_dbl {hi lo T : Nat} (h : hi * 18446744073709551616 + lo = T) : (hi * 2 + lo / 9223372036854775808) * 18446744073709551616 + lo * 2 % 18446744073709551616 = 2 * T := by
  have h2 : lo * 2 % 18446744073709551616 = lo % 9223372036854775808 * 2 := Nat.mul_mod_mul_right 2 lo 9223372036854775808
  have h1 := Nat.div_add_mod lo 9223372036854775808
  have h3 := lin1 (H := 9223372036854775808) rfl h h1
  exact (congrArg (fun z => (hi * 2 + lo / 9223372036854775808) * 18446744073709551616 + z) h2).trans h3
theorem wide_hi {hi lo T : Nat} (h : hi * 18446744073709551616 + lo = T) (hT : 2 * T < 340282366920938463463374607431768211456) : hi * 2 < 18446744073709551616 := by omega
theorem wide_bd {a b : Nat} (ha : a < 18446744073709551616) (hb : b < 18446744073709551616) : a * b < 340282366920938463463374607431768211456 := by
  have : a * b ≤ 18446744073709551615 * 18446744073709551615 := Nat.mul_le_mul (by omega) (by omega)
  omega
theorem wide_end {hi lo T : Nat} (h : hi * 18446744073709551616 + lo = T) (hlo : lo < 18446744073709551616) : hi = T / 18446744073709551616 ∧ lo = T % 18446744073709551616 := by omega
theorem lin2 {W X a Y T z : Nat} (h : Y * W + X = T) (hge : W ≤ X + a) (e : z = X + a - W) : (Y + 1) * W + z = T + a := by
  subst h e
  have : (Y + 1) * W = Y * W + W := by simp only [Nat.add_mul, Nat.one_mul]
  omega
theorem wide_over {Y X a T : Nat} (h : Y * 18446744073709551616 + X = T) (hX : X < 18446744073709551616) (ha : a < 18446744073709551616) (ho : (X + a) % 18446744073709551616 < a) : (Y + 1) * 18446744073709551616 + (X + a) % 18446744073709551616 = T + a := by
  have hge : 18446744073709551616 ≤ X + a := by
    rcases Nat.lt_or_ge (X + a) 18446744073709551616 with k | k
    · rw [Nat.mod_eq_of_lt k] at ho; exact absurd ho (Nat.not_lt.2 (Nat.le_add_left a X))
    · exact k
  have e : (X + a) % 18446744073709551616 = X + a - 18446744073709551616 := by
    rw [Nat.mod_eq_sub_mod hge, Nat.mod_eq_of_lt (Nat.sub_lt_left_of_lt_add hge (Nat.add_lt_add hX ha))]
  exact lin2 h hge e
theorem wide_under {Y X a T : Nat} (h : Y * 18446744073709551616 + X = T) (hX : X < 18446744073709551616) (ha : a < 18446744073709551616) (ho : ¬ (X + a) % 18446744073709551616 < a) : Y * 18446744073709551616 + (X + a) % 18446744073709551616 = T + a := by omega
theorem wide_small {Y X T : Nat} (h : Y * 18446744073709551616 + X = T) (hT : T < 340282366920938463463374607431768211456) : Y < 18446744073709551616 := by omega

def centerm (a m : Nat) : Int := if m = 0 ∨ 4611686018427387904 < m then 0 else if m / 2 < a % m then ((a % m : Nat) : Int) - (m : Int) else ((a % m : Nat) : Int)
def liftm (v : Int) (m : Nat) : Nat := if m = 0 then 0 else (v % (m : Int)).toNat

theorem lift_pos {v : Int} {m : Nat} (hm : m ≠ 0) (hv : 0 ≤ v) : liftm v m = v.toNat % m := by
  rw [liftm, if_neg hm]
  obtain ⟨n, rfl⟩ := Int.eq_ofNat_of_zero_le hv
  rw [Int.toNat_natCast, ← Int.natCast_emod, Int.toNat_natCast]
theorem lift_neg {v : Int} {m : Nat} (hm : m ≠ 0) (hv : v < 0) : liftm v m = subm 0 (-v).toNat m := by
  rw [liftm, if_neg hm, subm, if_neg hm, Nat.zero_add]
  obtain ⟨n, hn⟩ := Int.eq_ofNat_of_zero_le (a := -v) (by omega)
  rw [hn, Int.toNat_natCast]
  have hlt : n % m < m := Nat.mod_lt _ (by omega)
  have e : v = -(n : Int) := by omega
  rw [e]
  have h1 : (-(n : Int)) % (m : Int) = (((m - n % m) % m : Nat) : Int) := by
    have hd := Nat.div_add_mod n m
    have : (-(n : Int)) = ((m - n % m : Nat) : Int) + (m : Int) * (-((n / m : Nat) : Int) - 1) := by
      rw [Int.mul_sub, Int.mul_neg, ← Int.natCast_mul]
      omega
    rw [this, Int.add_mul_emod_self_left, ← Int.natCast_emod]
  rw [h1, Int.toNat_natCast]

end Go.Proofs.YtajgcmgkhmkmbaaDoor

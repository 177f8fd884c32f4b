/- Plain laws on natural numbers: the school method of division by two digits. No condition; no program in sight. -/
import Derived.Lib.Mul64
namespace Go.Num
set_option linter.unusedVariables false
set_option maxRecDepth 8000

theorem modW (x : Nat) : x % 18446744073709551616 < 18446744073709551616 := Nat.mod_lt _ (by decide)
theorem mulB {q y : Nat} (hq : q ≤ 4294967296 + 1) (hy : y < 4294967296) : q * y < 18446744073709551616 := by
  have : q * y ≤ (4294967296 + 1) * 4294967295 := Nat.mul_le_mul hq (by omega)
  omega

theorem and32 (a : Nat) : a &&& 4294967295 = a % 4294967296 := Nat.and_two_pow_sub_one_eq_mod a 32

/-- What is left of a digit's step, reckoned round the word. -/
theorem rest_wrap {A M d r : Nat} (h : A + d = M + r) (hr : r < 18446744073709551616) :
    ((A % 18446744073709551616 + d) % 18446744073709551616 + (18446744073709551616 - M % 18446744073709551616)) % 18446744073709551616 = r := by omega

/-- One digit's guess is the digit, once the test says no. -/
theorem digit_eq {B y1 y0 u d q r Y : Nat} (hY : y1 * B + y0 = Y) (hy0 : y0 < B) (hq : q * y1 + r = u) (hge : (u * B + d) / Y ≤ q) (hle : q * y0 ≤ B * r + d) (hpos : 0 < Y) : q = (u * B + d) / Y := by
  subst hY
  refine Nat.le_antisymm ?_ hge
  rw [Nat.le_div_iff_mul_le hpos]
  have h1 : q * (y1 * B + y0) = q * y1 * B + q * y0 := by rw [Nat.mul_add, Nat.mul_assoc]
  have h2 : u * B = q * y1 * B + r * B := by rw [← hq, Nat.add_mul]
  have h3 : B * r = r * B := Nat.mul_comm _ _
  omega

/-- .. and once the remainder has a digit too many. -/
theorem digit_eq' {B y1 y0 u d q r Y : Nat} (hY : y1 * B + y0 = Y) (hy0 : y0 < B) (hq : q * y1 + r = u) (hge : (u * B + d) / Y ≤ q) (hr : B ≤ r) (hqB : q ≤ B) (hpos : 0 < Y) : q = (u * B + d) / Y := by
  subst hY
  refine digit_eq rfl hy0 hq hge ?_ hpos
  have h1 : q * y0 ≤ B * r := Nat.mul_le_mul hqB (by omega)
  omega

/-- A guess that the test refuses is too great. -/
theorem digit_gt {B y1 y0 u d q r Y : Nat} (hY : y1 * B + y0 = Y) (hq : q * y1 + r = u) (hlt : B * r + d < q * y0) (hpos : 0 < Y) : (u * B + d) / Y < q := by
  subst hY
  rw [Nat.div_lt_iff_lt_mul hpos]
  have h1 : q * (y1 * B + y0) = q * y1 * B + q * y0 := by rw [Nat.mul_add, Nat.mul_assoc]
  have h2 : u * B = q * y1 * B + r * B := by rw [← hq, Nat.add_mul]
  have h3 : B * r = r * B := Nat.mul_comm _ _
  omega

theorem digit_lt {B y u d : Nat} (hd : d < B) (hu : u < y) : (u * B + d) / y < B := by
  rw [Nat.div_lt_iff_lt_mul (by omega)]
  have h1 : (u + 1) * B ≤ y * B := Nat.mul_le_mul_right _ hu
  rw [Nat.add_mul] at h1
  have : B * y = y * B := Nat.mul_comm _ _
  omega

/-- The first guess is at most one too many beyond a digit. -/
theorem guess_le {B y1 y0 u Y : Nat} (hY : y1 * B + y0 = Y) (hy : B ≤ 2 * y1) (hy0 : y0 < B) (hu : u < Y) (h1 : 0 < y1) : u / y1 ≤ B + 1 := by
  subst hY
  rw [Nat.div_le_iff_le_mul_add_pred h1]
  have : y1 * (B + 1) = y1 * B + y1 := by rw [Nat.mul_add, Nat.mul_one]
  omega
theorem guess_ge {B y1 y0 u d Y : Nat} (hY : y1 * B + y0 = Y) (hd : d < B) (h1 : 0 < y1) : (u * B + d) / Y ≤ u / y1 := by
  subst hY
  have hb : 0 < B := by omega
  have hp : 0 < y1 * B := Nat.mul_pos h1 hb
  have e1 : (u * B + d) / (y1 * B + y0) ≤ (u * B + d) / (y1 * B) := Nat.div_le_div_left (by omega) hp
  have e2 : (u * B + d) / (y1 * B) = u / y1 := by
    rw [Nat.mul_comm y1 B, ← Nat.div_div_eq_div_mul]
    congr 1
    rw [Nat.mul_comm u B, Nat.mul_add_div hb, Nat.div_eq_of_lt hd, Nat.add_zero]
  omega

theorem or_add {a b s : Nat} (h : b < 2 ^ s) : (a * 2 ^ s) ||| b = a * 2 ^ s + b := by
  have := Nat.shiftLeft_add_eq_or_of_lt h a
  rw [Nat.shiftLeft_eq] at this
  exact this.symm

theorem and_mask (a s : Nat) : a &&& (2 ^ s - 1) = a % 2 ^ s := Nat.and_two_pow_sub_one_eq_mod a s

/-- The two digits together, and back from the divisor that was moved up. -/
theorem two_digits {B y u d1 d0 : Nat} (hy : 0 < y) (hB : 0 < B) : ((u * B + d1) * B + d0) / y = (u * B + d1) / y * B + ((u * B + d1) % y * B + d0) / y ∧ ((u * B + d1) * B + d0) % y = ((u * B + d1) % y * B + d0) % y := by
  generalize hN : u * B + d1 = N
  have h := Nat.div_add_mod N y
  have e : N * B + d0 = y * (N / y * B) + (N % y * B + d0) := by
    have h2 : N * B = (y * (N / y) + N % y) * B := by rw [h]
    rw [h2, Nat.add_mul, Nat.mul_assoc, Nat.add_assoc]
  constructor
  · rw [e, Nat.mul_add_div hy]
  · rw [e, Nat.mul_add_mod]

theorem two_end {y u d1 d0 e q1 v q0 r : Nat} (hy : 0 < y) (he : d1 * 4294967296 + d0 = e) (h1 : q1 = (u * 4294967296 + d1) / y) (h2 : v = (u * 4294967296 + d1) % y)
    (h3 : q0 = (v * 4294967296 + d0) / y) (h4 : r = (v * 4294967296 + d0) % y) : (u * 18446744073709551616 + e) / y = q1 * 4294967296 + q0 ∧ (u * 18446744073709551616 + e) % y = r := by
  obtain ⟨t1, t2⟩ := two_digits (y := y) (B := 4294967296) (u := u) (d1 := d1) (d0 := d0) hy (by omega)
  have hN : (u * 4294967296 + d1) * 4294967296 + d0 = u * 18446744073709551616 + e := by
    subst he; rw [Nat.add_mul, Nat.mul_assoc, Nat.add_assoc]
  rw [hN] at t1 t2
  rw [t1, t2, h3, h4, h1, h2]
  exact ⟨rfl, rfl⟩
theorem dm {n y q r : Nat} (h1 : q = n / y) (h2 : r = n % y) : n = q * y + r := by
  rw [h1, h2, Nat.mul_comm]; exact (Nat.div_add_mod n y).symm

theorem shift_div {N y s : Nat} (hy : 0 < y) : (N * 2 ^ s) / (y * 2 ^ s) = N / y ∧ (N * 2 ^ s) % (y * 2 ^ s) / 2 ^ s = N % y := by
  have hp : 0 < 2 ^ s := Nat.pow_pos (by omega)
  constructor
  · exact Nat.mul_div_mul_right _ _ hp
  · rw [Nat.mul_mod_mul_right, Nat.mul_div_cancel _ hp]

/-- lo moved up by s: what falls out above, and what stays. -/
theorem shift_parts {hi lo s : Nat} (hs : s ≤ 64) (hlo : lo < 18446744073709551616) :
    (hi * 18446744073709551616 + lo) * 2 ^ s = (hi * 2 ^ s + lo / 2 ^ (64 - s)) * 18446744073709551616 + lo * 2 ^ s % 18446744073709551616 := by
  have e64 : (18446744073709551616 : Nat) = 2 ^ (64 - s) * 2 ^ s := by rw [← Nat.pow_add, show 64 - s + s = 64 by omega]
  have hp : 0 < 2 ^ (64 - s) := Nat.pow_pos (by omega)
  have h1 : lo * 2 ^ s % 18446744073709551616 = lo % 2 ^ (64 - s) * 2 ^ s := by
    rw [e64, Nat.mul_mod_mul_right]
  have h2 := Nat.div_add_mod lo (2 ^ (64 - s))
  rw [h1, Nat.add_mul, Nat.add_mul]
  have h3 : lo * 2 ^ s = lo / 2 ^ (64 - s) * 18446744073709551616 + lo % 2 ^ (64 - s) * 2 ^ s := by
    rw [e64]
    conv => lhs; rw [← h2]
    rw [Nat.add_mul]
    congr 1
    rw [Nat.mul_comm (2 ^ (64 - s)), Nat.mul_assoc]
  have h4 : hi * 18446744073709551616 * 2 ^ s = hi * 2 ^ s * 18446744073709551616 := by
    rw [Nat.mul_assoc, Nat.mul_comm 18446744073709551616, ← Nat.mul_assoc]
  omega
end Go.Num

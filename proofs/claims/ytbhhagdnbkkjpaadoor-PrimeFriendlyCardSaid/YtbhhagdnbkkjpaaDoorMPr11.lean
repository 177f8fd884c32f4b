/- Texts Word to WordB of this work, joined: each says in its own head what it proves, and of which condition. -/
import Derived.Test.YtbhhagdnbkkjpaaDoorMPr10
/- The functions of package word, and of its reference, by contracts. No condition. -/
namespace Go.Proofs.YtbhhagdnbkkjpaaDoor
set_option linter.unusedVariables false
set_option maxRecDepth 8000
open Go Go.Den Go.RowKit

def addm (a b m : Nat) : Nat := if m = 0 then 0 else (a + b) % m
def subm (a b m : Nat) : Nat := if m = 0 then 0 else (a + (m - b % m)) % m
def mulm (a b m : Nat) : Nat := if m = 0 then 0 else a * b % m
def powm (a n m : Nat) : Nat := if m = 0 then 0 else a ^ n % m

theorem addm_wrap {a b m : Nat} (hm : m ≠ 0) (h : ((a % m + b % m + 0) / 18446744073709551616 = 1 ∨ m ≤ (a % m + b % m + 0) % 18446744073709551616)) (h1 : m < 18446744073709551616) :
    ((a % m + b % m + 0) % 18446744073709551616 + (18446744073709551616 - m)) % 18446744073709551616 = addm a b m := by
  have h2 : a % m < m := Nat.mod_lt _ (by omega)
  have h3 : b % m < m := Nat.mod_lt _ (by omega)
  have e : (a + b) % m = (a % m + b % m) % m := Nat.add_mod a b m
  rw [addm, if_neg hm, e]
  generalize a % m = x at *
  generalize b % m = y at *
  have hge : m ≤ x + y := by omega
  rw [Nat.mod_eq_sub_mod hge, Nat.mod_eq_of_lt (a := x + y - m) (by omega)]
  omega
theorem addm_plain {a b m : Nat} (hm : m ≠ 0) (h : ¬ (a % m + b % m + 0) / 18446744073709551616 = 1) (h' : ¬ m ≤ (a % m + b % m + 0) % 18446744073709551616) (h1 : m < 18446744073709551616) :
    (a % m + b % m + 0) % 18446744073709551616 = addm a b m := by
  have h2 : a % m < m := Nat.mod_lt _ (by omega)
  have h3 : b % m < m := Nat.mod_lt _ (by omega)
  have e : (a + b) % m = (a % m + b % m) % m := Nat.add_mod a b m
  rw [addm, if_neg hm, e]
  generalize a % m = x at *
  generalize b % m = y at *
  rw [Nat.mod_eq_of_lt (a := x + y) (by omega)]
  omega
theorem addm_red (a b m : Nat) (hm : m ≠ 0) : addm a b m = (a % m + b % m) % m := by rw [addm, if_neg hm, Nat.add_mod]
theorem addm_over {a b m : Nat} (hm : m ≠ 0) (h : m - a % m ≤ b % m) : addm a b m = b % m - (m - a % m) := by
  have h1 : a % m < m := Nat.mod_lt _ (by omega)
  have h2 : b % m < m := Nat.mod_lt _ (by omega)
  rw [addm_red a b m hm]
  generalize a % m = x at *
  generalize b % m = y at *
  rw [Nat.mod_eq_sub_mod (by omega), Nat.mod_eq_of_lt (by omega)]
  omega
theorem addm_under {a b m : Nat} (hm : m ≠ 0) (h : ¬ m - a % m ≤ b % m) : addm a b m = a % m + b % m := by
  have h1 : a % m < m := Nat.mod_lt _ (by omega)
  have h2 : b % m < m := Nat.mod_lt _ (by omega)
  rw [addm_red a b m hm]
  generalize a % m = x at *
  generalize b % m = y at *
  rw [Nat.mod_eq_of_lt (by omega)]
theorem subm_red (a b m : Nat) (hm : m ≠ 0) : subm a b m = if b % m ≤ a % m then a % m - b % m else a % m + (m - b % m) := by
  have h2 : a % m < m := Nat.mod_lt _ (by omega)
  have h3 : b % m < m := Nat.mod_lt _ (by omega)
  rw [subm, if_neg hm, ← Nat.mod_add_mod]
  generalize a % m = x at *
  generalize b % m = y at *
  by_cases h : y ≤ x
  · rw [if_pos h, show x + (m - y) = (x - y) + m by omega, Nat.add_mod_right, Nat.mod_eq_of_lt (by omega)]
  · rw [if_neg h, Nat.mod_eq_of_lt (by omega)]
theorem addm_lt {a b m : Nat} (hm : 0 < m) : addm a b m < m := by rw [addm, if_neg (by omega)]; exact Nat.mod_lt _ hm
theorem subm_lt {a b m : Nat} (hm : 0 < m) : subm a b m < m := by rw [subm, if_neg (by omega)]; exact Nat.mod_lt _ hm
theorem mulm_lt {a b m : Nat} (hm : 0 < m) : mulm a b m < m := by rw [mulm, if_neg (by omega)]; exact Nat.mod_lt _ hm
theorem mulm_le {a b m : Nat} : mulm a b m ≤ m := by
  rcases Nat.eq_zero_or_pos m with h | h
  · subst h; simp [mulm]
  · exact Nat.le_of_lt (mulm_lt h)
theorem addm_le {a b m : Nat} : addm a b m ≤ m := by
  rcases Nat.eq_zero_or_pos m with h | h
  · subst h; simp [addm]
  · exact Nat.le_of_lt (addm_lt h)

theorem Tryd_ent15 : Ent Tryd.prog 15 := ent_of Tryd.func15 (by kernel_rfl) rfl
set_option maxHeartbeats 400000 in
theorem mul_spec (a b m : Nat) (h : Hp) (ha : a < 18446744073709551616) (hb : b < 18446744073709551616) (hm : m < 18446744073709551616) :
    CallsH Tryd.prog 15 [U a, U b, U m] h fun v h' => v = U (mulm a b m) ∧ h = h' := by
  (apply enter Tryd.func15 rfl Tryd.ntmps15 rfl)
  refine runS ?_
  (apply w_condD; exact rfl; exact rfl) <;> intro hm0
  · refine runS ?_
    exact fin1 rfl rfl ⟨by simp [mulm, hm0], rfl⟩
  · refine runS ?_
    have h1 : a % m < m := Nat.mod_lt _ (by omega)
    have h2 : b % m < m := Nat.mod_lt _ (by omega)
    have h3 : a % m * (b % m) / 18446744073709551616 < m := by
      rw [Nat.div_lt_iff_lt_mul (by decide)]
      have : a % m * (b % m) ≤ a % m * m := Nat.mul_le_mul_left _ (Nat.le_of_lt h2)
      have h4 : a % m * m < m * m := Nat.mul_lt_mul_of_pos_right h1 (by omega)
      have h5 : m * m ≤ m * 18446744073709551616 := Nat.mul_le_mul_left _ (Nat.le_of_lt hm)
      exact Nat.lt_of_le_of_lt this (Nat.lt_of_lt_of_le h4 h5)
    have h6 : mulm a b m = a % m * (b % m) % m := by rw [mulm, if_neg hm0, Nat.mul_mod]
    have h7 := Nat.div_add_mod (a % m * (b % m)) 18446744073709551616
    rw [Nat.mul_comm] at h7
    refine run ?_
    apply (s_call Tryd_ent22 rfl rfl rfl)
    refine (mul64_spec _ _ h (by omega) (by omega)).mono ?_
    rintro _ _ ⟨rfl, rfl⟩
    refine ⟨trivial, ?_⟩
    refine run ?_
    apply (s_call Tryd_ent23 rfl rfl rfl)
    refine (div64_spec _ _ m h h3 (Num.modW _) hm).mono ?_
    rintro _ _ ⟨rfl, rfl⟩
    refine ⟨trivial, ?_⟩
    refine run ?_
    exact fin1 rfl rfl ⟨by rw [h7, h6], rfl⟩

theorem pow_step (x a n m : Nat) : x * a ^ n % m = ((if n % 2 = 1 then x * a % m else x) * (a * a % m) ^ (n / 2)) % m := by
  have e : a ^ n = (a * a) ^ (n / 2) * a ^ (n % 2) := by
    rw [← Nat.pow_two, ← Nat.pow_mul, ← Nat.pow_add, Nat.div_add_mod]
  rw [e]
  have h2 : (a * a % m) ^ (n / 2) % m = (a * a) ^ (n / 2) % m := (Nat.pow_mod (a * a) (n / 2) m).symm
  rcases Nat.mod_two_eq_zero_or_one n with h | h
  · rw [h, if_neg (by omega), Nat.pow_zero, Nat.mul_one, Nat.mul_mod x, ← h2, ← Nat.mul_mod]
  · rw [h, if_pos rfl, Nat.pow_one, Nat.mul_comm _ a, ← Nat.mul_assoc, Nat.mul_mod (x * a), ← h2, ← Nat.mul_mod, Nat.mul_mod (x * a % m), Nat.mod_mod, ← Nat.mul_mod]

theorem and_one (n : Nat) : n &&& 1 = n % 2 := Nat.and_two_pow_sub_one_eq_mod n 1

theorem Tryd_ent14 : Ent Tryd.prog 14 := ent_of Tryd.func14 (by kernel_rfl) rfl
set_option maxHeartbeats 400000 in
theorem pow_spec (a n m : Nat) (h : Hp) (ha : a < 18446744073709551616) (hn : n < 18446744073709551616) (hm : m < 18446744073709551616) :
    CallsH Tryd.prog 14 [U a, U n, U m] h fun v h' => v = U (powm a n m) ∧ h = h' := by
  (apply enter Tryd.func14 rfl Tryd.ntmps14 rfl)
  refine runS ?_
  (apply w_condD; exact rfl; exact rfl) <;> intro hm0
  · refine runS ?_
    exact fin1 rfl rfl ⟨by simp [powm, hm0], rfl⟩
  · refine run ?_
    (first | (apply w_seqB; exact rfl; apply w_block; exact rfl) | skip)
    apply (w_loop (σ := Nat × Nat × Nat) rfl (fun p => [(0, U p.1), (1, U p.2.1), (2, U m), (7, U p.2.2)])
      (fun p h' => h = h' ∧ p.1 < 18446744073709551616 ∧ p.2.1 < 18446744073709551616 ∧ p.2.2 < m ∧ p.2.2 * p.1 ^ p.2.1 % m = a ^ n % m) (fun p => p.2.1) (a, n, 1 % m))
    · exact (Sub.cons rfl (Sub.cons rfl (Sub.cons rfl (Sub.cons rfl (Sub.nil _)))))
    · exact ⟨rfl, ha, hn, Nat.mod_lt _ (by omega), by simp only []; rw [Nat.mod_mul_mod, Nat.one_mul]⟩
    · rintro ⟨a', n', x⟩ h' ⟨rfl, i1, i2, i3, i4⟩
      dsimp only at i1 i2 i3 i4 ⊢
      refine run ?_
      have ha2 : mulm a' a' m < 18446744073709551616 := Nat.lt_of_le_of_lt mulm_le hm
      have hs := pow_step x a' n' m
      rw [i4] at hs
      (apply w_condD; exact rfl; exact rfl) <;> intro hn0
      · refine run ?_
        (apply w_condD; exact rfl; exact rfl) <;> intro hb
        · rw [and_one] at hb
          refine run ?_
          apply (s_call Tryd_ent15 rfl rfl rfl)
          refine (mul_spec x a' m h (by omega) i1 hm).mono ?_
          rintro _ _ ⟨rfl, rfl⟩
          refine ⟨(by first | exact trivial | exact Ext.refl _ | assumption | exact Ext.trans (by assumption) (by assumption)), ?_⟩
          refine run ?_
          apply (s_call Tryd_ent15 rfl rfl rfl)
          refine (mul_spec a' a' m h i1 i1 hm).mono ?_
          rintro _ _ ⟨rfl, rfl⟩
          refine ⟨(by first | exact trivial | exact Ext.refl _ | assumption | exact Ext.trans (by assumption) (by assumption)), ?_⟩
          refine run ?_
          apply again_normal (mulm a' a' m, n' / 2 ^ 1, mulm x a' m)
          · exact (Sub.cons rfl (Sub.cons rfl (Sub.cons rfl (Sub.cons rfl (Sub.nil _)))))
          · exact ⟨rfl, ha2, by simp only []; omega, mulm_lt (by omega), by simp only [mulm, if_neg hm0]; rw [if_pos hb] at hs; rw [hs]⟩
          · simp only []; omega
        · rw [and_one] at hb
          refine run ?_
          apply (s_call Tryd_ent15 rfl rfl rfl)
          refine (mul_spec a' a' m h i1 i1 hm).mono ?_
          rintro _ _ ⟨rfl, rfl⟩
          refine ⟨(by first | exact trivial | exact Ext.refl _ | assumption | exact Ext.trans (by assumption) (by assumption)), ?_⟩
          refine run ?_
          apply again_normal (mulm a' a' m, n' / 2 ^ 1, x)
          · exact (Sub.cons rfl (Sub.cons rfl (Sub.cons rfl (Sub.cons rfl (Sub.nil _)))))
          · exact ⟨rfl, ha2, by simp only []; omega, i3, by simp only [mulm, if_neg hm0]; rw [if_neg hb] at hs; rw [hs]⟩
          · simp only []; omega
      · refine run ?_
        have hz : n' = 0 := by omega
        subst hz
        exact fin1 rfl rfl ⟨by rw [powm, if_neg hm0, ← i4, Nat.pow_zero, Nat.mul_one, Nat.mod_eq_of_lt i3], rfl⟩

theorem cong {a b m : Nat} (h : a % m = b % m) : ∃ k : Int, (a : Int) = b + m * k := by
  have h1 := Nat.div_add_mod a m
  have h2 := Nat.div_add_mod b m
  refine ⟨(a / m : Nat) - (b / m : Nat), ?_⟩
  have h1' : (a : Int) = (m : Int) * ((a / m : Nat) : Int) + ((a % m : Nat) : Int) := by rw [← Int.natCast_mul, ← Int.natCast_add, h1]
  have h2' : (b : Int) = (m : Int) * ((b / m : Nat) : Int) + ((b % m : Nat) : Int) := by rw [← Int.natCast_mul, ← Int.natCast_add, h2]
  rw [Int.mul_sub, h1', h2', h]
  omega
theorem of_cong {a b m : Nat} (k : Int) (h : (a : Int) = b + m * k) : a % m = b % m := by
  have h1 : (a : Int) % m = (b : Int) % m := by rw [h, Int.add_mul_emod_self_left]
  omega

theorem inv_step {r s x y a m : Nat} (hm : 0 < m) (hx : x * a % m = r % m) (hy : y * a % m = s % m) :
    subm x (mulm (r / s) y m) m * a % m = (r - r / s * s) % m := by
  have h1 : r / s * s ≤ r := Nat.div_mul_le_self r s
  obtain ⟨k1, e1⟩ := cong hx
  obtain ⟨k2, e2⟩ := cong hy
  have e3 : (subm x (mulm (r / s) y m) m + r / s * y) % m = x % m := by
    rw [subm, if_neg (by omega), mulm, if_neg (by omega), Nat.mod_mod, Nat.mod_add_mod]
    have hlt : r / s * y % m < m := Nat.mod_lt _ hm
    have hdm := Nat.div_add_mod (r / s * y) m
    rw [show x + (m - r / s * y % m) + r / s * y = x + m * (1 + r / s * y / m) by rw [Nat.mul_add, Nat.mul_one]; omega, Nat.add_mul_mod_self_left]
  obtain ⟨k3, e3⟩ := cong e3
  generalize subm x (mulm (r / s) y m) m = z at *
  generalize r / s = q at *
  refine of_cong (k1 - q * k2 + k3 * a) ?_
  rw [Int.ofNat_sub h1]
  simp only [Int.natCast_mul, Int.natCast_add] at *
  have e4 : (z : Int) = x + m * k3 - q * y := by omega
  rw [e4]
  grind

def InvIs (a m i : Nat) (ok : Bool) : Prop := (ok = true → 2 ≤ m ∧ Nat.gcd a m = 1 ∧ i < m ∧ a * i % m = 1) ∧ (ok = false → (m < 2 ∨ Nat.gcd a m ≠ 1) ∧ i = 0)

theorem Tryd_ent24 : Ent Tryd.prog 24 := ent_of Tryd.func24 (by kernel_rfl) rfl
set_option maxHeartbeats 400000 in
theorem refAdd_spec (a b m : Nat) (h : Hp) (ha : a < 18446744073709551616) (hb : b < 18446744073709551616) (hm : m < 18446744073709551616) :
    CallsH Tryd.prog 24 [U a, U b, U m] h fun v h' => v = U (addm a b m) ∧ h = h' := by
  (apply enter Tryd.func24 rfl Tryd.ntmps24 rfl)
  refine run ?_
  (apply w_condD; exact rfl; exact rfl) <;> intro hm0
  · refine run ?_
    exact fin1 rfl rfl ⟨by simp [addm, hm0], rfl⟩
  · refine run ?_
    have h1 : a % m < m := Nat.mod_lt _ (by omega)
    have h2 : b % m < m := Nat.mod_lt _ (by omega)
    refine run ?_
    (apply w_condD; exact rfl; exact rfl) <;> intro hc
    · refine run ?_
      exact fin1 rfl rfl ⟨by rw [addm_over hm0 hc], rfl⟩
    · refine run ?_
      exact fin1 rfl rfl ⟨by rw [addm_under hm0 hc], rfl⟩

theorem half {b k : Nat} (hk : k < 64) : b / 2 ^ (63 - k) = 2 * (b / 2 ^ (64 - k)) + b / 2 ^ (63 - k) % 2 := by
  have : b / 2 ^ (64 - k) = b / 2 ^ (63 - k) / 2 := by rw [Nat.div_div_eq_div_mul, ← Nat.pow_succ, show (63 - k).succ = 64 - k by omega]
  omega

theorem dbl_add (X a m : Nat) : ((X % m + X % m) % m + a) % m = (2 * X + a) % m := by
  rw [Nat.mod_add_mod, Nat.add_assoc, Nat.mod_add_mod, ← Nat.add_assoc, Nat.add_comm X, Nat.add_assoc, Nat.mod_add_mod]
  congr 1; omega
theorem sq_mul (X a m : Nat) : X % m * (X % m) % m * a % m = X * X * a % m := by
  rw [Nat.mod_mul_mod, Nat.mul_assoc, Nat.mod_mul_mod, ← Nat.mul_assoc, Nat.mul_comm X, Nat.mul_assoc, Nat.mod_mul_mod, Nat.mul_assoc]
theorem mul_bit1 {a b m k x : Nat} (hm0 : m ≠ 0) (hk : k < 64) (hx : x = a * (b / 2 ^ (64 - k)) % m) (hb : b / 2 ^ (63 - k) % 2 = 1) : addm (addm x x m) a m = a * (b / 2 ^ (64 - (k + 1))) % m := by
  have h := half (b := b) hk
  rw [show 64 - (k + 1) = 63 - k by omega, h, hb, hx, addm, if_neg hm0, addm, if_neg hm0, dbl_add]
  congr 1; rw [Nat.mul_add, Nat.mul_one, Nat.mul_left_comm]
theorem mul_bit0 {a b m k x : Nat} (hm0 : m ≠ 0) (hk : k < 64) (hx : x = a * (b / 2 ^ (64 - k)) % m) (hb : ¬ b / 2 ^ (63 - k) % 2 = 1) : addm x x m = a * (b / 2 ^ (64 - (k + 1))) % m := by
  have h := half (b := b) hk
  rw [show 64 - (k + 1) = 63 - k by omega, h, show b / 2 ^ (63 - k) % 2 = 0 by omega, hx, addm, if_neg hm0, ← Nat.add_mod]
  congr 1; rw [Nat.add_zero, Nat.two_mul, Nat.mul_add]
theorem pow_bit1 {a b m k x : Nat} (hm0 : m ≠ 0) (hk : k < 64) (hx : x = a ^ (b / 2 ^ (64 - k)) % m) (hb : b / 2 ^ (63 - k) % 2 = 1) : mulm (mulm x x m) a m = a ^ (b / 2 ^ (64 - (k + 1))) % m := by
  have h := half (b := b) hk
  rw [show 64 - (k + 1) = 63 - k by omega, h, hb, hx, mulm, if_neg hm0, mulm, if_neg hm0, sq_mul, Nat.pow_succ, Nat.two_mul, Nat.pow_add]
theorem pow_bit0 {a b m k x : Nat} (hm0 : m ≠ 0) (hk : k < 64) (hx : x = a ^ (b / 2 ^ (64 - k)) % m) (hb : ¬ b / 2 ^ (63 - k) % 2 = 1) : mulm x x m = a ^ (b / 2 ^ (64 - (k + 1))) % m := by
  have h := half (b := b) hk
  rw [show 64 - (k + 1) = 63 - k by omega, h, show b / 2 ^ (63 - k) % 2 = 0 by omega, hx, mulm, if_neg hm0, ← Nat.mul_mod, Nat.add_zero, Nat.two_mul, Nat.pow_add]

theorem Tryd_ent19 : Ent Tryd.prog 19 := ent_of Tryd.func19 (by kernel_rfl) rfl
set_option maxHeartbeats 400000 in
theorem refMul_spec (a b m : Nat) (h : Hp) (ha : a < 18446744073709551616) (hb : b < 18446744073709551616) (hm : m < 18446744073709551616) :
    CallsH Tryd.prog 19 [U a, U b, U m] h fun v h' => v = U (mulm a b m) ∧ h = h' := by
  (apply enter Tryd.func19 rfl Tryd.ntmps19 rfl)
  refine run ?_
  (apply w_condD; exact rfl; exact rfl) <;> intro hm0
  · refine run ?_
    exact fin1 rfl rfl ⟨by simp [mulm, hm0], rfl⟩
  · refine run ?_
    refine run ?_
    (apply s_split 15; exact rfl) <;> intro hA
    · refine run ?_
      (apply w_condD; exact rfl; exact rfl) <;> intro hB
      · have hAB : a % m * (b % m) < 18446744073709551616 := by
          have : a % m * (b % m) ≤ 4294967295 * 4294967295 := Nat.mul_le_mul (by omega) (by omega)
          omega
        refine run ?_
        exact fin1 rfl rfl ⟨by rw [mulm, if_neg hm0, ← Nat.mul_mod], rfl⟩
      · refine run ?_
        apply (w_loop (σ := Nat × Nat) rfl (fun p => [(0, U a), (1, U b), (2, U m), (7, U p.2), (8, I (p.1 : Int))])
          (fun p h' => h = h' ∧ p.1 ≤ 64 ∧ p.2 < m ∧ p.2 = a * (b / 2 ^ (64 - p.1)) % m) (fun p => 64 - p.1) (0, 0))
        · exact (Sub.cons rfl (Sub.cons rfl (Sub.cons rfl (Sub.cons rfl (Sub.cons rfl (Sub.nil _))))))
        · exact ⟨rfl, by simp only []; omega, by simp only []; omega, by simp only []; rw [Nat.div_eq_of_lt hb]; simp⟩
        · rintro ⟨k, x⟩ h' ⟨rfl, i1, i2, i3⟩
          dsimp only at i1 i2 i3 ⊢
          refine run ?_
          (apply w_condD; exact rfl; exact rfl) <;> intro hk
          · have hk' : k < 64 := by omega
            have hhalf := half (b := b) hk'
            have hbd : b / 2 ^ (63 - k) < 18446744073709551616 := Nat.lt_of_le_of_lt (Nat.div_le_self _ _) hb
            refine run ?_
            apply (s_call Tryd_ent24 rfl rfl rfl)
            refine (refAdd_spec x x m h (by omega) (by omega) hm).mono ?_
            rintro _ _ ⟨rfl, rfl⟩
            refine ⟨(by first | exact trivial | exact Ext.refl _ | assumption | exact Ext.trans (by assumption) (by assumption)), ?_⟩
            refine run ?_
            (apply s_convUN (63 - k); exact rfl; exact rfl; exact rfl; exact rfl)
            · omega
            · omega
            refine run ?_
            rw [and_one]
            (apply w_condD; exact rfl; exact rfl) <;> intro hbit
            · refine run ?_
              apply (s_call Tryd_ent24 rfl rfl rfl)
              refine (refAdd_spec _ a m h (Nat.lt_of_le_of_lt addm_le hm) ha hm).mono ?_
              rintro _ _ ⟨rfl, rfl⟩
              refine ⟨(by first | exact trivial | exact Ext.refl _ | assumption | exact Ext.trans (by assumption) (by assumption)), ?_⟩
              refine run ?_
              apply again_normal (k + 1, addm (addm x x m) a m)
              · exact (Sub.cons rfl (Sub.cons rfl (Sub.cons rfl (Sub.cons rfl (Sub.cons rfl (Sub.nil _))))))
              · exact ⟨rfl, by simp only []; omega, addm_lt (by omega), mul_bit1 hm0 hk' i3 hbit⟩
              · simp only []; omega
            · refine run ?_
              apply again_normal (k + 1, addm x x m)
              · exact (Sub.cons rfl (Sub.cons rfl (Sub.cons rfl (Sub.cons rfl (Sub.cons rfl (Sub.nil _))))))
              · exact ⟨rfl, by simp only []; omega, addm_lt (by omega), mul_bit0 hm0 hk' i3 hbit⟩
              · simp only []; omega
          · refine run ?_
            have hz : k = 64 := by omega
            subst hz
            exact fin1 rfl rfl ⟨by rw [i3, mulm, if_neg hm0]; simp, rfl⟩
    · refine run ?_
      apply (w_loop (σ := Nat × Nat) rfl (fun p => [(0, U a), (1, U b), (2, U m), (7, U p.2), (8, I (p.1 : Int))])
        (fun p h' => h = h' ∧ p.1 ≤ 64 ∧ p.2 < m ∧ p.2 = a * (b / 2 ^ (64 - p.1)) % m) (fun p => 64 - p.1) (0, 0))
      · exact (Sub.cons rfl (Sub.cons rfl (Sub.cons rfl (Sub.cons rfl (Sub.cons rfl (Sub.nil _))))))
      · exact ⟨rfl, by simp only []; omega, by simp only []; omega, by simp only []; rw [Nat.div_eq_of_lt hb]; simp⟩
      · rintro ⟨k, x⟩ h' ⟨rfl, i1, i2, i3⟩
        dsimp only at i1 i2 i3 ⊢
        refine run ?_
        (apply w_condD; exact rfl; exact rfl) <;> intro hk
        · have hk' : k < 64 := by omega
          have hhalf := half (b := b) hk'
          have hbd : b / 2 ^ (63 - k) < 18446744073709551616 := Nat.lt_of_le_of_lt (Nat.div_le_self _ _) hb
          refine run ?_
          apply (s_call Tryd_ent24 rfl rfl rfl)
          refine (refAdd_spec x x m h (by omega) (by omega) hm).mono ?_
          rintro _ _ ⟨rfl, rfl⟩
          refine ⟨(by first | exact trivial | exact Ext.refl _ | assumption | exact Ext.trans (by assumption) (by assumption)), ?_⟩
          refine run ?_
          (apply s_convUN (63 - k); exact rfl; exact rfl; exact rfl; exact rfl)
          · omega
          · omega
          refine run ?_
          rw [and_one]
          (apply w_condD; exact rfl; exact rfl) <;> intro hbit
          · refine run ?_
            apply (s_call Tryd_ent24 rfl rfl rfl)
            refine (refAdd_spec _ a m h (Nat.lt_of_le_of_lt addm_le hm) ha hm).mono ?_
            rintro _ _ ⟨rfl, rfl⟩
            refine ⟨(by first | exact trivial | exact Ext.refl _ | assumption | exact Ext.trans (by assumption) (by assumption)), ?_⟩
            refine run ?_
            apply again_normal (k + 1, addm (addm x x m) a m)
            · exact (Sub.cons rfl (Sub.cons rfl (Sub.cons rfl (Sub.cons rfl (Sub.cons rfl (Sub.nil _))))))
            · exact ⟨rfl, by simp only []; omega, addm_lt (by omega), mul_bit1 hm0 hk' i3 hbit⟩
            · simp only []; omega
          · refine run ?_
            apply again_normal (k + 1, addm x x m)
            · exact (Sub.cons rfl (Sub.cons rfl (Sub.cons rfl (Sub.cons rfl (Sub.cons rfl (Sub.nil _))))))
            · exact ⟨rfl, by simp only []; omega, addm_lt (by omega), mul_bit0 hm0 hk' i3 hbit⟩
            · simp only []; omega
        · refine run ?_
          have hz : k = 64 := by omega
          subst hz
          exact fin1 rfl rfl ⟨by rw [i3, mulm, if_neg hm0]; simp, rfl⟩

theorem Tryd_ent10 : Ent Tryd.prog 10 := ent_of Tryd.func10 (by kernel_rfl) rfl
set_option maxHeartbeats 400000 in
theorem refPow_spec (a n m : Nat) (h : Hp) (ha : a < 18446744073709551616) (hn : n < 18446744073709551616) (hm : m < 18446744073709551616) :
    CallsH Tryd.prog 10 [U a, U n, U m] h fun v h' => v = U (powm a n m) ∧ h = h' := by
  (apply enter Tryd.func10 rfl Tryd.ntmps10 rfl)
  refine run ?_
  (apply w_condD; exact rfl; exact rfl) <;> intro hm0
  · refine run ?_
    exact fin1 rfl rfl ⟨by simp [powm, hm0], rfl⟩
  · refine run ?_
    apply (w_loop (σ := Nat × Nat) rfl (fun p => [(0, U a), (1, U n), (2, U m), (7, U p.2), (8, I (p.1 : Int))])
      (fun p h' => h = h' ∧ p.1 ≤ 64 ∧ p.2 < m ∧ p.2 = a ^ (n / 2 ^ (64 - p.1)) % m) (fun p => 64 - p.1) (0, 1 % m))
    · exact (Sub.cons rfl (Sub.cons rfl (Sub.cons rfl (Sub.cons rfl (Sub.cons rfl (Sub.nil _))))))
    · exact ⟨rfl, by simp only []; omega, Nat.mod_lt _ (by omega), by simp only []; rw [Nat.div_eq_of_lt hn]; simp⟩
    · rintro ⟨k, x⟩ h' ⟨rfl, i1, i2, i3⟩
      dsimp only at i1 i2 i3 ⊢
      refine run ?_
      (apply w_condD; exact rfl; exact rfl) <;> intro hk
      · have hk' : k < 64 := by omega
        have hhalf := half (b := n) hk'
        have hbd : n / 2 ^ (63 - k) < 18446744073709551616 := Nat.lt_of_le_of_lt (Nat.div_le_self _ _) hn
        refine run ?_
        apply (s_call Tryd_ent19 rfl rfl rfl)
        refine (refMul_spec x x m h (by omega) (by omega) hm).mono ?_
        rintro _ _ ⟨rfl, rfl⟩
        refine ⟨(by first | exact trivial | exact Ext.refl _ | assumption | exact Ext.trans (by assumption) (by assumption)), ?_⟩
        refine run ?_
        (apply s_convUN (63 - k); exact rfl; exact rfl; exact rfl; exact rfl)
        · omega
        · omega
        refine run ?_
        rw [and_one]
        (apply w_condD; exact rfl; exact rfl) <;> intro hbit
        · refine run ?_
          apply (s_call Tryd_ent19 rfl rfl rfl)
          refine (refMul_spec _ a m h (Nat.lt_of_le_of_lt mulm_le hm) ha hm).mono ?_
          rintro _ _ ⟨rfl, rfl⟩
          refine ⟨(by first | exact trivial | exact Ext.refl _ | assumption | exact Ext.trans (by assumption) (by assumption)), ?_⟩
          refine run ?_
          apply again_normal (k + 1, mulm (mulm x x m) a m)
          · exact (Sub.cons rfl (Sub.cons rfl (Sub.cons rfl (Sub.cons rfl (Sub.cons rfl (Sub.nil _))))))
          · exact ⟨rfl, by simp only []; omega, mulm_lt (by omega), pow_bit1 hm0 hk' i3 hbit⟩
          · simp only []; omega
        · refine run ?_
          apply again_normal (k + 1, mulm x x m)
          · exact (Sub.cons rfl (Sub.cons rfl (Sub.cons rfl (Sub.cons rfl (Sub.cons rfl (Sub.nil _))))))
          · exact ⟨rfl, by simp only []; omega, mulm_lt (by omega), pow_bit0 hm0 hk' i3 hbit⟩
          · simp only []; omega
      · refine run ?_
        have hz : k = 64 := by omega
        subst hz
        exact fin1 rfl rfl ⟨by rw [i3, powm, if_neg hm0]; simp, rfl⟩

end Go.Proofs.YtbhhagdnbkkjpaaDoor

/- Package prime: the test, told by a function. Condition: the table of math/bits reads as it is laid. -/
namespace Go.Proofs.YtbhhagdnbkkjpaaDoor
set_option linter.unusedVariables false
set_option maxRecDepth 8000
open Go Go.Den Go.RowKit

def tzT : List Nat := [0, 1, 56, 2, 57, 49, 28, 3, 61, 58, 42, 50, 38, 29, 17, 4, 62, 47, 59, 36, 45, 43, 51, 22, 53, 39, 33, 30, 24, 18, 12, 5, 63, 55, 48, 27, 60, 41, 37, 16, 46, 35, 44, 21, 52, 32, 23, 11, 54, 26, 40, 15, 34, 20, 31, 10, 25, 14, 19, 9, 13, 8, 7, 6]
def tz (x : Nat) : Nat := if x = 0 then 64 else tzT.getD ((x &&& (18446744073709551616 - x) % 18446744073709551616) * 285870213051353865 % 18446744073709551616 / 2 ^ 58) 0
theorem tzT_le : ∀ j, tzT.getD j 0 ≤ 64 := by
  intro j
  by_cases hj : j < tzT.length
  · have : ∀ k : Fin 64, tzT.getD k.val 0 ≤ 64 := by decide
    exact this ⟨j, hj⟩
  · rw [List.getD_eq_getElem?_getD, List.getElem?_eq_none (by omega)]; decide
theorem tz_le (x : Nat) : tz x ≤ 64 := by
  unfold tz
  split
  · omega
  · exact tzT_le _

/-- The table of math/bits in memory. -/
def TB (h : Hp) : Prop := Cells h (.pointer (some ⟨0, 0, none⟩)) (tzT.map fun b => .int .u8 ((b : Nat) : Int))
theorem TB.ext {h h' : Hp} (s : TB h) (e : Ext h h') : TB h' := Cells.ext s e

theorem mul_lt58 (a : Nat) : a % 18446744073709551616 / 2 ^ 58 < 64 := by
  have : a % 18446744073709551616 < 18446744073709551616 := Nat.mod_lt _ (by decide)
  omega

theorem tz_nth (j : Nat) (hj : j < 64) : nth (tzT.map fun b => Value.int .u8 ((b : Nat) : Int)) j = some (.int .u8 ((tzT.getD j 0 : Nat) : Int)) := by
  rw [nth_eq, List.getElem?_map, List.getD_eq_getElem?_getD, List.getElem?_eq_getElem (show j < tzT.length from hj)]; rfl
theorem Tryd_ent17 : Ent Tryd.prog 17 := ent_of Tryd.func17 (by kernel_rfl) rfl
theorem tz_spec (x : Nat) (h : Hp) (T : TB h) (hx : x < 18446744073709551616) :
    CallsH Tryd.prog 17 [U x] h fun v h' => v = N (tz x) ∧ h = h' := by
  have T' := T
  unfold TB at T
  (apply enter Tryd.func17 rfl Tryd.ntmps17 rfl)
  refine runJ ?_
  (apply w_condD; exact rfl; exact rfl) <;> intro h0
  · refine runJ ?_
    exact fin1 rfl rfl ⟨by unfold tz; rw [if_pos h0], rfl⟩
  · have hm : (18446744073709551616 - x) % 18446744073709551616 < 18446744073709551616 := Nat.mod_lt _ (by decide)
    refine runJ ?_
    (apply s_mulUw; (first | exact isK_c | exact isK_t rfl); (first | exact isK_c | exact isK_t rfl); exact rfl)
    refine runJ ?_
    have h58 := mul_lt58 ((x &&& (18446744073709551616 - x) % 18446744073709551616) * 285870213051353865)
    have hval : tz x = tzT.getD ((x &&& (18446744073709551616 - x) % 18446744073709551616) * 285870213051353865 % 18446744073709551616 / 2 ^ 58) 0 := by unfold tz; rw [if_neg h0]
    have hj := tz_nth _ h58
    have hg := tzT_le ((x &&& (18446744073709551616 - x) % 18446744073709551616) * 285870213051353865 % 18446744073709551616 / 2 ^ 58)
    rw [← hval] at hj hg
    apply s_indexArr rfl rfl (isK_t rfl) rfl rfl rfl h58
    repeat (apply w_seq; exact rfl)
    refine s_op rfl rfl (s_loadP rfl rfl (rd_cellP T) rfl hj ?_)
    refine runJ ?_
    exact fin1 rfl rfl ⟨rfl, rfl⟩

def holdsLoop (n : Nat) : Nat → Nat → Bool
  | 0, _ => false
  | k + 1, x => mulm x x n == n - 1 || holdsLoop n k (mulm x x n)
def holdsB (n d s a : Nat) : Bool := a % n == 0 || (powm (a % n) d n == 1 || (powm (a % n) d n == n - 1 || holdsLoop n (s - 1) (powm (a % n) d n)))
def bases : List Nat := [2, 325, 9375, 28178, 450775, 9780504, 1795265022]
def isB (n : Nat) : Bool := if n < 4 ∨ n % 2 = 0 then n == 2 || n == 3 else bases.all (holdsB n ((n - 1) / 2 ^ tz (n - 1)) (tz (n - 1)))

theorem Tryd_ent18 : Ent Tryd.prog 18 := ent_of Tryd.func18 (by kernel_rfl) rfl
theorem holds_spec (n d s a : Nat) (h : Hp) (hn : 0 < n) (hn2 : n < 18446744073709551616) (hd : d < 18446744073709551616) (hs : s ≤ 64) (ha : a < 18446744073709551616) :
    CallsH Tryd.prog 18 [.agg #[U n, U d, N s], U a] h fun v' h' => v' = .bool (holdsB n d s a) ∧ Ext h h' := by
  have ham : a % n < n := Nat.mod_lt _ hn
  (apply enter Tryd.func18 rfl Tryd.ntmps18 rfl)
  refine runJ ?_
  (apply s_box; exact rfl; exact rfl; exact rfl; exact rfl)
  intro p h1 x1 e1 b1
  (try dsimp only [Value.cells, List.toList_toArray] at x1)
  refine ⟨(by first | exact trivial | exact Ext.refl _ | assumption | exact Ext.trans (by assumption) (by assumption)), ?_⟩
  refine runJ ?_
  (apply w_condD; exact rfl; exact rfl) <;> intro h0
  · refine runJ ?_
    exact fin1 rfl rfl ⟨by unfold holdsB; simp [h0], e1⟩
  refine runJ ?_
  apply (s_call Tryd_ent14 rfl rfl rfl)
  refine (pow_spec _ d n h1 (by omega) hd hn2).mono ?_
  rintro _ _ ⟨rfl, rfl⟩
  refine ⟨(by first | exact trivial | exact Ext.refl _ | assumption | exact Ext.trans (by assumption) (by assumption)), ?_⟩
  have hp : powm (a % n) d n < n := by unfold powm; rw [if_neg (by omega)]; exact Nat.mod_lt _ hn
  refine runJ ?_
  (apply s_splitG; exact rfl; exact rfl; exact rfl; exact rfl) <;> intro h1x
  · refine runJ ?_
    exact fin1 rfl rfl ⟨by unfold holdsB; simp [h1x], e1⟩
  refine runJ ?_
  (apply w_condD; exact rfl; exact rfl) <;> intro h2x
  · refine runJ ?_
    exact fin1 rfl rfl ⟨by unfold holdsB; simp [h2x], e1⟩
  have hB : holdsB n d s a = holdsLoop n (s - 1) (powm (a % n) d n) := by
    unfold holdsB
    rw [beq_eq_false_iff_ne.2 h0, beq_eq_false_iff_ne.2 h1x, beq_eq_false_iff_ne.2 h2x]; rfl
  refine runJ ?_
  (first | (apply w_seqB; exact rfl; apply w_block; exact rfl) | skip)
  apply (w_loop (σ := Nat × Nat) rfl (fun p' => [(2, p), (5, U p'.1), (29, I ((s : Int) - 1)), (30, N p'.2)])
    (fun p' h' => h1 = h' ∧ p'.1 < n ∧ p'.2 ≤ s - 1 ∧ holdsB n d s a = holdsLoop n (s - 1 - p'.2) p'.1) (fun p' => s - 1 - p'.2) (powm (a % n) d n, 0))
  · exact (Sub.cons rfl (Sub.cons rfl (Sub.cons rfl (Sub.cons rfl (Sub.nil _)))))
  · exact ⟨rfl, hp, Nat.zero_le _, hB⟩
  rintro ⟨x, j⟩ h' ⟨rfl, j1, j2, j3⟩
  dsimp only at j1 j2 j3 ⊢
  have hsx : ¬ x = n - 1 ∨ True := .inr trivial
  refine runJ ?_
  (apply w_condD; exact rfl; exact rfl) <;> intro hj
  · obtain ⟨k, hk⟩ : ∃ k, s - 1 - j = k + 1 := ⟨s - 1 - j - 1, by omega⟩
    rw [hk] at j3
    unfold holdsLoop at j3
    have hm : mulm x x n < n := mulm_lt hn
    refine runJ ?_
    apply (s_call Tryd_ent15 rfl rfl rfl)
    refine (mul_spec x x n h1 (by omega) (by omega) hn2).mono ?_
    rintro _ _ ⟨rfl, rfl⟩
    refine ⟨(by first | exact trivial | exact Ext.refl _ | assumption | exact Ext.trans (by assumption) (by assumption)), ?_⟩
    refine runJ ?_
    (apply w_condD; exact rfl; exact rfl) <;> intro he
    · refine runJ ?_
      exact fin1 rfl rfl ⟨by rw [j3, he]; simp, e1⟩
    · refine runJ ?_
      apply again_normal (mulm x x n, j + 1)
      · exact (Sub.cons rfl (Sub.cons rfl (Sub.cons rfl (Sub.cons rfl (Sub.nil _)))))
      · refine ⟨rfl, hm, by omega, ?_⟩
        dsimp only
        rw [j3, show s - 1 - (j + 1) = k by omega]
        simp [he]
      · dsimp only; omega
  · have : s - 1 - j = 0 := by omega
    rw [this] at j3
    unfold holdsLoop at j3
    refine runJ ?_
    exact fin1 rfl rfl ⟨by rw [j3], e1⟩

theorem Tryd_ent9 : Ent Tryd.prog 9 := ent_of Tryd.func9 (by kernel_rfl) rfl
theorem is_spec (n : Nat) (h : Hp) (T : TB h) (hn2 : n < 18446744073709551616) :
    CallsH Tryd.prog 9 [U n] h fun v' h' => v' = .bool (isB n) ∧ Ext h h' := by
  have hand : n &&& 1 = n % 2 := Nat.and_two_pow_sub_one_eq_mod n 1
  (apply enter Tryd.func9 rfl Tryd.ntmps9 rfl)
  refine runJ ?_
  (apply s_splitG; exact rfl; exact rfl; exact rfl; exact rfl) <;> intro h4
  · have hB : isB n = (n == 2 || n == 3) := by unfold isB; rw [if_pos (.inl h4)]
    refine runJ ?_
    (apply s_splitG; exact rfl; exact rfl; exact rfl; exact rfl) <;> intro h2
    · refine runJ ?_
      exact fin1 rfl rfl ⟨by rw [hB, h2]; rfl, Ext.refl _⟩
    · refine runJ ?_
      exact fin1 rfl rfl ⟨by rw [hB, beq_eq_false_iff_ne.2 h2]; rfl, Ext.refl _⟩
  refine runJ ?_
  (apply w_condD; exact rfl; exact rfl) <;> intro he
  · have hB : isB n = (n == 2 || n == 3) := by unfold isB; rw [if_pos (.inr (by rw [← hand]; exact he))]
    refine runJ ?_
    (apply s_splitG; exact rfl; exact rfl; exact rfl; exact rfl) <;> intro h2
    · refine runJ ?_
      exact fin1 rfl rfl ⟨by rw [hB, h2]; rfl, Ext.refl _⟩
    · refine runJ ?_
      exact fin1 rfl rfl ⟨by rw [hB, beq_eq_false_iff_ne.2 h2]; rfl, Ext.refl _⟩
  have hB : isB n = bases.all (holdsB n ((n - 1) / 2 ^ tz (n - 1)) (tz (n - 1))) := by unfold isB; rw [if_neg (by omega)]
  have htz := tz_le (n - 1)
  refine runJ ?_
  apply (s_call Tryd_ent17 rfl rfl rfl)
  refine (tz_spec (n - 1) h T (by omega)).mono ?_
  rintro _ _ ⟨rfl, rfl⟩
  refine ⟨(by first | exact trivial | exact Ext.refl _ | assumption | exact Ext.trans (by assumption) (by assumption)), ?_⟩
  have hd : (n - 1) / 2 ^ tz (n - 1) < 18446744073709551616 := Nat.lt_of_le_of_lt (Nat.div_le_self _ _) (by omega)
  generalize tz (n - 1) = s at hB htz hd
  generalize hdd : (n - 1) / 2 ^ s = d at hB hd
  refine runJ ?_
  refine o_know (t := 28) (u := U d) rfl (congrArg U hdd) ?_
  refine runJ ?_
  (apply (s_build ([U n, U d, N s])); exact rfl; exact rfl; exact rfl; (repeat (first | exact CellsAll.nil | (apply CellsAll.cons; (first | exact oneL (by assumption) | exact oneL (SlF.one (by assumption)) | exact oneL (SlF.one (OwnF.sl (by assumption))) | exact oneL (Var.one (by assumption)) | exact rfl)))); exact rfl; exact rfl)
  refine runJ ?_
  (apply (s_litF (f := U) [2, 325, 9375, 28178, 450775, 9780504, 1795265022] (fun _ => rfl)); exact rfl; exact rfl; exact rfl; exact rfl; exact rfl; exact rfl; exact rfl; exact rfl; omega)
  intro w h1 o1 e1 b1
  refine ⟨(by first | exact trivial | exact Ext.refl _ | assumption | exact Ext.trans (by assumption) (by assumption)), ?_⟩
  have w1 := o1.sl
  refine runJ ?_
  (first | (apply w_seqB; exact rfl; apply w_block; exact rfl) | skip)
  apply (w_loop (σ := Nat) rfl (fun j => [(4, .func (.func 18) #[.agg #[U n, U d, N s]] #[]), (32, w), (33, N bases.length), (34, N j)])
    (fun j h' => Ext h h' ∧ SlF h' U w bases ∧ j ≤ bases.length ∧ (bases.take j).all (holdsB n d s) = true) (fun j => bases.length - j) 0)
  · exact (Sub.cons rfl (Sub.cons rfl (Sub.cons rfl (Sub.cons rfl (Sub.nil _)))))
  · exact ⟨e1, w1, Nat.zero_le _, rfl⟩
  rintro j h2 ⟨e2, w2, j2, j3⟩
  have hbl : bases.length = 7 := rfl
  refine runJ ?_
  (apply w_condD; exact rfl; exact rfl) <;> intro hj
  · obtain ⟨b, hb⟩ : ∃ b, bases[j]? = some b := ⟨bases[j], by simp [hj]⟩
    have hb64 : b < 18446744073709551616 := by
      have := List.mem_of_getElem? hb
      have hall : ∀ x ∈ bases, x < 18446744073709551616 := by decide
      exact hall b this
    refine runJ ?_
    refine s_callV rfl Tryd_ent18 rfl rfl rfl ?_
    refine (holds_spec n d s b h2 (by omega) hn2 hd htz hb64).mono ?_
    rintro _ h3 ⟨rfl, e3⟩
    refine ⟨(by first | exact trivial | exact trivial), ?_⟩
    have e23 := e2.trans e3
    have w3 := w2.ext e3
    have htk : bases.take (j + 1) = bases.take j ++ [b] := by rw [List.take_add_one, hb]; rfl
    refine runJ ?_
    (apply w_cond; exact rfl; exact rfl) <;> intro hx
    · have hx' : holdsB n d s b = false := by simpa using hx
      refine runJ ?_
      refine fin1 rfl rfl ⟨?_, e23⟩
      rw [hB]
      congr 1
      symm
      rw [List.all_eq_false]
      exact ⟨b, List.mem_of_getElem? hb, by simp [hx']⟩
    · have hx' : holdsB n d s b = true := by simpa using hx
      refine runJ ?_
      apply again_normal (j + 1)
      · exact (Sub.cons rfl (Sub.cons rfl (Sub.cons rfl (Sub.cons rfl (Sub.nil _)))))
      · exact ⟨e23, w3, hj, by rw [htk, List.all_append, j3]; simp [hx']⟩
      · omega
  · rw [List.take_of_length_le (by omega)] at j3
    refine runJ ?_
    exact fin1 rfl rfl ⟨by rw [hB, j3], e2⟩
end Go.Proofs.YtbhhagdnbkkjpaaDoor

/- Small plain laws that every package's walks use. No condition. -/
namespace Go.Den
set_option linter.unusedVariables false
set_option maxRecDepth 8000
open Go Go.RowKit
theorem take_snoc {α : Type} {l : List α} {j : Nat} {x : α} (h : l[j]? = some x) : l.take (j + 1) = l.take j ++ [x] := by
  rw [List.take_add_one, h]; rfl
theorem get_lt {α : Type} {l : List α} {j : Nat} (h : j < l.length) : ∃ x, l[j]? = some x := ⟨l[j], by simp [h]⟩
theorem nodup_snoc {α : Type} {l : List α} {x : α} (h : l.Nodup) (hx : x ∉ l) : (l ++ [x]).Nodup := by
  rw [List.nodup_append]
  refine ⟨h, by simp, fun a ha b hb => ?_⟩
  simp only [List.mem_singleton] at hb
  subst hb
  intro e; subst e; exact hx ha
theorem not_nodup_at {α : Type} {l : List α} {j : Nat} {x : α} (h : l[j]? = some x) (hx : x ∈ l.take j) : ¬ l.Nodup := fun hn => by
  have h1 := hn.sublist (List.take_sublist (j + 1) l)
  rw [take_snoc h, List.nodup_append] at h1
  exact h1.2.2 x hx x (by simp) rfl
theorem dec_t {p : Prop} [Decidable p] (h : p) : Value.bool true = .bool (decide p) := by rw [decide_eq_true h]
theorem dec_f {p : Prop} [Decidable p] (h : ¬ p) : Value.bool false = .bool (decide p) := by rw [decide_eq_false h]
theorem dec_i {p q : Prop} [Decidable p] [Decidable q] (h : p ↔ q) : Value.bool (decide p) = .bool (decide q) := by
  congr 1; exact decide_eq_decide.2 h
theorem list_eq {α : Type} {xs ys : List α} (hl : xs.length = ys.length) (h : ∀ (j : Nat) (x y : α), xs[j]? = some x → ys[j]? = some y → x = y) : xs = ys := by
  apply List.ext_getElem hl
  intro j h1 h2
  exact h j _ _ (List.getElem?_eq_getElem h1) (List.getElem?_eq_getElem h2)
theorem list_ne {α : Type} {xs ys : List α} {j : Nat} {x y : α} (h1 : xs[j]? = some x) (h2 : ys[j]? = some y) (hne : x ≠ y) : xs ≠ ys := fun e => by
  rw [e, h2] at h1; cases h1; exact hne rfl
theorem ne_of_some {v : Value} {r : Option Nat} (h : ∀ k, v.ownBlock = some k → some k ≠ r) : v.ownBlock = none ∨ v.ownBlock ≠ r := by
  cases hv : v.ownBlock with
  | none => exact .inl rfl
  | some k => exact .inr (h k hv)
end Go.Den

/- Package word and its reference, by contracts: whole products, what is nearest to 0, residues of whole numbers, and the fixed calls. No condition. -/
namespace Go.Proofs.YtbhhagdnbkkjpaaDoor
set_option linter.unusedVariables false
set_option maxRecDepth 8000
open Go Go.Den Go.RowKit

theorem or_low {a c : Nat} (hc : c < 2) : (a * 2 ||| c) = a * 2 + c := by
  have := Num.or_add (a := a) (b := c) (s := 1) (by omega)
  simpa using this

theorem lin1 {W H hi lo T q r : Nat} (hW : W = 2 * H) (h : hi * W + lo = T) (h1 : H * q + r = lo) : (hi * 2 + q) * W + r * 2 = 2 * T := by
  subst hW h h1
  grind
theorem wide_dbl {hi lo T : Nat} (h : hi * 18446744073709551616 + lo = T) : (hi * 2 + lo / 9223372036854775808) * 18446744073709551616 + lo * 2 % 18446744073709551616 = 2 * T := by
  have h2 : lo * 2 % 18446744073709551616 = lo % 9223372036854775808 * 2 := Nat.mul_mod_mul_right 2 lo 9223372036854775808
  have h1 := Nat.div_add_mod lo 9223372036854775808
  have h3 := lin1 (H := 9223372036854775808) rfl h h1
  exact (congrArg (fun z => (hi * 2 + lo / 9223372036854775808) * 18446744073709551616 + z) h2).trans h3
theorem wide_hi {hi lo T : Nat} (h : hi * 18446744073709551616 + lo = T) (hT : 2 * T < 340282366920938463463374607431768211456) : hi * 2 < 18446744073709551616 := by omega
theorem wide_bd {a b : Nat} (ha : a < 18446744073709551616) (hb : b < 18446744073709551616) : a * b < 340282366920938463463374607431768211456 := by
  have : a * b ≤ 18446744073709551615 * 18446744073709551615 := Nat.mul_le_mul (by omega) (by omega)
  omega
theorem wide_end {hi lo T : Nat} (h : hi * 18446744073709551616 + lo = T) (hlo : lo < 18446744073709551616) : hi = T / 18446744073709551616 ∧ lo = T % 18446744073709551616 := by omega
theorem lin2 {W X a Y T z : Nat} (h : Y * W + X = T) (hge : W ≤ X + a) (e : z = X + a - W) : (Y + 1) * W + z = T + a := by
  subst h e
  have : (Y + 1) * W = Y * W + W := by simp only [Nat.add_mul, Nat.one_mul]
  omega
theorem wide_over {Y X a T : Nat} (h : Y * 18446744073709551616 + X = T) (hX : X < 18446744073709551616) (ha : a < 18446744073709551616) (ho : (X + a) % 18446744073709551616 < a) : (Y + 1) * 18446744073709551616 + (X + a) % 18446744073709551616 = T + a := by
  have hge : 18446744073709551616 ≤ X + a := by
    rcases Nat.lt_or_ge (X + a) 18446744073709551616 with k | k
    · rw [Nat.mod_eq_of_lt k] at ho; exact absurd ho (Nat.not_lt.2 (Nat.le_add_left a X))
    · exact k
  have e : (X + a) % 18446744073709551616 = X + a - 18446744073709551616 := by
    rw [Nat.mod_eq_sub_mod hge, Nat.mod_eq_of_lt (Nat.sub_lt_left_of_lt_add hge (Nat.add_lt_add hX ha))]
  exact lin2 h hge e
theorem wide_under {Y X a T : Nat} (h : Y * 18446744073709551616 + X = T) (hX : X < 18446744073709551616) (ha : a < 18446744073709551616) (ho : ¬ (X + a) % 18446744073709551616 < a) : Y * 18446744073709551616 + (X + a) % 18446744073709551616 = T + a := by omega
theorem wide_small {Y X T : Nat} (h : Y * 18446744073709551616 + X = T) (hT : T < 340282366920938463463374607431768211456) : Y < 18446744073709551616 := by omega

def centerm (a m : Nat) : Int := if m = 0 ∨ 4611686018427387904 < m then 0 else if m / 2 < a % m then ((a % m : Nat) : Int) - (m : Int) else ((a % m : Nat) : Int)
def liftm (v : Int) (m : Nat) : Nat := if m = 0 then 0 else (v % (m : Int)).toNat

theorem lift_pos {v : Int} {m : Nat} (hm : m ≠ 0) (hv : 0 ≤ v) : liftm v m = v.toNat % m := by
  rw [liftm, if_neg hm]
  obtain ⟨n, rfl⟩ := Int.eq_ofNat_of_zero_le hv
  rw [Int.toNat_natCast, ← Int.natCast_emod, Int.toNat_natCast]
theorem lift_neg {v : Int} {m : Nat} (hm : m ≠ 0) (hv : v < 0) : liftm v m = subm 0 (-v).toNat m := by
  rw [liftm, if_neg hm, subm, if_neg hm, Nat.zero_add]
  obtain ⟨n, hn⟩ := Int.eq_ofNat_of_zero_le (a := -v) (by omega)
  rw [hn, Int.toNat_natCast]
  have hlt : n % m < m := Nat.mod_lt _ (by omega)
  have e : v = -(n : Int) := by omega
  rw [e]
  have h1 : (-(n : Int)) % (m : Int) = (((m - n % m) % m : Nat) : Int) := by
    have hd := Nat.div_add_mod n m
    have : (-(n : Int)) = ((m - n % m : Nat) : Int) + (m : Int) * (-((n / m : Nat) : Int) - 1) := by
      rw [Int.mul_sub, Int.mul_neg, ← Int.natCast_mul]
      omega
    rw [this, Int.add_mul_emod_self_left, ← Int.natCast_emod]
  rw [h1, Int.toNat_natCast]

end Go.Proofs.YtbhhagdnbkkjpaaDoor

/- The functions of package word, and of its reference, by contracts. No condition. -/
import Derived.Test.YtajgcmgkhmkmbaaDoorBits
namespace Go.Proofs.YtajgcmgkhmkmbaaDoor
set_option linter.unusedVariables false
set_option maxRecDepth 8000
open Go Go.Den Go.RowKit

def addm (a b m : Nat) : Nat := if m = 0 then 0 else (a + b) % m
def subm (a b m : Nat) : Nat := if m = 0 then 0 else (a + (m - b % m)) % m
def mulm (a b m : Nat) : Nat := if m = 0 then 0 else a * b % m
def powm (a n m : Nat) : Nat := if m = 0 then 0 else a ^ n % m

theorem addm_wrap {a b m : Nat} (hm : m ≠ 0) (h : ((a % m + b % m + 0) / 18446744073709551616 = 1 ∨ m ≤ (a % m + b % m + 0) % 18446744073709551616)) (h1 : m < 18446744073709551616) :
    ((a % m + b % m + 0) % 18446744073709551616 + (18446744073709551616 - m)) % 18446744073709551616 = addm a b m := by
  have h2 : a % m < m := Nat.mod_lt _ (by omega)
  have h3 : b % m < m := Nat.mod_lt _ (by omega)
  have e : (a + b) % m = (a % m + b % m) % m := Nat.add_mod a b m
  rw [addm, if_neg hm, e]
  generalize a % m = x at *
  generalize b % m = y at *
  have hge : m ≤ x + y := by omega
  rw [Nat.mod_eq_sub_mod hge, Nat.mod_eq_of_lt (a := x + y - m) (by omega)]
  omega
theorem addm_plain {a b m : Nat} (hm : m ≠ 0) (h : ¬ (a % m + b % m + 0) / 18446744073709551616 = 1) (h' : ¬ m ≤ (a % m + b % m + 0) % 18446744073709551616) (h1 : m < 18446744073709551616) :
    (a % m + b % m + 0) % 18446744073709551616 = addm a b m := by
  have h2 : a % m < m := Nat.mod_lt _ (by omega)
  have h3 : b % m < m := Nat.mod_lt _ (by omega)
  have e : (a + b) % m = (a % m + b % m) % m := Nat.add_mod a b m
  rw [addm, if_neg hm, e]
  generalize a % m = x at *
  generalize b % m = y at *
  rw [Nat.mod_eq_of_lt (a := x + y) (by omega)]
  omega
theorem addm_red (a b m : Nat) (hm : m ≠ 0) : addm a b m = (a % m + b % m) % m := by rw [addm, if_neg hm, Nat.add_mod]
theorem addm_over {a b m : Nat} (hm : m ≠ 0) (h : m - a % m ≤ b % m) : addm a b m = b % m - (m - a % m) := by
  have h1 : a % m < m := Nat.mod_lt _ (by omega)
  have h2 : b % m < m := Nat.mod_lt _ (by omega)
  rw [addm_red a b m hm]
  generalize a % m = x at *
  generalize b % m = y at *
  rw [Nat.mod_eq_sub_mod (by omega), Nat.mod_eq_of_lt (by omega)]
  omega
theorem addm_under {a b m : Nat} (hm : m ≠ 0) (h : ¬ m - a % m ≤ b % m) : addm a b m = a % m + b % m := by
  have h1 : a % m < m := Nat.mod_lt _ (by omega)
  have h2 : b % m < m := Nat.mod_lt _ (by omega)
  rw [addm_red a b m hm]
  generalize a % m = x at *
  generalize b % m = y at *
  rw [Nat.mod_eq_of_lt (by omega)]
theorem subm_red (a b m : Nat) (hm : m ≠ 0) : subm a b m = if b % m ≤ a % m then a % m - b % m else a % m + (m - b % m) := by
  have h2 : a % m < m := Nat.mod_lt _ (by omega)
  have h3 : b % m < m := Nat.mod_lt _ (by omega)
  rw [subm, if_neg hm, ← Nat.mod_add_mod]
  generalize a % m = x at *
  generalize b % m = y at *
  by_cases h : y ≤ x
  · rw [if_pos h, show x + (m - y) = (x - y) + m by omega, Nat.add_mod_right, Nat.mod_eq_of_lt (by omega)]
  · rw [if_neg h, Nat.mod_eq_of_lt (by omega)]
theorem addm_lt {a b m : Nat} (hm : 0 < m) : addm a b m < m := by rw [addm, if_neg (by omega)]; exact Nat.mod_lt _ hm
theorem subm_lt {a b m : Nat} (hm : 0 < m) : subm a b m < m := by rw [subm, if_neg (by omega)]; exact Nat.mod_lt _ hm
theorem mulm_lt {a b m : Nat} (hm : 0 < m) : mulm a b m < m := by rw [mulm, if_neg (by omega)]; exact Nat.mod_lt _ hm
theorem mulm_le {a b m : Nat} : mulm a b m ≤ m := by
  rcases Nat.eq_zero_or_pos m with h | h
  · subst h; simp [mulm]
  · exact Nat.le_of_lt (mulm_lt h)
theorem addm_le {a b m : Nat} : addm a b m ≤ m := by
  rcases Nat.eq_zero_or_pos m with h | h
  · subst h; simp [addm]
  · exact Nat.le_of_lt (addm_lt h)

theorem Tryd_ent68 : Ent Tryd.prog 68 := ent_of Tryd.func68 (by kernel_rfl) rfl
set_option maxHeartbeats 400000 in
theorem sub_spec (a b m : Nat) (h : Hp) (ha : a < 18446744073709551616) (hb : b < 18446744073709551616) (hm : m < 18446744073709551616) :
    CallsH Tryd.prog 68 [U a, U b, U m] h fun v h' => v = U (subm a b m) ∧ h = h' := by
  (apply enter Tryd.func68 rfl Tryd.ntmps68 rfl)
  refine runS ?_
  (apply w_condD; exact rfl; exact rfl) <;> intro hm0
  · refine runS ?_
    exact fin1 rfl rfl ⟨by simp [subm, hm0], rfl⟩
  · refine runS ?_
    have h1 : a % m < m := Nat.mod_lt _ (by omega)
    have h2 : b % m < m := Nat.mod_lt _ (by omega)
    refine run ?_
    (apply w_condD; exact rfl; exact rfl) <;> intro hc
    · refine run ?_
      exact fin1 rfl rfl ⟨by rw [subm_red a b m hm0, if_pos hc], rfl⟩
    · refine run ?_
      exact fin1 rfl rfl ⟨by rw [subm_red a b m hm0, if_neg hc], rfl⟩

theorem Tryd_ent90 : Ent Tryd.prog 90 := ent_of Tryd.func90 (by kernel_rfl) rfl
set_option maxHeartbeats 400000 in
theorem mul_spec (a b m : Nat) (h : Hp) (ha : a < 18446744073709551616) (hb : b < 18446744073709551616) (hm : m < 18446744073709551616) :
    CallsH Tryd.prog 90 [U a, U b, U m] h fun v h' => v = U (mulm a b m) ∧ h = h' := by
  (apply enter Tryd.func90 rfl Tryd.ntmps90 rfl)
  refine runS ?_
  (apply w_condD; exact rfl; exact rfl) <;> intro hm0
  · refine runS ?_
    exact fin1 rfl rfl ⟨by simp [mulm, hm0], rfl⟩
  · refine runS ?_
    have h1 : a % m < m := Nat.mod_lt _ (by omega)
    have h2 : b % m < m := Nat.mod_lt _ (by omega)
    have h3 : a % m * (b % m) / 18446744073709551616 < m := by
      rw [Nat.div_lt_iff_lt_mul (by decide)]
      have : a % m * (b % m) ≤ a % m * m := Nat.mul_le_mul_left _ (Nat.le_of_lt h2)
      have h4 : a % m * m < m * m := Nat.mul_lt_mul_of_pos_right h1 (by omega)
      have h5 : m * m ≤ m * 18446744073709551616 := Nat.mul_le_mul_left _ (Nat.le_of_lt hm)
      exact Nat.lt_of_le_of_lt this (Nat.lt_of_lt_of_le h4 h5)
    have h6 : mulm a b m = a % m * (b % m) % m := by rw [mulm, if_neg hm0, Nat.mul_mod]
    have h7 := Nat.div_add_mod (a % m * (b % m)) 18446744073709551616
    rw [Nat.mul_comm] at h7
    refine run ?_
    apply (s_call Tryd_ent82 rfl rfl rfl)
    refine (mul64_spec _ _ h (by omega) (by omega)).mono ?_
    rintro _ _ ⟨rfl, rfl⟩
    refine ⟨trivial, ?_⟩
    refine run ?_
    apply (s_call Tryd_ent86 rfl rfl rfl)
    refine (div64_spec _ _ m h h3 (Num.modW _) hm).mono ?_
    rintro _ _ ⟨rfl, rfl⟩
    refine ⟨trivial, ?_⟩
    refine run ?_
    exact fin1 rfl rfl ⟨by rw [h7, h6], rfl⟩

theorem pow_step (x a n m : Nat) : x * a ^ n % m = ((if n % 2 = 1 then x * a % m else x) * (a * a % m) ^ (n / 2)) % m := by
  have e : a ^ n = (a * a) ^ (n / 2) * a ^ (n % 2) := by
    rw [← Nat.pow_two, ← Nat.pow_mul, ← Nat.pow_add, Nat.div_add_mod]
  rw [e]
  have h2 : (a * a % m) ^ (n / 2) % m = (a * a) ^ (n / 2) % m := (Nat.pow_mod (a * a) (n / 2) m).symm
  rcases Nat.mod_two_eq_zero_or_one n with h | h
  · rw [h, if_neg (by omega), Nat.pow_zero, Nat.mul_one, Nat.mul_mod x, ← h2, ← Nat.mul_mod]
  · rw [h, if_pos rfl, Nat.pow_one, Nat.mul_comm _ a, ← Nat.mul_assoc, Nat.mul_mod (x * a), ← h2, ← Nat.mul_mod, Nat.mul_mod (x * a % m), Nat.mod_mod, ← Nat.mul_mod]

theorem and_one (n : Nat) : n &&& 1 = n % 2 := Nat.and_two_pow_sub_one_eq_mod n 1

theorem Tryd_ent92 : Ent Tryd.prog 92 := ent_of Tryd.func92 (by kernel_rfl) rfl
set_option maxHeartbeats 400000 in
theorem pow_spec (a n m : Nat) (h : Hp) (ha : a < 18446744073709551616) (hn : n < 18446744073709551616) (hm : m < 18446744073709551616) :
    CallsH Tryd.prog 92 [U a, U n, U m] h fun v h' => v = U (powm a n m) ∧ h = h' := by
  (apply enter Tryd.func92 rfl Tryd.ntmps92 rfl)
  refine runS ?_
  (apply w_condD; exact rfl; exact rfl) <;> intro hm0
  · refine runS ?_
    exact fin1 rfl rfl ⟨by simp [powm, hm0], rfl⟩
  · refine run ?_
    (first | (apply w_seqB; exact rfl; apply w_block; exact rfl) | skip)
    apply (w_loop (σ := Nat × Nat × Nat) rfl (fun p => [(0, U p.1), (1, U p.2.1), (2, U m), (7, U p.2.2)])
      (fun p h' => h = h' ∧ p.1 < 18446744073709551616 ∧ p.2.1 < 18446744073709551616 ∧ p.2.2 < m ∧ p.2.2 * p.1 ^ p.2.1 % m = a ^ n % m) (fun p => p.2.1) (a, n, 1 % m))
    · exact (Sub.cons rfl (Sub.cons rfl (Sub.cons rfl (Sub.cons rfl (Sub.nil _)))))
    · exact ⟨rfl, ha, hn, Nat.mod_lt _ (by omega), by simp only []; rw [Nat.mod_mul_mod, Nat.one_mul]⟩
    · rintro ⟨a', n', x⟩ h' ⟨rfl, i1, i2, i3, i4⟩
      dsimp only at i1 i2 i3 i4 ⊢
      refine run ?_
      have ha2 : mulm a' a' m < 18446744073709551616 := Nat.lt_of_le_of_lt mulm_le hm
      have hs := pow_step x a' n' m
      rw [i4] at hs
      (apply w_condD; exact rfl; exact rfl) <;> intro hn0
      · refine run ?_
        (apply w_condD; exact rfl; exact rfl) <;> intro hb
        · rw [and_one] at hb
          refine run ?_
          apply (s_call Tryd_ent90 rfl rfl rfl)
          refine (mul_spec x a' m h (by omega) i1 hm).mono ?_
          rintro _ _ ⟨rfl, rfl⟩
          refine ⟨(by first | exact trivial | exact Ext.refl _ | assumption | exact Ext.trans (by assumption) (by assumption)), ?_⟩
          refine run ?_
          apply (s_call Tryd_ent90 rfl rfl rfl)
          refine (mul_spec a' a' m h i1 i1 hm).mono ?_
          rintro _ _ ⟨rfl, rfl⟩
          refine ⟨(by first | exact trivial | exact Ext.refl _ | assumption | exact Ext.trans (by assumption) (by assumption)), ?_⟩
          refine run ?_
          apply again_normal (mulm a' a' m, n' / 2 ^ 1, mulm x a' m)
          · exact (Sub.cons rfl (Sub.cons rfl (Sub.cons rfl (Sub.cons rfl (Sub.nil _)))))
          · exact ⟨rfl, ha2, by simp only []; omega, mulm_lt (by omega), by simp only [mulm, if_neg hm0]; rw [if_pos hb] at hs; rw [hs]⟩
          · simp only []; omega
        · rw [and_one] at hb
          refine run ?_
          apply (s_call Tryd_ent90 rfl rfl rfl)
          refine (mul_spec a' a' m h i1 i1 hm).mono ?_
          rintro _ _ ⟨rfl, rfl⟩
          refine ⟨(by first | exact trivial | exact Ext.refl _ | assumption | exact Ext.trans (by assumption) (by assumption)), ?_⟩
          refine run ?_
          apply again_normal (mulm a' a' m, n' / 2 ^ 1, x)
          · exact (Sub.cons rfl (Sub.cons rfl (Sub.cons rfl (Sub.cons rfl (Sub.nil _)))))
          · exact ⟨rfl, ha2, by simp only []; omega, i3, by simp only [mulm, if_neg hm0]; rw [if_neg hb] at hs; rw [hs]⟩
          · simp only []; omega
      · refine run ?_
        have hz : n' = 0 := by omega
        subst hz
        exact fin1 rfl rfl ⟨by rw [powm, if_neg hm0, ← i4, Nat.pow_zero, Nat.mul_one, Nat.mod_eq_of_lt i3], rfl⟩

theorem cong {a b m : Nat} (h : a % m = b % m) : ∃ k : Int, (a : Int) = b + m * k := by
  have h1 := Nat.div_add_mod a m
  have h2 := Nat.div_add_mod b m
  refine ⟨(a / m : Nat) - (b / m : Nat), ?_⟩
  have h1' : (a : Int) = (m : Int) * ((a / m : Nat) : Int) + ((a % m : Nat) : Int) := by rw [← Int.natCast_mul, ← Int.natCast_add, h1]
  have h2' : (b : Int) = (m : Int) * ((b / m : Nat) : Int) + ((b % m : Nat) : Int) := by rw [← Int.natCast_mul, ← Int.natCast_add, h2]
  rw [Int.mul_sub, h1', h2', h]
  omega
theorem of_cong {a b m : Nat} (k : Int) (h : (a : Int) = b + m * k) : a % m = b % m := by
  have h1 : (a : Int) % m = (b : Int) % m := by rw [h, Int.add_mul_emod_self_left]
  omega

theorem inv_step {r s x y a m : Nat} (hm : 0 < m) (hx : x * a % m = r % m) (hy : y * a % m = s % m) :
    subm x (mulm (r / s) y m) m * a % m = (r - r / s * s) % m := by
  have h1 : r / s * s ≤ r := Nat.div_mul_le_self r s
  obtain ⟨k1, e1⟩ := cong hx
  obtain ⟨k2, e2⟩ := cong hy
  have e3 : (subm x (mulm (r / s) y m) m + r / s * y) % m = x % m := by
    rw [subm, if_neg (by omega), mulm, if_neg (by omega), Nat.mod_mod, Nat.mod_add_mod]
    have hlt : r / s * y % m < m := Nat.mod_lt _ hm
    have hdm := Nat.div_add_mod (r / s * y) m
    rw [show x + (m - r / s * y % m) + r / s * y = x + m * (1 + r / s * y / m) by rw [Nat.mul_add, Nat.mul_one]; omega, Nat.add_mul_mod_self_left]
  obtain ⟨k3, e3⟩ := cong e3
  generalize subm x (mulm (r / s) y m) m = z at *
  generalize r / s = q at *
  refine of_cong (k1 - q * k2 + k3 * a) ?_
  rw [Int.ofNat_sub h1]
  simp only [Int.natCast_mul, Int.natCast_add] at *
  have e4 : (z : Int) = x + m * k3 - q * y := by omega
  rw [e4]
  grind

def InvIs (a m i : Nat) (ok : Bool) : Prop := (ok = true → 2 ≤ m ∧ Nat.gcd a m = 1 ∧ i < m ∧ a * i % m = 1) ∧ (ok = false → (m < 2 ∨ Nat.gcd a m ≠ 1) ∧ i = 0)

theorem Tryd_ent89 : Ent Tryd.prog 89 := ent_of Tryd.func89 (by kernel_rfl) rfl
set_option maxHeartbeats 400000 in
theorem inv_spec (a m : Nat) (h : Hp) (ha : a < 18446744073709551616) (hm : m < 18446744073709551616) :
    CallsH Tryd.prog 89 [U a, U m] h fun v h' => (∃ i ok, v = .tuple [U i, .bool ok].toArray ∧ InvIs a m i ok) ∧ h = h' := by
  (apply enter Tryd.func89 rfl Tryd.ntmps89 rfl)
  refine run ?_
  (apply w_condD; exact rfl; exact rfl) <;> intro hm0
  · refine run ?_
    exact fin2 rfl rfl rfl ⟨⟨_, _, rfl, fun e => by simp at e, fun _ => ⟨.inl hm0, rfl⟩⟩, rfl⟩
  · refine run ?_
    refine run ?_
    (first | (apply w_seqB; exact rfl; apply w_block; exact rfl) | skip)
    apply (w_loop (σ := Nat × Nat × Nat × Nat) rfl (fun p => [(0, U a), (1, U m), (6, U p.1), (7, U p.2.1), (8, U p.2.2.1), (9, U p.2.2.2)])
      (fun p h' => h = h' ∧ p.1 < 18446744073709551616 ∧ p.2.1 < 18446744073709551616 ∧ p.2.2.1 < m ∧ p.2.2.2 < m ∧ p.2.2.1 * a % m = p.1 % m ∧ p.2.2.2 * a % m = p.2.1 % m ∧ Nat.gcd p.1 p.2.1 = Nat.gcd a m) (fun p => p.2.1) (m, a % m, 0, 1))
    · exact (Sub.cons rfl (Sub.cons rfl (Sub.cons rfl (Sub.cons rfl (Sub.cons rfl (Sub.cons rfl (Sub.nil _)))))))
    · exact ⟨rfl, hm, Nat.lt_trans (Nat.mod_lt _ (by omega)) hm, by simp only []; omega, by simp only []; omega, by simp, by simp, by simp only []; rw [Nat.gcd_comm a m, Nat.gcd_rec m a, Nat.gcd_comm]⟩
    · rintro ⟨r, s, x, y⟩ h' ⟨rfl, i1, i2, i3, i4, i5, i6, i7⟩
      dsimp only at i1 i2 i3 i4 i5 i6 i7 ⊢
      refine run ?_
      (apply w_condD; exact rfl; exact rfl) <;> intro hs0
      · have hqs : r / s * s ≤ r := Nat.div_mul_le_self r s
        have hqs' : r / s * s < 18446744073709551616 := by omega
        have hq : r / s < 18446744073709551616 := Nat.lt_of_le_of_lt (Nat.div_le_self r s) i1
        have hmod : r - r / s * s = r % s := by have := Nat.div_add_mod r s; rw [Nat.mul_comm] at this; omega
        have hlt : r % s < s := Nat.mod_lt _ (by omega)
        have hstep := inv_step (by omega) i5 i6
        have hmle : mulm (r / s) y m < 18446744073709551616 := Nat.lt_of_le_of_lt mulm_le hm
        refine run ?_
        apply (s_call Tryd_ent90 rfl rfl rfl)
        refine (mul_spec (r / s) y m h hq (by omega) hm).mono ?_
        rintro _ _ ⟨rfl, rfl⟩
        refine ⟨(by first | exact trivial | exact Ext.refl _ | assumption | exact Ext.trans (by assumption) (by assumption)), ?_⟩
        refine run ?_
        apply (s_call Tryd_ent68 rfl rfl rfl)
        refine (sub_spec x _ m h (by omega) hmle hm).mono ?_
        rintro _ _ ⟨rfl, rfl⟩
        refine ⟨(by first | exact trivial | exact Ext.refl _ | assumption | exact Ext.trans (by assumption) (by assumption)), ?_⟩
        refine run ?_
        rw [hmod] at hstep ⊢
        apply again_normal (s, r % s, y, subm x (mulm (r / s) y m) m)
        · exact (Sub.cons rfl (Sub.cons rfl (Sub.cons rfl (Sub.cons rfl (Sub.cons rfl (Sub.cons rfl (Sub.nil _)))))))
        · exact ⟨rfl, i2, by simp only []; omega, i4, subm_lt (by omega), i6, hstep, by simp only []; rw [← i7, Nat.gcd_comm r s, Nat.gcd_rec s r, Nat.gcd_comm]⟩
        · exact hlt
      · refine run ?_
        have hz : s = 0 := by omega
        subst hz
        rw [Nat.gcd_zero_right] at i7
        (apply w_condD; exact rfl; exact rfl) <;> intro hr1
        · refine run ?_
          exact fin2 rfl rfl rfl ⟨⟨_, _, rfl, fun e => by simp at e, fun _ => ⟨.inr (by rw [← i7]; exact hr1), rfl⟩⟩, rfl⟩
        · refine run ?_
          have hr1' : r = 1 := by omega
          subst hr1'
          exact fin2 rfl rfl rfl ⟨⟨_, _, rfl, fun _ => ⟨by omega, i7.symm, i3, by rw [Nat.mul_comm, i5, Nat.mod_eq_of_lt (by omega)]⟩, fun e => by simp at e⟩, rfl⟩

theorem Tryd_ent12 : Ent Tryd.prog 12 := ent_of Tryd.func12 (by kernel_rfl) rfl
set_option maxHeartbeats 400000 in
theorem refAdd_spec (a b m : Nat) (h : Hp) (ha : a < 18446744073709551616) (hb : b < 18446744073709551616) (hm : m < 18446744073709551616) :
    CallsH Tryd.prog 12 [U a, U b, U m] h fun v h' => v = U (addm a b m) ∧ h = h' := by
  (apply enter Tryd.func12 rfl Tryd.ntmps12 rfl)
  refine run ?_
  (apply w_condD; exact rfl; exact rfl) <;> intro hm0
  · refine run ?_
    exact fin1 rfl rfl ⟨by simp [addm, hm0], rfl⟩
  · refine run ?_
    have h1 : a % m < m := Nat.mod_lt _ (by omega)
    have h2 : b % m < m := Nat.mod_lt _ (by omega)
    refine run ?_
    (apply w_condD; exact rfl; exact rfl) <;> intro hc
    · refine run ?_
      exact fin1 rfl rfl ⟨by rw [addm_over hm0 hc], rfl⟩
    · refine run ?_
      exact fin1 rfl rfl ⟨by rw [addm_under hm0 hc], rfl⟩

theorem half {b k : Nat} (hk : k < 64) : b / 2 ^ (63 - k) = 2 * (b / 2 ^ (64 - k)) + b / 2 ^ (63 - k) % 2 := by
  have : b / 2 ^ (64 - k) = b / 2 ^ (63 - k) / 2 := by rw [Nat.div_div_eq_div_mul, ← Nat.pow_succ, show (63 - k).succ = 64 - k by omega]
  omega

theorem dbl_add (X a m : Nat) : ((X % m + X % m) % m + a) % m = (2 * X + a) % m := by
  rw [Nat.mod_add_mod, Nat.add_assoc, Nat.mod_add_mod, ← Nat.add_assoc, Nat.add_comm X, Nat.add_assoc, Nat.mod_add_mod]
  congr 1; omega
theorem sq_mul (X a m : Nat) : X % m * (X % m) % m * a % m = X * X * a % m := by
  rw [Nat.mod_mul_mod, Nat.mul_assoc, Nat.mod_mul_mod, ← Nat.mul_assoc, Nat.mul_comm X, Nat.mul_assoc, Nat.mod_mul_mod, Nat.mul_assoc]
theorem mul_bit1 {a b m k x : Nat} (hm0 : m ≠ 0) (hk : k < 64) (hx : x = a * (b / 2 ^ (64 - k)) % m) (hb : b / 2 ^ (63 - k) % 2 = 1) : addm (addm x x m) a m = a * (b / 2 ^ (64 - (k + 1))) % m := by
  have h := half (b := b) hk
  rw [show 64 - (k + 1) = 63 - k by omega, h, hb, hx, addm, if_neg hm0, addm, if_neg hm0, dbl_add]
  congr 1; rw [Nat.mul_add, Nat.mul_one, Nat.mul_left_comm]
theorem mul_bit0 {a b m k x : Nat} (hm0 : m ≠ 0) (hk : k < 64) (hx : x = a * (b / 2 ^ (64 - k)) % m) (hb : ¬ b / 2 ^ (63 - k) % 2 = 1) : addm x x m = a * (b / 2 ^ (64 - (k + 1))) % m := by
  have h := half (b := b) hk
  rw [show 64 - (k + 1) = 63 - k by omega, h, show b / 2 ^ (63 - k) % 2 = 0 by omega, hx, addm, if_neg hm0, ← Nat.add_mod]
  congr 1; rw [Nat.add_zero, Nat.two_mul, Nat.mul_add]
theorem pow_bit1 {a b m k x : Nat} (hm0 : m ≠ 0) (hk : k < 64) (hx : x = a ^ (b / 2 ^ (64 - k)) % m) (hb : b / 2 ^ (63 - k) % 2 = 1) : mulm (mulm x x m) a m = a ^ (b / 2 ^ (64 - (k + 1))) % m := by
  have h := half (b := b) hk
  rw [show 64 - (k + 1) = 63 - k by omega, h, hb, hx, mulm, if_neg hm0, mulm, if_neg hm0, sq_mul, Nat.pow_succ, Nat.two_mul, Nat.pow_add]
theorem pow_bit0 {a b m k x : Nat} (hm0 : m ≠ 0) (hk : k < 64) (hx : x = a ^ (b / 2 ^ (64 - k)) % m) (hb : ¬ b / 2 ^ (63 - k) % 2 = 1) : mulm x x m = a ^ (b / 2 ^ (64 - (k + 1))) % m := by
  have h := half (b := b) hk
  rw [show 64 - (k + 1) = 63 - k by omega, h, show b / 2 ^ (63 - k) % 2 = 0 by omega, hx, mulm, if_neg hm0, ← Nat.mul_mod, Nat.add_zero, Nat.two_mul, Nat.pow_add]

theorem Tryd_ent13 : Ent Tryd.prog 13 := ent_of Tryd.func13 (by kernel_rfl) rfl
set_option maxHeartbeats 400000 in
theorem refMul_spec (a b m : Nat) (h : Hp) (ha : a < 18446744073709551616) (hb : b < 18446744073709551616) (hm : m < 18446744073709551616) :
    CallsH Tryd.prog 13 [U a, U b, U m] h fun v h' => v = U (mulm a b m) ∧ h = h' := by
  (apply enter Tryd.func13 rfl Tryd.ntmps13 rfl)
  refine run ?_
  (apply w_condD; exact rfl; exact rfl) <;> intro hm0
  · refine run ?_
    exact fin1 rfl rfl ⟨by simp [mulm, hm0], rfl⟩
  · refine run ?_
    refine run ?_
    (apply s_split 15; exact rfl) <;> intro hA
    · refine run ?_
      (apply w_condD; exact rfl; exact rfl) <;> intro hB
      · have hAB : a % m * (b % m) < 18446744073709551616 := by
          have : a % m * (b % m) ≤ 4294967295 * 4294967295 := Nat.mul_le_mul (by omega) (by omega)
          omega
        refine run ?_
        exact fin1 rfl rfl ⟨by rw [mulm, if_neg hm0, ← Nat.mul_mod], rfl⟩
      · refine run ?_
        apply (w_loop (σ := Nat × Nat) rfl (fun p => [(0, U a), (1, U b), (2, U m), (7, U p.2), (8, I (p.1 : Int))])
          (fun p h' => h = h' ∧ p.1 ≤ 64 ∧ p.2 < m ∧ p.2 = a * (b / 2 ^ (64 - p.1)) % m) (fun p => 64 - p.1) (0, 0))
        · exact (Sub.cons rfl (Sub.cons rfl (Sub.cons rfl (Sub.cons rfl (Sub.cons rfl (Sub.nil _))))))
        · exact ⟨rfl, by simp only []; omega, by simp only []; omega, by simp only []; rw [Nat.div_eq_of_lt hb]; simp⟩
        · rintro ⟨k, x⟩ h' ⟨rfl, i1, i2, i3⟩
          dsimp only at i1 i2 i3 ⊢
          refine run ?_
          (apply w_condD; exact rfl; exact rfl) <;> intro hk
          · have hk' : k < 64 := by omega
            have hhalf := half (b := b) hk'
            have hbd : b / 2 ^ (63 - k) < 18446744073709551616 := Nat.lt_of_le_of_lt (Nat.div_le_self _ _) hb
            refine run ?_
            apply (s_call Tryd_ent12 rfl rfl rfl)
            refine (refAdd_spec x x m h (by omega) (by omega) hm).mono ?_
            rintro _ _ ⟨rfl, rfl⟩
            refine ⟨(by first | exact trivial | exact Ext.refl _ | assumption | exact Ext.trans (by assumption) (by assumption)), ?_⟩
            refine run ?_
            (apply s_convUN (63 - k); exact rfl; exact rfl; exact rfl; exact rfl)
            · omega
            · omega
            refine run ?_
            rw [and_one]
            (apply w_condD; exact rfl; exact rfl) <;> intro hbit
            · refine run ?_
              apply (s_call Tryd_ent12 rfl rfl rfl)
              refine (refAdd_spec _ a m h (Nat.lt_of_le_of_lt addm_le hm) ha hm).mono ?_
              rintro _ _ ⟨rfl, rfl⟩
              refine ⟨(by first | exact trivial | exact Ext.refl _ | assumption | exact Ext.trans (by assumption) (by assumption)), ?_⟩
              refine run ?_
              apply again_normal (k + 1, addm (addm x x m) a m)
              · exact (Sub.cons rfl (Sub.cons rfl (Sub.cons rfl (Sub.cons rfl (Sub.cons rfl (Sub.nil _))))))
              · exact ⟨rfl, by simp only []; omega, addm_lt (by omega), mul_bit1 hm0 hk' i3 hbit⟩
              · simp only []; omega
            · refine run ?_
              apply again_normal (k + 1, addm x x m)
              · exact (Sub.cons rfl (Sub.cons rfl (Sub.cons rfl (Sub.cons rfl (Sub.cons rfl (Sub.nil _))))))
              · exact ⟨rfl, by simp only []; omega, addm_lt (by omega), mul_bit0 hm0 hk' i3 hbit⟩
              · simp only []; omega
          · refine run ?_
            have hz : k = 64 := by omega
            subst hz
            exact fin1 rfl rfl ⟨by rw [i3, mulm, if_neg hm0]; simp, rfl⟩
    · refine run ?_
      apply (w_loop (σ := Nat × Nat) rfl (fun p => [(0, U a), (1, U b), (2, U m), (7, U p.2), (8, I (p.1 : Int))])
        (fun p h' => h = h' ∧ p.1 ≤ 64 ∧ p.2 < m ∧ p.2 = a * (b / 2 ^ (64 - p.1)) % m) (fun p => 64 - p.1) (0, 0))
      · exact (Sub.cons rfl (Sub.cons rfl (Sub.cons rfl (Sub.cons rfl (Sub.cons rfl (Sub.nil _))))))
      · exact ⟨rfl, by simp only []; omega, by simp only []; omega, by simp only []; rw [Nat.div_eq_of_lt hb]; simp⟩
      · rintro ⟨k, x⟩ h' ⟨rfl, i1, i2, i3⟩
        dsimp only at i1 i2 i3 ⊢
        refine run ?_
        (apply w_condD; exact rfl; exact rfl) <;> intro hk
        · have hk' : k < 64 := by omega
          have hhalf := half (b := b) hk'
          have hbd : b / 2 ^ (63 - k) < 18446744073709551616 := Nat.lt_of_le_of_lt (Nat.div_le_self _ _) hb
          refine run ?_
          apply (s_call Tryd_ent12 rfl rfl rfl)
          refine (refAdd_spec x x m h (by omega) (by omega) hm).mono ?_
          rintro _ _ ⟨rfl, rfl⟩
          refine ⟨(by first | exact trivial | exact Ext.refl _ | assumption | exact Ext.trans (by assumption) (by assumption)), ?_⟩
          refine run ?_
          (apply s_convUN (63 - k); exact rfl; exact rfl; exact rfl; exact rfl)
          · omega
          · omega
          refine run ?_
          rw [and_one]
          (apply w_condD; exact rfl; exact rfl) <;> intro hbit
          · refine run ?_
            apply (s_call Tryd_ent12 rfl rfl rfl)
            refine (refAdd_spec _ a m h (Nat.lt_of_le_of_lt addm_le hm) ha hm).mono ?_
            rintro _ _ ⟨rfl, rfl⟩
            refine ⟨(by first | exact trivial | exact Ext.refl _ | assumption | exact Ext.trans (by assumption) (by assumption)), ?_⟩
            refine run ?_
            apply again_normal (k + 1, addm (addm x x m) a m)
            · exact (Sub.cons rfl (Sub.cons rfl (Sub.cons rfl (Sub.cons rfl (Sub.cons rfl (Sub.nil _))))))
            · exact ⟨rfl, by simp only []; omega, addm_lt (by omega), mul_bit1 hm0 hk' i3 hbit⟩
            · simp only []; omega
          · refine run ?_
            apply again_normal (k + 1, addm x x m)
            · exact (Sub.cons rfl (Sub.cons rfl (Sub.cons rfl (Sub.cons rfl (Sub.cons rfl (Sub.nil _))))))
            · exact ⟨rfl, by simp only []; omega, addm_lt (by omega), mul_bit0 hm0 hk' i3 hbit⟩
            · simp only []; omega
        · refine run ?_
          have hz : k = 64 := by omega
          subst hz
          exact fin1 rfl rfl ⟨by rw [i3, mulm, if_neg hm0]; simp, rfl⟩

end Go.Proofs.YtajgcmgkhmkmbaaDoor

/- Texts Word to NttB of this work, joined: each says in its own head what it proves, and of which condition. -/
import Derived.Test.YtfgfmempmkjlnaaDoorMNtt2
import Derived.Laws.World
import Derived.Shelf.Spec.BitsCarry
import Derived.ChangeKeysEq
import Derived.Laws.StructEq
/- The functions of package word, and of its reference, by contracts. No condition. -/
namespace Go.Proofs.YtfgfmempmkjlnaaDoor
set_option linter.unusedVariables false
set_option maxRecDepth 8000
open Go Go.Den Go.RowKit

def addm (a b m : Nat) : Nat := if m = 0 then 0 else (a + b) % m
def subm (a b m : Nat) : Nat := if m = 0 then 0 else (a + (m - b % m)) % m
def mulm (a b m : Nat) : Nat := if m = 0 then 0 else a * b % m
def powm (a n m : Nat) : Nat := if m = 0 then 0 else a ^ n % m

theorem addm_wrap {a b m : Nat} (hm : m ≠ 0) (h : ((a % m + b % m + 0) / 18446744073709551616 = 1 ∨ m ≤ (a % m + b % m + 0) % 18446744073709551616)) (h1 : m < 18446744073709551616) :
    ((a % m + b % m + 0) % 18446744073709551616 + (18446744073709551616 - m)) % 18446744073709551616 = addm a b m := by
  have h2 : a % m < m := Nat.mod_lt _ (by omega)
  have h3 : b % m < m := Nat.mod_lt _ (by omega)
  have e : (a + b) % m = (a % m + b % m) % m := Nat.add_mod a b m
  rw [addm, if_neg hm, e]
  generalize a % m = x at *
  generalize b % m = y at *
  have hge : m ≤ x + y := by omega
  rw [Nat.mod_eq_sub_mod hge, Nat.mod_eq_of_lt (a := x + y - m) (by omega)]
  omega
theorem addm_plain {a b m : Nat} (hm : m ≠ 0) (h : ¬ (a % m + b % m + 0) / 18446744073709551616 = 1) (h' : ¬ m ≤ (a % m + b % m + 0) % 18446744073709551616) (h1 : m < 18446744073709551616) :
    (a % m + b % m + 0) % 18446744073709551616 = addm a b m := by
  have h2 : a % m < m := Nat.mod_lt _ (by omega)
  have h3 : b % m < m := Nat.mod_lt _ (by omega)
  have e : (a + b) % m = (a % m + b % m) % m := Nat.add_mod a b m
  rw [addm, if_neg hm, e]
  generalize a % m = x at *
  generalize b % m = y at *
  rw [Nat.mod_eq_of_lt (a := x + y) (by omega)]
  omega
theorem addm_red (a b m : Nat) (hm : m ≠ 0) : addm a b m = (a % m + b % m) % m := by rw [addm, if_neg hm, Nat.add_mod]
theorem addm_over {a b m : Nat} (hm : m ≠ 0) (h : m - a % m ≤ b % m) : addm a b m = b % m - (m - a % m) := by
  have h1 : a % m < m := Nat.mod_lt _ (by omega)
  have h2 : b % m < m := Nat.mod_lt _ (by omega)
  rw [addm_red a b m hm]
  generalize a % m = x at *
  generalize b % m = y at *
  rw [Nat.mod_eq_sub_mod (by omega), Nat.mod_eq_of_lt (by omega)]
  omega
theorem addm_under {a b m : Nat} (hm : m ≠ 0) (h : ¬ m - a % m ≤ b % m) : addm a b m = a % m + b % m := by
  have h1 : a % m < m := Nat.mod_lt _ (by omega)
  have h2 : b % m < m := Nat.mod_lt _ (by omega)
  rw [addm_red a b m hm]
  generalize a % m = x at *
  generalize b % m = y at *
  rw [Nat.mod_eq_of_lt (by omega)]
theorem subm_red (a b m : Nat) (hm : m ≠ 0) : subm a b m = if b % m ≤ a % m then a % m - b % m else a % m + (m - b % m) := by
  have h2 : a % m < m := Nat.mod_lt _ (by omega)
  have h3 : b % m < m := Nat.mod_lt _ (by omega)
  rw [subm, if_neg hm, ← Nat.mod_add_mod]
  generalize a % m = x at *
  generalize b % m = y at *
  by_cases h : y ≤ x
  · rw [if_pos h, show x + (m - y) = (x - y) + m by omega, Nat.add_mod_right, Nat.mod_eq_of_lt (by omega)]
  · rw [if_neg h, Nat.mod_eq_of_lt (by omega)]
theorem addm_lt {a b m : Nat} (hm : 0 < m) : addm a b m < m := by rw [addm, if_neg (by omega)]; exact Nat.mod_lt _ hm
theorem subm_lt {a b m : Nat} (hm : 0 < m) : subm a b m < m := by rw [subm, if_neg (by omega)]; exact Nat.mod_lt _ hm
theorem mulm_lt {a b m : Nat} (hm : 0 < m) : mulm a b m < m := by rw [mulm, if_neg (by omega)]; exact Nat.mod_lt _ hm
theorem mulm_le {a b m : Nat} : mulm a b m ≤ m := by
  rcases Nat.eq_zero_or_pos m with h | h
  · subst h; simp [mulm]
  · exact Nat.le_of_lt (mulm_lt h)
theorem addm_le {a b m : Nat} : addm a b m ≤ m := by
  rcases Nat.eq_zero_or_pos m with h | h
  · subst h; simp [addm]
  · exact Nat.le_of_lt (addm_lt h)

theorem Tryd_ent62 : Ent Tryd.prog 62 := ent_of Tryd.func62 (by kernel_rfl) rfl
set_option maxHeartbeats 400000 in
theorem add_spec (a b m : Nat) (h : Hp) (ha : a < 18446744073709551616) (hb : b < 18446744073709551616) (hm : m < 18446744073709551616) :
    CallsH Tryd.prog 62 [U a, U b, U m] h fun v h' => v = U (addm a b m) ∧ h = h' := by
  (apply enter Tryd.func62 rfl Tryd.ntmps62 rfl)
  refine runS ?_
  (apply w_condD; exact rfl; exact rfl) <;> intro hm0
  · refine runS ?_
    exact fin1 rfl rfl ⟨by simp [addm, hm0], rfl⟩
  · refine runS ?_
    have h1 : a % m < m := Nat.mod_lt _ (by omega)
    have h2 : b % m < m := Nat.mod_lt _ (by omega)
    refine run ?_
    apply s_extern (add64_run (a % m) (b % m) 0 (by omega) (by omega) (by omega)) rfl rfl
    refine runS ?_
    (apply s_split 23; exact rfl) <;> intro hc
    · refine runS ?_
      (apply s_subUw; (first | exact isK_c | exact isK_t rfl); (first | exact isK_c | exact isK_t rfl); exact rfl; omega)
      refine runS ?_
      exact fin1 rfl rfl ⟨by rw [addm_wrap hm0 (.inl hc) hm], rfl⟩
    · refine runS ?_
      (apply w_condD; exact rfl; exact rfl) <;> intro hd
      · refine runS ?_
        (apply s_subUw; (first | exact isK_c | exact isK_t rfl); (first | exact isK_c | exact isK_t rfl); exact rfl; omega)
        refine runS ?_
        exact fin1 rfl rfl ⟨by rw [addm_wrap hm0 (.inr hd) hm], rfl⟩
      · refine runS ?_
        exact fin1 rfl rfl ⟨by rw [addm_plain hm0 hc hd hm], rfl⟩

theorem Tryd_ent63 : Ent Tryd.prog 63 := ent_of Tryd.func63 (by kernel_rfl) rfl
set_option maxHeartbeats 400000 in
theorem sub_spec (a b m : Nat) (h : Hp) (ha : a < 18446744073709551616) (hb : b < 18446744073709551616) (hm : m < 18446744073709551616) :
    CallsH Tryd.prog 63 [U a, U b, U m] h fun v h' => v = U (subm a b m) ∧ h = h' := by
  (apply enter Tryd.func63 rfl Tryd.ntmps63 rfl)
  refine runS ?_
  (apply w_condD; exact rfl; exact rfl) <;> intro hm0
  · refine runS ?_
    exact fin1 rfl rfl ⟨by simp [subm, hm0], rfl⟩
  · refine runS ?_
    have h1 : a % m < m := Nat.mod_lt _ (by omega)
    have h2 : b % m < m := Nat.mod_lt _ (by omega)
    refine run ?_
    (apply w_condD; exact rfl; exact rfl) <;> intro hc
    · refine run ?_
      exact fin1 rfl rfl ⟨by rw [subm_red a b m hm0, if_pos hc], rfl⟩
    · refine run ?_
      exact fin1 rfl rfl ⟨by rw [subm_red a b m hm0, if_neg hc], rfl⟩

theorem Tryd_ent48 : Ent Tryd.prog 48 := ent_of Tryd.func48 (by kernel_rfl) rfl
set_option maxHeartbeats 400000 in
theorem mul_spec (a b m : Nat) (h : Hp) (ha : a < 18446744073709551616) (hb : b < 18446744073709551616) (hm : m < 18446744073709551616) :
    CallsH Tryd.prog 48 [U a, U b, U m] h fun v h' => v = U (mulm a b m) ∧ h = h' := by
  (apply enter Tryd.func48 rfl Tryd.ntmps48 rfl)
  refine runS ?_
  (apply w_condD; exact rfl; exact rfl) <;> intro hm0
  · refine runS ?_
    exact fin1 rfl rfl ⟨by simp [mulm, hm0], rfl⟩
  · refine runS ?_
    have h1 : a % m < m := Nat.mod_lt _ (by omega)
    have h2 : b % m < m := Nat.mod_lt _ (by omega)
    have h3 : a % m * (b % m) / 18446744073709551616 < m := by
      rw [Nat.div_lt_iff_lt_mul (by decide)]
      have : a % m * (b % m) ≤ a % m * m := Nat.mul_le_mul_left _ (Nat.le_of_lt h2)
      have h4 : a % m * m < m * m := Nat.mul_lt_mul_of_pos_right h1 (by omega)
      have h5 : m * m ≤ m * 18446744073709551616 := Nat.mul_le_mul_left _ (Nat.le_of_lt hm)
      exact Nat.lt_of_le_of_lt this (Nat.lt_of_lt_of_le h4 h5)
    have h6 : mulm a b m = a % m * (b % m) % m := by rw [mulm, if_neg hm0, Nat.mul_mod]
    have h7 := Nat.div_add_mod (a % m * (b % m)) 18446744073709551616
    rw [Nat.mul_comm] at h7
    refine run ?_
    apply (s_call Tryd_ent73 rfl rfl rfl)
    refine (mul64_spec _ _ h (by omega) (by omega)).mono ?_
    rintro _ _ ⟨rfl, rfl⟩
    refine ⟨trivial, ?_⟩
    refine run ?_
    apply (s_call Tryd_ent74 rfl rfl rfl)
    refine (div64_spec _ _ m h h3 (Num.modW _) hm).mono ?_
    rintro _ _ ⟨rfl, rfl⟩
    refine ⟨trivial, ?_⟩
    refine run ?_
    exact fin1 rfl rfl ⟨by rw [h7, h6], rfl⟩

theorem pow_step (x a n m : Nat) : x * a ^ n % m = ((if n % 2 = 1 then x * a % m else x) * (a * a % m) ^ (n / 2)) % m := by
  have e : a ^ n = (a * a) ^ (n / 2) * a ^ (n % 2) := by
    rw [← Nat.pow_two, ← Nat.pow_mul, ← Nat.pow_add, Nat.div_add_mod]
  rw [e]
  have h2 : (a * a % m) ^ (n / 2) % m = (a * a) ^ (n / 2) % m := (Nat.pow_mod (a * a) (n / 2) m).symm
  rcases Nat.mod_two_eq_zero_or_one n with h | h
  · rw [h, if_neg (by omega), Nat.pow_zero, Nat.mul_one, Nat.mul_mod x, ← h2, ← Nat.mul_mod]
  · rw [h, if_pos rfl, Nat.pow_one, Nat.mul_comm _ a, ← Nat.mul_assoc, Nat.mul_mod (x * a), ← h2, ← Nat.mul_mod, Nat.mul_mod (x * a % m), Nat.mod_mod, ← Nat.mul_mod]

theorem and_one (n : Nat) : n &&& 1 = n % 2 := Nat.and_two_pow_sub_one_eq_mod n 1

theorem Tryd_ent71 : Ent Tryd.prog 71 := ent_of Tryd.func71 (by kernel_rfl) rfl
set_option maxHeartbeats 400000 in
theorem pow_spec (a n m : Nat) (h : Hp) (ha : a < 18446744073709551616) (hn : n < 18446744073709551616) (hm : m < 18446744073709551616) :
    CallsH Tryd.prog 71 [U a, U n, U m] h fun v h' => v = U (powm a n m) ∧ h = h' := by
  (apply enter Tryd.func71 rfl Tryd.ntmps71 rfl)
  refine runS ?_
  (apply w_condD; exact rfl; exact rfl) <;> intro hm0
  · refine runS ?_
    exact fin1 rfl rfl ⟨by simp [powm, hm0], rfl⟩
  · refine run ?_
    (first | (apply w_seqB; exact rfl; apply w_block; exact rfl) | skip)
    apply (w_loop (σ := Nat × Nat × Nat) rfl (fun p => [(0, U p.1), (1, U p.2.1), (2, U m), (7, U p.2.2)])
      (fun p h' => h = h' ∧ p.1 < 18446744073709551616 ∧ p.2.1 < 18446744073709551616 ∧ p.2.2 < m ∧ p.2.2 * p.1 ^ p.2.1 % m = a ^ n % m) (fun p => p.2.1) (a, n, 1 % m))
    · exact (Sub.cons rfl (Sub.cons rfl (Sub.cons rfl (Sub.cons rfl (Sub.nil _)))))
    · exact ⟨rfl, ha, hn, Nat.mod_lt _ (by omega), by simp only []; rw [Nat.mod_mul_mod, Nat.one_mul]⟩
    · rintro ⟨a', n', x⟩ h' ⟨rfl, i1, i2, i3, i4⟩
      dsimp only at i1 i2 i3 i4 ⊢
      refine run ?_
      have ha2 : mulm a' a' m < 18446744073709551616 := Nat.lt_of_le_of_lt mulm_le hm
      have hs := pow_step x a' n' m
      rw [i4] at hs
      (apply w_condD; exact rfl; exact rfl) <;> intro hn0
      · refine run ?_
        (apply w_condD; exact rfl; exact rfl) <;> intro hb
        · rw [and_one] at hb
          refine run ?_
          apply (s_call Tryd_ent48 rfl rfl rfl)
          refine (mul_spec x a' m h (by omega) i1 hm).mono ?_
          rintro _ _ ⟨rfl, rfl⟩
          refine ⟨(by first | exact trivial | exact Ext.refl _ | assumption | exact Ext.trans (by assumption) (by assumption)), ?_⟩
          refine run ?_
          apply (s_call Tryd_ent48 rfl rfl rfl)
          refine (mul_spec a' a' m h i1 i1 hm).mono ?_
          rintro _ _ ⟨rfl, rfl⟩
          refine ⟨(by first | exact trivial | exact Ext.refl _ | assumption | exact Ext.trans (by assumption) (by assumption)), ?_⟩
          refine run ?_
          apply again_normal (mulm a' a' m, n' / 2 ^ 1, mulm x a' m)
          · exact (Sub.cons rfl (Sub.cons rfl (Sub.cons rfl (Sub.cons rfl (Sub.nil _)))))
          · exact ⟨rfl, ha2, by simp only []; omega, mulm_lt (by omega), by simp only [mulm, if_neg hm0]; rw [if_pos hb] at hs; rw [hs]⟩
          · simp only []; omega
        · rw [and_one] at hb
          refine run ?_
          apply (s_call Tryd_ent48 rfl rfl rfl)
          refine (mul_spec a' a' m h i1 i1 hm).mono ?_
          rintro _ _ ⟨rfl, rfl⟩
          refine ⟨(by first | exact trivial | exact Ext.refl _ | assumption | exact Ext.trans (by assumption) (by assumption)), ?_⟩
          refine run ?_
          apply again_normal (mulm a' a' m, n' / 2 ^ 1, x)
          · exact (Sub.cons rfl (Sub.cons rfl (Sub.cons rfl (Sub.cons rfl (Sub.nil _)))))
          · exact ⟨rfl, ha2, by simp only []; omega, i3, by simp only [mulm, if_neg hm0]; rw [if_neg hb] at hs; rw [hs]⟩
          · simp only []; omega
      · refine run ?_
        have hz : n' = 0 := by omega
        subst hz
        exact fin1 rfl rfl ⟨by rw [powm, if_neg hm0, ← i4, Nat.pow_zero, Nat.mul_one, Nat.mod_eq_of_lt i3], rfl⟩

theorem cong {a b m : Nat} (h : a % m = b % m) : ∃ k : Int, (a : Int) = b + m * k := by
  have h1 := Nat.div_add_mod a m
  have h2 := Nat.div_add_mod b m
  refine ⟨(a / m : Nat) - (b / m : Nat), ?_⟩
  have h1' : (a : Int) = (m : Int) * ((a / m : Nat) : Int) + ((a % m : Nat) : Int) := by rw [← Int.natCast_mul, ← Int.natCast_add, h1]
  have h2' : (b : Int) = (m : Int) * ((b / m : Nat) : Int) + ((b % m : Nat) : Int) := by rw [← Int.natCast_mul, ← Int.natCast_add, h2]
  rw [Int.mul_sub, h1', h2', h]
  omega
theorem of_cong {a b m : Nat} (k : Int) (h : (a : Int) = b + m * k) : a % m = b % m := by
  have h1 : (a : Int) % m = (b : Int) % m := by rw [h, Int.add_mul_emod_self_left]
  omega

theorem inv_step {r s x y a m : Nat} (hm : 0 < m) (hx : x * a % m = r % m) (hy : y * a % m = s % m) :
    subm x (mulm (r / s) y m) m * a % m = (r - r / s * s) % m := by
  have h1 : r / s * s ≤ r := Nat.div_mul_le_self r s
  obtain ⟨k1, e1⟩ := cong hx
  obtain ⟨k2, e2⟩ := cong hy
  have e3 : (subm x (mulm (r / s) y m) m + r / s * y) % m = x % m := by
    rw [subm, if_neg (by omega), mulm, if_neg (by omega), Nat.mod_mod, Nat.mod_add_mod]
    have hlt : r / s * y % m < m := Nat.mod_lt _ hm
    have hdm := Nat.div_add_mod (r / s * y) m
    rw [show x + (m - r / s * y % m) + r / s * y = x + m * (1 + r / s * y / m) by rw [Nat.mul_add, Nat.mul_one]; omega, Nat.add_mul_mod_self_left]
  obtain ⟨k3, e3⟩ := cong e3
  generalize subm x (mulm (r / s) y m) m = z at *
  generalize r / s = q at *
  refine of_cong (k1 - q * k2 + k3 * a) ?_
  rw [Int.ofNat_sub h1]
  simp only [Int.natCast_mul, Int.natCast_add] at *
  have e4 : (z : Int) = x + m * k3 - q * y := by omega
  rw [e4]
  grind

def InvIs (a m i : Nat) (ok : Bool) : Prop := (ok = true → 2 ≤ m ∧ Nat.gcd a m = 1 ∧ i < m ∧ a * i % m = 1) ∧ (ok = false → (m < 2 ∨ Nat.gcd a m ≠ 1) ∧ i = 0)

theorem Tryd_ent46 : Ent Tryd.prog 46 := ent_of Tryd.func46 (by kernel_rfl) rfl
set_option maxHeartbeats 400000 in
theorem inv_spec (a m : Nat) (h : Hp) (ha : a < 18446744073709551616) (hm : m < 18446744073709551616) :
    CallsH Tryd.prog 46 [U a, U m] h fun v h' => (∃ i ok, v = .tuple [U i, .bool ok].toArray ∧ InvIs a m i ok) ∧ h = h' := by
  (apply enter Tryd.func46 rfl Tryd.ntmps46 rfl)
  refine run ?_
  (apply w_condD; exact rfl; exact rfl) <;> intro hm0
  · refine run ?_
    exact fin2 rfl rfl rfl ⟨⟨_, _, rfl, fun e => by simp at e, fun _ => ⟨.inl hm0, rfl⟩⟩, rfl⟩
  · refine run ?_
    refine run ?_
    (first | (apply w_seqB; exact rfl; apply w_block; exact rfl) | skip)
    apply (w_loop (σ := Nat × Nat × Nat × Nat) rfl (fun p => [(0, U a), (1, U m), (6, U p.1), (7, U p.2.1), (8, U p.2.2.1), (9, U p.2.2.2)])
      (fun p h' => h = h' ∧ p.1 < 18446744073709551616 ∧ p.2.1 < 18446744073709551616 ∧ p.2.2.1 < m ∧ p.2.2.2 < m ∧ p.2.2.1 * a % m = p.1 % m ∧ p.2.2.2 * a % m = p.2.1 % m ∧ Nat.gcd p.1 p.2.1 = Nat.gcd a m) (fun p => p.2.1) (m, a % m, 0, 1))
    · exact (Sub.cons rfl (Sub.cons rfl (Sub.cons rfl (Sub.cons rfl (Sub.cons rfl (Sub.cons rfl (Sub.nil _)))))))
    · exact ⟨rfl, hm, Nat.lt_trans (Nat.mod_lt _ (by omega)) hm, by simp only []; omega, by simp only []; omega, by simp, by simp, by simp only []; rw [Nat.gcd_comm a m, Nat.gcd_rec m a, Nat.gcd_comm]⟩
    · rintro ⟨r, s, x, y⟩ h' ⟨rfl, i1, i2, i3, i4, i5, i6, i7⟩
      dsimp only at i1 i2 i3 i4 i5 i6 i7 ⊢
      refine run ?_
      (apply w_condD; exact rfl; exact rfl) <;> intro hs0
      · have hqs : r / s * s ≤ r := Nat.div_mul_le_self r s
        have hqs' : r / s * s < 18446744073709551616 := by omega
        have hq : r / s < 18446744073709551616 := Nat.lt_of_le_of_lt (Nat.div_le_self r s) i1
        have hmod : r - r / s * s = r % s := by have := Nat.div_add_mod r s; rw [Nat.mul_comm] at this; omega
        have hlt : r % s < s := Nat.mod_lt _ (by omega)
        have hstep := inv_step (by omega) i5 i6
        have hmle : mulm (r / s) y m < 18446744073709551616 := Nat.lt_of_le_of_lt mulm_le hm
        refine run ?_
        apply (s_call Tryd_ent48 rfl rfl rfl)
        refine (mul_spec (r / s) y m h hq (by omega) hm).mono ?_
        rintro _ _ ⟨rfl, rfl⟩
        refine ⟨(by first | exact trivial | exact Ext.refl _ | assumption | exact Ext.trans (by assumption) (by assumption)), ?_⟩
        refine run ?_
        apply (s_call Tryd_ent63 rfl rfl rfl)
        refine (sub_spec x _ m h (by omega) hmle hm).mono ?_
        rintro _ _ ⟨rfl, rfl⟩
        refine ⟨(by first | exact trivial | exact Ext.refl _ | assumption | exact Ext.trans (by assumption) (by assumption)), ?_⟩
        refine run ?_
        rw [hmod] at hstep ⊢
        apply again_normal (s, r % s, y, subm x (mulm (r / s) y m) m)
        · exact (Sub.cons rfl (Sub.cons rfl (Sub.cons rfl (Sub.cons rfl (Sub.cons rfl (Sub.cons rfl (Sub.nil _)))))))
        · exact ⟨rfl, i2, by simp only []; omega, i4, subm_lt (by omega), i6, hstep, by simp only []; rw [← i7, Nat.gcd_comm r s, Nat.gcd_rec s r, Nat.gcd_comm]⟩
        · exact hlt
      · refine run ?_
        have hz : s = 0 := by omega
        subst hz
        rw [Nat.gcd_zero_right] at i7
        (apply w_condD; exact rfl; exact rfl) <;> intro hr1
        · refine run ?_
          exact fin2 rfl rfl rfl ⟨⟨_, _, rfl, fun e => by simp at e, fun _ => ⟨.inr (by rw [← i7]; exact hr1), rfl⟩⟩, rfl⟩
        · refine run ?_
          have hr1' : r = 1 := by omega
          subst hr1'
          exact fin2 rfl rfl rfl ⟨⟨_, _, rfl, fun _ => ⟨by omega, i7.symm, i3, by rw [Nat.mul_comm, i5, Nat.mod_eq_of_lt (by omega)]⟩, fun e => by simp at e⟩, rfl⟩

theorem Tryd_ent34 : Ent Tryd.prog 34 := ent_of Tryd.func34 (by kernel_rfl) rfl
set_option maxHeartbeats 400000 in
theorem refAdd_spec (a b m : Nat) (h : Hp) (ha : a < 18446744073709551616) (hb : b < 18446744073709551616) (hm : m < 18446744073709551616) :
    CallsH Tryd.prog 34 [U a, U b, U m] h fun v h' => v = U (addm a b m) ∧ h = h' := by
  (apply enter Tryd.func34 rfl Tryd.ntmps34 rfl)
  refine run ?_
  (apply w_condD; exact rfl; exact rfl) <;> intro hm0
  · refine run ?_
    exact fin1 rfl rfl ⟨by simp [addm, hm0], rfl⟩
  · refine run ?_
    have h1 : a % m < m := Nat.mod_lt _ (by omega)
    have h2 : b % m < m := Nat.mod_lt _ (by omega)
    refine run ?_
    (apply w_condD; exact rfl; exact rfl) <;> intro hc
    · refine run ?_
      exact fin1 rfl rfl ⟨by rw [addm_over hm0 hc], rfl⟩
    · refine run ?_
      exact fin1 rfl rfl ⟨by rw [addm_under hm0 hc], rfl⟩

theorem Tryd_ent20 : Ent Tryd.prog 20 := ent_of Tryd.func20 (by kernel_rfl) rfl
set_option maxHeartbeats 400000 in
theorem refSub_spec (a b m : Nat) (h : Hp) (ha : a < 18446744073709551616) (hb : b < 18446744073709551616) (hm : m < 18446744073709551616) :
    CallsH Tryd.prog 20 [U a, U b, U m] h fun v h' => v = U (subm a b m) ∧ h = h' := by
  (apply enter Tryd.func20 rfl Tryd.ntmps20 rfl)
  refine run ?_
  (apply w_condD; exact rfl; exact rfl) <;> intro hm0
  · refine run ?_
    exact fin1 rfl rfl ⟨by simp [subm, hm0], rfl⟩
  · have h2 : b % m < m := Nat.mod_lt _ (by omega)
    refine run ?_
    apply (s_call Tryd_ent34 rfl rfl rfl)
    refine (refAdd_spec a _ m h ha (by omega) hm).mono ?_
    rintro _ _ ⟨rfl, rfl⟩
    refine ⟨(by first | exact trivial | exact Ext.refl _ | assumption | exact Ext.trans (by assumption) (by assumption)), ?_⟩
    refine run ?_
    exact fin1 rfl rfl ⟨by simp only [addm, subm], rfl⟩

theorem half {b k : Nat} (hk : k < 64) : b / 2 ^ (63 - k) = 2 * (b / 2 ^ (64 - k)) + b / 2 ^ (63 - k) % 2 := by
  have : b / 2 ^ (64 - k) = b / 2 ^ (63 - k) / 2 := by rw [Nat.div_div_eq_div_mul, ← Nat.pow_succ, show (63 - k).succ = 64 - k by omega]
  omega

theorem dbl_add (X a m : Nat) : ((X % m + X % m) % m + a) % m = (2 * X + a) % m := by
  rw [Nat.mod_add_mod, Nat.add_assoc, Nat.mod_add_mod, ← Nat.add_assoc, Nat.add_comm X, Nat.add_assoc, Nat.mod_add_mod]
  congr 1; omega
theorem sq_mul (X a m : Nat) : X % m * (X % m) % m * a % m = X * X * a % m := by
  rw [Nat.mod_mul_mod, Nat.mul_assoc, Nat.mod_mul_mod, ← Nat.mul_assoc, Nat.mul_comm X, Nat.mul_assoc, Nat.mod_mul_mod, Nat.mul_assoc]
theorem mul_bit1 {a b m k x : Nat} (hm0 : m ≠ 0) (hk : k < 64) (hx : x = a * (b / 2 ^ (64 - k)) % m) (hb : b / 2 ^ (63 - k) % 2 = 1) : addm (addm x x m) a m = a * (b / 2 ^ (64 - (k + 1))) % m := by
  have h := half (b := b) hk
  rw [show 64 - (k + 1) = 63 - k by omega, h, hb, hx, addm, if_neg hm0, addm, if_neg hm0, dbl_add]
  congr 1; rw [Nat.mul_add, Nat.mul_one, Nat.mul_left_comm]
theorem mul_bit0 {a b m k x : Nat} (hm0 : m ≠ 0) (hk : k < 64) (hx : x = a * (b / 2 ^ (64 - k)) % m) (hb : ¬ b / 2 ^ (63 - k) % 2 = 1) : addm x x m = a * (b / 2 ^ (64 - (k + 1))) % m := by
  have h := half (b := b) hk
  rw [show 64 - (k + 1) = 63 - k by omega, h, show b / 2 ^ (63 - k) % 2 = 0 by omega, hx, addm, if_neg hm0, ← Nat.add_mod]
  congr 1; rw [Nat.add_zero, Nat.two_mul, Nat.mul_add]
theorem pow_bit1 {a b m k x : Nat} (hm0 : m ≠ 0) (hk : k < 64) (hx : x = a ^ (b / 2 ^ (64 - k)) % m) (hb : b / 2 ^ (63 - k) % 2 = 1) : mulm (mulm x x m) a m = a ^ (b / 2 ^ (64 - (k + 1))) % m := by
  have h := half (b := b) hk
  rw [show 64 - (k + 1) = 63 - k by omega, h, hb, hx, mulm, if_neg hm0, mulm, if_neg hm0, sq_mul, Nat.pow_succ, Nat.two_mul, Nat.pow_add]
theorem pow_bit0 {a b m k x : Nat} (hm0 : m ≠ 0) (hk : k < 64) (hx : x = a ^ (b / 2 ^ (64 - k)) % m) (hb : ¬ b / 2 ^ (63 - k) % 2 = 1) : mulm x x m = a ^ (b / 2 ^ (64 - (k + 1))) % m := by
  have h := half (b := b) hk
  rw [show 64 - (k + 1) = 63 - k by omega, h, show b / 2 ^ (63 - k) % 2 = 0 by omega, hx, mulm, if_neg hm0, ← Nat.mul_mod, Nat.add_zero, Nat.two_mul, Nat.pow_add]

theorem Tryd_ent19 : Ent Tryd.prog 19 := ent_of Tryd.func19 (by kernel_rfl) rfl
set_option maxHeartbeats 400000 in
theorem refMul_spec (a b m : Nat) (h : Hp) (ha : a < 18446744073709551616) (hb : b < 18446744073709551616) (hm : m < 18446744073709551616) :
    CallsH Tryd.prog 19 [U a, U b, U m] h fun v h' => v = U (mulm a b m) ∧ h = h' := by
  (apply enter Tryd.func19 rfl Tryd.ntmps19 rfl)
  refine run ?_
  (apply w_condD; exact rfl; exact rfl) <;> intro hm0
  · refine run ?_
    exact fin1 rfl rfl ⟨by simp [mulm, hm0], rfl⟩
  · refine run ?_
    refine run ?_
    (apply s_split 15; exact rfl) <;> intro hA
    · refine run ?_
      (apply w_condD; exact rfl; exact rfl) <;> intro hB
      · have hAB : a % m * (b % m) < 18446744073709551616 := by
          have : a % m * (b % m) ≤ 4294967295 * 4294967295 := Nat.mul_le_mul (by omega) (by omega)
          omega
        refine run ?_
        exact fin1 rfl rfl ⟨by rw [mulm, if_neg hm0, ← Nat.mul_mod], rfl⟩
      · refine run ?_
        apply (w_loop (σ := Nat × Nat) rfl (fun p => [(0, U a), (1, U b), (2, U m), (7, U p.2), (8, I (p.1 : Int))])
          (fun p h' => h = h' ∧ p.1 ≤ 64 ∧ p.2 < m ∧ p.2 = a * (b / 2 ^ (64 - p.1)) % m) (fun p => 64 - p.1) (0, 0))
        · exact (Sub.cons rfl (Sub.cons rfl (Sub.cons rfl (Sub.cons rfl (Sub.cons rfl (Sub.nil _))))))
        · exact ⟨rfl, by simp only []; omega, by simp only []; omega, by simp only []; rw [Nat.div_eq_of_lt hb]; simp⟩
        · rintro ⟨k, x⟩ h' ⟨rfl, i1, i2, i3⟩
          dsimp only at i1 i2 i3 ⊢
          refine run ?_
          (apply w_condD; exact rfl; exact rfl) <;> intro hk
          · have hk' : k < 64 := by omega
            have hhalf := half (b := b) hk'
            have hbd : b / 2 ^ (63 - k) < 18446744073709551616 := Nat.lt_of_le_of_lt (Nat.div_le_self _ _) hb
            refine run ?_
            apply (s_call Tryd_ent34 rfl rfl rfl)
            refine (refAdd_spec x x m h (by omega) (by omega) hm).mono ?_
            rintro _ _ ⟨rfl, rfl⟩
            refine ⟨(by first | exact trivial | exact Ext.refl _ | assumption | exact Ext.trans (by assumption) (by assumption)), ?_⟩
            refine run ?_
            (apply s_convUN (63 - k); exact rfl; exact rfl; exact rfl; exact rfl)
            · omega
            · omega
            refine run ?_
            rw [and_one]
            (apply w_condD; exact rfl; exact rfl) <;> intro hbit
            · refine run ?_
              apply (s_call Tryd_ent34 rfl rfl rfl)
              refine (refAdd_spec _ a m h (Nat.lt_of_le_of_lt addm_le hm) ha hm).mono ?_
              rintro _ _ ⟨rfl, rfl⟩
              refine ⟨(by first | exact trivial | exact Ext.refl _ | assumption | exact Ext.trans (by assumption) (by assumption)), ?_⟩
              refine run ?_
              apply again_normal (k + 1, addm (addm x x m) a m)
              · exact (Sub.cons rfl (Sub.cons rfl (Sub.cons rfl (Sub.cons rfl (Sub.cons rfl (Sub.nil _))))))
              · exact ⟨rfl, by simp only []; omega, addm_lt (by omega), mul_bit1 hm0 hk' i3 hbit⟩
              · simp only []; omega
            · refine run ?_
              apply again_normal (k + 1, addm x x m)
              · exact (Sub.cons rfl (Sub.cons rfl (Sub.cons rfl (Sub.cons rfl (Sub.cons rfl (Sub.nil _))))))
              · exact ⟨rfl, by simp only []; omega, addm_lt (by omega), mul_bit0 hm0 hk' i3 hbit⟩
              · simp only []; omega
          · refine run ?_
            have hz : k = 64 := by omega
            subst hz
            exact fin1 rfl rfl ⟨by rw [i3, mulm, if_neg hm0]; simp, rfl⟩
    · refine run ?_
      apply (w_loop (σ := Nat × Nat) rfl (fun p => [(0, U a), (1, U b), (2, U m), (7, U p.2), (8, I (p.1 : Int))])
        (fun p h' => h = h' ∧ p.1 ≤ 64 ∧ p.2 < m ∧ p.2 = a * (b / 2 ^ (64 - p.1)) % m) (fun p => 64 - p.1) (0, 0))
      · exact (Sub.cons rfl (Sub.cons rfl (Sub.cons rfl (Sub.cons rfl (Sub.cons rfl (Sub.nil _))))))
      · exact ⟨rfl, by simp only []; omega, by simp only []; omega, by simp only []; rw [Nat.div_eq_of_lt hb]; simp⟩
      · rintro ⟨k, x⟩ h' ⟨rfl, i1, i2, i3⟩
        dsimp only at i1 i2 i3 ⊢
        refine run ?_
        (apply w_condD; exact rfl; exact rfl) <;> intro hk
        · have hk' : k < 64 := by omega
          have hhalf := half (b := b) hk'
          have hbd : b / 2 ^ (63 - k) < 18446744073709551616 := Nat.lt_of_le_of_lt (Nat.div_le_self _ _) hb
          refine run ?_
          apply (s_call Tryd_ent34 rfl rfl rfl)
          refine (refAdd_spec x x m h (by omega) (by omega) hm).mono ?_
          rintro _ _ ⟨rfl, rfl⟩
          refine ⟨(by first | exact trivial | exact Ext.refl _ | assumption | exact Ext.trans (by assumption) (by assumption)), ?_⟩
          refine run ?_
          (apply s_convUN (63 - k); exact rfl; exact rfl; exact rfl; exact rfl)
          · omega
          · omega
          refine run ?_
          rw [and_one]
          (apply w_condD; exact rfl; exact rfl) <;> intro hbit
          · refine run ?_
            apply (s_call Tryd_ent34 rfl rfl rfl)
            refine (refAdd_spec _ a m h (Nat.lt_of_le_of_lt addm_le hm) ha hm).mono ?_
            rintro _ _ ⟨rfl, rfl⟩
            refine ⟨(by first | exact trivial | exact Ext.refl _ | assumption | exact Ext.trans (by assumption) (by assumption)), ?_⟩
            refine run ?_
            apply again_normal (k + 1, addm (addm x x m) a m)
            · exact (Sub.cons rfl (Sub.cons rfl (Sub.cons rfl (Sub.cons rfl (Sub.cons rfl (Sub.nil _))))))
            · exact ⟨rfl, by simp only []; omega, addm_lt (by omega), mul_bit1 hm0 hk' i3 hbit⟩
            · simp only []; omega
          · refine run ?_
            apply again_normal (k + 1, addm x x m)
            · exact (Sub.cons rfl (Sub.cons rfl (Sub.cons rfl (Sub.cons rfl (Sub.cons rfl (Sub.nil _))))))
            · exact ⟨rfl, by simp only []; omega, addm_lt (by omega), mul_bit0 hm0 hk' i3 hbit⟩
            · simp only []; omega
        · refine run ?_
          have hz : k = 64 := by omega
          subst hz
          exact fin1 rfl rfl ⟨by rw [i3, mulm, if_neg hm0]; simp, rfl⟩

theorem Tryd_ent88 : Ent Tryd.prog 88 := ent_of Tryd.func88 (by kernel_rfl) rfl
set_option maxHeartbeats 400000 in
theorem refPow_spec (a n m : Nat) (h : Hp) (ha : a < 18446744073709551616) (hn : n < 18446744073709551616) (hm : m < 18446744073709551616) :
    CallsH Tryd.prog 88 [U a, U n, U m] h fun v h' => v = U (powm a n m) ∧ h = h' := by
  (apply enter Tryd.func88 rfl Tryd.ntmps88 rfl)
  refine run ?_
  (apply w_condD; exact rfl; exact rfl) <;> intro hm0
  · refine run ?_
    exact fin1 rfl rfl ⟨by simp [powm, hm0], rfl⟩
  · refine run ?_
    apply (w_loop (σ := Nat × Nat) rfl (fun p => [(0, U a), (1, U n), (2, U m), (7, U p.2), (8, I (p.1 : Int))])
      (fun p h' => h = h' ∧ p.1 ≤ 64 ∧ p.2 < m ∧ p.2 = a ^ (n / 2 ^ (64 - p.1)) % m) (fun p => 64 - p.1) (0, 1 % m))
    · exact (Sub.cons rfl (Sub.cons rfl (Sub.cons rfl (Sub.cons rfl (Sub.cons rfl (Sub.nil _))))))
    · exact ⟨rfl, by simp only []; omega, Nat.mod_lt _ (by omega), by simp only []; rw [Nat.div_eq_of_lt hn]; simp⟩
    · rintro ⟨k, x⟩ h' ⟨rfl, i1, i2, i3⟩
      dsimp only at i1 i2 i3 ⊢
      refine run ?_
      (apply w_condD; exact rfl; exact rfl) <;> intro hk
      · have hk' : k < 64 := by omega
        have hhalf := half (b := n) hk'
        have hbd : n / 2 ^ (63 - k) < 18446744073709551616 := Nat.lt_of_le_of_lt (Nat.div_le_self _ _) hn
        refine run ?_
        apply (s_call Tryd_ent19 rfl rfl rfl)
        refine (refMul_spec x x m h (by omega) (by omega) hm).mono ?_
        rintro _ _ ⟨rfl, rfl⟩
        refine ⟨(by first | exact trivial | exact Ext.refl _ | assumption | exact Ext.trans (by assumption) (by assumption)), ?_⟩
        refine run ?_
        (apply s_convUN (63 - k); exact rfl; exact rfl; exact rfl; exact rfl)
        · omega
        · omega
        refine run ?_
        rw [and_one]
        (apply w_condD; exact rfl; exact rfl) <;> intro hbit
        · refine run ?_
          apply (s_call Tryd_ent19 rfl rfl rfl)
          refine (refMul_spec _ a m h (Nat.lt_of_le_of_lt mulm_le hm) ha hm).mono ?_
          rintro _ _ ⟨rfl, rfl⟩
          refine ⟨(by first | exact trivial | exact Ext.refl _ | assumption | exact Ext.trans (by assumption) (by assumption)), ?_⟩
          refine run ?_
          apply again_normal (k + 1, mulm (mulm x x m) a m)
          · exact (Sub.cons rfl (Sub.cons rfl (Sub.cons rfl (Sub.cons rfl (Sub.cons rfl (Sub.nil _))))))
          · exact ⟨rfl, by simp only []; omega, mulm_lt (by omega), pow_bit1 hm0 hk' i3 hbit⟩
          · simp only []; omega
        · refine run ?_
          apply again_normal (k + 1, mulm x x m)
          · exact (Sub.cons rfl (Sub.cons rfl (Sub.cons rfl (Sub.cons rfl (Sub.cons rfl (Sub.nil _))))))
          · exact ⟨rfl, by simp only []; omega, mulm_lt (by omega), pow_bit0 hm0 hk' i3 hbit⟩
          · simp only []; omega
      · refine run ?_
        have hz : k = 64 := by omega
        subst hz
        exact fin1 rfl rfl ⟨by rw [i3, powm, if_neg hm0]; simp, rfl⟩

end Go.Proofs.YtfgfmempmkjlnaaDoor

/- Package prime: the test, told by a function. Condition: the table of math/bits reads as it is laid. -/
namespace Go.Proofs.YtfgfmempmkjlnaaDoor
set_option linter.unusedVariables false
set_option maxRecDepth 8000
open Go Go.Den Go.RowKit

def tzT : List Nat := [0, 1, 56, 2, 57, 49, 28, 3, 61, 58, 42, 50, 38, 29, 17, 4, 62, 47, 59, 36, 45, 43, 51, 22, 53, 39, 33, 30, 24, 18, 12, 5, 63, 55, 48, 27, 60, 41, 37, 16, 46, 35, 44, 21, 52, 32, 23, 11, 54, 26, 40, 15, 34, 20, 31, 10, 25, 14, 19, 9, 13, 8, 7, 6]
def tz (x : Nat) : Nat := if x = 0 then 64 else tzT.getD ((x &&& (18446744073709551616 - x) % 18446744073709551616) * 285870213051353865 % 18446744073709551616 / 2 ^ 58) 0
theorem tzT_le : ∀ j, tzT.getD j 0 ≤ 64 := by
  intro j
  by_cases hj : j < tzT.length
  · have : ∀ k : Fin 64, tzT.getD k.val 0 ≤ 64 := by decide
    exact this ⟨j, hj⟩
  · rw [List.getD_eq_getElem?_getD, List.getElem?_eq_none (by omega)]; decide
theorem tz_le (x : Nat) : tz x ≤ 64 := by
  unfold tz
  split
  · omega
  · exact tzT_le _

/-- The table of math/bits in memory. -/
def TB (h : Hp) : Prop := Cells h (.pointer (some ⟨2, 0, none⟩)) (tzT.map fun b => .int .u8 ((b : Nat) : Int))
theorem TB.ext {h h' : Hp} (s : TB h) (e : Ext h h') : TB h' := Cells.ext s e

theorem mul_lt58 (a : Nat) : a % 18446744073709551616 / 2 ^ 58 < 64 := by
  have : a % 18446744073709551616 < 18446744073709551616 := Nat.mod_lt _ (by decide)
  omega

theorem tz_nth (j : Nat) (hj : j < 64) : nth (tzT.map fun b => Value.int .u8 ((b : Nat) : Int)) j = some (.int .u8 ((tzT.getD j 0 : Nat) : Int)) := by
  rw [nth_eq, List.getElem?_map, List.getD_eq_getElem?_getD, List.getElem?_eq_getElem (show j < tzT.length from hj)]; rfl
theorem Tryd_ent85 : Ent Tryd.prog 85 := ent_of Tryd.func85 (by kernel_rfl) rfl
theorem tz_spec (x : Nat) (h : Hp) (T : TB h) (hx : x < 18446744073709551616) :
    CallsH Tryd.prog 85 [U x] h fun v h' => v = N (tz x) ∧ h = h' := by
  have T' := T
  unfold TB at T
  (apply enter Tryd.func85 rfl Tryd.ntmps85 rfl)
  refine runJ ?_
  (apply w_condD; exact rfl; exact rfl) <;> intro h0
  · refine runJ ?_
    exact fin1 rfl rfl ⟨by unfold tz; rw [if_pos h0], rfl⟩
  · have hm : (18446744073709551616 - x) % 18446744073709551616 < 18446744073709551616 := Nat.mod_lt _ (by decide)
    refine runJ ?_
    (apply s_mulUw; (first | exact isK_c | exact isK_t rfl); (first | exact isK_c | exact isK_t rfl); exact rfl)
    refine runJ ?_
    have h58 := mul_lt58 ((x &&& (18446744073709551616 - x) % 18446744073709551616) * 285870213051353865)
    have hval : tz x = tzT.getD ((x &&& (18446744073709551616 - x) % 18446744073709551616) * 285870213051353865 % 18446744073709551616 / 2 ^ 58) 0 := by unfold tz; rw [if_neg h0]
    have hj := tz_nth _ h58
    have hg := tzT_le ((x &&& (18446744073709551616 - x) % 18446744073709551616) * 285870213051353865 % 18446744073709551616 / 2 ^ 58)
    rw [← hval] at hj hg
    apply s_indexArr rfl rfl (isK_t rfl) rfl rfl rfl h58
    repeat (apply w_seq; exact rfl)
    refine s_op rfl rfl (s_loadP rfl rfl (rd_cellP T) rfl hj ?_)
    refine runJ ?_
    exact fin1 rfl rfl ⟨rfl, rfl⟩

def holdsLoop (n : Nat) : Nat → Nat → Bool
  | 0, _ => false
  | k + 1, x => mulm x x n == n - 1 || holdsLoop n k (mulm x x n)
def holdsB (n d s a : Nat) : Bool := a % n == 0 || (powm (a % n) d n == 1 || (powm (a % n) d n == n - 1 || holdsLoop n (s - 1) (powm (a % n) d n)))
def bases : List Nat := [2, 325, 9375, 28178, 450775, 9780504, 1795265022]
def isB (n : Nat) : Bool := if n < 4 ∨ n % 2 = 0 then n == 2 || n == 3 else bases.all (holdsB n ((n - 1) / 2 ^ tz (n - 1)) (tz (n - 1)))

theorem Tryd_ent86 : Ent Tryd.prog 86 := ent_of Tryd.func86 (by kernel_rfl) rfl
theorem holds_spec (n d s a : Nat) (h : Hp) (hn : 0 < n) (hn2 : n < 18446744073709551616) (hd : d < 18446744073709551616) (hs : s ≤ 64) (ha : a < 18446744073709551616) :
    CallsH Tryd.prog 86 [.agg #[U n, U d, N s], U a] h fun v' h' => v' = .bool (holdsB n d s a) ∧ Ext h h' := by
  have ham : a % n < n := Nat.mod_lt _ hn
  (apply enter Tryd.func86 rfl Tryd.ntmps86 rfl)
  refine runJ ?_
  (apply s_box; exact rfl; exact rfl; exact rfl; exact rfl)
  intro p h1 x1 e1 b1
  (try dsimp only [Value.cells, List.toList_toArray] at x1)
  refine ⟨(by first | exact trivial | exact Ext.refl _ | assumption | exact Ext.trans (by assumption) (by assumption)), ?_⟩
  refine runJ ?_
  (apply w_condD; exact rfl; exact rfl) <;> intro h0
  · refine runJ ?_
    exact fin1 rfl rfl ⟨by unfold holdsB; simp [h0], e1⟩
  refine runJ ?_
  apply (s_call Tryd_ent71 rfl rfl rfl)
  refine (pow_spec _ d n h1 (by omega) hd hn2).mono ?_
  rintro _ _ ⟨rfl, rfl⟩
  refine ⟨(by first | exact trivial | exact Ext.refl _ | assumption | exact Ext.trans (by assumption) (by assumption)), ?_⟩
  have hp : powm (a % n) d n < n := by unfold powm; rw [if_neg (by omega)]; exact Nat.mod_lt _ hn
  refine runJ ?_
  (apply s_splitG; exact rfl; exact rfl; exact rfl; exact rfl) <;> intro h1x
  · refine runJ ?_
    exact fin1 rfl rfl ⟨by unfold holdsB; simp [h1x], e1⟩
  refine runJ ?_
  (apply w_condD; exact rfl; exact rfl) <;> intro h2x
  · refine runJ ?_
    exact fin1 rfl rfl ⟨by unfold holdsB; simp [h2x], e1⟩
  have hB : holdsB n d s a = holdsLoop n (s - 1) (powm (a % n) d n) := by
    unfold holdsB
    rw [beq_eq_false_iff_ne.2 h0, beq_eq_false_iff_ne.2 h1x, beq_eq_false_iff_ne.2 h2x]; rfl
  refine runJ ?_
  (first | (apply w_seqB; exact rfl; apply w_block; exact rfl) | skip)
  apply (w_loop (σ := Nat × Nat) rfl (fun p' => [(2, p), (5, U p'.1), (29, I ((s : Int) - 1)), (30, N p'.2)])
    (fun p' h' => h1 = h' ∧ p'.1 < n ∧ p'.2 ≤ s - 1 ∧ holdsB n d s a = holdsLoop n (s - 1 - p'.2) p'.1) (fun p' => s - 1 - p'.2) (powm (a % n) d n, 0))
  · exact (Sub.cons rfl (Sub.cons rfl (Sub.cons rfl (Sub.cons rfl (Sub.nil _)))))
  · exact ⟨rfl, hp, Nat.zero_le _, hB⟩
  rintro ⟨x, j⟩ h' ⟨rfl, j1, j2, j3⟩
  dsimp only at j1 j2 j3 ⊢
  have hsx : ¬ x = n - 1 ∨ True := .inr trivial
  refine runJ ?_
  (apply w_condD; exact rfl; exact rfl) <;> intro hj
  · obtain ⟨k, hk⟩ : ∃ k, s - 1 - j = k + 1 := ⟨s - 1 - j - 1, by omega⟩
    rw [hk] at j3
    unfold holdsLoop at j3
    have hm : mulm x x n < n := mulm_lt hn
    refine runJ ?_
    apply (s_call Tryd_ent48 rfl rfl rfl)
    refine (mul_spec x x n h1 (by omega) (by omega) hn2).mono ?_
    rintro _ _ ⟨rfl, rfl⟩
    refine ⟨(by first | exact trivial | exact Ext.refl _ | assumption | exact Ext.trans (by assumption) (by assumption)), ?_⟩
    refine runJ ?_
    (apply w_condD; exact rfl; exact rfl) <;> intro he
    · refine runJ ?_
      exact fin1 rfl rfl ⟨by rw [j3, he]; simp, e1⟩
    · refine runJ ?_
      apply again_normal (mulm x x n, j + 1)
      · exact (Sub.cons rfl (Sub.cons rfl (Sub.cons rfl (Sub.cons rfl (Sub.nil _)))))
      · refine ⟨rfl, hm, by omega, ?_⟩
        dsimp only
        rw [j3, show s - 1 - (j + 1) = k by omega]
        simp [he]
      · dsimp only; omega
  · have : s - 1 - j = 0 := by omega
    rw [this] at j3
    unfold holdsLoop at j3
    refine runJ ?_
    exact fin1 rfl rfl ⟨by rw [j3], e1⟩

theorem Tryd_ent70 : Ent Tryd.prog 70 := ent_of Tryd.func70 (by kernel_rfl) rfl
theorem is_spec (n : Nat) (h : Hp) (T : TB h) (hn2 : n < 18446744073709551616) :
    CallsH Tryd.prog 70 [U n] h fun v' h' => v' = .bool (isB n) ∧ Ext h h' := by
  have hand : n &&& 1 = n % 2 := Nat.and_two_pow_sub_one_eq_mod n 1
  (apply enter Tryd.func70 rfl Tryd.ntmps70 rfl)
  refine runJ ?_
  (apply s_splitG; exact rfl; exact rfl; exact rfl; exact rfl) <;> intro h4
  · have hB : isB n = (n == 2 || n == 3) := by unfold isB; rw [if_pos (.inl h4)]
    refine runJ ?_
    (apply s_splitG; exact rfl; exact rfl; exact rfl; exact rfl) <;> intro h2
    · refine runJ ?_
      exact fin1 rfl rfl ⟨by rw [hB, h2]; rfl, Ext.refl _⟩
    · refine runJ ?_
      exact fin1 rfl rfl ⟨by rw [hB, beq_eq_false_iff_ne.2 h2]; rfl, Ext.refl _⟩
  refine runJ ?_
  (apply w_condD; exact rfl; exact rfl) <;> intro he
  · have hB : isB n = (n == 2 || n == 3) := by unfold isB; rw [if_pos (.inr (by rw [← hand]; exact he))]
    refine runJ ?_
    (apply s_splitG; exact rfl; exact rfl; exact rfl; exact rfl) <;> intro h2
    · refine runJ ?_
      exact fin1 rfl rfl ⟨by rw [hB, h2]; rfl, Ext.refl _⟩
    · refine runJ ?_
      exact fin1 rfl rfl ⟨by rw [hB, beq_eq_false_iff_ne.2 h2]; rfl, Ext.refl _⟩
  have hB : isB n = bases.all (holdsB n ((n - 1) / 2 ^ tz (n - 1)) (tz (n - 1))) := by unfold isB; rw [if_neg (by omega)]
  have htz := tz_le (n - 1)
  refine runJ ?_
  apply (s_call Tryd_ent85 rfl rfl rfl)
  refine (tz_spec (n - 1) h T (by omega)).mono ?_
  rintro _ _ ⟨rfl, rfl⟩
  refine ⟨(by first | exact trivial | exact Ext.refl _ | assumption | exact Ext.trans (by assumption) (by assumption)), ?_⟩
  have hd : (n - 1) / 2 ^ tz (n - 1) < 18446744073709551616 := Nat.lt_of_le_of_lt (Nat.div_le_self _ _) (by omega)
  generalize tz (n - 1) = s at hB htz hd
  generalize hdd : (n - 1) / 2 ^ s = d at hB hd
  refine runJ ?_
  refine o_know (t := 28) (u := U d) rfl (congrArg U hdd) ?_
  refine runJ ?_
  (apply (s_build ([U n, U d, N s])); exact rfl; exact rfl; exact rfl; (repeat (first | exact CellsAll.nil | (apply CellsAll.cons; (first | exact oneL (by assumption) | exact oneL (SlF.one (by assumption)) | exact oneL (SlF.one (OwnF.sl (by assumption))) | exact oneL (Var.one (by assumption)) | exact rfl)))); exact rfl; exact rfl)
  refine runJ ?_
  (apply (s_litF (f := U) [2, 325, 9375, 28178, 450775, 9780504, 1795265022] (fun _ => rfl)); exact rfl; exact rfl; exact rfl; exact rfl; exact rfl; exact rfl; exact rfl; exact rfl; omega)
  intro w h1 o1 e1 b1
  refine ⟨(by first | exact trivial | exact Ext.refl _ | assumption | exact Ext.trans (by assumption) (by assumption)), ?_⟩
  have w1 := o1.sl
  refine runJ ?_
  (first | (apply w_seqB; exact rfl; apply w_block; exact rfl) | skip)
  apply (w_loop (σ := Nat) rfl (fun j => [(4, .func (.func 86) #[.agg #[U n, U d, N s]] #[]), (32, w), (33, N bases.length), (34, N j)])
    (fun j h' => Ext h h' ∧ SlF h' U w bases ∧ j ≤ bases.length ∧ (bases.take j).all (holdsB n d s) = true) (fun j => bases.length - j) 0)
  · exact (Sub.cons rfl (Sub.cons rfl (Sub.cons rfl (Sub.cons rfl (Sub.nil _)))))
  · exact ⟨e1, w1, Nat.zero_le _, rfl⟩
  rintro j h2 ⟨e2, w2, j2, j3⟩
  have hbl : bases.length = 7 := rfl
  refine runJ ?_
  (apply w_condD; exact rfl; exact rfl) <;> intro hj
  · obtain ⟨b, hb⟩ : ∃ b, bases[j]? = some b := ⟨bases[j], by simp [hj]⟩
    have hb64 : b < 18446744073709551616 := by
      have := List.mem_of_getElem? hb
      have hall : ∀ x ∈ bases, x < 18446744073709551616 := by decide
      exact hall b this
    refine runJ ?_
    refine s_callV rfl Tryd_ent86 rfl rfl rfl ?_
    refine (holds_spec n d s b h2 (by omega) hn2 hd htz hb64).mono ?_
    rintro _ h3 ⟨rfl, e3⟩
    refine ⟨(by first | exact trivial | exact trivial), ?_⟩
    have e23 := e2.trans e3
    have w3 := w2.ext e3
    have htk : bases.take (j + 1) = bases.take j ++ [b] := by rw [List.take_add_one, hb]; rfl
    refine runJ ?_
    (apply w_cond; exact rfl; exact rfl) <;> intro hx
    · have hx' : holdsB n d s b = false := by simpa using hx
      refine runJ ?_
      refine fin1 rfl rfl ⟨?_, e23⟩
      rw [hB]
      congr 1
      symm
      rw [List.all_eq_false]
      exact ⟨b, List.mem_of_getElem? hb, by simp [hx']⟩
    · have hx' : holdsB n d s b = true := by simpa using hx
      refine runJ ?_
      apply again_normal (j + 1)
      · exact (Sub.cons rfl (Sub.cons rfl (Sub.cons rfl (Sub.cons rfl (Sub.nil _)))))
      · exact ⟨e23, w3, hj, by rw [htk, List.all_append, j3]; simp [hx']⟩
      · omega
  · rw [List.take_of_length_le (by omega)] at j3
    refine runJ ?_
    exact fin1 rfl rfl ⟨by rw [hB, j3], e2⟩
end Go.Proofs.YtfgfmempmkjlnaaDoor

/- Small plain laws that every package's walks use. No condition. -/
namespace Go.Den
set_option linter.unusedVariables false
set_option maxRecDepth 8000
open Go Go.RowKit
theorem take_snoc {α : Type} {l : List α} {j : Nat} {x : α} (h : l[j]? = some x) : l.take (j + 1) = l.take j ++ [x] := by
  rw [List.take_add_one, h]; rfl
theorem get_lt {α : Type} {l : List α} {j : Nat} (h : j < l.length) : ∃ x, l[j]? = some x := ⟨l[j], by simp [h]⟩
theorem nodup_snoc {α : Type} {l : List α} {x : α} (h : l.Nodup) (hx : x ∉ l) : (l ++ [x]).Nodup := by
  rw [List.nodup_append]
  refine ⟨h, by simp, fun a ha b hb => ?_⟩
  simp only [List.mem_singleton] at hb
  subst hb
  intro e; subst e; exact hx ha
theorem not_nodup_at {α : Type} {l : List α} {j : Nat} {x : α} (h : l[j]? = some x) (hx : x ∈ l.take j) : ¬ l.Nodup := fun hn => by
  have h1 := hn.sublist (List.take_sublist (j + 1) l)
  rw [take_snoc h, List.nodup_append] at h1
  exact h1.2.2 x hx x (by simp) rfl
theorem dec_t {p : Prop} [Decidable p] (h : p) : Value.bool true = .bool (decide p) := by rw [decide_eq_true h]
theorem dec_f {p : Prop} [Decidable p] (h : ¬ p) : Value.bool false = .bool (decide p) := by rw [decide_eq_false h]
theorem dec_i {p q : Prop} [Decidable p] [Decidable q] (h : p ↔ q) : Value.bool (decide p) = .bool (decide q) := by
  congr 1; exact decide_eq_decide.2 h
theorem list_eq {α : Type} {xs ys : List α} (hl : xs.length = ys.length) (h : ∀ (j : Nat) (x y : α), xs[j]? = some x → ys[j]? = some y → x = y) : xs = ys := by
  apply List.ext_getElem hl
  intro j h1 h2
  exact h j _ _ (List.getElem?_eq_getElem h1) (List.getElem?_eq_getElem h2)
theorem list_ne {α : Type} {xs ys : List α} {j : Nat} {x y : α} (h1 : xs[j]? = some x) (h2 : ys[j]? = some y) (hne : x ≠ y) : xs ≠ ys := fun e => by
  rw [e, h2] at h1; cases h1; exact hne rfl
theorem ne_of_some {v : Value} {r : Option Nat} (h : ∀ k, v.ownBlock = some k → some k ≠ r) : v.ownBlock = none ∨ v.ownBlock ≠ r := by
  cases hv : v.ownBlock with
  | none => exact .inl rfl
  | some k => exact .inr (h k hv)
end Go.Den

/- Package word and its reference, by contracts: whole products, what is nearest to 0, residues of whole numbers, and the fixed calls. No condition. -/
namespace Go.Proofs.YtfgfmempmkjlnaaDoor
set_option linter.unusedVariables false
set_option maxRecDepth 8000
open Go Go.Den Go.RowKit

theorem or_low {a c : Nat} (hc : c < 2) : (a * 2 ||| c) = a * 2 + c := by
  have := Num.or_add (a := a) (b := c) (s := 1) (by omega)
  simpa using this

theorem lin1 {W H hi lo T q r : Nat} (hW : W = 2 * H) (h : hi * W + lo = T) (h1 : H * q + r = lo) : (hi * 2 + q) * W + r * 2 = 2 * T := by
  subst hW h h1
  grind
theorem wide_dbl {hi lo T : Nat} (h : hi * 18446744073709551616 + lo = T) : (hi * 2 + lo / 9223372036854775808) * 18446744073709551616 + lo * 2 % 18446744073709551616 = 2 * T := by
  have h2 : lo * 2 % 18446744073709551616 = lo % 9223372036854775808 * 2 := Nat.mul_mod_mul_right 2 lo 9223372036854775808
  have h1 := Nat.div_add_mod lo 9223372036854775808
  have h3 := lin1 (H := 9223372036854775808) rfl h h1
  exact (congrArg (fun z => (hi * 2 + lo / 9223372036854775808) * 18446744073709551616 + z) h2).trans h3
theorem wide_hi {hi lo T : Nat} (h : hi * 18446744073709551616 + lo = T) (hT : 2 * T < 340282366920938463463374607431768211456) : hi * 2 < 18446744073709551616 := by omega
theorem wide_bd {a b : Nat} (ha : a < 18446744073709551616) (hb : b < 18446744073709551616) : a * b < 340282366920938463463374607431768211456 := by
  have : a * b ≤ 18446744073709551615 * 18446744073709551615 := Nat.mul_le_mul (by omega) (by omega)
  omega
theorem wide_end {hi lo T : Nat} (h : hi * 18446744073709551616 + lo = T) (hlo : lo < 18446744073709551616) : hi = T / 18446744073709551616 ∧ lo = T % 18446744073709551616 := by omega
theorem lin2 {W X a Y T z : Nat} (h : Y * W + X = T) (hge : W ≤ X + a) (e : z = X + a - W) : (Y + 1) * W + z = T + a := by
  subst h e
  have : (Y + 1) * W = Y * W + W := by simp only [Nat.add_mul, Nat.one_mul]
  omega
theorem wide_over {Y X a T : Nat} (h : Y * 18446744073709551616 + X = T) (hX : X < 18446744073709551616) (ha : a < 18446744073709551616) (ho : (X + a) % 18446744073709551616 < a) : (Y + 1) * 18446744073709551616 + (X + a) % 18446744073709551616 = T + a := by
  have hge : 18446744073709551616 ≤ X + a := by
    rcases Nat.lt_or_ge (X + a) 18446744073709551616 with k | k
    · rw [Nat.mod_eq_of_lt k] at ho; exact absurd ho (Nat.not_lt.2 (Nat.le_add_left a X))
    · exact k
  have e : (X + a) % 18446744073709551616 = X + a - 18446744073709551616 := by
    rw [Nat.mod_eq_sub_mod hge, Nat.mod_eq_of_lt (Nat.sub_lt_left_of_lt_add hge (Nat.add_lt_add hX ha))]
  exact lin2 h hge e
theorem wide_under {Y X a T : Nat} (h : Y * 18446744073709551616 + X = T) (hX : X < 18446744073709551616) (ha : a < 18446744073709551616) (ho : ¬ (X + a) % 18446744073709551616 < a) : Y * 18446744073709551616 + (X + a) % 18446744073709551616 = T + a := by omega
theorem wide_small {Y X T : Nat} (h : Y * 18446744073709551616 + X = T) (hT : T < 340282366920938463463374607431768211456) : Y < 18446744073709551616 := by omega

def centerm (a m : Nat) : Int := if m = 0 ∨ 4611686018427387904 < m then 0 else if m / 2 < a % m then ((a % m : Nat) : Int) - (m : Int) else ((a % m : Nat) : Int)
def liftm (v : Int) (m : Nat) : Nat := if m = 0 then 0 else (v % (m : Int)).toNat

theorem lift_pos {v : Int} {m : Nat} (hm : m ≠ 0) (hv : 0 ≤ v) : liftm v m = v.toNat % m := by
  rw [liftm, if_neg hm]
  obtain ⟨n, rfl⟩ := Int.eq_ofNat_of_zero_le hv
  rw [Int.toNat_natCast, ← Int.natCast_emod, Int.toNat_natCast]
theorem lift_neg {v : Int} {m : Nat} (hm : m ≠ 0) (hv : v < 0) : liftm v m = subm 0 (-v).toNat m := by
  rw [liftm, if_neg hm, subm, if_neg hm, Nat.zero_add]
  obtain ⟨n, hn⟩ := Int.eq_ofNat_of_zero_le (a := -v) (by omega)
  rw [hn, Int.toNat_natCast]
  have hlt : n % m < m := Nat.mod_lt _ (by omega)
  have e : v = -(n : Int) := by omega
  rw [e]
  have h1 : (-(n : Int)) % (m : Int) = (((m - n % m) % m : Nat) : Int) := by
    have hd := Nat.div_add_mod n m
    have : (-(n : Int)) = ((m - n % m : Nat) : Int) + (m : Int) * (-((n / m : Nat) : Int) - 1) := by
      rw [Int.mul_sub, Int.mul_neg, ← Int.natCast_mul]
      omega
    rw [this, Int.add_mul_emod_self_left, ← Int.natCast_emod]
  rw [h1, Int.toNat_natCast]

theorem Tryd_ent56 : Ent Tryd.prog 56 := ent_of Tryd.func56 (by kernel_rfl) rfl
set_option maxHeartbeats 400000 in
theorem center_spec (a m : Nat) (h : Hp) (ha : a < 18446744073709551616) (hm : m < 18446744073709551616) :
    CallsH Tryd.prog 56 [U a, U m] h fun v h' => v = I (centerm a m) ∧ h = h' := by
  (apply enter Tryd.func56 rfl Tryd.ntmps56 rfl)
  refine run ?_
  (apply s_split 7; exact rfl) <;> intro hm0
  · refine run ?_
    exact fin1 rfl rfl ⟨by simp [centerm, hm0], rfl⟩
  · refine run ?_
    (apply w_condD; exact rfl; exact rfl) <;> intro hbig
    · refine run ?_
      exact fin1 rfl rfl ⟨by simp [centerm, hbig], rfl⟩
    · have h1 : a % m < m := Nat.mod_lt _ (by omega)
      refine run ?_
      (apply w_condD; exact rfl; exact rfl) <;> intro hc
      · refine run ?_
        exact fin1 rfl rfl ⟨by rw [centerm, if_neg (by omega), if_pos (by simpa using hc)], rfl⟩
      · refine run ?_
        exact fin1 rfl rfl ⟨by rw [centerm, if_neg (by omega), if_neg (by simpa using hc)], rfl⟩

theorem Tryd_ent33 : Ent Tryd.prog 33 := ent_of Tryd.func33 (by kernel_rfl) rfl
set_option maxHeartbeats 400000 in
theorem refCenter_spec (a m : Nat) (h : Hp) (ha : a < 18446744073709551616) (hm : m < 18446744073709551616) :
    CallsH Tryd.prog 33 [U a, U m] h fun v h' => v = I (centerm a m) ∧ h = h' := by
  (apply enter Tryd.func33 rfl Tryd.ntmps33 rfl)
  refine run ?_
  (apply s_split 7; exact rfl) <;> intro hm0
  · refine run ?_
    exact fin1 rfl rfl ⟨by simp [centerm, hm0], rfl⟩
  · refine run ?_
    (apply w_condD; exact rfl; exact rfl) <;> intro hbig
    · refine run ?_
      exact fin1 rfl rfl ⟨by simp [centerm, hbig], rfl⟩
    · have h1 : a % m < m := Nat.mod_lt _ (by omega)
      refine run ?_
      (apply w_condD; exact rfl; exact rfl) <;> intro hc
      · refine run ?_
        exact fin1 rfl rfl ⟨by rw [centerm, if_neg (by omega), if_pos hc]; congr 1; omega, rfl⟩
      · refine run ?_
        exact fin1 rfl rfl ⟨by rw [centerm, if_neg (by omega), if_neg hc], rfl⟩

theorem Tryd_ent55 : Ent Tryd.prog 55 := ent_of Tryd.func55 (by kernel_rfl) rfl
set_option maxHeartbeats 400000 in
theorem lift_spec (v : Int) (m : Nat) (h : Hp) (hv : -9223372036854775808 ≤ v ∧ v < 9223372036854775808) (hm : m < 18446744073709551616) :
    CallsH Tryd.prog 55 [I v, U m] h fun u h' => u = U (liftm v m) ∧ h = h' := by
  (apply enter Tryd.func55 rfl Tryd.ntmps55 rfl)
  refine run ?_
  (apply w_condD; exact rfl; exact rfl) <;> intro hm0
  · refine run ?_
    exact fin1 rfl rfl ⟨by simp [liftm, hm0], rfl⟩
  · refine run ?_
    (apply w_condD; exact rfl; exact rfl) <;> intro hv0
    · refine run ?_
      (apply s_convUN (v.toNat); exact rfl; exact rfl; exact rfl; exact rfl)
      · omega
      · omega
      refine run ?_
      exact fin1 rfl rfl ⟨by rw [lift_pos hm0 hv0], rfl⟩
    · refine run ?_
      apply (s_convUw (v + 18446744073709551616).toNat rfl rfl rfl rfl)
      · omega
      refine run ?_
      have e : (18446744073709551616 - (v + 18446744073709551616).toNat) % 18446744073709551616 = (-v).toNat := by omega
      rw [e]
      apply (s_call Tryd_ent63 rfl rfl rfl)
      refine (sub_spec 0 _ m h (by omega) (by omega) hm).mono ?_
      rintro _ _ ⟨rfl, rfl⟩
      refine ⟨(by first | exact trivial | exact Ext.refl _ | assumption | exact Ext.trans (by assumption) (by assumption)), ?_⟩
      refine run ?_
      exact fin1 rfl rfl ⟨by rw [lift_neg hm0 (by omega)], rfl⟩

theorem Tryd_ent32 : Ent Tryd.prog 32 := ent_of Tryd.func32 (by kernel_rfl) rfl
set_option maxHeartbeats 400000 in
theorem refLift_spec (v : Int) (m : Nat) (h : Hp) (hv : -9223372036854775808 ≤ v ∧ v < 9223372036854775808) (hm : m < 18446744073709551616) :
    CallsH Tryd.prog 32 [I v, U m] h fun u h' => u = U (liftm v m) ∧ h = h' := by
  (apply enter Tryd.func32 rfl Tryd.ntmps32 rfl)
  refine run ?_
  (apply w_condD; exact rfl; exact rfl) <;> intro hm0
  · refine run ?_
    exact fin1 rfl rfl ⟨by simp [liftm, hm0], rfl⟩
  · refine run ?_
    (apply w_condD; exact rfl; exact rfl) <;> intro hv0
    · refine run ?_
      (apply s_convUN ((-(v + 1)).toNat); exact rfl; exact rfl; exact rfl; exact rfl)
      · omega
      · omega
      refine run ?_
      have e : (-(v + 1)).toNat + 1 = (-v).toNat := by omega
      rw [e]
      apply (s_call Tryd_ent20 rfl rfl rfl)
      refine (refSub_spec 0 _ m h (by omega) (by omega) hm).mono ?_
      rintro _ _ ⟨rfl, rfl⟩
      refine ⟨(by first | exact trivial | exact Ext.refl _ | assumption | exact Ext.trans (by assumption) (by assumption)), ?_⟩
      refine run ?_
      exact fin1 rfl rfl ⟨by rw [lift_neg hm0 (by omega)], rfl⟩
    · refine run ?_
      (apply s_convUN (v.toNat); exact rfl; exact rfl; exact rfl; exact rfl)
      · omega
      · omega
      refine run ?_
      exact fin1 rfl rfl ⟨by rw [lift_pos hm0 (by omega)], rfl⟩
end Go.Proofs.YtfgfmempmkjlnaaDoor

/- Digits of natural numbers in any base. No program, no condition. -/
namespace Go.Dig

def vl (b : Nat) : List Nat → Nat
  | [] => 0
  | x :: xs => x + b * vl b xs
def nrm : List Nat → List Nat
  | [] => []
  | x :: xs => match nrm xs with
    | [] => if x = 0 then [] else [x]
    | y :: ys => x :: y :: ys
def dgo (b : Nat) : Nat → Nat → List Nat
  | 0, _ => []
  | f + 1, n => if n = 0 then [] else n % b :: dgo b f (n / b)
/-- The digits of n, the lowest first, without noughts at the end. -/
def dg (b n : Nat) : List Nat := dgo b n n
def Al (b : Nat) (xs : List Nat) : Prop := ∀ x ∈ xs, x < b
/-- The value of the lowest k digits. -/
def pv (b : Nat) (xs : List Nat) : Nat → Nat
  | 0 => 0
  | k + 1 => pv b xs k + b ^ k * xs.getD k 0

section
variable {b : Nat}

theorem Al.nil : Al b [] := fun _ h => by cases h
theorem Al.cons {x : Nat} {xs : List Nat} (h : x < b) (k : Al b xs) : Al b (x :: xs) := fun y hy => by
  rcases List.mem_cons.1 hy with rfl | hy
  · exact h
  · exact k y hy
theorem Al.head {x : Nat} {xs : List Nat} (h : Al b (x :: xs)) : x < b := h x (by simp)
theorem Al.tail {x : Nat} {xs : List Nat} (h : Al b (x :: xs)) : Al b xs := fun y hy => h y (by simp [hy])
theorem Al.app {xs ys : List Nat} (h : Al b xs) (k : Al b ys) : Al b (xs ++ ys) := fun y hy => by
  rcases List.mem_append.1 hy with hy | hy
  · exact h y hy
  · exact k y hy
theorem Al.snoc {xs : List Nat} {x : Nat} (h : Al b xs) (k : x < b) : Al b (xs ++ [x]) := h.app (Al.cons k Al.nil)
theorem Al.getD {xs : List Nat} (h : Al b xs) (hb : 0 < b) (i : Nat) : xs.getD i 0 < b := by
  by_cases hi : i < xs.length
  · have : xs.getD i 0 = xs[i] := by simp [hi]
    rw [this]; exact h _ (List.getElem_mem hi)
  · rw [show xs.getD i 0 = 0 by simp [List.getD, List.getElem?_eq_none (Nat.le_of_not_lt hi)]]; exact hb
theorem Al.take {xs : List Nat} (h : Al b xs) (k : Nat) : Al b (xs.take k) := fun y hy => h y (List.mem_of_mem_take hy)
theorem Al.drop {xs : List Nat} (h : Al b xs) (k : Nat) : Al b (xs.drop k) := fun y hy => h y (List.mem_of_mem_drop hy)
theorem Al.set {xs : List Nat} (h : Al b xs) {x : Nat} (k : x < b) (i : Nat) : Al b (xs.set i x) := fun y hy => by
  rcases List.mem_or_eq_of_mem_set hy with hy | rfl
  · exact h y hy
  · exact k
theorem Al.replicate (hb : 0 < b) (k : Nat) : Al b (List.replicate k 0) := fun y hy => by rw [(List.mem_replicate.1 hy).2]; exact hb
theorem getD_none {xs : List Nat} {i : Nat} (h : xs.length ≤ i) : xs.getD i 0 = 0 := by simp [List.getD, List.getElem?_eq_none h]

theorem vl_append (xs ys : List Nat) : vl b (xs ++ ys) = vl b xs + b ^ xs.length * vl b ys := by
  induction xs with
  | nil => simp [vl]
  | cons x xs ih =>
    simp only [List.cons_append, vl, ih, List.length_cons, Nat.pow_succ, Nat.mul_add, ← Nat.add_assoc]
    congr 1
    rw [Nat.mul_comm (b ^ xs.length) b, Nat.mul_assoc]
theorem vl_snoc (xs : List Nat) (x : Nat) : vl b (xs ++ [x]) = vl b xs + b ^ xs.length * x := by simp [vl_append, vl]
theorem vl_lt {xs : List Nat} (h : Al b xs) : vl b xs < b ^ xs.length := by
  induction xs with
  | nil => simp [vl]
  | cons x xs ih =>
    have h1 := ih h.tail
    have h2 := h.head
    simp only [vl, List.length_cons, Nat.pow_succ]
    have : b * (vl b xs + 1) ≤ b * b ^ xs.length := Nat.mul_le_mul_left b h1
    rw [Nat.mul_comm (b ^ xs.length) b]
    rw [Nat.mul_add] at this
    omega
theorem vl_zeros (k : Nat) : vl b (List.replicate k 0) = 0 := by
  induction k with
  | zero => rfl
  | succ k ih => simp [List.replicate_succ, vl, ih]
theorem pv_eq (xs : List Nat) : ∀ k, pv b xs k = vl b (xs.take k)
  | 0 => by simp [pv, vl]
  | k + 1 => by
    simp only [pv, pv_eq xs k]
    by_cases hk : k < xs.length
    · rw [List.take_add_one, List.getElem?_eq_getElem hk, Option.toList_some, vl_snoc, List.length_take, Nat.min_eq_left (Nat.le_of_lt hk)]
      simp [hk]
    · rw [getD_none (Nat.le_of_not_lt hk), List.take_of_length_le (by omega), List.take_of_length_le (by omega)]
      omega
theorem pv_full {xs : List Nat} {k : Nat} (h : xs.length ≤ k) : pv b xs k = vl b xs := by rw [pv_eq, List.take_of_length_le h]
theorem vl_split (xs : List Nat) (k : Nat) : vl b xs = pv b xs k + b ^ k * vl b (xs.drop k) := by
  rw [pv_eq]
  by_cases hk : k ≤ xs.length
  · have := vl_append (b := b) (xs.take k) (xs.drop k)
    rw [List.take_append_drop, List.length_take, Nat.min_eq_left hk] at this
    exact this
  · rw [List.take_of_length_le (by omega), List.drop_of_length_le (by omega)]; simp [vl]
theorem pv_lt {xs : List Nat} (h : Al b xs) (hb : 0 < b) (k : Nat) : pv b xs k < b ^ k := by
  rw [pv_eq]
  refine Nat.lt_of_lt_of_le (vl_lt (h.take k)) (Nat.pow_le_pow_right hb ?_)
  rw [List.length_take]; omega
theorem pv_set {xs : List Nat} {i x k : Nat} (h : k ≤ i) : pv b (xs.set i x) k = pv b xs k := by
  rw [pv_eq, pv_eq, List.take_set, List.set_eq_of_length_le]
  rw [List.length_take]; omega
theorem getD_set_self {xs : List Nat} {i x : Nat} (h : i < xs.length) : (xs.set i x).getD i 0 = x := by simp [h]
theorem getD_set_other {xs : List Nat} {i j x : Nat} (h : i ≠ j) : (xs.set i x).getD j 0 = xs.getD j 0 := by simp [List.getElem?_set_ne h]

theorem nrm_cons (x : Nat) (xs : List Nat) : nrm (x :: xs) = if nrm xs = [] ∧ x = 0 then [] else x :: nrm xs := by
  simp only [nrm]
  cases hn : nrm xs with
  | nil => by_cases hx : x = 0 <;> simp [hx]
  | cons y ys => simp
theorem nrm_snoc0 (xs : List Nat) : nrm (xs ++ [0]) = nrm xs := by
  induction xs with
  | nil => rfl
  | cons x xs ih => rw [List.cons_append, nrm_cons, nrm_cons, ih]
theorem nrm_last : ∀ (xs : List Nat), xs.getD (xs.length - 1) 0 ≠ 0 → nrm xs = xs
  | [], h => by simp at h
  | [x], h => by simp at h; simp [nrm, h]
  | x :: y :: xs, h => by
    have ih := nrm_last (y :: xs) (by simpa using h)
    rw [nrm_cons, ih]; simp
theorem vl_nrm (xs : List Nat) : vl b (nrm xs) = vl b xs := by
  induction xs with
  | nil => rfl
  | cons x xs ih =>
    rw [nrm_cons]
    split
    · rename_i h
      rw [h.1] at ih
      simp only [vl, ← ih, h.2]; simp
    · simp only [vl, ih]
theorem nrm_nil {xs : List Nat} (h : nrm xs = []) : vl b xs = 0 := by rw [← vl_nrm, h]; rfl
theorem nrm_zero (hb : 0 < b) {xs : List Nat} (h : vl b xs = 0) : nrm xs = [] := by
  induction xs with
  | nil => rfl
  | cons x xs ih =>
    simp only [vl] at h
    have h1 : x = 0 := by omega
    have h2 : vl b xs = 0 := by
      have : b * vl b xs = 0 := by omega
      rcases Nat.mul_eq_zero.1 this with h | h
      · omega
      · exact h
    rw [nrm_cons, ih h2, if_pos ⟨rfl, h1⟩]
theorem dgo_eq (hb : 1 < b) : ∀ (f n : Nat), n ≤ f → ∀ xs, Al b xs → vl b xs = n → nrm xs = dgo b f n
  | 0, n, hn, xs, _, hv => by
    have : n = 0 := by omega
    subst this
    rw [nrm_zero (by omega) hv]; rfl
  | f + 1, n, hn, xs, ha, hv => by
    simp only [dgo]
    by_cases h0 : n = 0
    · subst h0; rw [if_pos rfl, nrm_zero (by omega) hv]
    · rw [if_neg h0]
      cases xs with
      | nil => simp [vl] at hv; omega
      | cons x xs =>
        have hx := ha.head
        simp only [vl] at hv
        have hm : n % b = x := by rw [← hv, Nat.add_mul_mod_self_left, Nat.mod_eq_of_lt hx]
        have hd : n / b = vl b xs := by rw [← hv, Nat.add_mul_div_left _ _ (by omega), Nat.div_eq_of_lt hx, Nat.zero_add]
        have hlt : n / b ≤ f := by
          have := Nat.div_lt_self (Nat.pos_of_ne_zero h0) hb
          omega
        rw [hm, ← dgo_eq hb f (n / b) hlt xs ha.tail hd.symm, nrm_cons, if_neg]
        rintro ⟨h1, h2⟩
        have := nrm_nil (b := b) h1
        rw [this, h2] at hv; simp at hv; omega
/-- Digits without noughts at the end are what their value says. -/
theorem nrm_eq (hb : 1 < b) {xs : List Nat} (ha : Al b xs) : nrm xs = dg b (vl b xs) := dgo_eq hb _ _ (Nat.le_refl _) xs ha rfl
theorem vl_dgo (hb : 1 < b) : ∀ (f n : Nat), n ≤ f → vl b (dgo b f n) = n
  | 0, n, hn => by simp [dgo, vl]; omega
  | f + 1, n, hn => by
    simp only [dgo]
    by_cases h0 : n = 0
    · simp [h0, vl]
    · rw [if_neg h0]
      have hlt : n / b ≤ f := by
        have := Nat.div_lt_self (Nat.pos_of_ne_zero h0) hb
        omega
      simp only [vl, vl_dgo hb f (n / b) hlt]
      exact Nat.mod_add_div n b
theorem vl_dg (hb : 1 < b) (n : Nat) : vl b (dg b n) = n := vl_dgo hb n n (Nat.le_refl _)
theorem al_dgo (hb : 0 < b) : ∀ (f n : Nat), Al b (dgo b f n)
  | 0, n => Al.nil
  | f + 1, n => by
    simp only [dgo]
    split
    · exact Al.nil
    · exact Al.cons (Nat.mod_lt _ hb) (al_dgo hb f _)
theorem al_dg (hb : 0 < b) (n : Nat) : Al b (dg b n) := al_dgo hb n n
theorem nrm_dg (hb : 1 < b) (n : Nat) : nrm (dg b n) = dg b n := by rw [nrm_eq hb (al_dg (by omega) n), vl_dg hb]
theorem dg_zero : dg b 0 = [] := rfl
theorem dg_nil (hb : 1 < b) {n : Nat} : dg b n = [] ↔ n = 0 := by
  constructor
  · intro h; have := vl_dg hb n; rw [h] at this; exact this.symm
  · rintro rfl; rfl
theorem dg_len0 (hb : 1 < b) {n : Nat} : (dg b n).length = 0 ↔ n = 0 := by rw [List.length_eq_zero_iff]; exact dg_nil hb
theorem nrm_len (xs : List Nat) : (nrm xs).length ≤ xs.length := by
  induction xs with
  | nil => simp [nrm]
  | cons x xs ih =>
    rw [nrm_cons]
    split
    · simp
    · simpa using ih
theorem nrm_pre (xs : List Nat) : nrm xs = xs.take (nrm xs).length := by
  induction xs with
  | nil => simp [nrm]
  | cons x xs ih =>
    rw [nrm_cons]
    split
    · simp
    · simpa using ih
theorem nrm_nrm (xs : List Nat) : nrm (nrm xs) = nrm xs := by
  induction xs with
  | nil => rfl
  | cons x xs ih =>
    rw [nrm_cons]
    split
    · rfl
    · rename_i hc
      rw [nrm_cons, ih, if_neg hc]
/-- The highest digit is not 0. -/
theorem dg_ge (hb : 1 < b) {n : Nat} (h : n ≠ 0) : b ^ ((dg b n).length - 1) ≤ n := by
  have key : ∀ xs, nrm xs = xs → xs ≠ [] → b ^ (xs.length - 1) ≤ vl b xs := by
    intro xs
    induction xs with
    | nil => intro _ h; exact absurd rfl h
    | cons x xs ih =>
      intro hn _
      rw [nrm_cons] at hn
      split at hn
      · cases hn
      · rename_i hc
        simp only [List.cons.injEq, true_and] at hn
        cases xs with
        | nil =>
          simp only [nrm] at hc
          simp [vl]; simp at hc; omega
        | cons y ys =>
          have := ih hn (by simp)
          simp only [List.length_cons, Nat.add_sub_cancel, vl, Nat.pow_succ] at this ⊢
          have : b * b ^ ys.length ≤ b * (y + b * vl b ys) := Nat.mul_le_mul_left b this
          rw [Nat.mul_comm (b ^ ys.length) b]; omega
  have := key (dg b n) (nrm_dg hb n) (fun h' => h ((dg_nil hb).1 h'))
  rwa [vl_dg hb] at this
theorem dg_lt (hb : 1 < b) (n : Nat) : n < b ^ (dg b n).length := by
  have := vl_lt (al_dg (b := b) (by omega) n)
  rwa [vl_dg hb] at this
theorem dg_len (hb : 1 < b) {n k : Nat} (h : n < b ^ k) : (dg b n).length ≤ k := by
  by_cases h0 : n = 0
  · subst h0; simp [dg_zero]
  · have h1 := dg_ge hb h0
    have := Nat.lt_of_le_of_lt h1 h
    have := (Nat.pow_lt_pow_iff_right hb).1 this
    omega
/-- More digits: a greater number. -/
theorem dg_len_lt (hb : 1 < b) {m n : Nat} (h : (dg b m).length < (dg b n).length) : m < n := by
  have h1 := dg_lt hb m
  have hn : n ≠ 0 := fun e => by subst e; simp [dg_zero] at h
  have h2 := dg_ge hb hn
  have h3 : b ^ (dg b m).length ≤ b ^ ((dg b n).length - 1) := Nat.pow_le_pow_right (by omega) (by omega)
  omega
theorem dg_inj (hb : 1 < b) {m n : Nat} (h : dg b m = dg b n) : m = n := by rw [← vl_dg hb m, h, vl_dg hb]
/-- The highest digit that differs decides. -/
theorem vl_cmp {xs ys : List Nat} (hx : Al b xs) (hb : 0 < b) {i : Nat} (hd : xs.drop (i + 1) = ys.drop (i + 1)) (hlt : xs.getD i 0 < ys.getD i 0) : vl b xs < vl b ys := by
  rw [vl_split xs (i + 1), vl_split ys (i + 1), hd]
  simp only [pv]
  have h1 := pv_lt hx hb i
  have h2 : b ^ i * (xs.getD i 0 + 1) ≤ b ^ i * ys.getD i 0 := Nat.mul_le_mul_left _ hlt
  rw [Nat.mul_add] at h2
  omega
theorem drop_step {xs ys : List Nat} {i : Nat} (hx : i < xs.length) (hy : i < ys.length) (hd : xs.drop (i + 1) = ys.drop (i + 1)) (he : xs.getD i 0 = ys.getD i 0) : xs.drop i = ys.drop i := by
  rw [List.drop_eq_getElem_cons hx, List.drop_eq_getElem_cons hy, hd]
  congr 1
  simpa [hx, hy] using he
end
end Go.Dig

/- Naturals as rows of words: norm, trim, Same, few, by contracts. No condition. -/
namespace Go.Proofs.YtfgfmempmkjlnaaDoor
set_option linter.unusedVariables false
set_option maxRecDepth 8000
open Go Go.Den Go.RowKit Go.Dig

theorem U_one (a : Nat) : (U a).oneCell' = true := rfl
theorem N_one (a : Nat) : (N a).oneCell' = true := rfl

theorem nrm_take {xs : List Nat} (h0 : 0 < xs.length) (hz : xs.getD (xs.length - 1) 0 = 0) : nrm (xs.take (xs.length - 1)) = nrm xs := by
  have : xs = xs.take (xs.length - 1) ++ [0] := by
    have h1 : xs.getLast (by intro e; simp [e] at h0) = 0 := by
      rw [List.getLast_eq_getElem]
      have h2 : xs.length - 1 < xs.length := by omega
      simpa [List.getElem?_eq_getElem h2] using hz
    rw [← h1, ← List.dropLast_eq_take, List.dropLast_concat_getLast]
  conv => rhs; rw [this, nrm_snoc0]

theorem Tryd_ent97 : Ent Tryd.prog 97 := ent_of Tryd.func97 (by kernel_rfl) rfl
theorem norm_spec' (v : Value) (xs : List Nat) (h : Hp) (hs : SlF h U v xs) (hl : xs.length < 4611686018427387904) :
    CallsH Tryd.prog 97 [v] h fun v' h' => h = h' ∧ ∀ h0, (SlF h0 U v xs → SlF h0 U v' (nrm xs)) ∧ ∀ B e, OwnF h0 B e U v xs → OwnF h0 B e U v' (nrm xs) := by
  (apply enter Tryd.func97 rfl Tryd.ntmps97 rfl)
  refine runM ?_
  (first | (apply w_seqB; exact rfl; apply w_block; exact rfl) | skip)
  apply (w_loop (σ := Value × List Nat) rfl (fun p => [(0, p.1)])
    (fun p h' => h = h' ∧ p.2.length ≤ xs.length ∧ nrm p.2 = nrm xs ∧ ∀ h0, (SlF h0 U v xs → SlF h0 U p.1 p.2) ∧ ∀ B e, OwnF h0 B e U v xs → OwnF h0 B e U p.1 p.2) (fun p => p.2.length) (v, xs))
  · exact (Sub.cons rfl (Sub.nil _))
  · exact ⟨rfl, Nat.le_refl _, rfl, fun _ => ⟨fun s => s, fun _ _ o => o⟩⟩
  · rintro ⟨v', ys⟩ h' ⟨rfl, i2, i3, i4⟩
    dsimp only at i2 i3 i4 ⊢
    have i1 := (i4 h).1 hs
    refine runM ?_
    (apply s_split 6; exact rfl) <;> intro hp
    · refine runM ?_
      (apply w_condD; exact rfl; exact rfl) <;> intro hz
      · refine runM ?_
        apply again_normal (cutV 1 v' 0 (ys.length - 1), ys.take (ys.length - 1))
        · exact (Sub.cons rfl (Sub.nil _))
        · refine ⟨rfl, by simp only [List.length_take]; omega, by simp only []; rw [nrm_take hp hz, i3], fun h0 => ⟨fun s => ?_, fun B e o => ((i4 h0).2 B e o).front (by omega)⟩⟩
          have := ((i4 h0).1 s).cut (lo := 0) (hi := ys.length - 1) (by omega) (by omega)
          simpa using this
        · simp only [List.length_take]; omega
      · refine runM ?_
        have hn : nrm ys = ys := nrm_last ys hz
        rw [← i3, hn]
        exact fin1 rfl rfl ⟨rfl, i4⟩
    · refine runM ?_
      have he : ys = [] := List.eq_nil_of_length_eq_zero (by omega)
      subst he
      rw [← i3]
      exact fin1 rfl rfl ⟨rfl, i4⟩
theorem norm_spec (v : Value) (xs : List Nat) (h : Hp) (hs : SlF h U v xs) (hl : xs.length < 4611686018427387904) :
    CallsH Tryd.prog 97 [v] h fun v' h' => h = h' ∧ SlF h U v' (nrm xs) ∧ ∀ B e, OwnF h B e U v xs → OwnF h B e U v' (nrm xs) :=
  (norm_spec' v xs h hs hl).mono fun v' h' ⟨g1, g2⟩ => ⟨g1, (g2 h).1 hs, (g2 h).2⟩

theorem list_eq_getD {xs ys : List Nat} (hl : xs.length = ys.length) (he : ∀ j, j < xs.length → xs.getD j 0 = ys.getD j 0) : xs = ys := by
  apply List.ext_getElem hl
  intro j h1 h2
  simpa [h1, h2] using he j h1

end Go.Proofs.YtfgfmempmkjlnaaDoor

/- Naturals: comparison, sum and difference of the program and of its reference, by contracts. No condition. -/
namespace Go.Proofs.YtfgfmempmkjlnaaDoor
set_option linter.unusedVariables false
set_option maxRecDepth 8000
open Go Go.Den Go.RowKit Go.Dig

def cmpI (m n : Nat) : Int := if m < n then -1 else if n < m then 1 else 0
theorem cmpI_lt {m n : Nat} (h : m < n) : cmpI m n = -1 := by simp [cmpI, h]
theorem cmpI_gt {m n : Nat} (h : n < m) : cmpI m n = 1 := by simp [cmpI, h, Nat.lt_asymm h]
theorem cmpI_eq {m n : Nat} (h : m = n) : cmpI m n = 0 := by simp [cmpI, h]

theorem len_cmp {b : Nat} (hb : 1 < b) {xs ys : List Nat} (hx : Al b xs) (hxn : nrm xs = xs) (hy : Al b ys) (hyn : nrm ys = ys) (h : xs.length < ys.length) : vl b xs < vl b ys := by
  have h1 := nrm_eq hb hx
  have h2 := nrm_eq hb hy
  refine dg_len_lt hb ?_
  rw [← h1, ← h2, hxn, hyn]; exact h

end Go.Proofs.YtfgfmempmkjlnaaDoor

/- Naturals: sum and difference of package nat, by contracts. No condition. -/
namespace Go.Proofs.YtfgfmempmkjlnaaDoor
set_option linter.unusedVariables false
set_option maxRecDepth 8000
open Go Go.Den Go.RowKit Go.Dig

theorem add_step {b x y c p q v B : Nat} (h : v + B * c = p + q) : v + B * ((x + y + c) % b) + B * b * ((x + y + c) / b) = (p + B * x) + (q + B * y) := by
  have := Nat.mod_add_div (x + y + c) b
  have e : B * ((x + y + c) % b) + B * b * ((x + y + c) / b) = B * (x + y + c) := by rw [Nat.mul_assoc, ← Nat.mul_add, this]
  rw [Nat.mul_add, Nat.mul_add] at e
  omega

end Go.Proofs.YtfgfmempmkjlnaaDoor

/- Naturals: the difference of package nat, by contract. No condition. -/
namespace Go.Proofs.YtfgfmempmkjlnaaDoor
set_option linter.unusedVariables false
set_option maxRecDepth 8000
open Go Go.Den Go.RowKit Go.Dig

theorem sub_step {b x y c p q v B : Nat} (hx : x < b) (hy : y < b) (hc : c ≤ 1) (h : p + B * c = q + v) : (p + B * x) + B * b * (if x < y + c then 1 else 0) = (q + B * y) + (v + B * ((x + b - y - c) % b)) := by
  by_cases hlt : x < y + c
  · rw [if_pos hlt]
    have e : (x + b - y - c) % b = x + b - y - c := Nat.mod_eq_of_lt (by omega)
    have e2 : B * (x + b - y - c) + B * (y + c) = B * x + B * b := by rw [← Nat.mul_add, ← Nat.mul_add]; congr 1; omega
    rw [e]
    rw [Nat.mul_add] at e2
    omega
  · rw [if_neg hlt]
    have e : (x + b - y - c) % b = x - y - c := by
      rw [show x + b - y - c = (x - y - c) + b by omega, Nat.add_mod_right, Nat.mod_eq_of_lt (by omega)]
    have e2 : B * (x - y - c) + B * (y + c) = B * x := by rw [← Nat.mul_add]; congr 1; omega
    rw [e]
    rw [Nat.mul_add] at e2
    omega

end Go.Proofs.YtfgfmempmkjlnaaDoor

/- Naturals: the product of package nat, by contract. No condition. -/
namespace Go.Proofs.YtfgfmempmkjlnaaDoor
set_option linter.unusedVariables false
set_option maxRecDepth 8000
open Go Go.Den Go.RowKit Go.Dig

theorem mul_word {x y c o : Nat} (hx : x < 18446744073709551616) (hy : y < 18446744073709551616) (hc : c < 18446744073709551616) (ho : o < 18446744073709551616) :
    o + x * y + c < 18446744073709551616 * 18446744073709551616 := by
  have : x * y ≤ 18446744073709551615 * 18446744073709551615 := Nat.mul_le_mul (by omega) (by omega)
  omega
theorem mul_carry {q c o : Nat} (hq : o + q + c < 18446744073709551616 * 18446744073709551616) (hc : c < 18446744073709551616) (ho : o < 18446744073709551616) :
    q / 18446744073709551616 + (q % 18446744073709551616 + c) / 18446744073709551616 < 18446744073709551616 ∧
    q / 18446744073709551616 + (q % 18446744073709551616 + c) / 18446744073709551616 + (o + (q % 18446744073709551616 + c) % 18446744073709551616) / 18446744073709551616 = (o + q + c) / 18446744073709551616 ∧
    (o + (q % 18446744073709551616 + c) % 18446744073709551616) % 18446744073709551616 = (o + q + c) % 18446744073709551616 ∧ (o + q + c) / 18446744073709551616 < 18446744073709551616 := by omega
theorem mul_step {B W x y c o p q v p0 : Nat} (h : v + B * c = p0 + q * (x * p)) (hB : B = q * W) (n : Nat) (hn : n = o + x * y + c) {b : Nat} :
    v + B * (n % b) + B * b * (n / b) = (p0 + B * o) + q * (x * (p + W * y)) := by
  have := Nat.mod_add_div n b
  have e : B * (n % b) + B * b * (n / b) = B * n := by rw [Nat.mul_assoc, ← Nat.mul_add, this]
  have e2 : q * (x * (p + W * y)) = q * (x * p) + B * (x * y) := by
    subst hB
    rw [Nat.mul_add, Nat.mul_add, Nat.mul_assoc q W]
    congr 2
    rw [← Nat.mul_assoc, ← Nat.mul_assoc, Nat.mul_comm x W]
  rw [e2, Nat.add_assoc, e, hn, Nat.mul_add, Nat.mul_add]
  omega

theorem Tryd_ent98 : Ent Tryd.prog 98 := ent_of Tryd.func98 (by kernel_rfl) rfl
set_option maxHeartbeats 800000 in
theorem nmul_spec (va vb : Value) (xs ys : List Nat) (h : Hp) (ha : SlF h U va xs) (hb : SlF h U vb ys) (hx : Al 18446744073709551616 xs) (hy : Al 18446744073709551616 ys) (hl : xs.length < 1099511627776) (hl2 : ys.length < 1099511627776) :
    CallsH Tryd.prog 98 [va, vb] h fun v' h' => Ext h h' ∧ OwnF h' h.size 24 U v' (dg 18446744073709551616 (vl 18446744073709551616 xs * vl 18446744073709551616 ys)) := by
  (apply enter Tryd.func98 rfl Tryd.ntmps98 rfl)
  refine runM ?_
  (apply (s_make (f := U) (bytes := 8) (0)); (first | exact isK_c | exact isK_t rfl); (first | exact isK_c | exact isK_t rfl); exact rfl; exact rfl; exact rfl; exact rfl; exact rfl; exact rfl; omega; omega; omega)
  intro out h1 o1 e1 b1
  refine ⟨(by first | exact trivial | exact Ext.refl _ | assumption | exact Ext.trans (by assumption) (by assumption)), ?_⟩
  refine runM ?_
  (first | (apply w_seqB; exact rfl; apply w_block; exact rfl) | skip)
  apply (w_loop (σ := Nat × List Nat) rfl (fun p => [(1, vb), (20, va), (21, N xs.length), (22, N p.1), (5, out)])
    (fun p h' => Ext h h' ∧ OwnF h' h.size 24 U out p.2 ∧ p.2.length = xs.length + ys.length ∧ p.1 ≤ xs.length ∧ Al 18446744073709551616 p.2 ∧
      pv 18446744073709551616 p.2 (p.1 + ys.length) = pv 18446744073709551616 xs p.1 * vl 18446744073709551616 ys) (fun p => xs.length - p.1) (0, List.replicate (xs.length + ys.length) 0))
  · exact (Sub.cons rfl (Sub.cons rfl (Sub.cons rfl (Sub.cons rfl (Sub.cons rfl (Sub.nil _))))))
  · refine ⟨e1, o1, by simp, Nat.zero_le _, Al.replicate (by omega) _, ?_⟩
    simp only [pv_eq, List.take_replicate, vl_zeros, List.take_zero, vl, Nat.zero_mul]
  · rintro ⟨i, os0⟩ h' ⟨e, o, i1, i2, i3, i4⟩
    dsimp only at e o i1 i2 i3 i4 ⊢
    have ha' := ha.ext e
    have hb' := hb.ext e
    refine runM ?_
    (apply w_condD; exact rfl; exact rfl) <;> intro hi
    · refine runM ?_
      have hxi := hx.getD (by omega) i
      generalize hxd : xs.getD i 0 = x at *
      (first | (apply w_seqB; exact rfl; apply w_block; exact rfl) | skip)
      apply (w_loop (σ := Nat × Nat × List Nat) rfl (fun p => [(1, vb), (20, va), (21, N xs.length), (22, N i), (5, out), (6, N i), (7, U x), (27, vb), (28, N ys.length), (29, N p.1), (8, U p.2.1)])
        (fun p h' => Ext h h' ∧ OwnF h' h.size 24 U out p.2.2 ∧ p.2.2.length = xs.length + ys.length ∧ p.1 ≤ ys.length ∧ Al 18446744073709551616 p.2.2 ∧ p.2.1 < 18446744073709551616 ∧
          pv 18446744073709551616 p.2.2 (i + p.1) + 18446744073709551616 ^ (i + p.1) * p.2.1 = pv 18446744073709551616 os0 (i + p.1) + 18446744073709551616 ^ i * (x * pv 18446744073709551616 ys p.1) ∧
          ∀ j, i + p.1 ≤ j → p.2.2.getD j 0 = os0.getD j 0) (fun p => ys.length - p.1) (0, 0, os0))
      · exact (Sub.cons rfl (Sub.cons rfl (Sub.cons rfl (Sub.cons rfl (Sub.cons rfl (Sub.cons rfl (Sub.cons rfl (Sub.cons rfl (Sub.cons rfl (Sub.cons rfl (Sub.cons rfl (Sub.nil _))))))))))))
      · exact ⟨e, o, i1, Nat.zero_le _, i3, by simp only []; omega, by simp [pv], fun _ _ => rfl⟩
      · rintro ⟨k, c, os⟩ h2 ⟨e', o', j1, j2, j3, j4, j5, j6⟩
        dsimp only at e' o' j1 j2 j3 j4 j5 j6 ⊢
        have hb2 := hb.ext e'
        refine runM ?_
        (apply w_condD; exact rfl; exact rfl) <;> intro hk
        · refine runM ?_
          have hyk := hy.getD (by omega) k
          have hok := j3.getD (by omega) (i + k)
          have hoe := j6 (i + k) (Nat.le_refl _)
          have hst := mul_step (b := 18446744073709551616) (y := ys.getD k 0) (o := os.getD (i + k) 0) j5 (Nat.pow_add _ _ _) _ rfl
          generalize hyd : ys.getD k 0 = y at *
          have hw := mul_word hxi hyk j4 hok
          apply (s_call Tryd_ent73 rfl rfl rfl)
          refine (mul64_spec x y h2 hxi hyk).mono ?_
          rintro _ _ ⟨rfl, rfl⟩
          refine ⟨(by first | exact trivial | exact Ext.refl _ | assumption | exact Ext.trans (by assumption) (by assumption)), ?_⟩
          generalize hq : x * y = q at *
          have hcar := mul_carry hw j4 hok
          refine runM ?_
          apply (s_extern (add64_run _ _ 0 (by omega) (Nat.mod_lt _ (by omega)) j4) rfl rfl)
          simp only [Nat.add_zero]
          obtain ⟨hc1, hc2, hc3, hc4⟩ := hcar
          have hc5 : q / 18446744073709551616 + (q % 18446744073709551616 + c) / 18446744073709551616 + (os.getD (i + k) 0 + (q % 18446744073709551616 + c) % 18446744073709551616) / 18446744073709551616 < 18446744073709551616 := by rw [hc2]; exact hc4
          refine runM ?_
          apply (s_extern (add64_run _ _ 0 (by omega) hok (Nat.mod_lt _ (by omega))) rfl rfl)
          simp only [Nat.add_zero]
          rw [hc3]
          have hm : (os.getD (i + k) 0 + q + c) % 18446744073709551616 < 18446744073709551616 := Nat.mod_lt _ (by omega)
          generalize hw1 : (os.getD (i + k) 0 + q + c) % 18446744073709551616 = w1 at *
          refine runM ?_
          (apply (s_storeF (w1)); exact rfl; exact rfl; exact rfl; exact rfl; exact rfl; exact o'; exact rfl; (first | assumption | omega))
          intro h3 o3 k3
          refine ⟨(by first | exact trivial | exact Ext.refl _ | assumption | exact Ext.trans (by assumption) (by assumption)), ?_⟩
          have e3 := o'.old k3 e' (Nat.le_refl _)
          refine runM ?_
          rw [hc2]
          apply again_normal (k + 1, (os.getD (i + k) 0 + q + c) / 18446744073709551616, os.set (i + k) w1)
          · exact (Sub.cons rfl (Sub.cons rfl (Sub.cons rfl (Sub.cons rfl (Sub.cons rfl (Sub.cons rfl (Sub.cons rfl (Sub.cons rfl (Sub.cons rfl (Sub.cons rfl (Sub.cons rfl (Sub.nil _))))))))))))
          · refine ⟨e3, o3, by simp [j1], hk, j3.set hm _, hc4, ?_, fun j hj => ?_⟩
            · simp only []
              rw [← Nat.add_assoc, pv, pv_set (Nat.le_refl _), getD_set_self (by omega), Nat.pow_succ]
              simp only [pv]
              rw [hyd, ← hoe]
              exact hst
            · simp only [] at hj ⊢
              rw [getD_set_other (by omega)]; exact j6 j (by omega)
          · simp only []; omega
        · have hke : k = ys.length := by omega
          subst hke
          rw [pv_full (Nat.le_refl _), i4] at j5
          refine runM ?_
          (apply (s_storeF (c)); exact rfl; exact rfl; exact rfl; exact rfl; exact rfl; exact o'; exact rfl; (first | assumption | omega))
          intro h3 o3 k3
          refine ⟨(by first | exact trivial | exact Ext.refl _ | assumption | exact Ext.trans (by assumption) (by assumption)), ?_⟩
          have e3 := o'.old k3 e' (Nat.le_refl _)
          refine runM ?_
          apply again_normal (i + 1, os.set (i + ys.length) c)
          · exact (Sub.cons rfl (Sub.cons rfl (Sub.cons rfl (Sub.cons rfl (Sub.cons rfl (Sub.nil _))))))
          · refine ⟨e3, o3, by simp [j1], hi, j3.set j4 _, ?_⟩
            simp only []
            rw [show i + 1 + ys.length = i + ys.length + 1 by omega, pv, pv_set (Nat.le_refl _), getD_set_self (by omega), j5, pv, hxd, Nat.add_mul, Nat.mul_assoc]
          · simp only []; omega
    · refine runM ?_
      have hie : i = xs.length := by omega
      subst hie
      apply (s_call Tryd_ent97 rfl rfl rfl)
      refine (norm_spec out _ h' o.sl (by omega)).mono ?_
      rintro v3 _ ⟨rfl, s3, o3⟩
      refine ⟨(by first | exact trivial | exact Ext.refl _ | assumption | exact Ext.trans (by assumption) (by assumption)), ?_⟩
      refine runM ?_
      refine fin1 rfl rfl ⟨e, ?_⟩
      have := o3 _ _ o
      rw [pv_full (by omega), pv_full (Nat.le_refl _)] at i4
      rw [nrm_eq (by omega) i3, i4] at this
      exact this
end Go.Proofs.YtfgfmempmkjlnaaDoor

/- Naturals: the reference's digits, by contract. No condition. -/
namespace Go.Proofs.YtfgfmempmkjlnaaDoor
set_option linter.unusedVariables false
set_option maxRecDepth 8000
open Go Go.Den Go.RowKit Go.Dig

theorem pow16 (k : Nat) : 2 ^ (16 * k) = 65536 ^ k := by rw [Nat.pow_mul]
theorem pow64 (i : Nat) : 65536 ^ (4 * i) = 18446744073709551616 ^ i := by rw [Nat.pow_mul]
theorem dig_step (p B w k : Nat) : p + B * (w % 65536 ^ k) + B * 65536 ^ k * (w / 2 ^ (16 * k) % 65536) = p + B * (w % 65536 ^ (k + 1)) := by
  rw [pow16, Nat.mod_pow_succ, Nat.mul_add, Nat.mul_assoc, Nat.add_assoc]

end Go.Proofs.YtfgfmempmkjlnaaDoor

/- Naturals: digits put together again, by contract. No condition. -/
namespace Go.Proofs.YtfgfmempmkjlnaaDoor
set_option linter.unusedVariables false
set_option maxRecDepth 8000
open Go Go.Den Go.RowKit Go.Dig

/-- Four digits from place i on, the lowest k of them left out. -/
def gv (l : List Nat) (i : Nat) : Nat → Nat
  | 0 => l.getD i 0 + 65536 * (l.getD (i + 1) 0 + 65536 * (l.getD (i + 2) 0 + 65536 * l.getD (i + 3) 0))
  | 1 => l.getD (i + 1) 0 + 65536 * (l.getD (i + 2) 0 + 65536 * l.getD (i + 3) 0)
  | 2 => l.getD (i + 2) 0 + 65536 * l.getD (i + 3) 0
  | 3 => l.getD (i + 3) 0
  | _ => 0
theorem gv_step (l : List Nat) (i k : Nat) (h : k < 4) : gv l i k = gv l i (k + 1) * 65536 + l.getD (i + k) 0 := by
  rcases (by omega : k = 0 ∨ k = 1 ∨ k = 2 ∨ k = 3) with rfl | rfl | rfl | rfl <;> simp only [gv, Nat.add_zero] <;> omega
theorem gv_lt {l : List Nat} (hl : Al 65536 l) (i k : Nat) (h : k ≤ 4) : gv l i k < 65536 ^ (4 - k) := by
  have h0 := hl.getD (by omega) i
  have h1 := hl.getD (by omega) (i + 1)
  have h2 := hl.getD (by omega) (i + 2)
  have h3 := hl.getD (by omega) (i + 3)
  rcases (by omega : k = 0 ∨ k = 1 ∨ k = 2 ∨ k = 3 ∨ k = 4) with rfl | rfl | rfl | rfl | rfl <;> simp only [gv] <;> omega
theorem gv_word {l : List Nat} (hl : Al 65536 l) (i k : Nat) (h : k < 4) : gv l i (k + 1) * 65536 + l.getD (i + k) 0 < 18446744073709551616 ∧ gv l i (k + 1) * 65536 < 18446744073709551616 ∧ l.getD (i + k) 0 < 18446744073709551616 := by
  have h2 := gv_lt hl i k (by omega)
  have h4 : 65536 ^ (4 - k) ≤ 65536 ^ 4 := Nat.pow_le_pow_right (by omega) (by omega)
  have h5 := gv_step l i k h
  have h6 : gv l i k < 18446744073709551616 := Nat.lt_of_lt_of_le h2 h4
  clear h2 h4
  omega
theorem gv_pv (l : List Nat) (i : Nat) : pv 65536 l (4 * (i + 1)) = pv 65536 l (4 * i) + 65536 ^ (4 * i) * gv l (4 * i) 0 := by
  rw [show 4 * (i + 1) = 4 * i + 1 + 1 + 1 + 1 by omega]
  simp only [pv, gv, Nat.pow_succ]
  generalize 65536 ^ (4 * i) = B
  simp only [Nat.mul_add, Nat.mul_assoc]
  omega

end Go.Proofs.YtfgfmempmkjlnaaDoor

/- Long division, a digit at a time: plain facts about lists of digits. No program, no condition. -/
namespace Go.Dig
set_option linter.unusedVariables false
set_option maxRecDepth 8000

section
variable {b : Nat}

theorem guess_top {X Y p X2 yt : Nat} (hX : X < p * (X2 + 1)) (hY : p * yt ≤ Y) (h0 : 0 < yt) : X / Y ≤ X2 / yt := by
  rw [Nat.le_div_iff_mul_le h0]
  refine Nat.le_of_not_lt fun hlt => ?_
  have h1 : X / Y * Y ≤ X := Nat.div_mul_le_self _ _
  have h2 : X / Y * (p * yt) ≤ X / Y * Y := Nat.mul_le_mul_left _ hY
  have h3 : p * (X2 + 1) ≤ p * (X / Y * yt) := Nat.mul_le_mul_left _ hlt
  have h4 : X / Y * (p * yt) = p * (X / Y * yt) := by rw [← Nat.mul_assoc, ← Nat.mul_assoc, Nat.mul_comm (X / Y) p]
  omega

theorem guess_next {X Y p X2 x2 yt y2 g r : Nat} (hX : X < p * (X2 * b + x2 + 1)) (hY : p * (yt * b + y2) ≤ Y) (h0 : 0 < Y) (hg : g * yt + r = X2) (hlt : r * b + x2 < g * y2) : X / Y < g := by
  rw [Nat.div_lt_iff_lt_mul h0]
  have h1 : g * (p * (yt * b + y2)) ≤ g * Y := Nat.mul_le_mul_left _ hY
  have h2 : g * (p * (yt * b + y2)) = p * (g * (yt * b + y2)) := by rw [← Nat.mul_assoc, ← Nat.mul_assoc, Nat.mul_comm g p]
  have h3 : g * (yt * b + y2) = g * yt * b + g * y2 := by rw [Nat.mul_add, Nat.mul_assoc]
  have h4 : X2 * b = g * yt * b + r * b := by rw [← hg, Nat.add_mul]
  have h5 : p * (X2 * b + x2 + 1) ≤ p * (g * yt * b + g * y2) := Nat.mul_le_mul_left _ (by omega)
  rw [h2, h3] at h1
  omega

/-- The highest digits of a number, and what they leave. -/
theorem vl_top2 {xs : List Nat} {n : Nat} (hl : xs.length = n + 2) : vl b xs = pv b xs n + b ^ n * (xs.getD n 0 + b * xs.getD (n + 1) 0) := by
  rw [← pv_full (k := n + 2) (by omega)]
  simp only [pv, Nat.pow_succ, Nat.mul_add, Nat.mul_assoc]; omega
theorem vl_top3 {xs : List Nat} {n : Nat} (hl : xs.length = n + 3) : vl b xs = pv b xs n + b ^ n * (xs.getD n 0 + b * (xs.getD (n + 1) 0 + b * xs.getD (n + 2) 0)) := by
  rw [← pv_full (k := n + 3) (by omega)]
  simp only [pv, Nat.pow_succ, Nat.mul_add, Nat.mul_assoc]; omega

/-- All that the guess of a digit needs: x has n + 3 digits, y n + 2. -/
theorem guess_facts {xs ys : List Nat} {n : Nat} (hb : 0 < b) (hx : Al b xs) (hxl : xs.length = n + 3) (hyl : ys.length = n + 2) (h0 : 0 < ys.getD (n + 1) 0) :
    vl b xs / vl b ys ≤ (xs.getD (n + 2) 0 * b + xs.getD (n + 1) 0) / ys.getD (n + 1) 0 ∧
    ∀ g r, g * ys.getD (n + 1) 0 + r = xs.getD (n + 2) 0 * b + xs.getD (n + 1) 0 → r * b + xs.getD n 0 < g * ys.getD n 0 → vl b xs / vl b ys < g := by
  have hxt := vl_top3 (b := b) hxl
  have hyt := vl_top2 (b := b) hyl
  have hp := pv_lt hx hb n
  have hp1 := pv_lt hx hb (n + 1)
  have hbn : 0 < b ^ n := Nat.pow_pos hb
  have hY0 : 0 < vl b ys := by
    have h1 : 1 ≤ ys.getD n 0 + b * ys.getD (n + 1) 0 := by
      have := Nat.mul_pos hb h0
      omega
    have := Nat.mul_le_mul hbn h1
    omega
  refine ⟨guess_top (p := b ^ (n + 1)) ?_ ?_ h0, fun g r h1 h2 => guess_next (b := b) (p := b ^ n) (x2 := xs.getD n 0) (y2 := ys.getD n 0) ?_ ?_ hY0 h1 h2⟩
  · have e : vl b xs = pv b xs (n + 1) + b ^ (n + 1) * (xs.getD (n + 2) 0 * b + xs.getD (n + 1) 0) := by
      rw [hxt]; simp only [pv, Nat.pow_succ, Nat.mul_add, Nat.mul_assoc, Nat.mul_comm (xs.getD (n + 2) 0) b]; omega
    rw [e, Nat.mul_add_one]
    omega
  · rw [hyt, Nat.pow_succ, Nat.mul_add, Nat.mul_assoc]; omega
  · rw [hxt, Nat.mul_add _ _ 1, Nat.mul_one]
    have : (xs.getD (n + 2) 0 * b + xs.getD (n + 1) 0) * b + xs.getD n 0 = xs.getD n 0 + b * (xs.getD (n + 1) 0 + b * xs.getD (n + 2) 0) := by
      rw [Nat.mul_comm _ b, Nat.mul_comm (xs.getD (n + 2) 0) b]; simp only [Nat.mul_add]; omega
    rw [this]; omega
  · rw [hyt, Nat.mul_comm (ys.getD (n + 1) 0) b, Nat.add_comm (b * _)]; omega

theorem sub_step {p q B g c bo x x' y c' bo' P : Nat} (h : p + g * q = P + B * (bo + c)) (hw : x' + g * y + c + bo = x + b * bo' + b * c') :
    p + B * x' + g * (q + B * y) = P + B * x + B * b * (bo' + c') := by
  have e1 : g * (q + B * y) = g * q + B * (g * y) := by rw [Nat.mul_add, ← Nat.mul_assoc, ← Nat.mul_assoc, Nat.mul_comm g B]
  have e2 : B * x' + B * (g * y) + B * c + B * bo = B * x + B * (b * bo') + B * (b * c') := by
    have := congrArg (B * ·) hw
    simpa only [Nat.mul_add] using this
  have e3 : B * b * (bo' + c') = B * (b * bo') + B * (b * c') := by rw [Nat.mul_assoc, Nat.mul_add, Nat.mul_add]
  rw [Nat.mul_add] at h
  rw [e1, e3]; omega
theorem sub_last {p q B g c bo x x' bo' P : Nat} (h : p + g * q = P + B * (bo + c)) (hw : x' + c + bo = x + b * bo') :
    p + B * x' + g * q = P + B * x + B * b * bo' := by
  have e2 : B * x' + B * c + B * bo = B * x + B * (b * bo') := by
    have := congrArg (B * ·) hw
    simpa only [Nat.mul_add] using this
  rw [Nat.mul_add] at h
  rw [Nat.mul_assoc]; omega

/-- Where too much was taken the guess was too great. -/
theorem back_lt {Z g Y X B : Nat} (h : Z + g * Y = X + B * 1) (hz : Z < B) (h0 : 0 < Y) : X / Y < g := by
  rw [Nat.div_lt_iff_lt_mul h0]; omega
theorem back_step {Z Z' g Y X B c : Nat} (h : Z + g * Y = X + B * 1) (ha : Z' + B * c = Z + Y) (hc : c ≤ 1) (hg : 1 ≤ g) : Z' + (g - 1) * Y = X + B * (1 - c) := by
  obtain ⟨k, rfl⟩ : ∃ k, g = k + 1 := ⟨g - 1, by omega⟩
  rw [Nat.add_sub_cancel]
  rw [Nat.add_mul, Nat.one_mul] at h
  rcases (by omega : c = 0 ∨ c = 1) with rfl | rfl <;> omega
theorem digit_end {Z g Y X B : Nat} (h : Z + g * Y = X + B * 0) (hge : X / Y ≤ g) (h0 : 0 < Y) : g = X / Y ∧ Z = X % Y := by
  have h1 : g ≤ X / Y := by rw [Nat.le_div_iff_mul_le h0]; omega
  have h2 : g = X / Y := Nat.le_antisymm h1 hge
  refine ⟨h2, ?_⟩
  have h3 := Nat.div_add_mod X Y
  rw [← h2, Nat.mul_comm] at h3
  omega

theorem shl_step {p B o w s b' P : Nat} (h : p + B * o = P * s) (hb : b' = b) (hw : w * s = w * s % b + b * (w * s / b)) : p + B * (o + w * s % b) + B * b' * (w * s / b) = (P + B * w) * s := by
  have e : B * (w * s) = B * (w * s % b) + B * (b * (w * s / b)) := by rw [← Nat.mul_add, ← hw]
  subst hb
  rw [Nat.add_mul, Nat.mul_assoc B w s, e, Nat.mul_add, Nat.mul_assoc]
  omega
theorem shr_step {b p q t0 t t' B x hh s m : Nat} (h : s * p + t0 = q + B * t) (hx : x = hh * s + t) (hsm : s * m = b) : s * (p + B * (hh + t' * m)) + t0 = q + B * x + B * b * t' := by
  have e : s * (B * (hh + t' * m)) = B * (hh * s) + B * b * t' := by
    rw [← hsm, ← Nat.mul_assoc, Nat.mul_comm s B, Nat.mul_assoc, Nat.mul_add, Nat.mul_comm s hh, Nat.mul_add, Nat.mul_assoc, Nat.mul_assoc, Nat.mul_comm m t', ← Nat.mul_assoc s, Nat.mul_comm s t', Nat.mul_assoc]
  rw [Nat.mul_add, e, hx, Nat.mul_add]
  omega

theorem vl_drop_head {xs : List Nat} {i : Nat} (h : i < xs.length) : vl b (xs.drop i) = xs.getD i 0 + b * vl b (xs.drop (i + 1)) := by
  rw [List.drop_eq_getElem_cons h]; simp [vl, h]
/-- What a window holds, where nothing stands above it. -/
theorem win_lt {pre ws post : List Nat} {Y : Nat} (hx : Al b (pre ++ ws ++ post)) (hb : 0 < b) (hw : 0 < ws.length) (h0 : vl b post = 0) (hc : vl b ((pre ++ ws ++ post).drop (pre.length + 1)) < Y) : vl b ws < Y * b := by
  cases ws with
  | nil => simp at hw
  | cons w ws =>
    have hwb : w < b := hx w (by simp)
    have e : (pre ++ (w :: ws) ++ post).drop (pre.length + 1) = ws ++ post := by
      rw [List.append_assoc, List.drop_append]; simp [List.drop_of_length_le]
    rw [e, vl_append, h0, Nat.mul_zero, Nat.add_zero] at hc
    have h1 : b * (vl b ws + 1) ≤ b * Y := Nat.mul_le_mul_left _ hc
    rw [Nat.mul_add, Nat.mul_comm b Y] at h1
    simp only [vl]; omega
theorem div_step {pre ws ws' post qs : List Nat} {m q X Y : Nat} (hb : 0 < b) (hl' : ws'.length = m + 1) (hl : ws.length = m + 1) (ha' : Al b ws') (h0 : vl b post = 0) (hY : Y < b ^ m) (hq : q = vl b ws / Y) (hr : vl b ws' = vl b ws % Y) (hY0 : 0 < Y) (hi : pre.length < qs.length)
    (hd : vl b (pre ++ ws ++ post) + b ^ (pre.length + 1) * vl b (qs.drop (pre.length + 1)) * Y = X) :
    vl b ((pre ++ ws' ++ post).drop (pre.length + m)) = 0 ∧ vl b ((pre ++ ws' ++ post).drop pre.length) < Y ∧
    vl b (pre ++ ws' ++ post) + b ^ pre.length * vl b ((qs.set pre.length q).drop pre.length) * Y = X := by
  have hlt : vl b ws' < Y := by rw [hr]; exact Nat.mod_lt _ hY0
  have hsp := vl_split (b := b) ws' m
  have hd1 : ws'.drop m = [ws'.getD m 0] := by
    rw [List.drop_eq_getElem_cons (by omega), List.drop_of_length_le (by omega)]
    simp [show m < ws'.length by omega]
  have htop : ws'.getD m 0 = 0 := by
    rw [hd1] at hsp
    simp only [vl, Nat.mul_zero, Nat.add_zero] at hsp
    rcases Nat.eq_zero_or_pos (ws'.getD m 0) with h | h
    · exact h
    · have := Nat.mul_le_mul_left (b ^ m) h
      omega
  refine ⟨?_, ?_, ?_⟩
  · rw [List.append_assoc, List.drop_append, List.drop_of_length_le (by omega), List.nil_append, Nat.add_sub_cancel_left, List.drop_append, hd1, htop, hl', show m - (m + 1) = 0 by omega, List.drop_zero, vl_append, h0]
    simp [vl]
  · rw [List.append_assoc, List.drop_append, List.drop_of_length_le (Nat.le_refl _), List.nil_append, Nat.sub_self, List.drop_zero, vl_append, h0]
    simpa using hlt
  · rw [List.append_assoc, vl_append, vl_append, h0, Nat.mul_zero, Nat.add_zero] at hd ⊢
    rw [vl_drop_head (by simpa using hi), show (qs.set pre.length q).getD pre.length 0 = q by simp [hi], List.drop_set_of_lt (by omega)]
    have hdm := Nat.div_add_mod (vl b ws) Y
    rw [← hq, ← hr] at hdm
    rw [← hd, ← hdm, Nat.pow_succ]
    simp only [Nat.mul_add, Nat.add_mul]
    have e1 : b ^ pre.length * (Y * q) = b ^ pre.length * q * Y := by rw [Nat.mul_comm Y q, Nat.mul_assoc]
    have e2 : b ^ pre.length * b * vl b (qs.drop (pre.length + 1)) * Y = b ^ pre.length * (b * vl b (qs.drop (pre.length + 1))) * Y := by simp only [Nat.mul_assoc]
    omega
theorem div_mod_of {X Y q r : Nat} (h : r + q * Y = X) (hr : r < Y) : q = X / Y ∧ r = X % Y := by
  have h0 : 0 < Y := by omega
  constructor
  · rw [← h, Nat.mul_comm, Nat.add_mul_div_left _ _ h0, Nat.div_eq_of_lt hr, Nat.zero_add]
  · rw [← h, Nat.mul_comm, Nat.add_mul_mod_self_left, Nat.mod_eq_of_lt hr]
/-- The divisor, moved up till it fills its words. -/
theorem moved {ys : List Nat} {m s H : Nat} (hb : 1 < b) (hy : Al b ys) (hyl : ys.length = m + 1) (h0 : ys.getD m 0 ≠ 0) (hH : H ≤ ys.getD m 0 * 2 ^ s) (hs : (ys.getD m 0 + 1) * 2 ^ s ≤ b) :
    (dg b (vl b ys * 2 ^ s)).length = m + 1 ∧ H ≤ (dg b (vl b ys * 2 ^ s)).getD m 0 ∧ b ^ m * H ≤ vl b ys * 2 ^ s ∧ vl b ys * 2 ^ s < b ^ (m + 1) := by
  have hsp : vl b ys = pv b ys m + b ^ m * ys.getD m 0 := by rw [← pv_full (k := m + 1) (by omega)]; rfl
  have hp := pv_lt hy (by omega) m
  have hpow : 0 < 2 ^ s := Nat.pow_pos (by omega)
  have hbm : 0 < b ^ m := Nat.pow_pos (by omega)
  have h1 : vl b ys * 2 ^ s < b ^ (m + 1) := by
    have h2 : vl b ys < b ^ m * (ys.getD m 0 + 1) := by rw [hsp, Nat.mul_add_one]; omega
    have h3 : vl b ys * 2 ^ s < b ^ m * (ys.getD m 0 + 1) * 2 ^ s := Nat.mul_lt_mul_of_pos_right h2 hpow
    have h4 : b ^ m * ((ys.getD m 0 + 1) * 2 ^ s) ≤ b ^ m * b := Nat.mul_le_mul_left _ hs
    rw [← Nat.mul_assoc] at h4
    rw [Nat.pow_succ]; omega
  have h2 : b ^ m * H ≤ vl b ys * 2 ^ s := by
    have := Nat.mul_le_mul_left (b ^ m) hH
    rw [← Nat.mul_assoc] at this
    rw [hsp, Nat.add_mul]; omega
  have h3 : b ^ m ≤ vl b ys * 2 ^ s := by
    have h5 : b ^ m * 1 ≤ b ^ m * ys.getD m 0 := Nat.mul_le_mul_left _ (by omega)
    have h6 : vl b ys * 1 ≤ vl b ys * 2 ^ s := Nat.mul_le_mul_left _ hpow
    omega
  have hlen : (dg b (vl b ys * 2 ^ s)).length = m + 1 := by
    have h5 := dg_len hb h1
    have h6 := dg_lt hb (vl b ys * 2 ^ s)
    have h7 := (Nat.pow_lt_pow_iff_right hb).1 (Nat.lt_of_le_of_lt h3 h6)
    omega
  refine ⟨hlen, ?_, h2, h1⟩
  have hv := vl_dg hb (vl b ys * 2 ^ s)
  have ha := al_dg (b := b) (by omega) (vl b ys * 2 ^ s)
  generalize dg b (vl b ys * 2 ^ s) = zs at *
  have hz : vl b zs = pv b zs m + b ^ m * zs.getD m 0 := by rw [← pv_full (k := m + 1) (by omega)]; rfl
  have hzp := pv_lt ha (by omega) m
  refine Nat.le_of_not_lt fun hlt => ?_
  have := Nat.mul_le_mul_left (b ^ m) hlt
  rw [Nat.mul_succ] at this
  omega
/-- The highest words of what is divided are less than the divisor. -/
theorem top_lt {xs : List Nat} {k m H Y : Nat} (hx : Al b xs) (hb : 0 < b) (hl : xs.length = k + m + 1) (hH : xs.getD (k + m) 0 < H) (hY : b ^ m * H ≤ Y) : vl b (xs.drop k) < Y := by
  have e : vl b (xs.drop k) = pv b (xs.drop k) m + b ^ m * xs.getD (k + m) 0 := by
    rw [← pv_full (xs := xs.drop k) (k := m + 1) (by simp; omega)]
    simp [pv]
  have hp := pv_lt (hx.drop k) hb m
  have := Nat.mul_le_mul_left (b ^ m) hH
  rw [Nat.mul_succ] at this
  omega
theorem pv_of_lt {xs : List Nat} {k : Nat} (h : vl b xs < b ^ k) : pv b xs k = vl b xs := by
  have := vl_split (b := b) xs k
  rcases Nat.eq_zero_or_pos (vl b (xs.drop k)) with h0 | h0
  · rw [h0, Nat.mul_zero, Nat.add_zero] at this; exact this.symm
  · have := Nat.mul_le_mul_left (b ^ k) h0
    omega
theorem getD_of_lt {xs : List Nat} {k j : Nat} (hb : 0 < b) (h : vl b xs < b ^ k) (hj : k ≤ j) : xs.getD j 0 = 0 := by
  have h1 := vl_split (b := b) xs (j + 1)
  simp only [pv] at h1
  have h2 : b ^ k ≤ b ^ j := Nat.pow_le_pow_right hb hj
  rcases Nat.eq_zero_or_pos (xs.getD j 0) with h0 | h0
  · exact h0
  · have := Nat.mul_le_mul_left (b ^ j) h0
    omega
theorem vl_set {xs : List Nat} {j v : Nat} (hj : j < xs.length) : vl b (xs.set j v) + b ^ j * xs.getD j 0 = vl b xs + b ^ j * v := by
  have h1 := vl_split (b := b) xs (j + 1)
  have h2 := vl_split (b := b) (xs.set j v) (j + 1)
  simp only [pv] at h1 h2
  rw [pv_set (Nat.le_refl _), getD_set_self hj, List.drop_set_of_lt (by omega)] at h2
  omega
theorem less_step {p q B x y c o c' P : Nat} (h : p + q = P + B * c) (hw : o + y + c = x + b * c') : p + B * o + (q + B * y) = P + B * x + B * b * c' := by
  have e := congrArg (B * ·) hw
  simp only [Nat.mul_add] at e
  rw [Nat.mul_assoc]; omega
theorem times_step {v v' v0 B q W x y c o p n : Nat} (h : v + B * c = v0 + q * (x * p)) (hs : v' + B * o = v + B * (n % b)) (hB : B = q * W) (hn : n = c + o + x * y) : v' + B * b * (n / b) = v0 + q * (x * (p + W * y)) := by
  have e : B * (n % b) + B * b * (n / b) = B * n := by rw [Nat.mul_assoc, ← Nat.mul_add, Nat.mod_add_div]
  have e2 : q * (x * (p + W * y)) = q * (x * p) + B * (x * y) := by
    subst hB
    rw [Nat.mul_add, Nat.mul_add, Nat.mul_assoc q W]
    congr 2
    rw [← Nat.mul_assoc, ← Nat.mul_assoc, Nat.mul_comm x W]
  have e3 : B * n = B * c + B * o + B * (x * y) := by rw [hn, Nat.mul_add, Nat.mul_add]
  rw [e2]
  omega
/-- How many bits a number has. -/
def nb (n : Nat) : Nat := if n = 0 then 0 else n.log2 + 1
theorem nb_of {n k : Nat} (h1 : 2 ^ k ≤ n) (h2 : n < 2 ^ (k + 1)) : nb n = k + 1 := by
  have h0 : n ≠ 0 := by have := Nat.pow_pos (n := k) (show 0 < 2 by omega); omega
  have h3 := (Nat.le_log2 h0).2 h1
  have h4 := (Nat.log2_lt h0).2 h2
  rw [nb, if_neg h0]; omega
theorem nb_top {xs : List Nat} {m k : Nat} (hb : b = 2 ^ k) (hx : Al b xs) (hl : xs.length = m + 1) {j : Nat} (h1 : 2 ^ j ≤ xs.getD m 0) (h2 : xs.getD m 0 < 2 ^ (j + 1)) : nb (vl b xs) = k * m + j + 1 := by
  have hsp : vl b xs = pv b xs m + b ^ m * xs.getD m 0 := by rw [← pv_full (k := m + 1) (by omega)]; rfl
  have hb0 : 0 < b := by rw [hb]; exact Nat.pow_pos (by omega)
  have hp := pv_lt hx hb0 m
  have e : b ^ m = 2 ^ (k * m) := by rw [hb, ← Nat.pow_mul]
  apply nb_of
  · have := Nat.mul_le_mul_left (b ^ m) h1
    rw [Nat.pow_add, ← e]; omega
  · have := Nat.mul_le_mul_left (b ^ m) h2
    rw [Nat.mul_succ] at this
    rw [Nat.add_assoc, Nat.pow_add, ← e]; omega
end
end Go.Dig

/- Naturals: long division of package nat, by contracts: shifted, byWord, digit. No condition. -/
namespace Go.Proofs.YtfgfmempmkjlnaaDoor
set_option linter.unusedVariables false
set_option maxRecDepth 8000
open Go Go.Den Go.RowKit Go.Dig

theorem shl_word {w s : Nat} (hw : w < 18446744073709551616) (hs : s ≤ 64) : w * 2 ^ s / 18446744073709551616 = w / 2 ^ (64 - s) := by
  have e : (18446744073709551616 : Nat) = 2 ^ (64 - s) * 2 ^ s := by rw [← Nat.pow_add, show 64 - s + s = 64 by omega]
  rw [e, Nat.mul_div_mul_right _ _ (Nat.pow_pos (by omega))]
theorem shl_low {w s : Nat} (hs : s ≤ 64) : w * 2 ^ s % 18446744073709551616 = w % 2 ^ (64 - s) * 2 ^ s := by
  have e : (18446744073709551616 : Nat) = 2 ^ (64 - s) * 2 ^ s := by rw [← Nat.pow_add, show 64 - s + s = 64 by omega]
  rw [e, Nat.mul_mod_mul_right]
theorem shl_or {w s o : Nat} (hs : s ≤ 64) (ho : o < 2 ^ s) : o ||| w * 2 ^ s % 18446744073709551616 = o + w * 2 ^ s % 18446744073709551616 := by
  rw [shl_low hs, Nat.or_comm, Num.or_add ho, Nat.add_comm]
theorem shl_hi {w s : Nat} (hw : w < 18446744073709551616) (hs : s ≤ 64) : w / 2 ^ (64 - s) < 2 ^ s := by
  rw [Nat.div_lt_iff_lt_mul (Nat.pow_pos (by omega)), ← Nat.pow_add, show s + (64 - s) = 64 by omega]; exact hw
theorem shl_sum {w s o : Nat} (hs : s ≤ 64) (ho : o < 2 ^ s) : o + w * 2 ^ s % 18446744073709551616 < 18446744073709551616 := by
  have e : (18446744073709551616 : Nat) = 2 ^ (64 - s) * 2 ^ s := by rw [← Nat.pow_add, show 64 - s + s = 64 by omega]
  have h1 : w % 2 ^ (64 - s) < 2 ^ (64 - s) := Nat.mod_lt _ (Nat.pow_pos (by omega))
  have h2 : (w % 2 ^ (64 - s) + 1) * 2 ^ s ≤ 2 ^ (64 - s) * 2 ^ s := Nat.mul_le_mul_right _ h1
  rw [shl_low hs]
  rw [← e, Nat.add_mul, Nat.one_mul] at h2
  omega
theorem shr_or {x y s : Nat} (hx : x < 18446744073709551616) (hs : s ≤ 64) : x / 2 ^ s ||| y * 2 ^ (64 - s) % 18446744073709551616 = x / 2 ^ s + y % 2 ^ s * 2 ^ (64 - s) ∧ x / 2 ^ s + y % 2 ^ s * 2 ^ (64 - s) < 18446744073709551616 := by
  have h1 : x / 2 ^ s < 2 ^ (64 - s) := by
    rw [Nat.div_lt_iff_lt_mul (Nat.pow_pos (by omega)), ← Nat.pow_add, show 64 - s + s = 64 by omega]; exact hx
  have h2 := shl_or (w := y) (s := 64 - s) (by omega) h1
  have h3 := shl_sum (w := y) (s := 64 - s) (by omega) h1
  have h4 := shl_low (w := y) (s := 64 - s) (by omega)
  rw [show 64 - (64 - s) = s by omega] at h4
  rw [h4] at h2 h3 ⊢
  exact ⟨h2, h3⟩

end Go.Proofs.YtfgfmempmkjlnaaDoor

/- Naturals: a digit of long division of package nat, by contract. No condition. -/
namespace Go.Proofs.YtfgfmempmkjlnaaDoor
set_option linter.unusedVariables false
set_option maxRecDepth 8000
open Go Go.Den Go.RowKit Go.Dig

section
variable {P : Program} {n : Nat} {Q : Post} {l : Fr} {h : Hp} {ops : List Oper} {Ch : Hp → Prop} {E : Nat → Bool} {i : Nat} {t : TypeId} {x y : Operand}
/-- A window of a row of the call's own. -/
theorem win_sl {α : Type} {f : α → Value} {B : Nat} {e : TypeId} {v vx : Value} {pre ws post : List α} (ho : OwnF h B e f v (pre ++ ws ++ post)) (hv : vx = cutV 1 v pre.length (pre.length + ws.length)) : SlF h f vx ws := by
  have := ho.sl.cut (lo := pre.length) (hi := pre.length + ws.length) (by omega) (by simp)
  rw [hv]
  simpa using this
theorem win_ptr {α : Type} {f : α → Value} {B : Nat} {e : TypeId} {v vx : Value} {pre ws post : List α} (ho : OwnF h B e f v (pre ++ ws ++ post)) (hv : vx = cutV 1 v pre.length (pre.length + ws.length)) {j : Nat} (hj : j < ws.length) : ptrAt vx j = ptrAt v (pre.length + j) := by
  obtain ⟨hl, ⟨rfl, hn⟩ | ⟨g, cap, cur, rfl, hB, hg, hc, hm, hs, ht⟩⟩ := ho
  · simp only [List.length_append] at hn; omega
  · subst hv
    simp only [List.length_append] at hc
    simp [cutV, show cap ≠ pre.length by omega, ptrAt, Addr.add_lit]
theorem s_storeW {α : Type} {f : α → Value} {v vx u : Value} {j B : Nat} {pre ws post : List α} {e : TypeId} (u' : α) (ho : OwnF h B e f v (pre ++ ws ++ post)) (hv : vx = cutV 1 v pre.length (pre.length + ws.length)) (hx : ev l x = some (ptrAt vx j)) (hy : ev l y = some u) (hu : f u' = u) (ht : (P.info? t).map (·.size) = some 1) (hE : E i = true) (h1 : u.oneCell' = true) (hj : j < ws.length)
    (k : ∀ h', OwnF h' B e f v (pre ++ ws.set j u' ++ post) → Only v.ownBlock h h' → Ch h' ∧ S P n ops Ch E Q (i + 1) l h') : O0 P n ops Ch E Q i (.store t x y) l h :=
  s_storeF u' (by rw [hx, win_ptr ho hv hj]) hy hu ht hE ho h1 (by simp; omega) fun h' g1 g2 => k h' (by
    rw [List.append_assoc, List.set_append_right _ _ (by omega), Nat.add_sub_cancel_left, List.set_append_left _ _ hj, ← List.append_assoc] at g1
    exact g1) g2
end

/-- One word of what is taken away. -/
theorem sub_word {g y c x bo : Nat} (hg : g < 18446744073709551616) (hy : y < 18446744073709551616) (hc : c < 18446744073709551616) (hx : x < 18446744073709551616) (hb : bo ≤ 1) :
    g * y / 18446744073709551616 + (g * y % 18446744073709551616 + c) / 18446744073709551616 < 18446744073709551616 ∧
    (x + 18446744073709551616 - (g * y % 18446744073709551616 + c) % 18446744073709551616 - bo) % 18446744073709551616 < 18446744073709551616 ∧
    (if x < (g * y % 18446744073709551616 + c) % 18446744073709551616 + bo then 1 else 0) ≤ 1 ∧
    (x + 18446744073709551616 - (g * y % 18446744073709551616 + c) % 18446744073709551616 - bo) % 18446744073709551616 + g * y + c + bo =
      x + 18446744073709551616 * (if x < (g * y % 18446744073709551616 + c) % 18446744073709551616 + bo then 1 else 0) + 18446744073709551616 * (g * y / 18446744073709551616 + (g * y % 18446744073709551616 + c) / 18446744073709551616) := by
  have hgy : g * y ≤ 18446744073709551615 * 18446744073709551615 := Nat.mul_le_mul (by omega) (by omega)
  generalize g * y = p at *
  refine ⟨by omega, by omega, by split <;> omega, ?_⟩
  split <;> omega
theorem sub_word2 {c x bo : Nat} (hc : c < 18446744073709551616) (hx : x < 18446744073709551616) (hb : bo ≤ 1) :
    (x + 18446744073709551616 - c - bo) % 18446744073709551616 < 18446744073709551616 ∧ (if x < c + bo then 1 else 0) ≤ 1 ∧
    (x + 18446744073709551616 - c - bo) % 18446744073709551616 + c + bo = x + 18446744073709551616 * (if x < c + bo then 1 else 0) := by
  refine ⟨by omega, by split <;> omega, ?_⟩
  split <;> omega

end Go.Proofs.YtfgfmempmkjlnaaDoor

/- Naturals: a word, a number of bits, long division and the rest by a word of package nat, by contracts. No condition. -/
namespace Go.Proofs.YtfgfmempmkjlnaaDoor
set_option linter.unusedVariables false
set_option maxRecDepth 8000
open Go Go.Den Go.RowKit Go.Dig

theorem Tryd_ent90 : Ent Tryd.prog 90 := ent_of Tryd.func90 (by kernel_rfl) rfl
theorem len64_spec (x : Nat) (h : Hp) (hx : x < 18446744073709551616) :
    CallsH Tryd.prog 90 [U x] h fun v h' => v = N (Lib.bitLen x) ∧ h = h' :=
  callsH_same fun w => Tryd.bits_Len64 x w (by omega) (by omega)

theorem Tryd_ent94 : Ent Tryd.prog 94 := ent_of Tryd.func94 (by kernel_rfl) rfl
theorem bits_spec (va : Value) (xs0 : List Nat) (h : Hp) (ha0 : SlF h U va xs0) (hx0 : Al 18446744073709551616 xs0) (hl0 : xs0.length < 1099511627776) :
    CallsH Tryd.prog 94 [va] h fun v' h' => v' = N (nb (vl 18446744073709551616 xs0)) ∧ h = h' := by
  (apply enter Tryd.func94 rfl Tryd.ntmps94 rfl)
  refine runM ?_
  apply (s_call Tryd_ent97 rfl rfl rfl)
  refine (norm_spec va xs0 h ha0 (by omega)).mono ?_
  rintro v1 _ ⟨rfl, ha, -⟩
  refine ⟨(by first | exact trivial | exact Ext.refl _ | assumption | exact Ext.trans (by assumption) (by assumption)), ?_⟩
  rw [← vl_nrm xs0]
  have hx : Al 18446744073709551616 (nrm xs0) := by rw [nrm_pre]; exact hx0.take _
  have hxn := nrm_nrm xs0
  have hlx := nrm_len xs0
  have hl : (nrm xs0).length < 1099511627776 := by omega
  clear hlx
  generalize nrm xs0 = xs at *
  refine runM ?_
  (apply w_condD; exact rfl; exact rfl) <;> intro h0
  · refine runM ?_
    have : xs = [] := List.eq_nil_of_length_eq_zero h0
    subst this
    exact fin1 rfl rfl ⟨rfl, rfl⟩
  · obtain ⟨m, hm⟩ : ∃ m, xs.length = m + 1 := ⟨xs.length - 1, by omega⟩
    have htop : xs.getD m 0 ≠ 0 := by
      have h1 := nrm_eq (b := 18446744073709551616) (by omega) hx
      rw [hxn] at h1
      intro hz
      have h2 : vl 18446744073709551616 xs = pv 18446744073709551616 xs m := by
        rw [← pv_full (k := m + 1) (xs := xs) (by omega), pv, hz, Nat.mul_zero, Nat.add_zero]
      have h3 := pv_lt hx (by omega) m
      rw [← h2] at h3
      have h4 := dg_len (b := 18446744073709551616) (by omega) h3
      rw [← h1] at h4
      omega
    have htw := hx.getD (by omega) m
    obtain ⟨g1, g2, g3, g4⟩ := bitLen_spec 64 _ htw (by omega) htop
    have hnb := nb_top (k := 64) (by rfl) hx hm (j := Lib.bitLen (xs.getD m 0) - 1) g3 (by rw [Nat.sub_add_cancel g1]; exact g4)
    rw [hnb]
    refine runM ?_
    rw [hm, Nat.add_sub_cancel]
    apply (s_call Tryd_ent90 rfl rfl rfl)
    refine (len64_spec (xs.getD m 0) h htw).mono ?_
    rintro _ _ ⟨rfl, rfl⟩
    refine ⟨(by first | exact trivial | exact Ext.refl _ | assumption | exact Ext.trans (by assumption) (by assumption)), ?_⟩
    generalize Lib.bitLen (xs.getD m 0) = bl at *
    refine runM ?_
    exact fin1 rfl rfl ⟨congrArg I (by omega), rfl⟩
end Go.Proofs.YtfgfmempmkjlnaaDoor

/- Naturals: long division of package nat, by contract. No condition. -/
namespace Go.Proofs.YtfgfmempmkjlnaaDoor
set_option linter.unusedVariables false
set_option maxRecDepth 8000
open Go Go.Den Go.RowKit Go.Dig

theorem cmpI_neg {m n : Nat} : cmpI m n < 0 ↔ m < n := by
  unfold cmpI
  by_cases h1 : m < n
  · simp [h1]
  · by_cases h2 : n < m <;> simp [h1, h2]
theorem fill_room {y s : Nat} (hs : s ≤ 64) (h : y * 2 ^ s < 18446744073709551616) : (y + 1) * 2 ^ s ≤ 18446744073709551616 := by
  have e : (18446744073709551616 : Nat) = 2 ^ (64 - s) * 2 ^ s := by rw [← Nat.pow_add, show 64 - s + s = 64 by omega]
  rw [e] at h ⊢
  exact Nat.mul_le_mul_right _ (Nat.lt_of_mul_lt_mul_right h)

theorem OwnF.ne {α β : Type} {f : α → Value} {g : β → Value} {h h' : Hp} {B B' : Nat} {e e' : TypeId} {v v' : Value} {xs : List α} {ys : List β} (o : OwnF h B e f v xs) (o' : OwnF h' B' e' g v' ys) (hB : h.size ≤ B') : v'.ownBlock = none ∨ v'.ownBlock ≠ v.ownBlock := by
  cases hk : v'.ownBlock with
  | none => exact .inl rfl
  | some k =>
    refine .inr fun e => ?_
    have h1 := (OwnF.blk o' k hk).1
    have h2 := (OwnF.blk o k e.symm).2
    omega
theorem OwnF.ne' {α β : Type} {f : α → Value} {g : β → Value} {h h' : Hp} {B B' : Nat} {e e' : TypeId} {v v' : Value} {xs : List α} {ys : List β} (o : OwnF h B e f v xs) (o' : OwnF h' B' e' g v' ys) (hB : h.size ≤ B') : v.ownBlock = none ∨ v.ownBlock ≠ v'.ownBlock := by
  rcases OwnF.ne o o' hB with h | h
  · cases hk : v.ownBlock with
    | none => exact .inl rfl
    | some k => exact .inr (by rw [h]; simp)
  · exact .inr fun e => h e.symm
theorem rest_of {p r t z : Nat} (hp : 0 < p) (h : p * r + t % p = z * p) : r = z := by
  have h1 : (p * r + t % p) % p = t % p := by rw [Nat.mul_add_mod, Nat.mod_mod]
  rw [h, Nat.mul_mod_left] at h1
  rw [← h1, Nat.add_zero, Nat.mul_comm] at h
  exact Nat.eq_of_mul_eq_mul_right hp h
theorem split3 (xs : List Nat) (i n : Nat) (h : i + n ≤ xs.length) : ∃ pre ws post, xs = pre ++ ws ++ post ∧ pre.length = i ∧ ws.length = n :=
  ⟨xs.take i, (xs.drop i).take n, xs.drop (i + n), by rw [← List.drop_drop, List.append_assoc, List.take_append_drop, List.take_append_drop], by simp; omega, by simp; omega⟩
theorem drop_post (pre ws post : List Nat) : (pre ++ ws ++ post).drop (pre.length + ws.length) = post := by
  rw [← List.length_append, List.drop_append_of_le_length (Nat.le_refl _), List.drop_of_length_le (Nat.le_refl _), List.nil_append]

end Go.Proofs.YtfgfmempmkjlnaaDoor

/- Naturals and whole numbers: long division by bits of the reference, and the functions on whole numbers. No condition. -/
namespace Go.Proofs.YtfgfmempmkjlnaaDoor
set_option linter.unusedVariables false
set_option maxRecDepth 8000
open Go Go.Den Go.RowKit Go.Dig

/-- A whole number as it is told: its cells. -/
def wcells (neg : Bool) (v : Value) : List Value := [.bool neg, v]

/-- What a row of a whole number says. -/
def IV (neg : Bool) (X : Nat) : Int := if neg then -(X : Int) else X
/-- v is a whole number in memory, of the value z, as it is told: its size in own words. -/
def IntOf (h : Hp) (B : Nat) (v : Value) (z : Int) : Prop := ∃ a, v = .agg #[.bool (decide (z < 0)), a] ∧ OwnF h B 24 U a (dg 18446744073709551616 z.natAbs)
theorem IntOf.ext {h h' : Hp} {B : Nat} {v : Value} {z : Int} (s : IntOf h B v z) (e : Ext h h') : IntOf h' B v z := by obtain ⟨a, h1, h2⟩ := s; exact ⟨a, h1, h2.ext e⟩
theorem IntOf.base {h : Hp} {B B' : Nat} {v : Value} {z : Int} (s : IntOf h B v z) (hB : B' ≤ B) : IntOf h B' v z := by obtain ⟨a, h1, h2⟩ := s; exact ⟨a, h1, h2.base hB⟩
theorem iv_abs (neg : Bool) (X : Nat) : (IV neg X).natAbs = X ∧ decide (IV neg X < 0) = (neg && decide (X ≠ 0)) := by
  unfold IV
  cases neg with
  | true => simp only [if_true, Int.natAbs_neg, Int.natAbs_natCast, Bool.true_and, true_and, decide_eq_decide]; omega
  | false => simp only [Bool.false_eq_true, if_false, Int.natAbs_natCast, Bool.false_and, true_and, decide_eq_false_iff_not]; omega
theorem IntOf.of {h : Hp} {B : Nat} {neg : Bool} {Z : Nat} {v : Value} (o : OwnF h B 24 U v (dg 18446744073709551616 Z)) : IntOf h B (.agg #[.bool (neg && decide (Z ≠ 0)), v]) (IV neg Z) := by
  obtain ⟨h1, h2⟩ := iv_abs neg Z
  exact ⟨v, by rw [h2], by rw [h1]; exact o⟩
theorem iv_same (neg : Bool) (X Y : Nat) : IV neg (X + Y) = IV neg X + IV neg Y := by
  unfold IV; cases neg <;> simp <;> omega
theorem iv_other {n1 n2 : Bool} {X Y : Nat} (hn : n1 ≠ n2) (hle : Y ≤ X) : IV n1 (X - Y) = IV n1 X + IV n2 Y := by
  unfold IV; cases n1 <;> cases n2 <;> simp at hn ⊢ <;> omega
theorem dg_len_add {X Y m : Nat} {xs ys : List Nat} (hx : Al 18446744073709551616 xs) (hy : Al 18446744073709551616 ys) (hX : vl 18446744073709551616 xs = X) (hY : vl 18446744073709551616 ys = Y) (h1 : xs.length ≤ m) (h2 : ys.length ≤ m) : (dg 18446744073709551616 (X + Y)).length ≤ m + 1 := by
  apply dg_len (by omega)
  have a := vl_lt hx
  have b := vl_lt hy
  have c : 18446744073709551616 ^ xs.length ≤ 18446744073709551616 ^ m := Nat.pow_le_pow_right (by omega) h1
  have d : 18446744073709551616 ^ ys.length ≤ 18446744073709551616 ^ m := Nat.pow_le_pow_right (by omega) h2
  rw [Nat.pow_succ]
  omega
theorem dg_len_le {X Y : Nat} {xs : List Nat} (hx : Al 18446744073709551616 xs) (hX : vl 18446744073709551616 xs = X) (h : Y ≤ X) : (dg 18446744073709551616 Y).length ≤ xs.length := by
  apply dg_len (by omega)
  have a := vl_lt hx
  omega

theorem cmpI_pos {m n : Nat} : 0 < cmpI m n ↔ n < m := by
  unfold cmpI
  by_cases h1 : m < n
  · simp [h1]; omega
  · by_cases h2 : n < m <;> simp [h1, h2]
theorem cmpI_zero {m n : Nat} : cmpI m n = 0 ↔ m = n := by
  unfold cmpI
  by_cases h1 : m < n
  · simp [h1]; omega
  · by_cases h2 : n < m <;> simp [h1, h2] <;> omega
theorem iv_mul (n1 n2 : Bool) (X Y : Nat) : IV (decide (n1 ≠ n2)) (X * Y) = IV n1 X * IV n2 Y := by
  unfold IV; cases n1 <;> cases n2 <;> simp [Int.neg_mul, Int.mul_neg]
theorem dg_len_mul {xs ys : List Nat} (hx : Al 18446744073709551616 xs) (hy : Al 18446744073709551616 ys) : (dg 18446744073709551616 (vl 18446744073709551616 xs * vl 18446744073709551616 ys)).length ≤ xs.length + ys.length := by
  apply dg_len (by omega)
  rw [Nat.pow_add]
  exact Nat.mul_lt_mul'' (vl_lt hx) (vl_lt hy)

theorem ediv_of {n d k : Int} (hd : 0 < d) (h1 : d * k ≤ n) (h2 : n < d * k + d) : n / d = k := by
  have a := Int.emod_nonneg n (by omega : d ≠ 0)
  have b := Int.emod_lt_of_pos n hd
  have c := Int.mul_ediv_add_emod n d
  have e : d * (n / d - k) < d := by rw [Int.mul_sub]; omega
  have f : -d < d * (n / d - k) := by rw [Int.mul_sub]; omega
  have g1 : n / d - k < 1 := by
    refine Int.lt_of_not_ge fun hge => ?_
    have := Int.mul_le_mul_of_nonneg_left hge (Int.le_of_lt hd)
    omega
  have g2 : -1 < n / d - k := by
    refine Int.lt_of_not_ge fun hge => ?_
    have := Int.mul_le_mul_of_nonneg_left hge (Int.le_of_lt hd)
    rw [Int.mul_neg] at this
    omega
  omega
/-- The nearest whole number to a quotient; a half goes up. -/
def nearZ (z : Int) (Y : Nat) : Int := (2 * z + Y) / (2 * Y)
def nearQ (neg : Bool) (X Y : Nat) : Nat := X / Y + if Y < 2 * (X % Y) ∨ 2 * (X % Y) = Y ∧ (neg && decide (X ≠ 0)) = false then 1 else 0
theorem near_eq {neg : Bool} {X Y : Nat} (hY : 0 < Y) : nearZ (IV neg X) Y = IV neg (nearQ neg X Y) := by
  unfold nearZ nearQ
  have h1 := Nat.div_add_mod X Y
  have h2 := Nat.mod_lt X hY
  generalize X / Y = q at *
  generalize X % Y = r at *
  apply ediv_of (by omega)
  all_goals
    have hp : (Y : Int) * (q : Int) = ((Y * q : Nat) : Int) := by simp
    have hq0 : q = 0 → Y * q = 0 := fun h => by rw [h, Nat.mul_zero]
    unfold IV
    cases neg with
    | false =>
      simp only [Bool.false_and, and_true, Bool.false_eq_true, if_false]
      split <;> (simp only [Int.natCast_add, Int.mul_add, Int.mul_assoc, hp, Int.natCast_one, Int.natCast_zero, Int.mul_one, Int.mul_zero]; omega)
    | true =>
      simp only [Bool.true_and, decide_eq_false_iff_not, if_true]
      split <;> (simp only [Int.natCast_add, Int.mul_add, Int.mul_neg, Int.neg_add, Int.mul_assoc, hp, Int.natCast_one, Int.natCast_zero, Int.mul_one, Int.mul_zero]; omega)

end Go.Proofs.YtfgfmempmkjlnaaDoor

/- Naturals: long division by bits of the reference, by contract. No condition. -/
namespace Go.Proofs.YtfgfmempmkjlnaaDoor
set_option linter.unusedVariables false
set_option maxRecDepth 8000
open Go Go.Den Go.RowKit Go.Dig

/-- A bit more of what is divided. -/
theorem bit_step {V W x j t R Y : Nat} (hj : j ≤ 15) (h : V * 2 ^ (16 - (j + 1)) + x / 2 ^ (j + 1) = (W * 2 ^ (16 - (j + 1)) + t) * Y + R) :
    V * 2 ^ (16 - j) + x / 2 ^ j = (W * 2 ^ (16 - j) + 2 * t) * Y + (2 * R + x / 2 ^ j % 2) := by
  have e : 2 ^ (16 - j) = 2 * 2 ^ (16 - (j + 1)) := by rw [show 16 - j = (16 - (j + 1)) + 1 by omega, Nat.pow_succ, Nat.mul_comm]
  have d : x / 2 ^ (j + 1) = x / 2 ^ j / 2 := by rw [Nat.pow_succ, Nat.div_div_eq_div_mul]
  rw [d] at h
  have m := Nat.div_add_mod (x / 2 ^ j) 2
  have f0 : W * 2 ^ (16 - j) + 2 * t = 2 * (W * 2 ^ (16 - (j + 1)) + t) := by rw [e, Nat.mul_add, Nat.mul_left_comm]
  have f : (W * 2 ^ (16 - j) + 2 * t) * Y = 2 * ((W * 2 ^ (16 - (j + 1)) + t) * Y) := by rw [f0, Nat.mul_assoc]
  have g : V * 2 ^ (16 - j) = 2 * (V * 2 ^ (16 - (j + 1))) := by rw [e, Nat.mul_left_comm]
  rw [f, g]
  omega
theorem bit_take {A t R Y N : Nat} (h : N = (A + 2 * t) * Y + R) (hle : Y ≤ R) : N = (A + (2 * t + 1)) * Y + (R - Y) := by
  rw [h, ← Nat.add_assoc, Nat.add_mul (A + 2 * t) 1 Y, Nat.one_mul]; omega

theorem cmpI_ge {m n : Nat} : 0 ≤ cmpI m n ↔ n ≤ m := by
  unfold cmpI
  by_cases h1 : m < n
  · simp [h1]
  · by_cases h2 : n < m <;> simp [h1, h2] <;> omega
theorem tpow {t j : Nat} (hj : j ≤ 15) (ht : t < 2 ^ (16 - (j + 1))) : 2 * t + 1 < 2 ^ (16 - j) ∧ (2 * t + 1) * 2 ^ j < 65536 ∧ t * 2 ^ (j + 1) + 1 * 2 ^ j = (2 * t + 1) * 2 ^ j ∧ t * 2 ^ (j + 1) = 2 * t * 2 ^ j ∧ 1 * 2 ^ j < 9223372036854775808 ∧ t * 2 ^ (j + 1) + 1 * 2 ^ j < 9223372036854775808 := by
  have e : 2 ^ (16 - j) = 2 * 2 ^ (16 - (j + 1)) := by rw [show 16 - j = (16 - (j + 1)) + 1 by omega, Nat.pow_succ, Nat.mul_comm]
  have h1 : 2 * t + 1 < 2 ^ (16 - j) := by omega
  have h2 : (2 * t + 1) * 2 ^ j < 65536 := by
    have := Nat.mul_lt_mul_of_pos_right h1 (Nat.pow_pos (show 0 < 2 by omega) (n := j))
    rwa [← Nat.pow_add, show 16 - j + j = 16 by omega] at this
  have h3 : t * 2 ^ (j + 1) = 2 * t * 2 ^ j := by rw [Nat.pow_succ, Nat.mul_comm (2 ^ j) 2, ← Nat.mul_assoc, Nat.mul_comm t 2]
  have h4 : t * 2 ^ (j + 1) + 1 * 2 ^ j = (2 * t + 1) * 2 ^ j := by rw [h3, Nat.add_mul]
  have h5 : 1 * 2 ^ j ≤ (2 * t + 1) * 2 ^ j := Nat.mul_le_mul_right _ (by omega)
  refine ⟨h1, h2, h4, h3, by omega, by rw [h4]; omega⟩

end Go.Proofs.YtfgfmempmkjlnaaDoor

/- Naturals: the reference's functions on naturals, by contracts. No condition. -/
namespace Go.Proofs.YtfgfmempmkjlnaaDoor
set_option linter.unusedVariables false
set_option maxRecDepth 8000
open Go Go.Den Go.RowKit Go.Dig

theorem vlt {xs : List Nat} (hx : Al 18446744073709551616 xs) : vl 18446744073709551616 xs < 65536 ^ (4 * xs.length) := by rw [pow64]; exact vl_lt hx
theorem d16_len {X n : Nat} (h : X < 65536 ^ (4 * n)) : (dg 65536 X).length ≤ 4 * n := dg_len (by omega) h
theorem d16_add {X Y m n : Nat} (h : X < 65536 ^ (4 * m)) (k : Y < 65536 ^ (4 * n)) : X + Y < 65536 ^ (4 * (m + n + 1)) := by
  have a : 65536 ^ (4 * m) ≤ 65536 ^ (4 * (m + n)) := Nat.pow_le_pow_right (by omega) (by omega)
  have b : 65536 ^ (4 * n) ≤ 65536 ^ (4 * (m + n)) := Nat.pow_le_pow_right (by omega) (by omega)
  have c : 65536 ^ (4 * (m + n + 1)) = 65536 ^ (4 * (m + n)) * 65536 ^ 4 := by rw [show 4 * (m + n + 1) = 4 * (m + n) + 4 by omega, Nat.pow_add]
  have d : 65536 ^ (4 * (m + n)) * 2 ≤ 65536 ^ (4 * (m + n)) * 65536 ^ 4 := Nat.mul_le_mul_left _ (by omega)
  rw [c]; omega
theorem d16_mul {X Y m n : Nat} (h : X < 65536 ^ (4 * m)) (k : Y < 65536 ^ (4 * n)) : X * Y < 65536 ^ (4 * (m + n)) := by
  rw [show 4 * (m + n) = 4 * m + 4 * n by omega, Nat.pow_add]; exact Nat.mul_lt_mul'' h k

theorem nb_half {v : Nat} (h : v ≠ 0) : nb v = nb (v / 2) + 1 := by
  by_cases h1 : v / 2 = 0
  · have : v = 1 := by omega
    subst this; rfl
  · have h2 := (Nat.le_log2 h1).1 (Nat.le_refl _)
    have h3 := (Nat.log2_lt h1).1 (Nat.lt_succ_self _)
    rw [show nb (v / 2) = (v / 2).log2 + 1 by rw [nb, if_neg h1]]
    apply nb_of
    · rw [Nat.pow_succ]; omega
    · rw [Nat.pow_succ]; simp only [Nat.succ_eq_add_one] at h3; omega

end Go.Proofs.YtfgfmempmkjlnaaDoor

/- Whole numbers: the reference's functions on them, by contracts. No condition. -/
namespace Go.Proofs.YtfgfmempmkjlnaaDoor
set_option linter.unusedVariables false
set_option maxRecDepth 8000
open Go Go.Den Go.RowKit Go.Dig

/-- v is a whole number, of the value z, as it is told, wherever it lies. -/
def IntSl (h : Hp) (v : Value) (z : Int) : Prop := ∃ a, v = .agg #[.bool (decide (z < 0)), a] ∧ SlF h U a (dg 18446744073709551616 z.natAbs)
theorem IntOf.sl {h : Hp} {B : Nat} {v : Value} {z : Int} (s : IntOf h B v z) : IntSl h v z := by obtain ⟨a, h1, h2⟩ := s; exact ⟨a, h1, h2.sl⟩
theorem IntSl.ext {h h' : Hp} {v : Value} {z : Int} (s : IntSl h v z) (e : Ext h h') : IntSl h' v z := by obtain ⟨a, h1, h2⟩ := s; exact ⟨a, h1, h2.ext e⟩
theorem int_eq_iff {z w : Int} : z = w ↔ decide (z < 0) = decide (w < 0) ∧ dg 18446744073709551616 z.natAbs = dg 18446744073709551616 w.natAbs := by
  constructor
  · rintro rfl; exact ⟨rfl, rfl⟩
  · rintro ⟨h1, h2⟩
    have := dg_inj (b := 18446744073709551616) (by omega) h2
    simp only [decide_eq_decide] at h1
    omega

end Go.Proofs.YtfgfmempmkjlnaaDoor

/- Package crt: rows of primes, residues, products. Condition of what tests primes: the table of math/bits reads as it is laid. -/
namespace Go.Proofs.YtfgfmempmkjlnaaDoor
set_option linter.unusedVariables false
set_option maxRecDepth 8000
open Go Go.Den Go.RowKit Go.Dig

theorem Tryd_ent96 : Ent Tryd.prog 96 := ent_of Tryd.func96 (by kernel_rfl) rfl
theorem index_spec (v : Value) (xs : List Nat) (x : Nat) (h : Hp) (s : SlF h U v xs) (hl : xs.length < 4611686018427387904) :
    CallsH Tryd.prog 96 [v, U x] h fun v' h' => (∃ i : Int, v' = I i ∧ (0 ≤ i ↔ x ∈ xs)) ∧ h = h' := by
  (apply enter Tryd.func96 rfl Tryd.ntmps96 rfl)
  refine runJ ?_
  (first | (apply w_seqB; exact rfl; apply w_block; exact rfl) | skip)
  apply (w_loop (σ := Nat) rfl (fun j => [(0, v), (1, U x), (7, N xs.length), (8, N j)])
    (fun j h' => h = h' ∧ j ≤ xs.length ∧ x ∉ xs.take j) (fun j => xs.length - j) 0)
  · exact (Sub.cons rfl (Sub.cons rfl (Sub.cons rfl (Sub.cons rfl (Sub.nil _)))))
  · exact ⟨rfl, Nat.zero_le _, by simp⟩
  rintro j h' ⟨rfl, j1, j2⟩
  refine runJ ?_
  (apply w_condD; exact rfl; exact rfl) <;> intro hj
  · obtain ⟨y, hy⟩ := get_lt hj
    refine runJ ?_
    (apply w_condD; exact rfl; exact rfl) <;> intro hxy
    · refine runJ ?_
      exact fin1 rfl rfl ⟨⟨j, rfl, ⟨fun _ => hxy ▸ List.mem_of_getElem? hy, fun _ => by omega⟩⟩, rfl⟩
    · refine runJ ?_
      apply again_normal (j + 1)
      · exact (Sub.cons rfl (Sub.cons rfl (Sub.cons rfl (Sub.cons rfl (Sub.nil _)))))
      · refine ⟨rfl, hj, ?_⟩
        rw [take_snoc hy]
        intro hm
        rcases List.mem_append.1 hm with hm | hm
        · exact j2 hm
        · simp only [List.mem_singleton] at hm; exact hxy hm
      · omega
  · rw [List.take_of_length_le (by omega)] at j2
    refine runJ ?_
    exact fin1 rfl rfl ⟨⟨-1, rfl, ⟨fun h => by omega, fun h => absurd h j2⟩⟩, rfl⟩
theorem Tryd_ent82 : Ent Tryd.prog 82 := ent_of Tryd.func82 (by kernel_rfl) rfl
theorem contains_spec (v : Value) (xs : List Nat) (x : Nat) (h : Hp) (s : SlF h U v xs) (hl : xs.length < 4611686018427387904) :
    CallsH Tryd.prog 82 [v, U x] h fun v' h' => v' = .bool (decide (x ∈ xs)) ∧ h = h' := by
  (apply enter Tryd.func82 rfl Tryd.ntmps82 rfl)
  refine runJ ?_
  apply (s_call Tryd_ent96 rfl rfl rfl)
  refine (index_spec v xs x h s hl).mono ?_
  rintro _ _ ⟨⟨i, rfl, hi⟩, rfl⟩
  refine ⟨(by first | exact trivial | exact trivial), ?_⟩
  refine runJ ?_
  exact fin1 rfl rfl ⟨dec_i hi, rfl⟩

/-- May a row of primes be? -/
def rightP (row : List Nat) : Prop := (∀ q ∈ row, 3 ≤ q ∧ q < 2305843009213693952 ∧ isB q = true) ∧ row.Nodup ∧ 0 < row.length ∧ row.length ≤ 24
instance (row : List Nat) : Decidable (rightP row) := by unfold rightP; exact inferInstance

theorem resid_eq (neg : Bool) (X q : Nat) : (if neg then subm 0 (if q = 0 then 0 else X % q) q else (if q = 0 then 0 else X % q)) = liftm (IV neg X) q := by
  rcases Nat.eq_zero_or_pos q with rfl | hq
  · cases neg <;> simp [subm, liftm]
  · have hq0 : ¬ q = 0 := by omega
    simp only [hq0, if_false]
    cases neg with
    | false =>
      simp only [IV, Bool.false_eq_true, if_false]
      rw [lift_pos (by omega) (by omega), Int.toNat_natCast]
    | true =>
      simp only [IV, if_true]
      rcases Nat.eq_zero_or_pos X with rfl | hX
      · simp [liftm, subm]
      · rw [lift_neg (by omega) (by omega), Int.neg_neg, Int.toNat_natCast]
        unfold subm
        rw [Nat.mod_mod]

def prodL (row : List Nat) : Nat := row.foldl (· * ·) 1
theorem prodL_snoc (row : List Nat) (q : Nat) : prodL (row ++ [q]) = prodL row * q := by unfold prodL; rw [List.foldl_append]; rfl
theorem prodL_lt {row : List Nat} (h : Al 18446744073709551616 row) : prodL row < 18446744073709551616 ^ (row.length + 1) := by
  have key : ∀ (n : Nat), n ≤ row.length → prodL (row.take n) < 18446744073709551616 ^ (n + 1) := by
    intro n
    induction n with
    | zero => intro _; simp [prodL]
    | succ n ih =>
      intro hn
      obtain ⟨q, hq⟩ := get_lt (l := row) (j := n) (by omega)
      have hq64 := h q (List.mem_of_getElem? hq)
      rw [take_snoc hq, prodL_snoc, Nat.pow_succ]
      exact Nat.mul_lt_mul_of_lt_of_lt (ih (by omega)) hq64
  have := key row.length (Nat.le_refl _)
  rwa [List.take_of_length_le (Nat.le_refl _)] at this

theorem Tryd_ent95 : Ent Tryd.prog 95 := ent_of Tryd.func95 (by kernel_rfl) rfl
theorem product_spec (v : Value) (row : List Nat) (h : Hp) (s : SlF h U v row) (hal : Al 18446744073709551616 row) (hl : row.length < 1000000) :
    CallsH Tryd.prog 95 [v] h fun v' h' => Ext h h' ∧ OwnF h' h.size 24 U v' (if row = [] then [1] else dg 18446744073709551616 (prodL row)) := by
  (apply enter Tryd.func95 rfl Tryd.ntmps95 rfl)
  refine runJ ?_
  (apply (s_litF (f := U) [1] (fun _ => rfl)); exact rfl; exact rfl; exact rfl; exact rfl; exact rfl; exact rfl; exact rfl; exact rfl; omega)
  intro w h1 o1 e1 b1
  refine ⟨(by first | exact trivial | exact Ext.refl _ | assumption | exact Ext.trans (by assumption) (by assumption)), ?_⟩
  have s1 := s.ext e1
  refine runJ ?_
  (first | (apply w_seqB; exact rfl; apply w_block; exact rfl) | skip)
  apply (w_loop (σ := Nat × Value) rfl (fun j => [(3, j.2), (7, v), (8, N row.length), (9, N j.1)])
    (fun j h' => Ext h h' ∧ OwnF h' h.size 24 U j.2 (if j.1 = 0 then [1] else dg 18446744073709551616 (prodL (row.take j.1))) ∧ j.1 ≤ row.length) (fun j => row.length - j.1) (0, w))
  · exact (Sub.cons rfl (Sub.cons rfl (Sub.cons rfl (Sub.cons rfl (Sub.nil _)))))
  · exact ⟨e1, o1, Nat.zero_le _⟩
  rintro ⟨j, u⟩ h3 ⟨e3, o3, j1⟩
  dsimp only at e3 o3 j1 ⊢
  have s3 := s.ext e3
  refine runJ ?_
  (apply w_condD; exact rfl; exact rfl) <;> intro hj
  · obtain ⟨q, hq⟩ := get_lt hj
    have hq64 := hal q (List.mem_of_getElem? hq)
    have hv : vl 18446744073709551616 (if j = 0 then [1] else dg 18446744073709551616 (prodL (row.take j))) = prodL (row.take j) := by
      split
      · rename_i h0; subst h0; rfl
      · rw [vl_dg (by decide)]
    have ha : Al 18446744073709551616 (if j = 0 then [1] else dg 18446744073709551616 (prodL (row.take j))) := by
      split
      · intro x hx; simp at hx; omega
      · exact al_dg (by decide) _
    have hln : (if j = 0 then [1] else dg 18446744073709551616 (prodL (row.take j))).length < 1099511627776 := by
      split
      · decide
      · have := dg_len (b := 18446744073709551616) (by decide) (prodL_lt (fun x hx => hal x (List.mem_of_mem_take hx) : Al 18446744073709551616 (row.take j)))
        have h2 : (row.take j).length ≤ row.length := by simp; omega
        omega
    refine runJ ?_
    (apply (s_litF (f := U) [q] (fun _ => rfl)); exact rfl; exact rfl; exact rfl; exact rfl; exact rfl; exact rfl; exact rfl; exact rfl; omega)
    intro w2 h4 o4 e4 b4
    refine ⟨(by first | exact trivial | exact Ext.refl _ | assumption | exact Ext.trans (by assumption) (by assumption)), ?_⟩
    have hqa : Al 18446744073709551616 [q] := fun x hx => by simp only [List.mem_singleton] at hx; subst hx; exact hq64
    refine runJ ?_
    apply (s_call Tryd_ent98 rfl rfl rfl)
    refine (nmul_spec u w2 _ [q] h4 (o3.sl.ext e4) o4.sl ha hqa hln (by simp)).mono ?_
    rintro u' h5 ⟨e5, o5⟩
    refine ⟨(by first | exact trivial | exact trivial), ?_⟩
    have e35 := (e3.trans e4).trans e5
    rw [hv] at o5
    have hq1 : vl 18446744073709551616 [q] = q := by simp [vl]
    rw [hq1, ← prodL_snoc, ← take_snoc hq] at o5
    refine runJ ?_
    apply again_normal (j + 1, u')
    · exact (Sub.cons rfl (Sub.cons rfl (Sub.cons rfl (Sub.cons rfl (Sub.nil _)))))
    · refine ⟨e35, ?_, hj⟩
      rw [if_neg (by omega)]
      exact o5.base (Nat.le_trans e3.1 e4.1)
    · dsimp only; omega
  · have hjl : j = row.length := by omega
    subst hjl
    rw [List.take_of_length_le (Nat.le_refl _)] at o3
    refine runJ ?_
    refine fin1 rfl rfl ⟨e3, ?_⟩
    simpa [List.length_eq_zero_iff] using o3
end Go.Proofs.YtfgfmempmkjlnaaDoor

/- Own calculus, part M: arrays of ints, built and compared. No condition. -/
namespace Go.Den
set_option linter.unusedVariables false
set_option maxRecDepth 8000
open Go Go.RowKit

theorem run_part {P : Program} {e : TypeId} {cs : List Value} {off : Nat} {u : Value} {w : World} (ht : plainTy P e = true) (hj : cs[off]? = some u) : (part e cs.toArray off).run P w = .ok u w := by
  simp [part, run_isAgg_plain ht, hj]
theorem eqItems_ints {P : Program} {w : World} {e : TypeId} {xs ys : List Int} (d : Nat) (he : P.underlying e = some (.int .i64)) (hp : plainTy P e = true) (hl : xs.length = ys.length) : ∀ (k j : Nat), j + k = xs.length →
    (Op.eqItems (d + 1) e 1 (xs.map I).toArray (ys.map I).toArray (List.range' j k)).run P w = .ok (decide (xs.drop j = ys.drop j)) w
  | 0, j, h => by
    rw [List.drop_of_length_le (by omega), List.drop_of_length_le (by omega)]
    simp [Op.eqItems]
  | k + 1, j, h => by
    have hx : xs[j]? = some xs[j] := List.getElem?_eq_getElem (by omega)
    have hy : ys[j]? = some ys[j] := List.getElem?_eq_getElem (by omega)
    have p1 := run_part (P := P) (w := w) hp (show (xs.map I)[j]? = some (I xs[j]) by rw [List.getElem?_map, hx]; rfl)
    have p2 := run_part (P := P) (w := w) hp (show (ys.map I)[j]? = some (I ys[j]) by rw [List.getElem?_map, hy]; rfl)
    have p3 := run_equalIn_int (P := P) w d e .i64 .i64 xs[j] ys[j] he
    have ih := eqItems_ints (w := w) d he hp hl k (j + 1) (by omega)
    rw [List.range'_succ]
    simp only [Op.eqItems, Sem.run_bind, Nat.mul_one, p1, p2, p3, Result.andThen_ok]
    rw [show xs.drop j = xs[j] :: xs.drop (j + 1) from List.drop_eq_getElem_cons (by omega), show ys.drop j = ys[j] :: ys.drop (j + 1) from List.drop_eq_getElem_cons (by omega)]
    by_cases hq : xs[j] = ys[j]
    · rw [hq]
      simp only [beq_self_eq_true, Bool.not_true, Bool.false_eq_true, if_false, ih]
      simp [-List.getElem_cons_drop]
    · have : (xs[j] == ys[j]) = false := by simpa using hq
      have hne : ¬ (xs[j] :: xs.drop (j + 1) = ys[j] :: ys.drop (j + 1)) := fun e => hq (List.cons.inj e).1
      rw [this, decide_eq_false hne]
      simp

section rules
variable {P : Program} {n : Nat} {Q : Post} {l : Fr} {h : Hp} {ops : List Oper} {Ch : Hp → Prop} {E : Nat → Bool} {i : Nat}
variable {d : Nat} {t : TypeId} {x y z : Operand}
/-- Two arrays of ints. -/
theorem s_eqArr {yt e : TypeId} {m : Nat} (xs ys : List Int) (hx : ev l x = some (.agg (xs.map I).toArray)) (hy : ev l y = some (.agg (ys.map I).toArray)) (ht : P.underlying t = some (.array m e)) (he : P.underlying e = some (.int .i64)) (hs : (P.info? e).map (·.size) = some 1) (hp : plainTy P e = true) (hm : P.eqGuardType P.depth t = false) (hlx : xs.length = m) (hly : ys.length = m) (hb : Nat.blt d n = true)
    (k : S P n ops Ch E Q (i + 1) ((d, .bool (decide (xs = ys))) :: l) h) : O P n ops Ch E Q i d (.binOp .eql t x y yt) l h :=
  s_bin hx hy hb (fun w' => by
    cases hi : P.info? e with
    | none => rw [hi] at hs; cases hs
    | some inf =>
      rw [hi] at hs
      simp only [Option.map_some, Option.some.injEq] at hs
      have hc : P.cellsOf e = 1 := by unfold Program.cellsOf; rw [hi]; exact hs
      have h1 := eqItems_ints (P := P) (w := w') 9998 he hp (by rw [hlx, hly]) m 0 (by omega) (xs := xs) (ys := ys)
      rw [Sem.run_bind, run_eqGuard_agg (P := P) w' .eql t x y _ _ hm, Result.andThen_ok, run_eql_struct (P := P) w' t, run_equalIn_array (P := P) w' 9999 _ _ ht hi, hc, List.range_eq_range', h1]
      simp) k
theorem s_buildArr {m s : Nat} {e : TypeId} {parts : Array (Nat × Operand)} {vs : List Value} {css : List (List Value)} (cs : List Value) (he : evs l (parts.toList.map (·.2)) = some vs) (ht : P.underlying t = some (.array m e)) (hs : (P.info? e).map (·.size) = some s) {zs : List Value} (hi : (P.info? t).bind (fun i => i.zero.map fun z => z.cells.toList) = some zs)
    (hc : CellsAll vs css) (hcs : fillP (fun i => some (i * s, s)) zs ((parts.toList.map (·.1)).zip css) = some cs) (hb : Nat.blt d n = true)
    (k : S P n ops Ch E Q (i + 1) ((d, .agg cs.toArray) :: l) h) : O P n ops Ch E Q i d (.build t parts) l h :=
  s_pure hb (fun a w' hf => by
    cases hq : P.info? t with
    | none => rw [hq] at hi; cases hi
    | some inf =>
      rw [hq] at hi
      simp only [Option.bind_some] at hi
      cases hz : inf.zero with
      | none => rw [hz] at hi; cases hi
      | some z =>
        rw [hz] at hi
        simp only [Option.map_some, Option.some.injEq] at hi
        cases hq2 : P.info? e with
        | none => rw [hq2] at hs; cases hs
        | some inf2 =>
          rw [hq2] at hs
          simp only [Option.map_some, Option.some.injEq] at hs
          have hpa : (parts.map fun (i, x) => (i, a.eval x)) = ((parts.toList.map (·.1)).zip vs).toArray := by
            apply Array.ext'
            rw [← hf.evs he, Array.toList_map, List.map_map, List.zip_map']; rfl
          have hzip : ((parts.toList.map (·.1)).zip vs).map (fun x => (x.1, x.2.cells.toList)) = (parts.toList.map (·.1)).zip css := by
            rw [← hc.eq, List.zip_map_right]
            first | done | rfl
          have hfl := fill_fillP (place := fun i => some (i * s, s)) ((parts.toList.map (·.1)).zip vs) zs cs (hzip ▸ hcs)
          have e1 : z.cells = zs.toArray := by rw [← hi]
          have hr : (Instr.build t ((parts.toList.map (·.1)).zip vs).toArray).run P w' = .ok (.agg cs.toArray) w' := by
            simp [Instr.build, zeroValue, typeInfo, hq, hz, run_underlying ht, sizeOf, hq2, hs, e1, hfl]
          simp only [execOp, hpa, Sem.run_bind, hr]; rfl) k
end rules
end Go.Den

/- Walking rules: min of two words or ints, and what is told of a slot. No condition. -/
namespace Go.Den
set_option linter.unusedVariables false
set_option maxRecDepth 8000
open Go Go.RowKit

section rules
variable {P : Program} {n : Nat} {Q : Post} {l : Fr} {h : Hp} {ops : List Oper} {Ch : Hp → Prop} {E : Nat → Bool} {i d : Nat} {x y : Operand} {ts : Array TypeId}
theorem s_minU {a b : Nat} (hx : IsK (ev l x) .u64 a) (hy : IsK (ev l y) .u64 b) (hb : Nat.blt d n = true)
    (k : S P n ops Ch E Q (i + 1) ((d, U (min a b)) :: l) h) : O P n ops Ch E Q i d (.call ⟨.builtin .min, #[x, y], ts⟩) l h :=
  s_pure hb (fun A w' hf => by
    have e : (if b < a then (b : Int) else (a : Int)) = ((min a b : Nat) : Int) := by
      split <;> omega
    simp [execOp, resolve, invoke, builtin, hf.ev hx.h, hf.ev hy.h, Builtin.min_, Builtin.min2, e]) k
theorem s_minI {a b : Int} (hx : ev l x = some (I a)) (hy : ev l y = some (I b)) (hb : Nat.blt d n = true)
    (k : S P n ops Ch E Q (i + 1) ((d, I (min a b)) :: l) h) : O P n ops Ch E Q i d (.call ⟨.builtin .min, #[x, y], ts⟩) l h :=
  s_pure hb (fun A w' hf => by
    have e : (if b < a then b else a) = min a b := by
      split <;> omega
    simp [execOp, resolve, invoke, builtin, hf.ev hx, hf.ev hy, Builtin.min_, Builtin.min2, e]) k
end rules
end Go.Den

/- Sums, congruence, transforms: no program. No condition. -/
namespace Go.Mth

/-- Congruent modulo q. -/
def Cg (q a b : Int) : Prop := ∃ k, a = b + q * k
section
variable {q a b c d : Int}
theorem Cg.refl (q a : Int) : Cg q a a := ⟨0, by omega⟩
theorem Cg.of_eq (h : a = b) : Cg q a b := ⟨0, by omega⟩
theorem Cg.symm (h : Cg q a b) : Cg q b a := by
  obtain ⟨k, h⟩ := h
  exact ⟨-k, by rw [h, Int.mul_neg]; omega⟩
theorem Cg.trans (h : Cg q a b) (k : Cg q b c) : Cg q a c := by
  obtain ⟨x, h⟩ := h
  obtain ⟨y, k⟩ := k
  exact ⟨x + y, by rw [h, k, Int.mul_add]; omega⟩
theorem Cg.add (h : Cg q a b) (k : Cg q c d) : Cg q (a + c) (b + d) := by
  obtain ⟨x, h⟩ := h
  obtain ⟨y, k⟩ := k
  exact ⟨x + y, by rw [h, k, Int.mul_add]; omega⟩
theorem Cg.neg (h : Cg q a b) : Cg q (-a) (-b) := by
  obtain ⟨x, h⟩ := h
  exact ⟨-x, by rw [h, Int.mul_neg]; omega⟩
theorem Cg.sub (h : Cg q a b) (k : Cg q c d) : Cg q (a - c) (b - d) := by
  rw [Int.sub_eq_add_neg, Int.sub_eq_add_neg]; exact h.add k.neg
theorem Cg.mul (h : Cg q a b) (k : Cg q c d) : Cg q (a * c) (b * d) := by
  obtain ⟨x, h⟩ := h
  obtain ⟨y, k⟩ := k
  refine ⟨b * y + x * d + x * q * y, ?_⟩
  subst h; subst k; grind
theorem Cg.pow (h : Cg q a b) : ∀ n : Nat, Cg q (a ^ n) (b ^ n)
  | 0 => by rw [Int.pow_zero, Int.pow_zero]; exact Cg.refl _ _
  | n + 1 => by rw [Int.pow_succ, Int.pow_succ]; exact (h.pow n).mul h
theorem Cg.mod (q a : Int) : Cg q (a % q) a := ⟨-(a / q), by have := Int.emod_add_mul_ediv a q; rw [Int.mul_neg]; omega⟩
theorem Cg.q0 (q : Int) : Cg q q 0 := ⟨1, by omega⟩
theorem Cg.eq (h : Cg q a b) (h1 : 0 ≤ a) (h2 : a < q) (h3 : 0 ≤ b) (h4 : b < q) : a = b := by
  obtain ⟨k, h⟩ := h
  have : k = 0 := by
    rcases Int.lt_trichotomy k 0 with hk | hk | hk
    · have := Int.mul_le_mul_of_nonneg_left (show k ≤ -1 by omega) (show 0 ≤ q by omega)
      omega
    · exact hk
    · have := Int.mul_le_mul_of_nonneg_left (show 1 ≤ k by omega) (show 0 ≤ q by omega)
      omega
  subst this
  omega
theorem Cg.eqN {q a b : Nat} (h : Cg q a b) (h2 : a < q) (h4 : b < q) : a = b := by
  have := h.eq (by omega) (by omega) (by omega) (by omega)
  omega
end

/-- Sums. -/
def sm : Nat → (Nat → Int) → Int
  | 0, _ => 0
  | n + 1, f => sm n f + f n
theorem sm_congr {f g : Nat → Int} : ∀ n, (∀ j, j < n → f j = g j) → sm n f = sm n g
  | 0, _ => rfl
  | n + 1, h => by unfold sm; rw [sm_congr n fun j hj => h j (by omega), h n (by omega)]
theorem sm_cg {q : Int} {f g : Nat → Int} : ∀ n, (∀ j, j < n → Cg q (f j) (g j)) → Cg q (sm n f) (sm n g)
  | 0, _ => Cg.refl _ _
  | n + 1, h => by unfold sm; exact (sm_cg n fun j hj => h j (by omega)).add (h n (by omega))
theorem sm_add {f g : Nat → Int} : ∀ n, sm n (fun j => f j + g j) = sm n f + sm n g
  | 0 => rfl
  | n + 1 => by unfold sm; rw [sm_add n]; dsimp only; omega
theorem sm_sub {f g : Nat → Int} : ∀ n, sm n (fun j => f j - g j) = sm n f - sm n g
  | 0 => rfl
  | n + 1 => by unfold sm; rw [sm_sub n]; dsimp only; omega
theorem sm_mul {f : Nat → Int} (c : Int) : ∀ n, sm n (fun j => c * f j) = c * sm n f
  | 0 => by unfold sm; rw [Int.mul_zero]
  | n + 1 => by unfold sm; rw [sm_mul c n, Int.mul_add]
theorem sm_mulR {f : Nat → Int} (c : Int) (n : Nat) : sm n (fun j => f j * c) = sm n f * c := by
  rw [Int.mul_comm, ← sm_mul]; exact sm_congr n fun j _ => Int.mul_comm _ _
theorem sm_zero : ∀ n, sm n (fun _ => 0) = 0
  | 0 => rfl
  | n + 1 => by unfold sm; rw [sm_zero n]; rfl
theorem sm_one : ∀ n : Nat, sm n (fun _ => 1) = n
  | 0 => rfl
  | n + 1 => by unfold sm; rw [sm_one n]; dsimp only; omega
theorem sm_app {f : Nat → Int} (m : Nat) : ∀ n, sm (m + n) f = sm m f + sm n (fun j => f (m + j))
  | 0 => by rw [Nat.add_zero]; show _ = sm m f + 0; omega
  | n + 1 => by
    show sm (m + n) f + f (m + n) = sm m f + (sm n (fun j => f (m + j)) + f (m + n))
    rw [sm_app m n]; omega
theorem sm_two {f : Nat → Int} : ∀ n, sm (2 * n) f = sm n (fun j => f (2 * j)) + sm n (fun j => f (2 * j + 1))
  | 0 => rfl
  | n + 1 => by
    rw [show 2 * (n + 1) = 2 * n + 1 + 1 by omega]
    show sm (2 * n) f + f (2 * n) + f (2 * n + 1) = (sm n (fun j => f (2 * j)) + f (2 * n)) + (sm n (fun j => f (2 * j + 1)) + f (2 * n + 1))
    rw [sm_two n]; omega
theorem sm_swap {f : Nat → Nat → Int} (m : Nat) : ∀ n, sm n (fun i => sm m (f i)) = sm m (fun j => sm n (fun i => f i j))
  | 0 => by simp only [sm]; rw [sm_zero]
  | n + 1 => by
    show sm n (fun i => sm m (f i)) + sm m (f n) = sm m (fun j => sm n (fun i => f i j) + f n j)
    rw [sm_swap m n, sm_add]
/-- One term alone. -/
theorem sm_single {f : Nat → Int} {i : Nat} : ∀ n, i < n → (∀ j, j < n → j ≠ i → f j = 0) → sm n f = f i
  | 0, h, _ => by omega
  | n + 1, h, k => by
    unfold sm
    by_cases hi : i = n
    · subst hi
      rw [sm_congr i (g := fun _ => 0) fun j hj => k j (by omega) (by omega), sm_zero]; omega
    · rw [sm_single n (by omega) fun j hj hne => k j (by omega) hne, k n (by omega) (by omega)]; omega

/-- What turns below 0 every h terms adds up to 0. -/
theorem sm_alt {q : Int} {f : Nat → Int} {h : Nat} (k : ∀ j, Cg q (f (h + j)) (-(f j))) : ∀ M, Cg q (sm (h * (2 * M)) f) 0
  | 0 => Cg.refl _ _
  | M + 1 => by
    rw [show h * (2 * (M + 1)) = h * (2 * M) + (h + h) by rw [show 2 * (M + 1) = 2 * M + 1 + 1 by omega, Nat.mul_add, Nat.mul_add]; omega, sm_app, sm_app h h]
    have k2 : ∀ m j, Cg q (f (h * (2 * m) + j)) (f j) := by
      intro m
      induction m with
      | zero => intro j; exact Cg.of_eq (congrArg f (by simp))
      | succ m ih =>
        intro j
        rw [show h * (2 * (m + 1)) + j = h + (h + (h * (2 * m) + j)) by rw [show 2 * (m + 1) = 2 * m + 1 + 1 by omega, Nat.mul_add, Nat.mul_add]; omega]
        exact ((k _).trans (k _).neg).trans ((Cg.of_eq (Int.neg_neg _)).trans (ih j))
    have e1 : Cg q (sm h (fun j => f (h * (2 * M) + j))) (sm h f) := sm_cg h fun j _ => k2 M j
    have e2 : Cg q (sm h (fun j => f (h * (2 * M) + (h + j)))) (-(sm h f)) := by
      have := sm_cg (q := q) (f := fun j => f (h * (2 * M) + (h + j))) (g := fun j => (-1) * f j) h fun j _ => (k2 M _).trans ((k j).trans (Cg.of_eq (by omega)))
      rw [sm_mul] at this
      exact this.trans (Cg.of_eq (by omega))
    have := (sm_alt k M).add (e1.add e2)
    exact this.trans (Cg.of_eq (by omega))

/-- A number of the kind 2^v times an odd one. -/
theorem two_odd : ∀ (L d : Nat), 0 < d → d < 2 ^ L → ∃ v o, v < L ∧ d = 2 ^ v * (2 * o + 1)
  | 0, d, h, k => by rw [Nat.pow_zero] at k; omega
  | L + 1, d, h, k => by
    by_cases hd : d % 2 = 1
    · exact ⟨0, d / 2, by omega, by rw [Nat.pow_zero]; omega⟩
    · obtain ⟨v, o, h1, h2⟩ := two_odd L (d / 2) (by omega) (by rw [Nat.pow_succ] at k; omega)
      exact ⟨v + 1, o, by omega, by rw [Nat.pow_succ, Nat.mul_comm _ 2, Nat.mul_assoc, ← h2]; omega⟩

theorem pow_odd {q w : Int} {n : Nat} (hw : Cg q (w ^ n) (-1)) (o : Nat) : Cg q (w ^ (n * (2 * o + 1))) (-1) := by
  rw [Int.pow_mul]
  refine (hw.pow _).trans (Cg.of_eq ?_)
  rw [Int.pow_succ, Int.pow_mul]; simp [Int.one_pow]

/-- Sums of powers of a root of one are 0. -/
theorem sm_root {q w : Int} {L d e : Nat} (hw : Cg q (w ^ (2 ^ L)) (-1)) (h0 : 0 < d) (hd : d < 2 ^ L) : Cg q (sm (2 ^ L) fun k => w ^ (d * (2 * k + e))) 0 := by
  obtain ⟨v, o, h1, h2⟩ := two_odd L d h0 hd
  obtain ⟨m, rfl⟩ : ∃ m, L = v + (m + 1) := ⟨L - v - 1, by omega⟩
  have := sm_alt (q := q) (f := fun k => w ^ (d * (2 * k + e))) (h := 2 ^ m) (fun j => by
    show Cg q (w ^ (d * (2 * (2 ^ m + j) + e))) (-(w ^ (d * (2 * j + e))))
    rw [show d * (2 * (2 ^ m + j) + e) = 2 ^ (v + (m + 1)) * (2 * o + 1) + d * (2 * j + e) by
      rw [show 2 * (2 ^ m + j) + e = 2 * 2 ^ m + (2 * j + e) by omega, Nat.mul_add]
      congr 1
      rw [h2, Nat.pow_add, Nat.pow_succ, Nat.mul_comm (2 ^ m) 2, Nat.mul_assoc, Nat.mul_assoc, Nat.mul_comm (2 * o + 1)], Int.pow_add]
    exact ((pow_odd hw o).mul (Cg.refl _ _)).trans (Cg.of_eq (by omega))) (2 ^ v)
  rw [show 2 ^ m * (2 * 2 ^ v) = 2 ^ (v + (m + 1)) by rw [Nat.pow_add, Nat.pow_succ, Nat.mul_comm 2, ← Nat.mul_assoc, Nat.mul_comm (2 ^ m), Nat.mul_assoc]] at this
  exact this

/-- The values of a polynomial at the odd powers of w; and the polynomial of values. -/
def dft (n : Nat) (w : Int) (a : Nat → Int) (k : Nat) : Int := sm n fun j => a j * w ^ (j * (2 * k + 1))
def idft (n : Nat) (u p : Int) (v : Nat → Int) (i : Nat) : Int := p * (u ^ i * sm n fun k => v k * u ^ (2 * (i * k)))
theorem dft_cg {q w : Int} {n : Nat} {a b : Nat → Int} (h : ∀ j, j < n → Cg q (a j) (b j)) (k : Nat) : Cg q (dft n w a k) (dft n w b k) :=
  sm_cg n fun j hj => (h j hj).mul (Cg.refl _ _)
theorem idft_cg {q u p : Int} {n : Nat} {a b : Nat → Int} (h : ∀ j, j < n → Cg q (a j) (b j)) (i : Nat) : Cg q (idft n u p a i) (idft n u p b i) :=
  (Cg.refl _ _).mul ((Cg.refl _ _).mul (sm_cg n fun j hj => (h j hj).mul (Cg.refl _ _)))

section
variable {q w u p : Int} {L : Nat}
theorem uw_pow (huw : Cg q (u * w) 1) (i : Nat) : Cg q (u ^ i * w ^ i) 1 := by
  rw [← Int.mul_pow]; exact (huw.pow i).trans (Cg.of_eq Int.one_pow)
theorem u_root (huw : Cg q (u * w) 1) {n : Nat} (hw : Cg q (w ^ n) (-1)) : Cg q (u ^ n) (-1) := by
  have h1 := uw_pow huw n
  have h2 := (Cg.refl q (u ^ n)).mul hw
  exact ((Cg.of_eq (by omega)).trans (h2.symm.trans h1).neg)

/-- (u^i w^j)^(2k+1), i and j unlike. -/
theorem sm_uw (hw : Cg q (w ^ (2 ^ L)) (-1)) (huw : Cg q (u * w) 1) {i j : Nat} (hi : i < 2 ^ L) (hj : j < 2 ^ L) (hne : j ≠ i) (e : Nat) : Cg q (sm (2 ^ L) fun k => u ^ (i * (2 * k + e)) * w ^ (j * (2 * k + e))) 0 := by
  rcases Nat.lt_or_gt_of_ne hne with h | h
  · obtain ⟨d, rfl⟩ : ∃ d, i = d + j := ⟨i - j, by omega⟩
    refine (sm_cg _ fun k _ => ?_).trans (sm_root (u_root huw hw) (d := d) (e := e) (by omega) (by omega))
    rw [Nat.add_mul, Int.pow_add, Int.mul_assoc]
    exact ((Cg.refl _ _).mul (uw_pow huw _)).trans (Cg.of_eq (Int.mul_one _))
  · obtain ⟨d, rfl⟩ : ∃ d, j = d + i := ⟨j - i, by omega⟩
    refine (sm_cg _ fun k _ => ?_).trans (sm_root hw (d := d) (e := e) (by omega) (by omega))
    rw [Nat.add_mul, Int.pow_add, Int.mul_comm (w ^ _), ← Int.mul_assoc]
    exact ((uw_pow huw _).mul (Cg.refl _ _)).trans (Cg.of_eq (Int.one_mul _))

theorem idft_dft (hw : Cg q (w ^ (2 ^ L)) (-1)) (huw : Cg q (u * w) 1) (hp : Cg q (((2 ^ L : Nat) : Int) * p) 1) (a : Nat → Int) {i : Nat} (hi : i < 2 ^ L) :
    Cg q (idft (2 ^ L) u p (dft (2 ^ L) w a) i) (a i) := by
  unfold idft dft
  have e : u ^ i * sm (2 ^ L) (fun k => sm (2 ^ L) (fun j => a j * w ^ (j * (2 * k + 1))) * u ^ (2 * (i * k)))
      = sm (2 ^ L) fun j => a j * sm (2 ^ L) fun k => u ^ (i * (2 * k + 1)) * w ^ (j * (2 * k + 1)) := by
    rw [← sm_mul]
    rw [sm_congr (2 ^ L) (g := fun k => sm (2 ^ L) fun j => a j * (u ^ (i * (2 * k + 1)) * w ^ (j * (2 * k + 1)))) (fun k _ => by
      rw [← sm_mulR, ← sm_mul]
      refine sm_congr _ fun j _ => ?_
      rw [show i * (2 * k + 1) = 2 * (i * k) + i by rw [Nat.mul_add, Nat.mul_one, Nat.mul_left_comm], Int.pow_add]
      grind), sm_swap]
    exact sm_congr _ fun j _ => sm_mul _ _
  rw [e]
  have hs : Cg q (sm (2 ^ L) fun j => a j * sm (2 ^ L) fun k => u ^ (i * (2 * k + 1)) * w ^ (j * (2 * k + 1))) (a i * ((2 ^ L : Nat) : Int)) := by
    have := sm_single (f := fun j => if j = i then a i * ((2 ^ L : Nat) : Int) else 0) (i := i) (2 ^ L) hi (fun j _ hne => by simp [hne])
    simp only [if_true] at this
    rw [← this]
    refine sm_cg _ fun j hj => ?_
    by_cases hji : j = i
    · subst hji
      rw [if_pos rfl]
      refine (Cg.refl _ _).mul ?_
      rw [← sm_one]
      exact sm_cg _ fun k _ => uw_pow huw _
    · rw [if_neg hji]
      exact ((Cg.refl _ _).mul (sm_uw hw huw hi hj hji 1)).trans (Cg.of_eq (Int.mul_zero _))
  refine ((Cg.refl q p).mul hs).trans ?_
  refine (Cg.of_eq (show p * (a i * ((2 ^ L : Nat) : Int)) = a i * (((2 ^ L : Nat) : Int) * p) by grind)).trans (((Cg.refl q (a i)).mul hp).trans (Cg.of_eq (Int.mul_one _)))

theorem dft_idft (hw : Cg q (w ^ (2 ^ L)) (-1)) (huw : Cg q (u * w) 1) (hp : Cg q (((2 ^ L : Nat) : Int) * p) 1) (v : Nat → Int) {k : Nat} (hk : k < 2 ^ L) :
    Cg q (dft (2 ^ L) w (idft (2 ^ L) u p v) k) (v k) := by
  unfold idft dft
  have e : sm (2 ^ L) (fun j => p * (u ^ j * sm (2 ^ L) fun i => v i * u ^ (2 * (j * i))) * w ^ (j * (2 * k + 1)))
      = p * sm (2 ^ L) fun i => v i * sm (2 ^ L) fun j => u ^ (j * (2 * i + 1)) * w ^ (j * (2 * k + 1)) := by
    rw [sm_congr (2 ^ L) (g := fun j => p * sm (2 ^ L) fun i => v i * (u ^ (j * (2 * i + 1)) * w ^ (j * (2 * k + 1)))) (fun j _ => by
      rw [Int.mul_assoc]
      congr 1
      rw [← sm_mul, ← sm_mulR]
      refine sm_congr _ fun i _ => ?_
      rw [show j * (2 * i + 1) = 2 * (j * i) + j by rw [Nat.mul_add, Nat.mul_one, Nat.mul_left_comm], Int.pow_add]
      grind), sm_mul, sm_swap]
    exact congrArg _ (sm_congr _ fun j _ => sm_mul _ _)
  rw [e]
  have hs : Cg q (sm (2 ^ L) fun i => v i * sm (2 ^ L) fun j => u ^ (j * (2 * i + 1)) * w ^ (j * (2 * k + 1))) (v k * ((2 ^ L : Nat) : Int)) := by
    have := sm_single (f := fun j => if j = k then v k * ((2 ^ L : Nat) : Int) else 0) (i := k) (2 ^ L) hk (fun j _ hne => by simp [hne])
    simp only [if_true] at this
    rw [← this]
    refine sm_cg _ fun i hi => ?_
    by_cases hik : i = k
    · subst hik
      rw [if_pos rfl]
      refine (Cg.refl _ _).mul ?_
      rw [← sm_one]
      exact sm_cg _ fun j _ => uw_pow huw _
    · rw [if_neg hik]
      refine ((Cg.refl _ _).mul ?_).trans (Cg.of_eq (Int.mul_zero _))
      rcases Nat.lt_or_gt_of_ne hik with h | h
      · obtain ⟨d, rfl⟩ : ∃ d, k = d + i := ⟨k - i, by omega⟩
        refine (sm_cg _ fun j _ => ?_).trans (sm_root hw (d := d) (e := 0) (by omega) (by omega))
        rw [show j * (2 * (d + i) + 1) = d * (2 * j + 0) + j * (2 * i + 1) by grind, Int.pow_add, Int.mul_comm (w ^ _), ← Int.mul_assoc]
        exact ((uw_pow huw _).mul (Cg.refl _ _)).trans (Cg.of_eq (Int.one_mul _))
      · obtain ⟨d, rfl⟩ : ∃ d, i = d + k := ⟨i - k, by omega⟩
        refine (sm_cg _ fun j _ => ?_).trans (sm_root (u_root huw hw) (d := d) (e := 0) (by omega) (by omega))
        rw [show j * (2 * (d + k) + 1) = d * (2 * j + 0) + j * (2 * k + 1) by grind, Int.pow_add, Int.mul_assoc]
        exact ((Cg.refl _ _).mul (uw_pow huw _)).trans (Cg.of_eq (Int.mul_one _))
  refine ((Cg.refl q p).mul hs).trans ?_
  refine (Cg.of_eq (show p * (v k * ((2 ^ L : Nat) : Int)) = v k * (((2 ^ L : Nat) : Int) * p) by grind)).trans (((Cg.refl q (v k)).mul hp).trans (Cg.of_eq (Int.mul_one _)))
end

/-! ### The transform in steps -/

/-- The last L bits turned round. -/
def rev : Nat → Nat → Nat
  | 0, _ => 0
  | L + 1, i => rev L (i / 2) + i % 2 * 2 ^ L
theorem rev_lt : ∀ L i, rev L i < 2 ^ L
  | 0, i => by unfold rev; decide
  | L + 1, i => by
    unfold rev
    have h1 := rev_lt L (i / 2)
    have h2 : i % 2 * 2 ^ L ≤ 1 * 2 ^ L := Nat.mul_le_mul_right _ (by omega)
    rw [Nat.pow_succ]; omega
theorem rev_even (L c : Nat) : rev (L + 1) (2 * c) = rev L c := by
  show rev L (2 * c / 2) + 2 * c % 2 * 2 ^ L = rev L c
  rw [show 2 * c / 2 = c by omega, show 2 * c % 2 = 0 by omega]; omega
theorem rev_odd (L c : Nat) : rev (L + 1) (2 * c + 1) = rev L c + 2 ^ L := by
  show rev L ((2 * c + 1) / 2) + (2 * c + 1) % 2 * 2 ^ L = rev L c + 2 ^ L
  rw [show (2 * c + 1) / 2 = c by omega, show (2 * c + 1) % 2 = 1 by omega]; omega
theorem rev_top (b : Nat) (hb : b ≤ 1) : ∀ L i, i < 2 ^ L → rev (L + 1) (b * 2 ^ L + i) = 2 * rev L i + b
  | 0, i, h => by
    obtain rfl : i = 0 := by rw [Nat.pow_zero] at h; omega
    show 0 + (b * 2 ^ 0 + 0) % 2 * 2 ^ 0 = 2 * 0 + b
    rw [Nat.pow_zero]; omega
  | L + 1, i, h => by
    have ih := rev_top b hb L (i / 2) (by rw [Nat.pow_succ] at h; omega)
    show rev (L + 1) ((b * 2 ^ (L + 1) + i) / 2) + (b * 2 ^ (L + 1) + i) % 2 * 2 ^ (L + 1) = 2 * (rev L (i / 2) + i % 2 * 2 ^ L) + b
    have e : b * 2 ^ (L + 1) = 2 * (b * 2 ^ L) := by rw [Nat.pow_succ, Nat.mul_left_comm, Nat.mul_comm (2 ^ L), Nat.mul_left_comm]; grind
    rw [show (b * 2 ^ (L + 1) + i) / 2 = b * 2 ^ L + i / 2 by omega, show (b * 2 ^ (L + 1) + i) % 2 = i % 2 by omega, ih, Nat.pow_succ, Nat.mul_add]
    grind
theorem rev_rev : ∀ L i, i < 2 ^ L → rev L (rev L i) = i
  | 0, i, h => by
    rw [Nat.pow_zero] at h
    show 0 = i
    omega
  | L + 1, i, h => by
    show rev (L + 1) (rev L (i / 2) + i % 2 * 2 ^ L) = i
    rw [Nat.add_comm (rev L (i / 2)), rev_top (i % 2) (by omega) L _ (rev_lt _ _), rev_rev L (i / 2) (by rw [Nat.pow_succ] at h; omega)]
    omega

theorem step_lo (w : Int) (a : Nat → Int) (m t r k : Nat) :
    sm m (fun j => a (r + j * (2 * t)) * w ^ (2 * (2 * t) * (k * j))) + sm m (fun j => a (r + t + j * (2 * t)) * w ^ (2 * (2 * t) * (k * j))) * w ^ (k * (2 * t))
      = sm (2 * m) fun j => a (r + j * t) * w ^ (2 * t * (k * j)) := by
  rw [sm_two, ← sm_mulR]
  congr 1
  · refine sm_congr _ fun j _ => ?_
    rw [show 2 * j * t = j * (2 * t) by grind, show 2 * t * (k * (2 * j)) = 2 * (2 * t) * (k * j) by grind]
  · refine sm_congr _ fun j _ => ?_
    rw [show r + (2 * j + 1) * t = r + t + j * (2 * t) by grind, show 2 * t * (k * (2 * j + 1)) = 2 * (2 * t) * (k * j) + k * (2 * t) by grind, Int.pow_add, Int.mul_assoc]

theorem step_hi {q w : Int} (a : Nat → Int) (m t r k : Nat) (hw : Cg q (w ^ (2 * t * m)) (-1)) :
    Cg q (sm m (fun j => a (r + j * (2 * t)) * w ^ (2 * (2 * t) * (k * j))) - sm m (fun j => a (r + t + j * (2 * t)) * w ^ (2 * (2 * t) * (k * j))) * w ^ (k * (2 * t)))
      (sm (2 * m) fun j => a (r + j * t) * w ^ (2 * t * ((k + m) * j))) := by
  rw [sm_two, ← sm_mulR, Int.sub_eq_add_neg]
  refine Cg.add ?_ ?_
  · refine sm_cg _ fun j _ => ?_
    rw [show 2 * j * t = j * (2 * t) by grind, show 2 * t * ((k + m) * (2 * j)) = 2 * (2 * t) * (k * j) + 2 * t * m * (2 * j) by grind, Int.pow_add]
    refine (Cg.refl _ _).mul ((Cg.of_eq (Int.mul_one _).symm).trans ((Cg.refl _ _).mul ?_))
    rw [Int.pow_mul]
    refine Cg.symm ((hw.pow _).trans (Cg.of_eq ?_))
    rw [Int.pow_mul]; simp [Int.one_pow]
  · rw [show ∀ x : Int, -x = (-1) * x by intro x; omega, ← sm_mul]
    refine sm_cg _ fun j _ => ?_
    rw [show r + (2 * j + 1) * t = r + t + j * (2 * t) by grind, show 2 * t * ((k + m) * (2 * j + 1)) = 2 * (2 * t) * (k * j) + k * (2 * t) + 2 * t * m * (2 * j + 1) by grind, Int.pow_add, Int.pow_add]
    refine (Cg.of_eq (show (-1) * (a (r + t + j * (2 * t)) * w ^ (2 * (2 * t) * (k * j)) * w ^ (k * (2 * t))) = a (r + t + j * (2 * t)) * (w ^ (2 * (2 * t) * (k * j)) * w ^ (k * (2 * t)) * (-1)) by grind)).trans ?_
    exact (Cg.refl _ _).mul ((Cg.refl _ _).mul (pow_odd hw j).symm)

/-- How things stand after s steps. -/
def Std (q w : Int) (L : Nat) (a : Nat → Int) (s : Nat) (A : Nat → Int) : Prop :=
  ∀ c k, c < 2 ^ (L - s) → k < 2 ^ s → Cg q (A (c * 2 ^ s + k)) (sm (2 ^ s) fun j => a (rev (L - s) c + j * 2 ^ (L - s)) * w ^ (2 * 2 ^ (L - s) * (k * j)))
theorem std_zero {q w : Int} {L : Nat} {a A : Nat → Int} (h : ∀ c, c < 2 ^ L → A c = a (rev L c)) : Std q w L a 0 A := fun c k hc hk => by
  obtain rfl : k = 0 := by rw [Nat.pow_zero] at hk; omega
  rw [Nat.sub_zero] at hc ⊢
  refine Cg.of_eq ?_
  rw [show c * 2 ^ 0 + 0 = c by simp, h c hc]
  show _ = 0 + a (rev L c + 0 * 2 ^ L) * w ^ (2 * 2 ^ L * (0 * 0))
  simp
theorem std_last {q w : Int} {L : Nat} {a A : Nat → Int} (h : Std q w L a L A) {k : Nat} (hk : k < 2 ^ L) : Cg q (A k) (sm (2 ^ L) fun j => a j * w ^ (2 * (k * j))) := by
  have := h 0 k (by rw [Nat.sub_self]; decide) hk
  rw [Nat.sub_self] at this
  refine (Cg.of_eq (by congr 1; omega)).trans (this.trans (Cg.of_eq (sm_congr _ fun j _ => ?_)))
  rw [show rev 0 0 + j * 2 ^ 0 = j by unfold rev; omega, show 2 * 2 ^ 0 * (k * j) = 2 * (k * j) by rw [Nat.pow_zero, Nat.mul_one]]

theorem std_congr {q w : Int} {L s : Nat} {a A B : Nat → Int} (hs : s ≤ L) (h : Std q w L a s A) (e : ∀ p, p < 2 ^ L → B p = A p) : Std q w L a s B := fun c k hc hk => by
  have hp : c * 2 ^ s + k < 2 ^ L := by
    have h1 : (c + 1) * 2 ^ s ≤ 2 ^ (L - s) * 2 ^ s := Nat.mul_le_mul_right _ hc
    rw [← Nat.pow_add, show L - s + s = L by omega, Nat.succ_mul] at h1
    omega
  rw [e _ hp]; exact h c k hc hk
theorem std_step {q w : Int} {L s : Nat} {a A B : Nat → Int} (hw : Cg q (w ^ (2 ^ L)) (-1)) (hs : s < L) (h : Std q w L a s A)
    (lo : ∀ c k, c * (2 * 2 ^ s) + k < 2 ^ L → k < 2 ^ s → Cg q (B (c * (2 * 2 ^ s) + k)) (A (c * (2 * 2 ^ s) + k) + A (c * (2 * 2 ^ s) + k + 2 ^ s) * w ^ (k * 2 ^ (L - s))))
    (hi : ∀ c k, c * (2 * 2 ^ s) + k < 2 ^ L → k < 2 ^ s → Cg q (B (c * (2 * 2 ^ s) + k + 2 ^ s)) (A (c * (2 * 2 ^ s) + k) - A (c * (2 * 2 ^ s) + k + 2 ^ s) * w ^ (k * 2 ^ (L - s)))) : Std q w L a (s + 1) B := by
  obtain ⟨M, rfl⟩ : ∃ M, L = s + (M + 1) := ⟨L - s - 1, by omega⟩
  intro c k hc hk
  rw [show s + (M + 1) - (s + 1) = M by omega] at hc ⊢
  rw [show s + (M + 1) - s = M + 1 by omega] at lo hi
  unfold Std at h
  rw [show s + (M + 1) - s = M + 1 by omega] at h
  have hL : 2 ^ (s + (M + 1)) = 2 ^ M * (2 * 2 ^ s) := by rw [Nat.pow_add, Nat.pow_succ]; grind
  have hL2 : 2 ^ (s + (M + 1)) = 2 * 2 ^ M * 2 ^ s := by rw [hL]; grind
  have hc2 : c * (2 * 2 ^ s) + 2 * 2 ^ s ≤ 2 ^ (s + (M + 1)) := by
    rw [hL, ← Nat.succ_mul]; exact Nat.mul_le_mul_right _ hc
  rw [hL2] at hw
  have hps : 2 ^ (s + 1) = 2 * 2 ^ s := by rw [Nat.pow_succ, Nat.mul_comm]
  have hpM : 2 ^ (M + 1) = 2 * 2 ^ M := by rw [Nat.pow_succ, Nat.mul_comm]
  rw [hps] at hk ⊢
  have E : ∀ k, k < 2 ^ s → Cg q (A (c * (2 * 2 ^ s) + k)) (sm (2 ^ s) fun j => a (rev M c + j * (2 * 2 ^ M)) * w ^ (2 * (2 * 2 ^ M) * (k * j))) := fun k hk => by
    have := h (2 * c) k (by rw [hpM]; omega) hk
    rw [rev_even, hpM, show 2 * c * 2 ^ s = c * (2 * 2 ^ s) by grind] at this
    exact this
  have O : ∀ k, k < 2 ^ s → Cg q (A (c * (2 * 2 ^ s) + k + 2 ^ s)) (sm (2 ^ s) fun j => a (rev M c + 2 ^ M + j * (2 * 2 ^ M)) * w ^ (2 * (2 * 2 ^ M) * (k * j))) := fun k hk => by
    have := h (2 * c + 1) k (by rw [hpM]; omega) hk
    rw [rev_odd, hpM, show (2 * c + 1) * 2 ^ s + k = c * (2 * 2 ^ s) + k + 2 ^ s by grind] at this
    exact this
  rw [hpM] at lo hi
  by_cases hkm : k < 2 ^ s
  · refine (lo c k (by omega) hkm).trans ?_
    exact ((E k hkm).add ((O k hkm).mul (Cg.refl _ _))).trans (Cg.of_eq (step_lo w a (2 ^ s) (2 ^ M) (rev M c) k))
  · obtain ⟨k', rfl⟩ : ∃ k', k = k' + 2 ^ s := ⟨k - 2 ^ s, by omega⟩
    have hk' : k' < 2 ^ s := by omega
    rw [← Nat.add_assoc]
    refine (hi c k' (by omega) hk').trans ?_
    exact ((E k' hk').sub ((O k' hk').mul (Cg.refl _ _))).trans (step_hi a (2 ^ s) (2 ^ M) (rev M c) k' hw)
end Go.Mth

/- Go's math/bits: ones counted, words turned round. No condition. -/
namespace Go.Proofs.YtfgfmempmkjlnaaDoor
set_option linter.unusedVariables false
set_option maxRecDepth 8000
open Go Go.Den Go.RowKit Go.Mth

def rstep (s m x : Nat) : Nat := (x / 2 ^ s &&& m) ||| ((x &&& m) * 2 ^ s % 18446744073709551616)
theorem rstep_lt {s m x : Nat} (hm : m < 18446744073709551616) : rstep s m x < 18446744073709551616 :=
  Nat.or_lt_two_pow (n := 64) (Nat.lt_of_le_of_lt Nat.and_le_right hm) (Nat.mod_lt _ (by decide))
def rv32 (x : Nat) : Nat := (x / 2 ^ 32) ||| (x * 2 ^ 32 % 18446744073709551616)
def rv64 (x : Nat) : Nat := rv32 (rstep 16 281470681808895 (rstep 8 71777214294589695 (rstep 4 1085102592571150095 (rstep 2 3689348814741910323 (rstep 1 6148914691236517205 x)))))
theorem rv64_lt (x : Nat) : rv64 x < 18446744073709551616 := by
  unfold rv64 rv32
  exact Nat.or_lt_two_pow (n := 64) (Nat.lt_of_le_of_lt (Nat.div_le_self _ _) (rstep_lt (by decide))) (Nat.mod_lt _ (by decide))

theorem rstep_b1 {s m x : Nat} (hm : m < 18446744073709551616) : (x / 2 ^ s &&& m) < 18446744073709551616 := Nat.lt_of_le_of_lt Nat.and_le_right hm
theorem rstep_b2 {s m x : Nat} : (x &&& m) * 2 ^ s % 18446744073709551616 < 18446744073709551616 := Nat.mod_lt _ (by decide)

theorem Tryd_ent91 : Ent Tryd.prog 91 := ent_of Tryd.func91 (by kernel_rfl) rfl
theorem revBytes_spec (x : Nat) (h : Hp) (hx : x < 18446744073709551616) :
    CallsH Tryd.prog 91 [U x] h fun v h' => v = U (rv32 (rstep 16 281470681808895 (rstep 8 71777214294589695 x))) ∧ h = h' := by
  have l1 := rstep_lt (s := 8) (m := 71777214294589695) (x := x) (by decide)
  have a1 := rstep_b1 (s := 8) (m := 71777214294589695) (x := x) (by decide)
  have a2 := rstep_b2 (s := 8) (m := 71777214294589695) (x := x)
  (apply enter Tryd.func91 rfl Tryd.ntmps91 rfl)
  refine runJ ?_
  refine o_know (t := 11) (u := U (rstep 8 71777214294589695 x / 2 ^ 16)) rfl rfl (o_know (t := 0) (u := U (rstep 8 71777214294589695 x)) rfl rfl ?_)
  generalize rstep 8 71777214294589695 x = y at *
  have l2 := rstep_lt (s := 16) (m := 281470681808895) (x := y) (by decide)
  have b1 := rstep_b1 (s := 16) (m := 281470681808895) (x := y) (by decide)
  have b2 := rstep_b2 (s := 16) (m := 281470681808895) (x := y)
  refine runJ ?_
  have c1 : rstep 16 281470681808895 y / 2 ^ 32 < 18446744073709551616 := Nat.lt_of_le_of_lt (Nat.div_le_self _ _) l2
  have c2 : rstep 16 281470681808895 y * 2 ^ 32 % 18446744073709551616 < 18446744073709551616 := Nat.mod_lt _ (by decide)
  apply s_orU (isK_t rfl) (isK_t rfl) rfl ⟨c1, c2⟩
  refine runJ ?_
  exact fin1 rfl rfl ⟨rfl, rfl⟩

theorem Tryd_ent77 : Ent Tryd.prog 77 := ent_of Tryd.func77 (by kernel_rfl) rfl
theorem reverse_spec (x : Nat) (h : Hp) (hx : x < 18446744073709551616) :
    CallsH Tryd.prog 77 [U x] h fun v h' => v = U (rv64 x) ∧ h = h' := by
  have l1 := rstep_lt (s := 1) (m := 6148914691236517205) (x := x) (by decide)
  have a1 := rstep_b1 (s := 1) (m := 6148914691236517205) (x := x) (by decide)
  have a2 := rstep_b2 (s := 1) (m := 6148914691236517205) (x := x)
  unfold rv64
  (apply enter Tryd.func77 rfl Tryd.ntmps77 rfl)
  refine runJ ?_
  refine o_know (t := 11) (u := U (rstep 1 6148914691236517205 x / 2 ^ 2)) rfl rfl (o_know (t := 0) (u := U (rstep 1 6148914691236517205 x)) rfl rfl ?_)
  generalize rstep 1 6148914691236517205 x = y at *
  have l2 := rstep_lt (s := 2) (m := 3689348814741910323) (x := y) (by decide)
  have b1 := rstep_b1 (s := 2) (m := 3689348814741910323) (x := y) (by decide)
  have b2 := rstep_b2 (s := 2) (m := 3689348814741910323) (x := y)
  refine runJ ?_
  refine o_know (t := 18) (u := U (rstep 2 3689348814741910323 y / 2 ^ 4)) rfl rfl (o_know (t := 0) (u := U (rstep 2 3689348814741910323 y)) rfl rfl ?_)
  generalize rstep 2 3689348814741910323 y = z at *
  have l3 := rstep_lt (s := 4) (m := 1085102592571150095) (x := z) (by decide)
  have c1 := rstep_b1 (s := 4) (m := 1085102592571150095) (x := z) (by decide)
  have c2 := rstep_b2 (s := 4) (m := 1085102592571150095) (x := z)
  refine runJ ?_
  refine o_know (t := 24) (u := U (rstep 4 1085102592571150095 z)) rfl rfl ?_
  apply (s_call Tryd_ent91 rfl rfl rfl)
  refine (revBytes_spec _ h l3).mono ?_
  rintro _ _ ⟨rfl, rfl⟩
  refine ⟨(by first | exact trivial | exact Ext.refl _ | assumption | exact Ext.trans (by assumption) (by assumption)), ?_⟩
  refine runJ ?_
  exact fin1 rfl rfl ⟨rfl, rfl⟩

/-- Moved down, a word turned round is the number turned round in its last bits. -/
def revOk (L : Nat) : Bool := (List.range (2 ^ L)).all fun i => rv64 i / 2 ^ (64 - L) == rev L i
theorem revOk_all : revOk 1 && revOk 2 && revOk 3 && revOk 4 && revOk 5 && revOk 6 && revOk 7 && revOk 8 && revOk 9 = true := by decide +kernel
theorem rv64_rev {L i : Nat} (h1 : 1 ≤ L) (h2 : L ≤ 9) (hi : i < 2 ^ L) : rv64 i / 2 ^ (64 - L) = rev L i := by
  have hk := revOk_all
  simp only [Bool.and_eq_true] at hk
  have key : revOk L = true := by
    obtain ⟨⟨⟨⟨⟨⟨⟨⟨k1, k2⟩, k3⟩, k4⟩, k5⟩, k6⟩, k7⟩, k8⟩, k9⟩ := hk
    rcases (show L = 1 ∨ L = 2 ∨ L = 3 ∨ L = 4 ∨ L = 5 ∨ L = 6 ∨ L = 7 ∨ L = 8 ∨ L = 9 by omega) with rfl | rfl | rfl | rfl | rfl | rfl | rfl | rfl | rfl <;> assumption
  have := List.all_eq_true.1 key i (List.mem_range.2 hi)
  exact eq_of_beq this

def ocw (x y : Nat) : Nat := (x + y) % 18446744073709551616
def oc1 (x : Nat) : Nat := ocw (x / 2 ^ 1 &&& 6148914691236517205) (x &&& 6148914691236517205)
def oc2 (x : Nat) : Nat := ocw (x / 2 ^ 2 &&& 3689348814741910323) (x &&& 3689348814741910323)
def oc3 (x : Nat) : Nat := ocw (x / 2 ^ 4) x &&& 1085102592571150095
def oc4 (s x : Nat) : Nat := ocw x (x / 2 ^ s)
def oc (x : Nat) : Nat := oc4 32 (oc4 16 (oc4 8 (oc3 (oc2 (oc1 x)))))
theorem ocw_lt (x y : Nat) : ocw x y < 18446744073709551616 := Nat.mod_lt _ (by decide)
theorem and_lt {a m : Nat} (hm : m < 18446744073709551616) : (a &&& m) < 18446744073709551616 := Nat.lt_of_le_of_lt Nat.and_le_right hm

theorem Tryd_ent68 : Ent Tryd.prog 68 := ent_of Tryd.func68 (by kernel_rfl) rfl
set_option maxHeartbeats 1000000 in
theorem ones_spec (x : Nat) (h : Hp) (hx : x < 18446744073709551616) (hoc : oc x < 9223372036854775808) :
    CallsH Tryd.prog 68 [U x] h fun v h' => v = N (oc x &&& 127) ∧ h = h' := by
  unfold oc at hoc ⊢
  have a1 := and_lt (a := x / 2 ^ 1) (m := 6148914691236517205) (by decide)
  have a2 := and_lt (a := x) (m := 6148914691236517205) (by decide)
  (apply enter Tryd.func68 rfl Tryd.ntmps68 rfl)
  refine runJ ?_
  (apply s_addUw; (first | exact isK_c | exact isK_t rfl); (first | exact isK_c | exact isK_t rfl); exact rfl)
  refine runJ ?_
  refine o_know (t := 13) (u := U (oc1 x &&& 3689348814741910323)) rfl rfl (o_know (t := 11) (u := U (oc1 x / 2 ^ 2 &&& 3689348814741910323)) rfl rfl ?_)
  have b0 : oc1 x < 18446744073709551616 := ocw_lt _ _
  generalize oc1 x = y at *
  (apply s_addUw; (first | exact isK_c | exact isK_t rfl); (first | exact isK_c | exact isK_t rfl); exact rfl)
  refine runJ ?_
  refine o_know (t := 17) (u := U (oc2 y)) rfl rfl (o_know (t := 16) (u := U (oc2 y / 2 ^ 4)) rfl rfl ?_)
  have c0 : oc2 y < 18446744073709551616 := ocw_lt _ _
  generalize oc2 y = z at *
  (apply s_addUw; (first | exact isK_c | exact isK_t rfl); (first | exact isK_c | exact isK_t rfl); exact rfl)
  refine runJ ?_
  refine o_know (t := 20) (u := U (oc3 z)) rfl rfl (o_know (t := 22) (u := U (oc3 z / 2 ^ 8)) rfl rfl ?_)
  have d0 : oc3 z < 18446744073709551616 := and_lt (by decide)
  generalize oc3 z = a at *
  (apply s_addUw; (first | exact isK_c | exact isK_t rfl); (first | exact isK_c | exact isK_t rfl); exact rfl)
  refine runJ ?_
  refine o_know (t := 24) (u := U (oc4 8 a)) rfl rfl (o_know (t := 26) (u := U (oc4 8 a / 2 ^ 16)) rfl rfl ?_)
  have e0 : oc4 8 a < 18446744073709551616 := ocw_lt _ _
  generalize oc4 8 a = b at *
  (apply s_addUw; (first | exact isK_c | exact isK_t rfl); (first | exact isK_c | exact isK_t rfl); exact rfl)
  refine runJ ?_
  refine o_know (t := 28) (u := U (oc4 16 b)) rfl rfl (o_know (t := 30) (u := U (oc4 16 b / 2 ^ 32)) rfl rfl ?_)
  have f0 : oc4 16 b < 18446744073709551616 := ocw_lt _ _
  generalize oc4 16 b = c at *
  (apply s_addUw; (first | exact isK_c | exact isK_t rfl); (first | exact isK_c | exact isK_t rfl); exact rfl)
  refine runJ ?_
  refine o_know (t := 33) (u := N (oc4 32 c)) rfl rfl ?_
  apply s_andI (isK_t rfl) isK_c rfl ⟨hoc, by decide⟩
  refine runJ ?_
  exact fin1 rfl rfl ⟨rfl, rfl⟩

theorem Tryd_ent44 : Ent Tryd.prog 44 := ent_of Tryd.func44 (by kernel_rfl) rfl
theorem onesN_spec (x : Nat) (h : Hp) (hx : x < 18446744073709551616) (hoc : oc x < 9223372036854775808) :
    CallsH Tryd.prog 44 [U x] h fun v h' => v = N (oc x &&& 127) ∧ h = h' := by
  (apply enter Tryd.func44 rfl Tryd.ntmps44 rfl)
  refine runJ ?_
  apply (s_call Tryd_ent68 rfl rfl rfl)
  refine (ones_spec x h hx hoc).mono ?_
  rintro _ _ ⟨rfl, rfl⟩
  refine ⟨(by first | exact trivial | exact Ext.refl _ | assumption | exact Ext.trans (by assumption) (by assumption)), ?_⟩
  refine runJ ?_
  exact fin1 rfl rfl ⟨rfl, rfl⟩

theorem oc_pow : ∀ L, L < 14 → oc (2 ^ L) < 9223372036854775808 ∧ oc (2 ^ L) &&& 127 = 1 := by decide +kernel

theorem Tryd_ent76 : Ent Tryd.prog 76 := ent_of Tryd.func76 (by kernel_rfl) rfl
theorem blen_spec (x : Nat) (h : Hp) (hx : x < 18446744073709551616) :
    CallsH Tryd.prog 76 [U x] h fun v h' => v = N (Lib.bitLen x) ∧ h = h' :=
  callsH_same fun w => Tryd.bits_Len x w (by omega) (by omega)
theorem blen_pow : ∀ L, L < 14 → Lib.bitLen (2 ^ L) = L + 1 := by decide +kernel
end Go.Proofs.YtfgfmempmkjlnaaDoor

/- The steps of a transform over rows of words: plain facts. No condition. -/
namespace Go.Proofs.YtfgfmempmkjlnaaDoor
set_option linter.unusedVariables false
set_option maxRecDepth 8000
open Go Go.Mth

theorem cg_addm {q : Nat} (hq : 0 < q) (a b : Nat) : Cg q ((addm a b q : Nat) : Int) ((a : Int) + b) := by
  rw [addm, if_neg (by omega), Int.natCast_emod, Int.natCast_add]; exact Cg.mod _ _
theorem cg_mulm {q : Nat} (hq : 0 < q) (a b : Nat) : Cg q ((mulm a b q : Nat) : Int) ((a : Int) * b) := by
  rw [mulm, if_neg (by omega), Int.natCast_emod, Int.natCast_mul]; exact Cg.mod _ _
theorem cg_subm {q : Nat} (hq : 0 < q) (a b : Nat) : Cg q ((subm a b q : Nat) : Int) ((a : Int) - b) := by
  have hb : b % q < q := Nat.mod_lt _ hq
  rw [subm, if_neg (by omega), Int.natCast_emod, Int.natCast_add, Int.ofNat_sub (by omega), Int.natCast_emod]
  refine (Cg.mod _ _).trans ?_
  refine ((Cg.refl _ _).add ((Cg.q0 _).sub (Cg.mod _ _))).trans (Cg.of_eq (by omega))

def btf (q : Nat) (W : Nat → Nat) (h s : Nat) (f : Nat → Nat) (p : Nat) : Nat :=
  if p % (2 * h) < h then addm (f p) (mulm (f (p + h)) (W (p % (2 * h) * s)) q) q else subm (f (p - h)) (mulm (f p) (W ((p % (2 * h) - h) * s)) q) q
theorem btf_lt {q : Nat} (hq : 0 < q) (W : Nat → Nat) (h s : Nat) (f : Nat → Nat) (p : Nat) : btf q W h s f p < q := by
  unfold btf; split
  · exact addm_lt hq
  · exact subm_lt hq
theorem btf_lo {q : Nat} {W : Nat → Nat} {h s : Nat} {f : Nat → Nat} {c k : Nat} (hk : k < h) : btf q W h s f (c * (2 * h) + k) = addm (f (c * (2 * h) + k)) (mulm (f (c * (2 * h) + k + h)) (W (k * s)) q) q := by
  have e : (c * (2 * h) + k) % (2 * h) = k := by rw [Nat.add_comm, Nat.add_mul_mod_self_right, Nat.mod_eq_of_lt (by omega)]
  unfold btf; rw [e, if_pos hk]
theorem btf_hi {q : Nat} {W : Nat → Nat} {h s : Nat} {f : Nat → Nat} {c k : Nat} (hk : k < h) : btf q W h s f (c * (2 * h) + k + h) = subm (f (c * (2 * h) + k)) (mulm (f (c * (2 * h) + k + h)) (W (k * s)) q) q := by
  have e : (c * (2 * h) + k + h) % (2 * h) = k + h := by rw [Nat.add_assoc, Nat.add_comm, Nat.add_mul_mod_self_right, Nat.mod_eq_of_lt (by omega)]
  unfold btf; rw [e, if_neg (by omega), Nat.add_sub_cancel, Nat.add_sub_cancel]

theorem std_btf {q L s : Nat} {w : Int} {a : Nat → Int} {W f : Nat → Nat} (hq : 0 < q) (hw : Cg q (w ^ (2 ^ L)) (-1)) (hs : s < L) (hW : ∀ m, m < 2 ^ L → Cg q ((W m : Nat) : Int) (w ^ m)) (h : Std q w L a s fun p => ((f p : Nat) : Int)) :
    Std q w L a (s + 1) fun p => ((btf q W (2 ^ s) (2 ^ (L - s)) f p : Nat) : Int) := by
  have hb : ∀ k, k < 2 ^ s → k * 2 ^ (L - s) < 2 ^ L := fun k hk => by
    have := Nat.mul_lt_mul_of_pos_right hk (Nat.two_pow_pos (L - s))
    rwa [← Nat.pow_add, show s + (L - s) = L by omega] at this
  refine std_step hw hs h (fun c k _ hk => ?_) (fun c k _ hk => ?_)
  · rw [btf_lo hk]
    exact (cg_addm hq _ _).trans ((Cg.refl _ _).add ((cg_mulm hq _ _).trans ((Cg.refl _ _).mul (hW _ (hb k hk)))))
  · rw [btf_hi hk]
    exact (cg_subm hq _ _).trans ((Cg.refl _ _).sub ((cg_mulm hq _ _).trans ((Cg.refl _ _).mul (hW _ (hb k hk)))))

/-- A row in the midst of a step. -/
def Mid (n h i k : Nat) (f g : Nat → Nat) (xs : List Nat) : Prop := xs.length = n ∧ ∀ p, p < n → xs.getD p 0 = if p < i ∨ (p < i + 2 * h ∧ (p - i) % h < k) then g p else f p
section
variable {n h i k : Nat} {f g : Nat → Nat} {xs : List Nat}
theorem getD_of {x : Nat} {p : Nat} (h : xs[p]? = some x) : xs.getD p 0 = x := by rw [List.getD_eq_getElem?_getD, h]; rfl
theorem getD_lt {p : Nat} (h : p < xs.length) : xs[p]? = some (xs.getD p 0) := by rw [List.getD_eq_getElem?_getD, List.getElem?_eq_getElem h]; rfl
theorem getD_set {p r x : Nat} (hp : p < xs.length) : (xs.set r x).getD p 0 = if p = r then x else xs.getD p 0 := by
  rw [List.getD_eq_getElem?_getD, List.getElem?_set, List.getD_eq_getElem?_getD]
  by_cases e : r = p
  · subst e; rw [if_pos rfl, if_pos hp, if_pos rfl]; rfl
  · rw [if_neg e, if_neg (by omega)]
theorem mid_start (hl : xs.length = n) (hf : ∀ p, p < n → xs.getD p 0 = f p) : Mid n h 0 0 f g xs := ⟨hl, fun p hp => by rw [if_neg (by omega)]; exact hf p hp⟩
theorem mid_lo (m : Mid n h i k f g xs) (hk : k < h) (hn : i + 2 * h ≤ n) : xs[i + k]? = some (f (i + k)) := by
  rw [getD_lt (by rw [m.1]; omega), m.2 _ (by omega), if_neg]
  rw [show i + k - i = k by omega, Nat.mod_eq_of_lt hk]; omega
theorem mid_hi (m : Mid n h i k f g xs) (hk : k < h) (hn : i + 2 * h ≤ n) : xs[i + k + h]? = some (f (i + k + h)) := by
  rw [getD_lt (by rw [m.1]; omega), m.2 _ (by omega), if_neg]
  rw [show i + k + h - i = k + h by omega, Nat.add_mod_right, Nat.mod_eq_of_lt hk]; omega
theorem mid_step (m : Mid n h i k f g xs) (hk : k < h) (hn : i + 2 * h ≤ n) : Mid n h i (k + 1) f g ((xs.set (i + k) (g (i + k))).set (i + k + h) (g (i + k + h))) := by
  refine ⟨by rw [List.length_set, List.length_set]; exact m.1, fun p hp => ?_⟩
  have hl := m.1
  rw [getD_set (by rw [List.length_set]; omega), getD_set (by omega)]
  by_cases h1 : p = i + k + h
  · subst h1
    rw [if_pos rfl, if_pos]
    refine .inr ⟨by omega, ?_⟩
    rw [show i + k + h - i = k + h by omega, Nat.add_mod_right, Nat.mod_eq_of_lt hk]; omega
  rw [if_neg h1]
  by_cases h2 : p = i + k
  · subst h2
    rw [if_pos rfl, if_pos]
    refine .inr ⟨by omega, ?_⟩
    rw [show i + k - i = k by omega, Nat.mod_eq_of_lt hk]; omega
  rw [if_neg h2, m.2 p hp]
  by_cases h3 : p < i
  · rw [if_pos (.inl h3), if_pos (.inl h3)]
  by_cases h4 : p < i + 2 * h
  · obtain ⟨d, rfl⟩ : ∃ d, p = i + d := ⟨p - i, by omega⟩
    rw [show i + d - i = d by omega]
    have hd : d % h ≠ k := by
      by_cases hd : d < h
      · rw [Nat.mod_eq_of_lt hd]; omega
      · rw [Nat.mod_eq_sub_mod (by omega), Nat.mod_eq_of_lt (by omega)]; omega
    by_cases h5 : d % h < k
    · rw [if_pos (.inr ⟨h4, h5⟩), if_pos (.inr ⟨h4, by omega⟩)]
    · rw [if_neg (by omega), if_neg (by omega)]
  · rw [if_neg (by omega), if_neg (by omega)]
theorem mid_next (m : Mid n h i h f g xs) (hh : 0 < h) : Mid n h (i + 2 * h) 0 f g xs := ⟨m.1, fun p hp => by
  rw [m.2 p hp]
  have := Nat.mod_lt (p - i) hh
  by_cases h1 : p < i + 2 * h
  · rw [if_pos (.inr ⟨h1, this⟩), if_pos (.inl h1)]
  · rw [if_neg (by omega), if_neg (by omega)]⟩
theorem mid_end (m : Mid n h i 0 f g xs) (hi : n ≤ i) : ∀ p, p < n → xs.getD p 0 = g p := fun p hp => by
  rw [m.2 p hp, if_pos (.inl (by omega))]

/-- A row in the midst of being turned round. -/
def Swp (L i : Nat) (f : Nat → Nat) (xs : List Nat) : Prop := xs.length = 2 ^ L ∧ ∀ p, p < 2 ^ L → xs.getD p 0 = if p < i ∨ rev L p < i then f (rev L p) else f p
theorem swp_start {L : Nat} (hl : xs.length = 2 ^ L) (hf : ∀ p, p < 2 ^ L → xs.getD p 0 = f p) : Swp L 0 f xs := ⟨hl, fun p hp => by rw [if_neg (by omega)]; exact hf p hp⟩
theorem swp_end {L : Nat} (s : Swp L (2 ^ L) f xs) : ∀ p, p < 2 ^ L → xs.getD p 0 = f (rev L p) := fun p hp => by rw [s.2 p hp, if_pos (.inl hp)]
theorem swp_keep {L : Nat} (s : Swp L i f xs) (hi : i < 2 ^ L) (hk : ¬ i < rev L i) : Swp L (i + 1) f xs := ⟨s.1, fun p hp => by
  rw [s.2 p hp]
  by_cases h1 : p < i ∨ rev L p < i
  · rw [if_pos h1, if_pos (by omega)]
  rw [if_neg h1]
  by_cases h2 : p < i + 1 ∨ rev L p < i + 1
  · rw [if_pos h2]
    have hp' : rev L p = p := by
      by_cases h3 : p = i
      · subst h3; omega
      · have h4 : rev L p = i := by omega
        have h5 := rev_rev L p hp
        rw [h4] at h5; omega
    rw [hp']
  · rw [if_neg h2]⟩
theorem swp_lo {L : Nat} (s : Swp L i f xs) (hi : i < 2 ^ L) (hk : i < rev L i) : xs[i]? = some (f i) := by
  rw [getD_lt (by rw [s.1]; omega), s.2 _ hi, if_neg (by omega)]
theorem swp_hi {L : Nat} (s : Swp L i f xs) (hi : i < 2 ^ L) (hk : i < rev L i) : xs[rev L i]? = some (f (rev L i)) := by
  have := rev_lt L i
  rw [getD_lt (by rw [s.1]; omega), s.2 _ this, rev_rev L i hi, if_neg (by omega)]
theorem swp_step {L : Nat} (s : Swp L i f xs) (hi : i < 2 ^ L) (hk : i < rev L i) : Swp L (i + 1) f ((xs.set i (f (rev L i))).set (rev L i) (f i)) := by
  have hr := rev_lt L i
  have hrr := rev_rev L i hi
  refine ⟨by rw [List.length_set, List.length_set]; exact s.1, fun p hp => ?_⟩
  have hl := s.1
  rw [getD_set (by rw [List.length_set]; omega), getD_set (by omega)]
  by_cases h1 : p = rev L i
  · subst h1
    rw [if_pos rfl, if_pos (.inr (by omega)), hrr]
  rw [if_neg h1]
  by_cases h2 : p = i
  · subst h2
    rw [if_pos rfl, if_pos (.inl (by omega))]
  rw [if_neg h2, s.2 p hp]
  have h3 : rev L p ≠ i := fun e => h1 (by rw [← e, rev_rev L p hp])
  by_cases h4 : p < i ∨ rev L p < i
  · rw [if_pos h4, if_pos (by omega)]
  · rw [if_neg h4, if_neg (by omega)]
end

/-- Powers in a row. -/
theorem gcd_pow {q n : Nat} (L : Nat) (hq : q % 2 = 1) : Nat.gcd (2 ^ L) q = 1 := by
  have : Nat.gcd 2 q = 1 := by rw [Nat.gcd_rec, hq]; decide
  exact Nat.Coprime.pow_left L this
theorem gcd_root {q w n : Nat} (hq : 1 < q) (hn : 0 < n) (h : w ^ n % q = q - 1) : Nat.gcd w q = 1 := by
  have h1 : Nat.gcd w q ∣ q := Nat.gcd_dvd_right _ _
  have h2 : Nat.gcd w q ∣ w ^ n := Nat.dvd_trans (Nat.gcd_dvd_left _ _) ⟨w ^ (n - 1), by rw [← Nat.pow_succ']; congr 1; omega⟩
  have h3 : Nat.gcd w q ∣ q - 1 := by rw [← h]; exact (Nat.dvd_mod_iff h1).2 h2
  have h4 := Nat.dvd_sub h1 h3
  rw [show q - (q - 1) = 1 by omega] at h4
  exact Nat.dvd_one.1 h4
theorem cg_of_mod {q a : Nat} {b : Int} (h : Cg q (a : Int) b) (c : Nat) (hc : c % q = a % q) : Cg q (c : Int) b := by
  have h1 := Cg.mod (q : Int) (c : Int)
  have h2 := Cg.mod (q : Int) (a : Int)
  have : ((c : Int) % q) = ((a : Int) % q) := by rw [← Int.natCast_emod, ← Int.natCast_emod, hc]
  rw [this] at h1
  exact h1.symm.trans (h2.trans h)
theorem cg_root {q w n : Nat} (hq : 1 < q) (h : w ^ n % q = q - 1) : Cg q ((w : Int) ^ n) (-1) := by
  have := Cg.mod (q : Int) ((w : Int) ^ n)
  rw [← Int.natCast_pow, ← Int.natCast_emod, h, Int.ofNat_sub (by omega)] at this
  rw [← Int.natCast_pow]
  exact this.symm.trans (((Cg.q0 _).sub (Cg.refl _ _)).trans (Cg.of_eq (by omega)))
theorem cg_one {q a b : Nat} (h : a * b % q = 1) : Cg q ((a : Int) * b) 1 := by
  have := Cg.mod (q : Int) ((a : Int) * b)
  rw [← Int.natCast_mul, ← Int.natCast_emod, h] at this
  rw [← Int.natCast_mul]
  exact this.symm
theorem lists_cg {q : Nat} {xs ys : List Nat} (hl : xs.length = ys.length) (hx : ∀ x ∈ xs, x < q) (hy : ∀ x ∈ ys, x < q) (h : ∀ p, p < xs.length → Cg q ((xs.getD p 0 : Nat) : Int) ((ys.getD p 0 : Nat) : Int)) : xs = ys := by
  apply List.ext_getElem? 
  intro p
  by_cases hp : p < xs.length
  · rw [getD_lt hp, getD_lt (by omega)]
    have := (h p hp).eqN (hx _ (List.mem_of_getElem? (getD_lt hp))) (hy _ (List.mem_of_getElem? (getD_lt (xs := ys) (by omega))))
    rw [this]
  · rw [List.getElem?_eq_none (by omega), List.getElem?_eq_none (by omega)]
end Go.Proofs.YtfgfmempmkjlnaaDoor

/- Package prime: roots. Condition: the table of math/bits reads as it is laid. -/
namespace Go.Proofs.YtfgfmempmkjlnaaDoor
set_option linter.unusedVariables false
set_option maxRecDepth 8000
open Go Go.Den Go.RowKit Go.Mth

theorem Tryd_ent72 : Ent Tryd.prog 72 := ent_of Tryd.func72 (by kernel_rfl) rfl
theorem smin_spec (v : Value) (xs : List Nat) (h : Hp) (s : SlF h U v xs) (h0 : 0 < xs.length) (hl : xs.length < 4611686018427387904) :
    CallsH Tryd.prog 72 [v] h fun v' h' => (∃ m, v' = U m ∧ m ∈ xs ∧ ∀ x ∈ xs, m ≤ x) ∧ h = h' := by
  obtain ⟨x0, hx0⟩ := get_lt h0
  (apply enter Tryd.func72 rfl Tryd.ntmps72 rfl)
  refine runJ ?_
  (apply w_condF; exact rfl; exact rfl; exact (show ¬ xs.length < 1 by omega))
  refine runJ ?_
  (first | (apply w_seqB; exact rfl; apply w_block; exact rfl) | skip)
  apply (w_loop (σ := Nat × Nat) rfl (fun j => [(0, v), (3, U j.2), (4, N j.1)])
    (fun j h' => h = h' ∧ 1 ≤ j.1 ∧ j.1 ≤ xs.length ∧ j.2 ∈ xs ∧ ∀ x ∈ xs.take j.1, j.2 ≤ x) (fun j => xs.length - j.1) (1, x0))
  · exact (Sub.cons rfl (Sub.cons rfl (Sub.cons rfl (Sub.nil _))))
  · refine ⟨rfl, Nat.le_refl _, h0, List.mem_of_getElem? hx0, ?_⟩
    intro x hx
    rw [show (1, x0).1 = 0 + 1 from rfl, take_snoc hx0] at hx
    simp at hx
    dsimp only; omega
  rintro ⟨j, m⟩ h' ⟨rfl, j1, j2, j3, j4⟩
  dsimp only at j1 j2 j3 j4 ⊢
  refine runJ ?_
  (apply w_condD; exact rfl; exact rfl) <;> intro hj
  · obtain ⟨y, hy⟩ := get_lt hj
    refine runJ ?_
    apply s_minU (isK_t rfl) (isK_t rfl) rfl
    refine runJ ?_
    apply again_normal (j + 1, min m y)
    · exact (Sub.cons rfl (Sub.cons rfl (Sub.cons rfl (Sub.nil _))))
    · refine ⟨rfl, by dsimp only; omega, hj, ?_, ?_⟩
      · dsimp only
        rcases Nat.le_total m y with hh | hh
        · rw [Nat.min_eq_left hh]; exact j3
        · rw [Nat.min_eq_right hh]; exact List.mem_of_getElem? hy
      · dsimp only
        intro x hx
        rw [take_snoc hy] at hx
        rcases List.mem_append.1 hx with hx | hx
        · have := j4 x hx; omega
        · simp only [List.mem_singleton] at hx; omega
    · dsimp only; omega
  · rw [List.take_of_length_le (by omega)] at j4
    refine runJ ?_
    exact fin1 rfl rfl ⟨⟨m, rfl, j3, j4⟩, rfl⟩

theorem Tryd_ent69 : Ent Tryd.prog 69 := ent_of Tryd.func69 (by kernel_rfl) rfl
theorem pstep_spec (L : Nat) (h : Hp) (h1 : 1 ≤ L) (h2 : L ≤ 13) : CallsH Tryd.prog 69 [U (2 ^ L)] h fun v' h' => v' = .bool true ∧ h = h' := by
  have hoc := oc_pow L (by omega)
  have hlo : 2 ^ 1 ≤ 2 ^ L := Nat.pow_le_pow_right (by omega) h1
  have hhi : 2 ^ L ≤ 2 ^ 13 := Nat.pow_le_pow_right (by omega) h2
  generalize 2 ^ L = n at *
  (apply enter Tryd.func69 rfl Tryd.ntmps69 rfl)
  refine runJ ?_
  (apply s_splitG; exact rfl; exact rfl; exact rfl; exact rfl) <;> intro g1
  · refine runJ ?_
    (apply s_splitG; exact rfl; exact rfl; exact rfl; exact rfl) <;> intro g2
    · refine runJ ?_
      apply (s_call Tryd_ent68 rfl rfl rfl)
      refine (ones_spec n h (by omega) hoc.1).mono ?_
      rintro _ _ ⟨rfl, rfl⟩
      refine ⟨(by first | exact trivial | exact Ext.refl _ | assumption | exact Ext.trans (by assumption) (by assumption)), ?_⟩
      refine runJ ?_
      exact fin1 rfl rfl ⟨by rw [hoc.2]; rfl, rfl⟩
    · exact absurd (by omega) g2
  · exact absurd (by omega) g1

/-- The least of the powers with odd exponents of one root. -/
def RootR (q n r : Nat) : Prop := r < q ∧ ∃ w, w < q ∧ powm w (n / 2) q = q - 1 ∧ (∃ j, j < n / 2 ∧ r = w ^ (2 * j + 1) % q) ∧ ∀ j, j < n / 2 → r ≤ w ^ (2 * j + 1) % q

theorem odd_next {w q m : Nat} (hq : q ≠ 0) (hm : 1 ≤ m) : mulm (w ^ (2 * (m - 1) + 1) % q) (mulm w w q) q = w ^ (2 * m + 1) % q := by
  unfold mulm
  rw [if_neg hq, if_neg hq, ← Nat.mul_mod, ← Nat.mul_assoc, ← Nat.pow_succ, ← Nat.pow_succ]
  congr 2; omega

theorem Tryd_ent45 : Ent Tryd.prog 45 := ent_of Tryd.func45 (by kernel_rfl) rfl
set_option maxHeartbeats 1000000 in
theorem root_spec (q L X : Nat) (h : Hp) (T : TB h) (h1 : 1 ≤ L) (h2 : L ≤ 13) (hq3 : 3 ≤ q) (hq : q < 18446744073709551616) (hB : isB q = true) (hd : (q - 1) % 2 ^ L = 0) (hX : 2 ≤ X) (hX2 : X < 18446744073709551615)
    (hx : powm (powm X ((q - 1) / 2 ^ L) q) (2 ^ L / 2) q = q - 1) :
    CallsH Tryd.prog 45 [U q, U (2 ^ L)] h fun v' h' => (∃ r, v' = .tuple #[U r, N 0] ∧ RootR q (2 ^ L) r) ∧ Ext h h' := by
  have ST := fun h => pstep_spec L h h1 h2
  have hlo : 2 ^ 1 ≤ 2 ^ L := Nat.pow_le_pow_right (by omega) h1
  have hhi : 2 ^ L ≤ 2 ^ 13 := Nat.pow_le_pow_right (by omega) h2
  have hq0 : ¬ q = 0 := by omega
  generalize 2 ^ L = n at *
  have hdn : ¬ (q - 1) % n ≠ 0 := by omega
  (apply enter Tryd.func45 rfl Tryd.ntmps45 rfl)
  refine runJ ?_
  apply (s_call Tryd_ent69 rfl rfl rfl)
  refine (ST h).mono ?_
  rintro _ _ ⟨rfl, rfl⟩
  refine ⟨(by first | exact trivial | exact Ext.refl _ | assumption | exact Ext.trans (by assumption) (by assumption)), ?_⟩
  refine runJ ?_
  apply (s_call Tryd_ent70 rfl rfl rfl)
  refine (is_spec q h T hq).mono ?_
  rintro _ h2 ⟨rfl, e2⟩
  refine ⟨(by first | exact trivial | exact trivial), ?_⟩
  rw [hB]
  refine runJ ?_
  (apply w_condF; exact rfl; exact rfl; exact hdn)
  refine runJ ?_
  (first | (apply w_seqB; exact rfl; apply w_block; exact rfl) | skip)
  apply (w_loop (σ := Nat × Nat) rfl (fun j => [(0, U q), (1, U n), (6, U j.2), (7, U j.1)])
    (fun j h' => h2 = h' ∧ 2 ≤ j.1 ∧ j.1 ≤ X + 1 ∧ j.2 < q ∧ (j.1 = X + 1 → powm j.2 (n / 2) q = q - 1)) (fun j => X + 1 - j.1) (2, 1))
  · exact (Sub.cons rfl (Sub.cons rfl (Sub.cons rfl (Sub.cons rfl (Sub.nil _)))))
  · exact ⟨rfl, Nat.le_refl _, by dsimp only; omega, by dsimp only; omega, by dsimp only; omega⟩
  rintro ⟨x, w⟩ h3 ⟨rfl, j1, j2, j3, j4⟩
  dsimp only at j1 j2 j3 j4 ⊢
  refine runJ ?_
  apply (s_call Tryd_ent71 rfl rfl rfl)
  refine (pow_spec w (n / 2) q h2 (by omega) (by omega) hq).mono ?_
  rintro _ _ ⟨rfl, rfl⟩
  refine ⟨(by first | exact trivial | exact Ext.refl _ | assumption | exact Ext.trans (by assumption) (by assumption)), ?_⟩
  refine runJ ?_
  (apply w_condD; exact rfl; exact rfl) <;> intro hw
  · have hxX : ¬ x = X + 1 := fun e => hw (j4 e)
    have hpl : powm x ((q - 1) / n) q < q := by unfold powm; rw [if_neg hq0]; exact Nat.mod_lt _ (by omega)
    have hdl : (q - 1) / n < 18446744073709551616 := Nat.lt_of_le_of_lt (Nat.div_le_self _ _) (by omega)
    refine runJ ?_
    apply (s_call Tryd_ent71 rfl rfl rfl)
    refine (pow_spec x ((q - 1) / n) q h2 (by omega) hdl hq).mono ?_
    rintro _ _ ⟨rfl, rfl⟩
    refine ⟨(by first | exact trivial | exact Ext.refl _ | assumption | exact Ext.trans (by assumption) (by assumption)), ?_⟩
    refine runJ ?_
    apply again_normal (x + 1, powm x ((q - 1) / n) q)
    · exact (Sub.cons rfl (Sub.cons rfl (Sub.cons rfl (Sub.cons rfl (Sub.nil _)))))
    · refine ⟨rfl, by dsimp only; omega, by dsimp only; omega, hpl, ?_⟩
      dsimp only
      intro e
      obtain rfl : x = X := by omega
      exact hx
    · dsimp only; omega
  have hw : powm w (n / 2) q = q - 1 := Decidable.of_not_not hw
  refine runJ ?_
  (apply (s_litF (f := U) [w] (fun _ => rfl)); exact rfl; exact rfl; exact rfl; exact rfl; exact rfl; exact rfl; exact rfl; exact rfl; omega)
  intro v4 h4 o4 e4 b4
  refine ⟨(by first | exact trivial | exact Ext.refl _ | assumption | exact Ext.trans (by assumption) (by assumption)), ?_⟩
  have e24 := e2.trans e4
  refine runJ ?_
  apply (s_call Tryd_ent48 rfl rfl rfl)
  refine (mul_spec w w q h4 (by omega) (by omega) hq).mono ?_
  rintro _ _ ⟨rfl, rfl⟩
  refine ⟨(by first | exact trivial | exact Ext.refl _ | assumption | exact Ext.trans (by assumption) (by assumption)), ?_⟩
  have hml : mulm w w q < q := mulm_lt (by omega)
  refine runJ ?_
  (first | (apply w_seqB; exact rfl; apply w_block; exact rfl) | skip)
  apply (w_loop (σ := List Nat × Value) rfl (fun j => [(0, U q), (1, U n), (8, j.2), (9, U (mulm w w q))])
    (fun j h' => Ext h2 h' ∧ OwnF h' h2.size 24 U j.2 j.1 ∧ 1 ≤ j.1.length ∧ j.1.length ≤ n / 2 ∧ ∀ (k : Nat) (y : Nat), j.1[k]? = some y → y = w ^ (2 * k + 1) % q) (fun j => n / 2 - j.1.length) ([w], v4))
  · exact (Sub.cons rfl (Sub.cons rfl (Sub.cons rfl (Sub.cons rfl (Sub.nil _)))))
  · refine ⟨e4, o4, Nat.le_refl _, by simp only [List.length_singleton]; omega, fun k y hk => ?_⟩
    rw [List.getElem?_singleton] at hk
    by_cases hk0 : k = 0
    · subst hk0
      simp at hk
      rw [← hk, Nat.mul_zero, Nat.zero_add, Nat.pow_one, Nat.mod_eq_of_lt j3]
    · rw [if_neg hk0] at hk; cases hk
  rintro ⟨xs, v⟩ h5 ⟨e5, o5, k1, k2, k3⟩
  dsimp only at e5 o5 k1 k2 k3 ⊢
  have e25 := e2.trans e5
  refine runJ ?_
  (apply w_condD; exact rfl; exact rfl) <;> intro hl
  · obtain ⟨y, hy⟩ := get_lt (l := xs) (j := xs.length - 1) (by omega)
    have hyv := k3 _ _ hy
    have hyl : y < q := by rw [hyv]; exact Nat.mod_lt _ (by omega)
    have hnx := odd_next (w := w) hq0 k1
    rw [← hyv] at hnx
    refine runJ ?_
    apply (s_call Tryd_ent48 rfl rfl rfl)
    refine (mul_spec y (mulm w w q) q h5 (by omega) (by omega) hq).mono ?_
    rintro _ _ ⟨rfl, rfl⟩
    refine ⟨(by first | exact trivial | exact Ext.refl _ | assumption | exact Ext.trans (by assumption) (by assumption)), ?_⟩
    refine runJ ?_
    (refine s_app1 (bytes := 8) (mulm y (mulm w w q) q) o5 e5 rfl rfl rfl rfl rfl rfl rfl rfl rfl (by first | exact rfl | exact congrArg some (congrArg I (by omega))) (fun _ => rfl) rfl rfl (fun _ _ => trivial) (by omega) (by simp only [maxLen]; omega) ?_)
    intro v6 h6 o6 e6 k6 b6
    refine runJ ?_
    apply again_normal (xs ++ [mulm y (mulm w w q) q], v6)
    · exact (Sub.cons rfl (Sub.cons rfl (Sub.cons rfl (Sub.cons rfl (Sub.nil _)))))
    · refine ⟨e6, o6, by simp, by simp only [List.length_append, List.length_singleton]; omega, fun k z hk => ?_⟩
      by_cases hkl : k < xs.length
      · rw [List.getElem?_append_left hkl] at hk; exact k3 k z hk
      · have hkl2 : k < xs.length + 1 := by have := (List.getElem?_eq_some_iff.1 hk).1; simpa using this
        obtain rfl : k = xs.length := by omega
        rw [List.getElem?_append_right (Nat.le_refl _), Nat.sub_self] at hk
        simp at hk
        rw [← hk, hnx]
    · simp only [List.length_append, List.length_singleton]; omega
  · have hlen : xs.length = n / 2 := by omega
    have s5 := o5.sl
    refine runJ ?_
    apply (s_call Tryd_ent72 rfl rfl rfl)
    refine (smin_spec v xs h5 s5 (by omega) (by omega)).mono ?_
    rintro _ _ ⟨⟨m, rfl, m1, m2⟩, rfl⟩
    refine ⟨(by first | exact trivial | exact trivial), ?_⟩
    refine runJ ?_
    refine fin2 rfl rfl rfl ⟨⟨m, rfl, ?_⟩, e25⟩
    obtain ⟨k, hk, hkm⟩ := List.getElem_of_mem m1
    have hkv := k3 k m (by rw [List.getElem?_eq_getElem hk, hkm])
    refine ⟨by rw [hkv]; exact Nat.mod_lt _ (by omega), w, j3, hw, ⟨k, by omega, hkv⟩, fun j hj => ?_⟩
    obtain ⟨y, hy⟩ := get_lt (l := xs) (j := j) (by omega)
    rw [← k3 j y hy]
    exact m2 y (List.mem_of_getElem? hy)
end Go.Proofs.YtfgfmempmkjlnaaDoor

/- Package ntt: what a table holds; the transform in place. No condition. -/
namespace Go.Proofs.YtfgfmempmkjlnaaDoor
set_option linter.unusedVariables false
set_option maxRecDepth 8000
open Go Go.Den Go.RowKit Go.Mth

/-- A table: its size is 2^L; the root, its inverse, and the size's inverse. -/
structure Tbl where mk ::
  L : Nat
  q : Nat
  w : Nat
  u : Nat
  p : Nat
  vr : Value
  vu : Value
abbrev Tbl.n (t : Tbl) : Nat := 2 ^ t.L
def pows (w q n : Nat) : List Nat := (List.range n).map fun j => w ^ j % q
theorem pows_len (w q n : Nat) : (pows w q n).length = n := by unfold pows; simp
theorem pows_get {w q n j : Nat} (h : j < n) : (pows w q n)[j]? = some (w ^ j % q) := by unfold pows; simp [h]
structure TblOk (t : Tbl) : Prop where mk ::
  l1 : 1 ≤ t.L
  l9 : t.L ≤ 9
  q1 : 1 < t.q
  q61 : t.q < 2305843009213693952
  wl : t.w < t.q
  ul : t.u < t.q
  pl : t.p < t.q
  wn : t.w ^ (2 ^ t.L) % t.q = t.q - 1
  uw : t.w * t.u % t.q = 1
  np : 2 ^ t.L * t.p % t.q = 1
structure TblAt (h : Hp) (g : Value) (t : Tbl) : Prop where mk ::
  var : Var h g 77 [N (2 ^ t.L), U t.q, U t.p, t.vr, t.vu]
  rr : SlF h U t.vr (pows t.w t.q (2 ^ t.L))
  ru : SlF h U t.vu (pows t.u t.q (2 ^ t.L))
theorem TblAt.ext {h h' : Hp} {g : Value} {t : Tbl} (s : TblAt h g t) (e : Ext h h') : TblAt h' g t := ⟨s.var.ext e, s.rr.ext e, s.ru.ext e⟩
theorem TblOk.size {t : Tbl} (k : TblOk t) : 2 ≤ 2 ^ t.L ∧ 2 ^ t.L ≤ 512 :=
  ⟨Nat.pow_le_pow_right (n := 2) (by omega) k.l1, Nat.pow_le_pow_right (n := 2) (by omega) k.l9⟩

/-- A row that fits: so long, all below. -/
def Fit (n q : Nat) (xs : List Nat) : Prop := xs.length = n ∧ ∀ x ∈ xs, x < q
instance (n q : Nat) (xs : List Nat) : Decidable (Fit n q xs) := by unfold Fit; exact inferInstance

theorem Tryd_ent51 : Ent Tryd.prog 51 := ent_of Tryd.func51 (by kernel_rfl) rfl
theorem fits_spec (g va : Value) (t : Tbl) (xs : List Nat) (h : Hp) (K : TblOk t) (A : TblAt h g t) (s : SlF h U va xs) (hl : xs.length < 4611686018427387904) (hal : ∀ x ∈ xs, x < 18446744073709551616) :
    CallsH Tryd.prog 51 [g, va] h fun v' h' => v' = .bool (decide (Fit (2 ^ t.L) t.q xs)) ∧ h = h' := by
  have G := A.var
  have hn := K.size
  obtain ⟨L, q, w, u, p, vr, vu⟩ := t
  dsimp only at G hn ⊢
  generalize 2 ^ L = n at *
  (apply enter Tryd.func51 rfl Tryd.ntmps51 rfl)
  refine runJ ?_
  (apply w_condD; exact rfl; exact rfl) <;> intro hne
  · refine runJ ?_
    exact fin1 rfl rfl ⟨dec_f fun k => hne (by have := k.1; omega), rfl⟩
  have hln : xs.length = n := by omega
  refine runJ ?_
  (first | (apply w_seqB; exact rfl; apply w_block; exact rfl) | skip)
  apply (w_loop (σ := Nat) rfl (fun j => [(0, g), (1, va), (14, va), (15, N xs.length), (16, N j)])
    (fun j h' => h = h' ∧ j ≤ xs.length ∧ ∀ x ∈ xs.take j, x < q) (fun j => xs.length - j) 0)
  · exact (Sub.cons rfl (Sub.cons rfl (Sub.cons rfl (Sub.cons rfl (Sub.cons rfl (Sub.nil _))))))
  · exact ⟨rfl, Nat.zero_le _, by simp⟩
  rintro j h' ⟨rfl, j1, j2⟩
  refine runJ ?_
  (apply w_condD; exact rfl; exact rfl) <;> intro hj
  · obtain ⟨x, hx⟩ := get_lt hj
    refine runJ ?_
    (apply w_condD; exact rfl; exact rfl) <;> intro hd
    · refine runJ ?_
      exact fin1 rfl rfl ⟨dec_f (fun k => by have := k.2 x (List.mem_of_getElem? hx); omega), rfl⟩
    · refine runJ ?_
      apply again_normal (j + 1)
      · exact (Sub.cons rfl (Sub.cons rfl (Sub.cons rfl (Sub.cons rfl (Sub.cons rfl (Sub.nil _))))))
      · refine ⟨rfl, hj, fun y hy => ?_⟩
        rw [take_snoc hx] at hy
        rcases List.mem_append.1 hy with hy | hy
        · exact j2 y hy
        · simp only [List.mem_singleton] at hy; omega
      · omega
  · rw [List.take_of_length_le (by omega)] at j2
    refine runJ ?_
    exact fin1 rfl rfl ⟨dec_t ⟨hln, j2⟩, rfl⟩

/-- Each times the power of its place. -/
def twl (w q : Nat) (xs : List Nat) : List Nat := (List.range xs.length).map fun j => mulm (xs.getD j 0) (w ^ j % q) q

theorem Tryd_ent53 : Ent Tryd.prog 53 := ent_of Tryd.func53 (by kernel_rfl) rfl
theorem twist_spec (g va vp : Value) (t : Tbl) (z : Nat) (xs : List Nat) (h : Hp) (K : TblOk t) (A : TblAt h g t) (s : SlF h U va xs) (sp : SlF h U vp (pows z t.q (2 ^ t.L))) (hl : xs.length = 2 ^ t.L) (hx : ∀ x ∈ xs, x < t.q) :
    CallsH Tryd.prog 53 [g, va, vp] h fun v' h' => Ext h h' ∧ OwnF h' h.size 24 U v' (twl z t.q xs) := by
  have G := A.var
  have hn := K.size
  have hq := K.q61
  have hq1 := K.q1
  obtain ⟨L, q, w, u, p, vr, vu⟩ := t
  dsimp only at G hn hq hq1 sp hl hx ⊢
  generalize 2 ^ L = n at *
  have hpl := pows_len z q n
  have hxl : 0 < xs.length := by omega
  (apply enter Tryd.func53 rfl Tryd.ntmps53 rfl)
  refine runJ ?_
  (apply (s_make (f := U) (bytes := 8) (0)); (first | exact isK_c | exact isK_t rfl); (first | exact isK_c | exact isK_t rfl); exact rfl; exact rfl; exact rfl; exact rfl; exact rfl; exact rfl; omega; omega; omega)
  intro w1 h1 o1 e1 b1
  refine ⟨(by first | exact trivial | exact Ext.refl _ | assumption | exact Ext.trans (by assumption) (by assumption)), ?_⟩
  refine runJ ?_
  (first | (apply w_seqB; exact rfl; apply w_block; exact rfl) | skip)
  apply (w_loop (σ := Nat × List Nat) rfl (fun j => [(0, g), (2, vp), (7, w1), (15, va), (16, N xs.length), (17, N j.1)])
    (fun j h' => Ext h h' ∧ j.1 ≤ n ∧ OwnF h' h.size 24 U w1 j.2 ∧ j.2.length = n ∧ ∀ (k : Nat) (y : Nat), k < j.1 → j.2[k]? = some y → y = mulm (xs.getD k 0) (z ^ k % q) q) (fun j => n - j.1) (0, List.replicate n 0))
  · exact (Sub.cons rfl (Sub.cons rfl (Sub.cons rfl (Sub.cons rfl (Sub.cons rfl (Sub.cons rfl (Sub.nil _)))))))
  · exact ⟨e1, Nat.zero_le _, o1, by simp, fun k y hk => by omega⟩
  rintro ⟨j, ys⟩ h2 ⟨e2, j1, o2, j2, j3⟩
  dsimp only at e2 j1 o2 j2 j3 ⊢
  have G2 := G.ext e2
  have s2 := s.ext e2
  have p2 := sp.ext e2
  have nG := G.neq b1 (Nat.le_refl _)
  have ns := s.neq hxl b1 (Nat.le_refl _)
  have np := sp.neq (by omega) b1 (Nat.le_refl _)
  refine runJ ?_
  (apply w_condD; exact rfl; exact rfl) <;> intro hj
  · obtain ⟨x, hxj⟩ := get_lt hj
    have hxq := hx x (List.mem_of_getElem? hxj)
    have hp := pows_get (w := z) (q := q) (n := n) (j := j) (by omega)
    have hpq : z ^ j % q < q := Nat.mod_lt _ (by omega)
    generalize hz : z ^ j % q = y at *
    refine runJN ?_
    (apply (r_drawnO (w1.ownBlock)); exact rfl; exact mixed; kernel_rfl)
    refine runJ ?_
    apply (s_call Tryd_ent48 rfl rfl rfl)
    refine (mul_spec x y q h2 (by omega) (by omega) (by omega)).mono ?_
    rintro _ _ ⟨rfl, rfl⟩
    refine ⟨Only.refl _ _, ?_⟩
    refine runJ ?_
    (apply (s_storeF (mulm x y q)); exact rfl; exact rfl; exact rfl; exact rfl; exact rfl; exact o2; exact rfl; (first | assumption | omega))
    intro h3 o3 k3
    refine ⟨(by first | exact k3 | exact trivial | exact Ext.refl _ | assumption | exact Ext.trans (by assumption) (by assumption)), ?_⟩
    have e3 := o2.old k3 e2 (Nat.le_refl _)
    refine runJ ?_
    apply again_normal (j + 1, ys.set j (mulm x y q))
    · exact (Sub.cons rfl (Sub.cons rfl (Sub.cons rfl (Sub.cons rfl (Sub.cons rfl (Sub.cons rfl (Sub.nil _)))))))
    · refine ⟨e3, by dsimp only; omega, o3, by simp [j2], fun k y' hk hy' => ?_⟩
      dsimp only at hk hy'
      rw [List.getElem?_set] at hy'
      by_cases hkj : j = k
      · subst hkj
        rw [if_pos rfl, if_pos (by omega)] at hy'
        cases hy'
        rw [getD_of hxj, hz]
      · rw [if_neg hkj] at hy'
        exact j3 k y' (by omega) hy'
    · dsimp only; omega
  · have hjn : j = n := by omega
    subst hjn
    have hys : ys = twl z q xs := by
      refine list_eq (by unfold twl; simp; omega) fun k a b ha hb => ?_
      have hk := (List.getElem?_eq_some_iff.1 ha).1
      rw [j3 k a (by omega) ha]
      unfold twl at hb
      rw [List.getElem?_map, List.getElem?_range (by omega)] at hb
      exact Option.some.inj hb
    subst hys
    refine runJ ?_
    exact fin1 rfl rfl ⟨e2, o2⟩
end Go.Proofs.YtfgfmempmkjlnaaDoor

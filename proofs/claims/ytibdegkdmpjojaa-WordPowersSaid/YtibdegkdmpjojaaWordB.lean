/- Package word and its reference, by contracts: whole products, what is nearest to 0, residues of whole numbers, and the fixed calls. No condition. -/
import Derived.Test.YtibdegkdmpjojaaWord
namespace Go.Proofs.Ytibdegkdmpjojaa
set_option linter.unusedVariables false
open Go Go.Den Go.RowKit

theorem or_low {a c : Nat} (hc : c < 2) : (a * 2 ||| c) = a * 2 + c := by
  have := Num.or_add (a := a) (b := c) (s := 1) (by omega)
  simpa using this

theorem lin1 {W H hi lo T q r : Nat} (hW : W = 2 * H) (h : hi * W + lo = T) (h1 : H * q + r = lo) : (hi * 2 + q) * W + r * 2 = 2 * T := by
  subst hW h h1
  grind
theorem wide_dbl {hi lo T : Nat} (h : hi * 18446744073709551616 + lo = T) : (hi * 2 + lo / 9223372036854775808) * 18446744073709551616 + lo * 2 % 18446744073709551616 = 2 * T := by
  have h2 : lo * 2 % 18446744073709551616 = lo % 9223372036854775808 * 2 := Nat.mul_mod_mul_right 2 lo 9223372036854775808
  have h1 := Nat.div_add_mod lo 9223372036854775808
  have h3 := lin1 (H := 9223372036854775808) rfl h h1
  exact (congrArg (fun z => (hi * 2 + lo / 9223372036854775808) * 18446744073709551616 + z) h2).trans h3
theorem wide_hi {hi lo T : Nat} (h : hi * 18446744073709551616 + lo = T) (hT : 2 * T < 340282366920938463463374607431768211456) : hi * 2 < 18446744073709551616 := by omega
theorem wide_bd {a b : Nat} (ha : a < 18446744073709551616) (hb : b < 18446744073709551616) : a * b < 340282366920938463463374607431768211456 := by
  have : a * b ≤ 18446744073709551615 * 18446744073709551615 := Nat.mul_le_mul (by omega) (by omega)
  omega
theorem wide_end {hi lo T : Nat} (h : hi * 18446744073709551616 + lo = T) (hlo : lo < 18446744073709551616) : hi = T / 18446744073709551616 ∧ lo = T % 18446744073709551616 := by omega
theorem lin2 {W X a Y T z : Nat} (h : Y * W + X = T) (hge : W ≤ X + a) (e : z = X + a - W) : (Y + 1) * W + z = T + a := by
  subst h e
  have : (Y + 1) * W = Y * W + W := by simp only [Nat.add_mul, Nat.one_mul]
  omega
theorem wide_over {Y X a T : Nat} (h : Y * 18446744073709551616 + X = T) (hX : X < 18446744073709551616) (ha : a < 18446744073709551616) (ho : (X + a) % 18446744073709551616 < a) : (Y + 1) * 18446744073709551616 + (X + a) % 18446744073709551616 = T + a := by
  have hge : 18446744073709551616 ≤ X + a := by
    rcases Nat.lt_or_ge (X + a) 18446744073709551616 with k | k
    · rw [Nat.mod_eq_of_lt k] at ho; exact absurd ho (Nat.not_lt.2 (Nat.le_add_left a X))
    · exact k
  have e : (X + a) % 18446744073709551616 = X + a - 18446744073709551616 := by
    rw [Nat.mod_eq_sub_mod hge, Nat.mod_eq_of_lt (Nat.sub_lt_left_of_lt_add hge (Nat.add_lt_add hX ha))]
  exact lin2 h hge e
theorem wide_under {Y X a T : Nat} (h : Y * 18446744073709551616 + X = T) (hX : X < 18446744073709551616) (ha : a < 18446744073709551616) (ho : ¬ (X + a) % 18446744073709551616 < a) : Y * 18446744073709551616 + (X + a) % 18446744073709551616 = T + a := by omega
theorem wide_small {Y X T : Nat} (h : Y * 18446744073709551616 + X = T) (hT : T < 340282366920938463463374607431768211456) : Y < 18446744073709551616 := by omega

theorem Try_ent11 : Ent Try.prog 11 := ent_of Try.func11 (by kernel_rfl) rfl
set_option maxHeartbeats 400000 in
theorem refWide_spec (a b : Nat) (h : Hp) (ha : a < 18446744073709551616) (hb : b < 18446744073709551616) :
    CallsH Try.prog 11 [U a, U b] h fun v h' => v = .tuple [U (a * b / 18446744073709551616), U (a * b % 18446744073709551616)].toArray ∧ h = h' := by
  (apply enter Try.func11 rfl Try.ntmps11 rfl)
  refine run ?_
  apply (w_loop (σ := Nat × Nat × Nat) rfl (fun p => [(0, U a), (1, U b), (6, U p.2.1), (7, U p.2.2), (8, I (p.1 : Int))])
    (fun p h' => h = h' ∧ p.1 ≤ 64 ∧ p.2.2 < 18446744073709551616 ∧ p.2.1 * 18446744073709551616 + p.2.2 = a * (b / 2 ^ (64 - p.1))) (fun p => 64 - p.1) (0, 0, 0))
  · exact (Sub.cons rfl (Sub.cons rfl (Sub.cons rfl (Sub.cons rfl (Sub.cons rfl (Sub.nil _))))))
  · exact ⟨rfl, by simp only []; omega, by simp only []; omega, by simp only []; rw [Nat.div_eq_of_lt hb]; simp⟩
  · rintro ⟨k, hi, lo⟩ h' ⟨rfl, i1, i2, i3⟩
    dsimp only at i1 i2 i3 ⊢
    by_cases hk : k < 64
    · have hhalf := half (b := b) hk
      have hb2 : b / 2 ^ (63 - k) < 18446744073709551616 := Nat.lt_of_le_of_lt (Nat.div_le_self _ _) hb
      have hT := wide_bd ha hb2
      have hT2 : a * (b / 2 ^ (63 - k)) = 2 * (a * (b / 2 ^ (64 - k))) + a * (b / 2 ^ (63 - k) % 2) := by
        conv => lhs; rw [hhalf]
        rw [Nat.mul_add, Nat.mul_left_comm]
      have h2 : hi * 2 < 18446744073709551616 := wide_hi i3 (by omega)
      have h2' : hi * 2 ^ 1 < 18446744073709551616 := h2
      have hc2 : lo / 2 ^ 63 < 2 := by rw [Nat.div_lt_iff_lt_mul (by decide)]; exact i2
      have hc3 : lo / 2 ^ 63 < 18446744073709551616 := by omega
      have hor : hi * 2 ^ 1 ||| lo / 2 ^ 63 = hi * 2 + lo / 2 ^ 63 := or_low hc2
      have hdbl : (hi * 2 + lo / 2 ^ 63) * 18446744073709551616 + lo * 2 ^ 1 % 18446744073709551616 = 2 * (a * (b / 2 ^ (64 - k))) := wide_dbl i3
      have hX : lo * 2 ^ 1 % 18446744073709551616 < 18446744073709551616 := Num.modW _
      have hY : hi * 2 + lo / 2 ^ 63 < 18446744073709551616 := wide_small hdbl (by omega)
      refine runD ?_
      rw [hor]
      refine runD ?_
      (apply s_convUN (63 - k); exact rfl; exact rfl; exact rfl; exact rfl)
      · omega
      · omega
      refine runD ?_
      rw [and_one]
      generalize hi * 2 + lo / 2 ^ 63 = Y at *
      generalize lo * 2 ^ 1 % 18446744073709551616 = X at *
      by_cases hbit : b / 2 ^ (63 - k) % 2 = 1
      · rw [hbit, Nat.mul_one] at hT2
        (apply w_condT; exact rfl; exact rfl; exact hbit)
        refine runD ?_
        (apply s_addUw; (first | exact isK_c | exact isK_t rfl); (first | exact isK_c | exact isK_t rfl); exact rfl)
        have hX2 : (X + a) % 18446744073709551616 < 18446744073709551616 := Num.modW _
        by_cases ho : (X + a) % 18446744073709551616 < a
        · have hov := wide_over hdbl hX ha ho
          have hY2 : Y + 1 < 18446744073709551616 := wide_small hov (by omega)
          refine runD ?_
          apply again_normal (k + 1, Y + 1, (X + a) % 18446744073709551616)
          · exact (Sub.cons rfl (Sub.cons rfl (Sub.cons rfl (Sub.cons rfl (Sub.cons rfl (Sub.nil _))))))
          · exact ⟨rfl, by simp only []; omega, hX2, by simp only []; rw [hov, show 64 - (k + 1) = 63 - k by omega, hT2]⟩
          · simp only []; omega
        · have hov := wide_under hdbl hX ha ho
          refine runD ?_
          apply again_normal (k + 1, Y, (X + a) % 18446744073709551616)
          · exact (Sub.cons rfl (Sub.cons rfl (Sub.cons rfl (Sub.cons rfl (Sub.cons rfl (Sub.nil _))))))
          · exact ⟨rfl, by simp only []; omega, hX2, by simp only []; rw [hov, show 64 - (k + 1) = 63 - k by omega, hT2]⟩
          · simp only []; omega
      · rw [show b / 2 ^ (63 - k) % 2 = 0 by omega, Nat.mul_zero, Nat.add_zero] at hT2
        (apply w_condF; exact rfl; exact rfl; exact hbit)
        refine runD ?_
        apply again_normal (k + 1, Y, X)
        · exact (Sub.cons rfl (Sub.cons rfl (Sub.cons rfl (Sub.cons rfl (Sub.cons rfl (Sub.nil _))))))
        · exact ⟨rfl, by simp only []; omega, hX, by simp only []; rw [hdbl, show 64 - (k + 1) = 63 - k by omega, hT2]⟩
        · simp only []; omega
    · refine runD ?_
      have hz : k = 64 := by omega
      subst hz
      simp only [Nat.sub_self, Nat.pow_zero, Nat.div_one] at i3
      obtain ⟨f1, f2⟩ := wide_end i3 i2
      exact fin2 rfl rfl rfl ⟨by rw [f1, f2], rfl⟩

def centerm (a m : Nat) : Int := if m = 0 ∨ 4611686018427387904 < m then 0 else if m / 2 < a % m then ((a % m : Nat) : Int) - (m : Int) else ((a % m : Nat) : Int)
def liftm (v : Int) (m : Nat) : Nat := if m = 0 then 0 else (v % (m : Int)).toNat

theorem lift_pos {v : Int} {m : Nat} (hm : m ≠ 0) (hv : 0 ≤ v) : liftm v m = v.toNat % m := by
  rw [liftm, if_neg hm]
  obtain ⟨n, rfl⟩ := Int.eq_ofNat_of_zero_le hv
  rw [Int.toNat_natCast, ← Int.natCast_emod, Int.toNat_natCast]
theorem lift_neg {v : Int} {m : Nat} (hm : m ≠ 0) (hv : v < 0) : liftm v m = subm 0 (-v).toNat m := by
  rw [liftm, if_neg hm, subm, if_neg hm, Nat.zero_add]
  obtain ⟨n, hn⟩ := Int.eq_ofNat_of_zero_le (a := -v) (by omega)
  rw [hn, Int.toNat_natCast]
  have hlt : n % m < m := Nat.mod_lt _ (by omega)
  have e : v = -(n : Int) := by omega
  rw [e]
  have h1 : (-(n : Int)) % (m : Int) = (((m - n % m) % m : Nat) : Int) := by
    have hd := Nat.div_add_mod n m
    have : (-(n : Int)) = ((m - n % m : Nat) : Int) + (m : Int) * (-((n / m : Nat) : Int) - 1) := by
      rw [Int.mul_sub, Int.mul_neg, ← Int.natCast_mul]
      omega
    rw [this, Int.add_mul_emod_self_left, ← Int.natCast_emod]
  rw [h1, Int.toNat_natCast]

theorem Try_ent15 : Ent Try.prog 15 := ent_of Try.func15 (by kernel_rfl) rfl
set_option maxHeartbeats 400000 in
theorem center_spec (a m : Nat) (h : Hp) (ha : a < 18446744073709551616) (hm : m < 18446744073709551616) :
    CallsH Try.prog 15 [U a, U m] h fun v h' => v = I (centerm a m) ∧ h = h' := by
  (apply enter Try.func15 rfl Try.ntmps15 rfl)
  refine run ?_
  (apply s_split 7; exact rfl) <;> intro hm0
  · refine run ?_
    exact fin1 rfl rfl ⟨by simp [centerm, hm0], rfl⟩
  · refine run ?_
    (apply w_condD; exact rfl; exact rfl) <;> intro hbig
    · refine run ?_
      exact fin1 rfl rfl ⟨by simp [centerm, hbig], rfl⟩
    · have h1 : a % m < m := Nat.mod_lt _ (by omega)
      refine run ?_
      (apply w_condD; exact rfl; exact rfl) <;> intro hc
      · refine run ?_
        exact fin1 rfl rfl ⟨by rw [centerm, if_neg (by omega), if_pos (by simpa using hc)], rfl⟩
      · refine run ?_
        exact fin1 rfl rfl ⟨by rw [centerm, if_neg (by omega), if_neg (by simpa using hc)], rfl⟩

theorem Try_ent16 : Ent Try.prog 16 := ent_of Try.func16 (by kernel_rfl) rfl
set_option maxHeartbeats 400000 in
theorem refCenter_spec (a m : Nat) (h : Hp) (ha : a < 18446744073709551616) (hm : m < 18446744073709551616) :
    CallsH Try.prog 16 [U a, U m] h fun v h' => v = I (centerm a m) ∧ h = h' := by
  (apply enter Try.func16 rfl Try.ntmps16 rfl)
  refine run ?_
  (apply s_split 7; exact rfl) <;> intro hm0
  · refine run ?_
    exact fin1 rfl rfl ⟨by simp [centerm, hm0], rfl⟩
  · refine run ?_
    (apply w_condD; exact rfl; exact rfl) <;> intro hbig
    · refine run ?_
      exact fin1 rfl rfl ⟨by simp [centerm, hbig], rfl⟩
    · have h1 : a % m < m := Nat.mod_lt _ (by omega)
      refine run ?_
      (apply w_condD; exact rfl; exact rfl) <;> intro hc
      · refine run ?_
        exact fin1 rfl rfl ⟨by rw [centerm, if_neg (by omega), if_pos hc]; congr 1; omega, rfl⟩
      · refine run ?_
        exact fin1 rfl rfl ⟨by rw [centerm, if_neg (by omega), if_neg hc], rfl⟩

theorem Try_ent17 : Ent Try.prog 17 := ent_of Try.func17 (by kernel_rfl) rfl
set_option maxHeartbeats 400000 in
theorem lift_spec (v : Int) (m : Nat) (h : Hp) (hv : -9223372036854775808 ≤ v ∧ v < 9223372036854775808) (hm : m < 18446744073709551616) :
    CallsH Try.prog 17 [I v, U m] h fun u h' => u = U (liftm v m) ∧ h = h' := by
  (apply enter Try.func17 rfl Try.ntmps17 rfl)
  refine run ?_
  (apply w_condD; exact rfl; exact rfl) <;> intro hm0
  · refine run ?_
    exact fin1 rfl rfl ⟨by simp [liftm, hm0], rfl⟩
  · refine run ?_
    (apply w_condD; exact rfl; exact rfl) <;> intro hv0
    · refine run ?_
      (apply s_convUN (v.toNat); exact rfl; exact rfl; exact rfl; exact rfl)
      · omega
      · omega
      refine run ?_
      exact fin1 rfl rfl ⟨by rw [lift_pos hm0 hv0], rfl⟩
    · refine run ?_
      apply (s_convUw (v + 18446744073709551616).toNat rfl rfl rfl rfl)
      · omega
      refine run ?_
      have e : (18446744073709551616 - (v + 18446744073709551616).toNat) % 18446744073709551616 = (-v).toNat := by omega
      rw [e]
      apply (s_call Try_ent23 rfl rfl rfl)
      refine (sub_spec 0 _ m h (by omega) (by omega) hm).mono ?_
      rintro _ _ ⟨rfl, rfl⟩
      refine ⟨trivial, ?_⟩
      refine run ?_
      exact fin1 rfl rfl ⟨by rw [lift_neg hm0 (by omega)], rfl⟩

theorem Try_ent18 : Ent Try.prog 18 := ent_of Try.func18 (by kernel_rfl) rfl
set_option maxHeartbeats 400000 in
theorem refLift_spec (v : Int) (m : Nat) (h : Hp) (hv : -9223372036854775808 ≤ v ∧ v < 9223372036854775808) (hm : m < 18446744073709551616) :
    CallsH Try.prog 18 [I v, U m] h fun u h' => u = U (liftm v m) ∧ h = h' := by
  (apply enter Try.func18 rfl Try.ntmps18 rfl)
  refine run ?_
  (apply w_condD; exact rfl; exact rfl) <;> intro hm0
  · refine run ?_
    exact fin1 rfl rfl ⟨by simp [liftm, hm0], rfl⟩
  · refine run ?_
    (apply w_condD; exact rfl; exact rfl) <;> intro hv0
    · refine run ?_
      (apply s_convUN ((-(v + 1)).toNat); exact rfl; exact rfl; exact rfl; exact rfl)
      · omega
      · omega
      refine run ?_
      have e : (-(v + 1)).toNat + 1 = (-v).toNat := by omega
      rw [e]
      apply (s_call Try_ent24 rfl rfl rfl)
      refine (refSub_spec 0 _ m h (by omega) (by omega) hm).mono ?_
      rintro _ _ ⟨rfl, rfl⟩
      refine ⟨trivial, ?_⟩
      refine run ?_
      exact fin1 rfl rfl ⟨by rw [lift_neg hm0 (by omega)], rfl⟩
    · refine run ?_
      (apply s_convUN (v.toNat); exact rfl; exact rfl; exact rfl; exact rfl)
      · omega
      · omega
      refine run ?_
      exact fin1 rfl rfl ⟨by rw [lift_pos hm0 (by omega)], rfl⟩
end Go.Proofs.Ytibdegkdmpjojaa

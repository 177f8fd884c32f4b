/- The statements of layer 1, each law's Go function walked: it returns true, whatever the words. No condition. -/
import Derived.Test.YtibdegkdmpjojaaWordB
import Derived.RowKit3
import Derived.OpenShut
namespace Go.Proofs.Ytibdegkdmpjojaa
set_option linter.unusedVariables false
open Go Go.Den Go.RowKit

theorem grown_same {W w' : World} (h : W.heap = w'.heap) (ho : Oth W w') : Grown W w' := by
  have hb : Below W.heap.size W w' := ⟨ho.1, ho.2.1, ho.2.2, by rw [h]; exact Nat.le_refl _, fun k _ => by rw [h]⟩
  exact ⟨hb.frame _, fun a => by unfold World.frozen?; rw [h], by rw [h]; exact Nat.le_refl _⟩
theorem nat_of_wf {a : Int} (h : (Lit.int .u64 a).wf = true) : ∃ n : Nat, a = (n : Int) ∧ n < 18446744073709551616 := by
  have := bounds_u64 h
  exact ⟨a.toNat, by omega, by omega⟩

theorem inv_3_7 {i : Nat} {ok : Bool} (h : InvIs 3 7 i ok) : i = 5 ∧ ok = true := by
  cases ok with
  | true => obtain ⟨-, -, h1, h2⟩ := h.1 rfl; exact ⟨by omega, rfl⟩
  | false =>
    rcases (h.2 rfl).1 with h1 | h1
    · omega
    · exact absurd (by decide) h1

theorem Try_ent9 : Ent Try.prog 9 := ent_of Try.func9 (by kernel_rfl) rfl
set_option maxHeartbeats 400000 in
theorem fixed_spec (h : Hp) : CallsH Try.prog 9 [] h fun v h' => v = .bool true ∧ h = h' := by
  have m1 : mulm 9223372036854775808 2 18446744073709551615 = 1 := by decide +kernel
  have c1 : centerm 5 7 = -2 := by decide +kernel
  have c2 : centerm 3 6 = 3 := by decide +kernel
  (apply enter Try.func9 rfl Try.ntmps9 rfl)
  refine runD ?_
  apply (s_call Try_ent10 rfl rfl rfl)
  refine (wide_spec 9223372036854775808 4 h (by decide) (by decide)).mono ?_
  rintro _ _ ⟨rfl, rfl⟩
  refine ⟨trivial, ?_⟩
  refine runD ?_
  apply (s_call Try_ent12 rfl rfl rfl)
  refine (inv_spec 3 7 h (by decide) (by decide)).mono ?_
  rintro _ _ ⟨⟨i, ok, rfl, hi⟩, rfl⟩
  obtain ⟨rfl, rfl⟩ := inv_3_7 hi
  refine ⟨trivial, ?_⟩
  refine runD ?_
  apply (s_call Try_ent25 rfl rfl rfl)
  refine (mul_spec 9223372036854775808 2 18446744073709551615 h (by decide) (by decide) (by decide)).mono ?_
  rintro _ _ ⟨rfl, rfl⟩
  refine ⟨trivial, ?_⟩
  refine runD ?_
  apply (s_call Try_ent15 rfl rfl rfl)
  refine (center_spec 5 7 h (by decide) (by decide)).mono ?_
  rintro _ _ ⟨rfl, rfl⟩
  refine ⟨trivial, ?_⟩
  refine runD ?_
  apply (s_call Try_ent15 rfl rfl rfl)
  refine (center_spec 3 6 h (by decide) (by decide)).mono ?_
  rintro _ _ ⟨rfl, rfl⟩
  refine ⟨trivial, ?_⟩
  refine runD ?_
  exact fin1 rfl rfl ⟨rfl, rfl⟩

set_option maxHeartbeats 400000 in
theorem wordProducts_law (a b : Nat) (h : Hp) (ha : a < 18446744073709551616) (hb : b < 18446744073709551616) :
    CallsH Try.prog 3 [U a, U b] h fun v h' => v = .bool true ∧ h = h' := by
  (apply enter Try.func3 rfl Try.ntmps3 rfl)
  refine runD ?_
  apply (s_call Try_ent9 rfl rfl rfl)
  refine (fixed_spec h).mono ?_
  rintro _ _ ⟨rfl, rfl⟩
  refine ⟨trivial, ?_⟩
  refine runD ?_
  apply (s_call Try_ent10 rfl rfl rfl)
  refine (wide_spec a b h ha hb).mono ?_
  rintro _ _ ⟨rfl, rfl⟩
  refine ⟨trivial, ?_⟩
  refine runD ?_
  apply (s_call Try_ent11 rfl rfl rfl)
  refine (refWide_spec a b h ha hb).mono ?_
  rintro _ _ ⟨rfl, rfl⟩
  refine ⟨trivial, ?_⟩
  have e1 : a * b / 18446744073709551616 = a * b / 18446744073709551616 := rfl
  have e2 : a * b % 18446744073709551616 = a * b % 18446744073709551616 := rfl
  refine runD ?_
  exact fin1 rfl rfl ⟨rfl, rfl⟩

set_option maxHeartbeats 400000 in
theorem wordReckons_law (a b m : Nat) (h : Hp) (ha : a < 18446744073709551616) (hb : b < 18446744073709551616) (hm : m < 18446744073709551616) :
    CallsH Try.prog 7 [U a, U b, U m] h fun v h' => v = .bool true ∧ h = h' := by
  have e1 : addm a b m = addm a b m := rfl
  have e2 : subm a b m = subm a b m := rfl
  have e3 : mulm a b m = mulm a b m := rfl
  (apply enter Try.func7 rfl Try.ntmps7 rfl)
  refine runD ?_
  apply (s_call Try_ent9 rfl rfl rfl)
  refine (fixed_spec h).mono ?_
  rintro _ _ ⟨rfl, rfl⟩
  refine ⟨trivial, ?_⟩
  refine runD ?_
  apply (s_call Try_ent21 rfl rfl rfl)
  refine (add_spec a b m h ha hb hm).mono ?_
  rintro _ _ ⟨rfl, rfl⟩
  refine ⟨trivial, ?_⟩
  refine runD ?_
  apply (s_call Try_ent22 rfl rfl rfl)
  refine (refAdd_spec a b m h ha hb hm).mono ?_
  rintro _ _ ⟨rfl, rfl⟩
  refine ⟨trivial, ?_⟩
  refine runD ?_
  apply (s_call Try_ent23 rfl rfl rfl)
  refine (sub_spec a b m h ha hb hm).mono ?_
  rintro _ _ ⟨rfl, rfl⟩
  refine ⟨trivial, ?_⟩
  refine runD ?_
  apply (s_call Try_ent24 rfl rfl rfl)
  refine (refSub_spec a b m h ha hb hm).mono ?_
  rintro _ _ ⟨rfl, rfl⟩
  refine ⟨trivial, ?_⟩
  refine runD ?_
  apply (s_call Try_ent25 rfl rfl rfl)
  refine (mul_spec a b m h ha hb hm).mono ?_
  rintro _ _ ⟨rfl, rfl⟩
  refine ⟨trivial, ?_⟩
  refine runD ?_
  apply (s_call Try_ent14 rfl rfl rfl)
  refine (refMul_spec a b m h ha hb hm).mono ?_
  rintro _ _ ⟨rfl, rfl⟩
  refine ⟨trivial, ?_⟩
  refine runD ?_
  exact fin1 rfl rfl ⟨rfl, rfl⟩

set_option maxHeartbeats 400000 in
theorem wordPowers_law (a n m : Nat) (h : Hp) (ha : a < 18446744073709551616) (hn : n < 18446744073709551616) (hm : m < 18446744073709551616) :
    CallsH Try.prog 6 [U a, U n, U m] h fun v h' => v = .bool true ∧ h = h' := by
  have e1 : powm a n m = powm a n m := rfl
  (apply enter Try.func6 rfl Try.ntmps6 rfl)
  refine runD ?_
  apply (s_call Try_ent9 rfl rfl rfl)
  refine (fixed_spec h).mono ?_
  rintro _ _ ⟨rfl, rfl⟩
  refine ⟨trivial, ?_⟩
  refine runD ?_
  apply (s_call Try_ent19 rfl rfl rfl)
  refine (pow_spec a n m h ha hn hm).mono ?_
  rintro _ _ ⟨rfl, rfl⟩
  refine ⟨trivial, ?_⟩
  refine runD ?_
  apply (s_call Try_ent20 rfl rfl rfl)
  refine (refPow_spec a n m h ha hn hm).mono ?_
  rintro _ _ ⟨rfl, rfl⟩
  refine ⟨trivial, ?_⟩
  refine runD ?_
  exact fin1 rfl rfl ⟨rfl, rfl⟩

theorem powm_le {a n m : Nat} : powm a n m ≤ m := by
  rw [powm]; split
  · omega
  · exact Nat.le_of_lt (Nat.mod_lt _ (by omega))
theorem subm_le {a b m : Nat} : subm a b m ≤ m := by
  rw [subm]; split
  · omega
  · exact Nat.le_of_lt (Nat.mod_lt _ (by omega))
theorem law_dist (a b c m : Nat) : mulm a (addm b c m) m = addm (mulm a b m) (mulm a c m) m := by
  rcases Nat.eq_zero_or_pos m with h | h
  · subst h; rfl
  · have h0 : m ≠ 0 := by omega
    simp only [mulm, addm, if_neg h0]
    rw [Nat.mul_mod_mod, ← Nat.add_mod, Nat.mul_add]
theorem law_pow (a n k m : Nat) : mulm (powm a n m) (powm a k m) m = powm a (n + k) m := by
  rcases Nat.eq_zero_or_pos m with h | h
  · subst h; rfl
  · have h0 : m ≠ 0 := by omega
    simp only [mulm, powm, if_neg h0]
    rw [← Nat.mul_mod, Nat.pow_add]
theorem law_back (a b m : Nat) : addm (subm a b m) b m = addm a 0 m := by
  rcases Nat.eq_zero_or_pos m with h | h
  · subst h; rfl
  · have h0 : m ≠ 0 := by omega
    have hlt : b % m < m := Nat.mod_lt _ h
    have hd := Nat.div_add_mod b m
    simp only [addm, subm, if_neg h0]
    rw [Nat.mod_add_mod, show a + (m - b % m) + b = a + 0 + m * (1 + b / m) by rw [Nat.mul_add, Nat.mul_one]; omega, Nat.add_mul_mod_self_left]

set_option maxHeartbeats 1000000 in
theorem wordLaws_law (a b c m : Nat) (h : Hp) (ha : a < 18446744073709551616) (hb : b < 18446744073709551616) (hc : c < 18446744073709551616) (hm : m < 18446744073709551616) :
    CallsH Try.prog 8 [U a, U b, U c, U m] h fun v h' => v = .bool true ∧ h = h' := by
  have e1 := law_dist a b c m
  have e2 := law_pow a (b % 1000) (c % 1000) m
  have e3 := law_back a b m
  (apply enter Try.func8 rfl Try.ntmps8 rfl)
  refine runD ?_
  apply (s_call Try_ent9 rfl rfl rfl)
  refine (fixed_spec h).mono ?_
  rintro _ _ ⟨rfl, rfl⟩
  refine ⟨trivial, ?_⟩
  refine runD ?_
  apply (s_call Try_ent21 rfl rfl rfl)
  refine (add_spec b c m h hb hc hm).mono ?_
  rintro _ _ ⟨rfl, rfl⟩
  refine ⟨trivial, ?_⟩
  refine runD ?_
  apply (s_call Try_ent25 rfl rfl rfl)
  refine (mul_spec a _ m h ha (Nat.lt_of_le_of_lt addm_le hm) hm).mono ?_
  rintro _ _ ⟨rfl, rfl⟩
  refine ⟨trivial, ?_⟩
  refine runD ?_
  apply (s_call Try_ent25 rfl rfl rfl)
  refine (mul_spec a b m h ha hb hm).mono ?_
  rintro _ _ ⟨rfl, rfl⟩
  refine ⟨trivial, ?_⟩
  refine runD ?_
  apply (s_call Try_ent25 rfl rfl rfl)
  refine (mul_spec a c m h ha hc hm).mono ?_
  rintro _ _ ⟨rfl, rfl⟩
  refine ⟨trivial, ?_⟩
  refine runD ?_
  apply (s_call Try_ent21 rfl rfl rfl)
  refine (add_spec _ _ m h (Nat.lt_of_le_of_lt mulm_le hm) (Nat.lt_of_le_of_lt mulm_le hm) hm).mono ?_
  rintro _ _ ⟨rfl, rfl⟩
  refine ⟨trivial, ?_⟩
  refine runD ?_
  apply (s_call Try_ent19 rfl rfl rfl)
  refine (pow_spec a _ m h ha (by omega) hm).mono ?_
  rintro _ _ ⟨rfl, rfl⟩
  refine ⟨trivial, ?_⟩
  refine runD ?_
  apply (s_call Try_ent19 rfl rfl rfl)
  refine (pow_spec a _ m h ha (by omega) hm).mono ?_
  rintro _ _ ⟨rfl, rfl⟩
  refine ⟨trivial, ?_⟩
  refine runD ?_
  apply (s_call Try_ent25 rfl rfl rfl)
  refine (mul_spec _ _ m h (Nat.lt_of_le_of_lt powm_le hm) (Nat.lt_of_le_of_lt powm_le hm) hm).mono ?_
  rintro _ _ ⟨rfl, rfl⟩
  refine ⟨trivial, ?_⟩
  refine runD ?_
  apply (s_call Try_ent19 rfl rfl rfl)
  refine (pow_spec a _ m h ha (by omega) hm).mono ?_
  rintro _ _ ⟨rfl, rfl⟩
  refine ⟨trivial, ?_⟩
  refine runD ?_
  apply (s_call Try_ent23 rfl rfl rfl)
  refine (sub_spec a b m h ha hb hm).mono ?_
  rintro _ _ ⟨rfl, rfl⟩
  refine ⟨trivial, ?_⟩
  refine runD ?_
  apply (s_call Try_ent21 rfl rfl rfl)
  refine (add_spec _ b m h (Nat.lt_of_le_of_lt subm_le hm) hb hm).mono ?_
  rintro _ _ ⟨rfl, rfl⟩
  refine ⟨trivial, ?_⟩
  refine runD ?_
  apply (s_call Try_ent21 rfl rfl rfl)
  refine (add_spec a 0 m h ha (by decide) hm).mono ?_
  rintro _ _ ⟨rfl, rfl⟩
  refine ⟨trivial, ?_⟩
  refine runD ?_
  exact fin1 rfl rfl ⟨rfl, rfl⟩

set_option maxHeartbeats 1000000 in
theorem wordInverts_law (a m : Nat) (h : Hp) (ha : a < 18446744073709551616) (hm : m < 18446744073709551616) :
    CallsH Try.prog 4 [U a, U m] h fun v h' => v = .bool true ∧ h = h' := by
  (apply enter Try.func4 rfl Try.ntmps4 rfl)
  refine runD ?_
  apply (s_call Try_ent9 rfl rfl rfl)
  refine (fixed_spec h).mono ?_
  rintro _ _ ⟨rfl, rfl⟩
  refine ⟨trivial, ?_⟩
  refine runD ?_
  apply (s_call Try_ent12 rfl rfl rfl)
  refine (inv_spec a m h ha hm).mono ?_
  rintro _ _ ⟨⟨i, ok, rfl, hi⟩, rfl⟩
  refine ⟨trivial, ?_⟩
  cases ok with
  | true =>
    obtain ⟨h2, hg, hi1, hi2⟩ := hi.1 rfl
    have hmul : mulm a i m = 1 := by rw [mulm, if_neg (by omega)]; exact hi2
    refine runD ?_
    apply (s_call Try_ent13 rfl rfl rfl)
    refine (common_spec a m h ha hm).mono ?_
    rintro _ _ ⟨rfl, rfl⟩
    refine ⟨trivial, ?_⟩
    refine runD ?_
    apply (s_call Try_ent14 rfl rfl rfl)
    refine (refMul_spec a i m h ha (by omega) hm).mono ?_
    rintro _ _ ⟨rfl, rfl⟩
    refine ⟨trivial, ?_⟩
    refine runD ?_
    exact fin1 rfl rfl ⟨rfl, rfl⟩
  | false =>
    obtain ⟨hor, rfl⟩ := hi.2 rfl
    by_cases h2 : m < 2
    · refine runD ?_
      exact fin1 rfl rfl ⟨rfl, rfl⟩
    · have hg : Nat.gcd a m ≠ 1 := by rcases hor with h1 | h1; exact absurd h1 h2; exact h1
      refine runD ?_
      apply (s_call Try_ent13 rfl rfl rfl)
      refine (common_spec a m h ha hm).mono ?_
      rintro _ _ ⟨rfl, rfl⟩
      refine ⟨trivial, ?_⟩
      refine runD ?_
      exact fin1 rfl rfl ⟨rfl, rfl⟩

theorem center_bd (a m : Nat) : -9223372036854775808 ≤ centerm a m ∧ centerm a m < 9223372036854775808 := by
  rw [centerm]
  split
  · omega
  · have h1 : a % m < m := Nat.mod_lt _ (by omega)
    split <;> omega
theorem center_lift (a m : Nat) (h0 : ¬ m = 0) (h1 : ¬ 4611686018427387904 < m) : liftm (centerm a m) m = a % m := by
  have h2 : a % m < m := Nat.mod_lt _ (by omega)
  rw [liftm, if_neg h0, centerm, if_neg (by omega)]
  split
  · rw [Int.sub_emod_right, ← Int.natCast_emod, Int.toNat_natCast, Nat.mod_mod]
  · rw [← Int.natCast_emod, Int.toNat_natCast, Nat.mod_mod]

set_option maxHeartbeats 1000000 in
theorem wordCenters_law (a : Nat) (v : Int) (m : Nat) (h : Hp) (ha : a < 18446744073709551616) (hv : -9223372036854775808 ≤ v ∧ v < 9223372036854775808) (hm : m < 18446744073709551616) :
    CallsH Try.prog 5 [U a, I v, U m] h fun v h' => v = .bool true ∧ h = h' := by
  have e1 : ¬ centerm a m ≠ centerm a m := fun k => k rfl
  have e2 : ¬ liftm v m ≠ liftm v m := fun k => k rfl
  (apply enter Try.func5 rfl Try.ntmps5 rfl)
  refine runD ?_
  apply (s_call Try_ent9 rfl rfl rfl)
  refine (fixed_spec h).mono ?_
  rintro _ _ ⟨rfl, rfl⟩
  refine ⟨trivial, ?_⟩
  refine runD ?_
  apply (s_call Try_ent15 rfl rfl rfl)
  refine (center_spec a m h ha hm).mono ?_
  rintro _ _ ⟨rfl, rfl⟩
  refine ⟨trivial, ?_⟩
  refine runD ?_
  apply (s_call Try_ent16 rfl rfl rfl)
  refine (refCenter_spec a m h ha hm).mono ?_
  rintro _ _ ⟨rfl, rfl⟩
  refine ⟨trivial, ?_⟩
  refine runD ?_
  apply (s_call Try_ent17 rfl rfl rfl)
  refine (lift_spec v m h hv hm).mono ?_
  rintro _ _ ⟨rfl, rfl⟩
  refine ⟨trivial, ?_⟩
  refine runD ?_
  apply (s_call Try_ent18 rfl rfl rfl)
  refine (refLift_spec v m h hv hm).mono ?_
  rintro _ _ ⟨rfl, rfl⟩
  refine ⟨trivial, ?_⟩
  refine runD ?_
  by_cases h0 : m = 0
  · refine runD ?_
    exact fin1 rfl rfl ⟨rfl, rfl⟩
  · by_cases h1 : 4611686018427387904 < m
    · refine runD ?_
      exact fin1 rfl rfl ⟨rfl, rfl⟩
    · have e3 := center_lift a m h0 h1
      refine runD ?_
      apply (s_call Try_ent17 rfl rfl rfl)
      refine (lift_spec _ m h (center_bd a m) hm).mono ?_
      rintro _ _ ⟨rfl, rfl⟩
      refine ⟨trivial, ?_⟩
      refine runD ?_
      exact fin1 rfl rfl ⟨rfl, rfl⟩
end Go.Proofs.Ytibdegkdmpjojaa

/- Texts PspA to PspF of this work, joined: each says in its own head what it proves, and of which condition. -/
import Derived.Test.YtfcmdefigldpnaaDoorMBg19
/- Primes: Euclid's lemma, Fermat's theorem. No program. No condition. -/
namespace Go.Mth
set_option linter.unusedVariables false
set_option maxRecDepth 8000

/-- A prime: nothing but 1 and itself goes into it. -/
def Pr (p : Nat) : Prop := 2 ≤ p ∧ ∀ d, d ∣ p → d = 1 ∨ d = p
theorem Pr.euclid {p a b : Nat} (h : Pr p) (k : p ∣ a * b) : p ∣ a ∨ p ∣ b := by
  rcases h.2 (Nat.gcd p a) (Nat.gcd_dvd_left p a) with h1 | h1
  · exact .inr (Nat.Coprime.dvd_of_dvd_mul_left h1 k)
  · exact .inl (h1 ▸ Nat.gcd_dvd_right p a)
theorem Pr.pow {p a : Nat} (h : Pr p) : ∀ n, p ∣ a ^ n → p ∣ a
  | 0, k => by
    rw [Nat.pow_zero] at k
    have := Nat.le_of_dvd (by decide) k
    have := h.1; omega
  | n + 1, k => by
    rw [Nat.pow_succ] at k
    rcases h.euclid k with k | k
    · exact h.pow n k
    · exact k

/-- Every number above 1 has a least divisor above 1, which is a prime; it is at most the root, if the number is none. -/
theorem least {n : Nat} (hn : 2 ≤ n) : ∃ p, Pr p ∧ p ∣ n ∧ ∀ d, 2 ≤ d → d ∣ n → p ≤ d := by
  have key : ∀ k, (∃ d, 2 ≤ d ∧ d ≤ k ∧ d ∣ n) → ∃ p, 2 ≤ p ∧ p ∣ n ∧ ∀ d, 2 ≤ d → d ∣ n → p ≤ d := by
    intro k
    induction k with
    | zero => rintro ⟨d, h1, h2, -⟩; omega
    | succ k ih =>
      rintro ⟨d, h1, h2, h3⟩
      by_cases hc : ∃ d, 2 ≤ d ∧ d ≤ k ∧ d ∣ n
      · exact ih hc
      · refine ⟨d, h1, h3, fun e he1 he2 => ?_⟩
        refine Classical.byContradiction fun hlt => hc ⟨e, he1, by omega, he2⟩
  obtain ⟨p, h1, h2, h3⟩ := key n ⟨n, hn, Nat.le_refl _, Nat.dvd_refl _⟩
  refine ⟨p, ⟨h1, fun d hd => ?_⟩, h2, h3⟩
  rcases Nat.lt_or_ge d 2 with hd2 | hd2
  · rcases Nat.eq_zero_or_pos d with rfl | h0
    · have := Nat.eq_zero_of_zero_dvd hd; omega
    · exact .inl (by omega)
  · exact .inr (Nat.le_antisymm (Nat.le_of_dvd (by omega) hd) (h3 d hd2 (Nat.dvd_trans hd h2)))

theorem perm_of {α : Type} [DecidableEq α] : ∀ (l1 l2 : List α), l1.Nodup → (∀ x ∈ l1, x ∈ l2) → l2.length ≤ l1.length → List.Perm l1 l2
  | [], l2, _, _, hl => by
    have : l2 = [] := List.eq_nil_of_length_eq_zero (by simpa using hl)
    subst this; exact List.Perm.refl _
  | x :: xs, l2, hn, hs, hl => by
    have hx : x ∈ l2 := hs x (List.mem_cons_self ..)
    have h1 := List.perm_cons_erase hx
    rw [List.nodup_cons] at hn
    have h2 : List.Perm xs (l2.erase x) := perm_of xs (l2.erase x) hn.2 (fun y hy => by
      have hyx : y ≠ x := fun e => hn.1 (e ▸ hy)
      exact (List.mem_erase_of_ne hyx).2 (hs y (List.mem_cons_of_mem _ hy))) (by
      rw [List.length_erase_of_mem hx]
      simp only [List.length_cons] at hl
      omega)
    exact (h2.cons x).trans h1.symm

def prd : List Nat → Nat
  | [] => 1
  | x :: xs => x * prd xs
theorem prd_perm {l1 l2 : List Nat} (h : List.Perm l1 l2) : prd l1 = prd l2 := by
  induction h with
  | nil => rfl
  | cons x _ ih => simp only [prd, ih]
  | swap x y l => simp only [prd]; rw [← Nat.mul_assoc, ← Nat.mul_assoc, Nat.mul_comm y x]
  | trans _ _ ih1 ih2 => exact ih1.trans ih2
theorem prd_map (a p : Nat) : ∀ l : List Nat, prd (l.map fun x => a * x % p) % p = a ^ l.length * prd l % p
  | [] => by simp [prd]
  | x :: xs => by
    simp only [List.map_cons, prd, List.length_cons]
    rw [Nat.mul_mod, prd_map a p xs, Nat.mod_mod, ← Nat.mul_mod]
    congr 1
    rw [Nat.pow_succ]
    simp only [Nat.mul_assoc, Nat.mul_comm, Nat.mul_left_comm]
theorem Pr.prd {p : Nat} (h : Pr p) : ∀ l : List Nat, (∀ x ∈ l, ¬ p ∣ x) → ¬ p ∣ prd l
  | [], _ => fun k => by have := Nat.le_of_dvd (by decide) k; have := h.1; simp only [Mth.prd] at *; omega
  | x :: xs, hx => fun k => by
    rcases h.euclid k with k | k
    · exact hx x (List.mem_cons_self ..) k
    · exact h.prd xs (fun y hy => hx y (List.mem_cons_of_mem _ hy)) k

theorem dvd_sub_of_mod {a b p : Nat} (h : a % p = b % p) (hab : b ≤ a) : p ∣ a - b := by
  rw [Nat.dvd_iff_mod_eq_zero]
  exact (Nat.sub_mod_eq_zero_of_mod_eq h)
/-- Fermat's theorem. -/
theorem fermat {p a : Nat} (h : Pr p) (ha : ¬ p ∣ a) : a ^ (p - 1) % p = 1 := by
  have h2 := h.1
  have hl : ((List.range (p - 1)).map (· + 1)).length = p - 1 := by simp
  have hmem : ∀ x, x ∈ (List.range (p - 1)).map (· + 1) ↔ 1 ≤ x ∧ x < p := fun x => by
    simp only [List.mem_map, List.mem_range]
    constructor
    · rintro ⟨y, hy, rfl⟩; omega
    · intro hx; exact ⟨x - 1, by omega, by omega⟩
  have hnd : ((List.range (p - 1)).map (· + 1)).Nodup := by
    rw [List.nodup_iff_pairwise_ne, List.pairwise_map]
    exact List.nodup_range.imp fun hab e => hab (by omega)
  generalize (List.range (p - 1)).map (· + 1) = l at *
  have hnp : ∀ x ∈ l, ¬ p ∣ x := fun x hx k => by
    have := (hmem x).1 hx
    have := Nat.le_of_dvd (by omega) k; omega
  have hinj : ∀ x ∈ l, ∀ y ∈ l, y ≤ x → a * x % p = a * y % p → x = y := fun x hx y hy hle e => by
    have k := dvd_sub_of_mod e (Nat.mul_le_mul_left _ hle)
    rw [← Nat.mul_sub] at k
    rcases h.euclid k with k | k
    · exact absurd k ha
    · have h3 := (hmem x).1 hx
      have h4 := (hmem y).1 hy
      rcases Nat.eq_zero_or_pos (x - y) with h0 | h0
      · omega
      · have := Nat.le_of_dvd h0 k; omega
  have hP : List.Perm (l.map fun x => a * x % p) l := by
    refine perm_of _ _ ?_ ?_ (by simp)
    · rw [List.nodup_iff_pairwise_ne, List.pairwise_map]
      have := hnd
      rw [List.nodup_iff_pairwise_ne] at this
      refine List.Pairwise.imp_of_mem ?_ this
      intro x y hx hy hne e
      rcases Nat.le_total y x with hle | hle
      · exact hne (hinj x hx y hy hle e)
      · exact hne (hinj y hy x hx hle e.symm).symm
    · intro y hy
      obtain ⟨x, hx, rfl⟩ := List.mem_map.1 hy
      refine (hmem _).2 ⟨?_, Nat.mod_lt _ (by omega)⟩
      refine Nat.pos_of_ne_zero fun h0 => ?_
      rcases h.euclid (Nat.dvd_of_mod_eq_zero h0) with k | k
      · exact ha k
      · exact hnp x hx k
  have h3 := prd_map a p l
  rw [prd_perm hP, hl] at h3
  have h4 : p ∣ a ^ (p - 1) * prd l - prd l := dvd_sub_of_mod h3.symm (Nat.le_mul_of_pos_left _ (Nat.pow_pos (Nat.pos_of_ne_zero fun h0 => ha (h0 ▸ Nat.dvd_zero p))))
  have h5 : a ^ (p - 1) * prd l - prd l = (a ^ (p - 1) - 1) * prd l := by rw [Nat.sub_mul, Nat.one_mul]
  rw [h5] at h4
  rcases h.euclid h4 with k | k
  · have hpos : 1 ≤ a ^ (p - 1) := Nat.pow_pos (Nat.pos_of_ne_zero fun h0 => ha (h0 ▸ Nat.dvd_zero p))
    obtain ⟨c, hc⟩ := k
    rw [show a ^ (p - 1) = 1 + p * c by omega, Nat.add_mul_mod_self_left, Nat.mod_eq_of_lt (by omega)]
  · exact absurd k (h.prd l hnp)
end Go.Mth

/- Primes: so many roots has a polynomial; a number that is no square. No program. No condition. -/
namespace Go.Mth
set_option linter.unusedVariables false
set_option maxRecDepth 8000

def ev (x : Int) : List Int → Int
  | [] => 0
  | c :: cs => c + x * ev x cs
def quo (r : Int) : List Int → List Int
  | [] => []
  | [_] => []
  | _ :: c :: cs => ev r (c :: cs) :: quo r (c :: cs)
theorem ev_quo (x r : Int) : ∀ cs : List Int, ev x cs - ev r cs = (x - r) * ev x (quo r cs)
  | [] => by simp [ev, quo]
  | [c] => by simp [ev, quo]
  | c :: d :: cs => by
    have ih := ev_quo x r (d :: cs)
    have h1 : ev x (c :: d :: cs) = c + x * ev x (d :: cs) := rfl
    have h2 : ev r (c :: d :: cs) = c + r * ev r (d :: cs) := rfl
    have h3 : ev x (quo r (c :: d :: cs)) = ev r (d :: cs) + x * ev x (quo r (d :: cs)) := rfl
    rw [h1, h2, h3]
    generalize ev x (d :: cs) = A at *
    generalize ev r (d :: cs) = B at *
    generalize ev x (quo r (d :: cs)) = C at *
    have : A = B + (x - r) * C := by omega
    subst this
    grind
def Mon (n : Nat) (cs : List Int) : Prop := cs.length = n + 1 ∧ cs.getLast? = some 1
theorem mon_quo {n : Nat} {r : Int} : ∀ {cs : List Int}, Mon (n + 1) cs → Mon n (quo r cs)
  | [], h => by simp [Mon] at h
  | [c], h => by simp [Mon] at h
  | [c, d], h => by
    obtain ⟨h1, h2⟩ := h
    simp at h1 h2
    subst h1 h2
    simp [Mon, quo, ev]
  | c :: d :: e :: cs, h => by
    obtain ⟨h1, h2⟩ := h
    cases n with
    | zero => simp at h1
    | succ n =>
      have ih := mon_quo (n := n) (r := r) (cs := d :: e :: cs) ⟨by simpa using h1, by simpa [List.getLast?_cons_cons] using h2⟩
      refine ⟨?_, ?_⟩
      · have := ih.1
        show (quo r (d :: e :: cs)).length + 1 = _
        omega
      · show (ev r (d :: e :: cs) :: quo r (d :: e :: cs)).getLast? = _
        have h3 : quo r (d :: e :: cs) = ev r (e :: cs) :: quo r (e :: cs) := rfl
        rw [h3, List.getLast?_cons_cons, ← h3]
        exact ih.2
theorem Pr.euclidI {p : Nat} {a b : Int} (h : Pr p) (k : (p : Int) ∣ a * b) : (p : Int) ∣ a ∨ (p : Int) ∣ b := by
  have k := Int.natAbs_dvd_natAbs.2 k
  rw [Int.natAbs_mul, Int.natAbs_natCast] at k
  rcases h.euclid k with k | k
  · exact .inl (Int.natAbs_dvd_natAbs.1 (by rw [Int.natAbs_natCast]; exact k))
  · exact .inr (Int.natAbs_dvd_natAbs.1 (by rw [Int.natAbs_natCast]; exact k))
theorem lagrange {p : Nat} (h : Pr p) : ∀ (n : Nat) (cs : List Int) (rs : List Nat), Mon n cs → rs.Nodup → (∀ r ∈ rs, r < p ∧ (p : Int) ∣ ev r cs) → rs.length ≤ n
  | 0, cs, rs, hm, hn, hr => by
    cases rs with
    | nil => exact Nat.le_refl _
    | cons r rs =>
      obtain ⟨h1, h2⟩ := hm
      match cs, h1 with
      | [c], _ =>
        simp at h2
        subst h2
        have h3 := (hr r (List.mem_cons_self ..)).2
        simp only [ev, Int.mul_zero, Int.add_zero] at h3
        have h4 := Int.le_of_dvd (by decide) h3
        have := h.1; omega
  | n + 1, cs, rs, hm, hn, hr => by
    cases rs with
    | nil => exact Nat.zero_le _
    | cons r rs =>
      rw [List.nodup_cons] at hn
      have ih := lagrange h n (quo r cs) rs (mon_quo hm) hn.2 fun x hx => by
        obtain ⟨h1, h2⟩ := hr x (List.mem_cons_of_mem _ hx)
        obtain ⟨h3, h4⟩ := hr r (List.mem_cons_self ..)
        refine ⟨h1, ?_⟩
        have h5 := Int.dvd_sub h2 h4
        rw [ev_quo] at h5
        rcases h.euclidI h5 with k | k
        · exfalso
          have hne : x ≠ r := fun e => hn.1 (e ▸ hx)
          obtain ⟨c, hc⟩ := k
          rcases Int.lt_trichotomy c 0 with c0 | c0 | c0
          · have := Int.mul_le_mul_of_nonneg_left (show c ≤ -1 by omega) (show 0 ≤ (p : Int) by omega)
            omega
          · subst c0; omega
          · have := Int.mul_le_mul_of_nonneg_left (show 1 ≤ c by omega) (show 0 ≤ (p : Int) by omega)
            omega
        · exact k
      simp only [List.length_cons]
      omega
theorem ev_rep (x : Int) : ∀ n, ev x (List.replicate n 0 ++ [1]) = x ^ n
  | 0 => by simp [ev]
  | n + 1 => by
    rw [List.replicate_succ, List.cons_append]
    show 0 + x * ev x (List.replicate n 0 ++ [1]) = _
    rw [ev_rep x n, Int.pow_succ, Int.zero_add, Int.mul_comm]
/-- Not all are squares. -/
theorem nonres {p : Nat} (h : Pr p) (hp : p % 2 = 1) : ∃ X, 2 ≤ X ∧ X < p ∧ X ^ ((p - 1) / 2) % p = p - 1 := by
  refine Classical.byContradiction fun hc => ?_
  have h2 := h.1
  obtain ⟨n, hn⟩ : ∃ n, n + 1 = (p - 1) / 2 := ⟨(p - 1) / 2 - 1, by omega⟩
  have hall : ∀ x, 1 ≤ x → x < p → (p : Int) ∣ ev (x : Int) (-1 :: (List.replicate n 0 ++ [1])) := fun x h1 hx => by
    show (p : Int) ∣ -1 + (x : Int) * ev x (List.replicate n 0 ++ [1])
    rw [ev_rep]
    have hnd : ¬ p ∣ x := fun k => by have := Nat.le_of_dvd (by omega) k; omega
    have hf := fermat h hnd
    have hsq : p - 1 = (n + 1) + (n + 1) := by omega
    rw [hsq, Nat.pow_add] at hf
    have hx1 : 1 ≤ x ^ (n + 1) := Nat.pow_pos h1
    have hd : p ∣ (x ^ (n + 1) - 1) * (x ^ (n + 1) + 1) := by
      have : (x ^ (n + 1) - 1) * (x ^ (n + 1) + 1) = x ^ (n + 1) * x ^ (n + 1) - 1 := by
        generalize x ^ (n + 1) = y at *
        obtain ⟨z, rfl⟩ : ∃ z, y = z + 1 := ⟨y - 1, by omega⟩
        have : (z + 1) * (z + 1) = z * (z + 1 + 1) + 1 := by grind
        rw [this, Nat.add_sub_cancel, Nat.add_sub_cancel]
      rw [this]
      have := Nat.div_add_mod (x ^ (n + 1) * x ^ (n + 1)) p
      rw [hf] at this
      exact ⟨x ^ (n + 1) * x ^ (n + 1) / p, by omega⟩
    have e1 : (x : Int) * (x : Int) ^ n = ((x ^ (n + 1) : Nat) : Int) := by
      rw [Int.natCast_pow, Int.pow_succ, Int.mul_comm]
    rw [e1]
    rcases h.euclid hd with k | k
    · obtain ⟨c, hc⟩ := k
      refine ⟨c, ?_⟩
      rw [← Int.natCast_mul, ← hc]; omega
    · exfalso
      refine hc ⟨x, ?_, hx, ?_⟩
      · refine Classical.byContradiction fun hlt => ?_
        obtain rfl : x = 1 := by omega
        rw [Nat.one_pow] at k
        have := Nat.le_of_dvd (by decide) k
        omega
      · rw [← hn]
        obtain ⟨c, hc⟩ := k
        cases c with
        | zero => omega
        | succ c =>
          rw [Nat.mul_succ] at hc
          rw [show x ^ (n + 1) = (p - 1) + p * c by omega, Nat.add_mul_mod_self_left, Nat.mod_eq_of_lt (by omega)]
  have hlen := lagrange h (n + 1) (-1 :: (List.replicate n 0 ++ [1])) ((List.range (p - 1)).map (· + 1)) ⟨by simp, by
      rw [← List.cons_append, List.getLast?_concat]⟩ (by
      rw [List.nodup_iff_pairwise_ne, List.pairwise_map]
      exact List.nodup_range.imp fun hab e => hab (by omega)) (fun r hr => by
      obtain ⟨y, hy, rfl⟩ := List.mem_map.1 hr
      have := List.mem_range.1 hy
      exact ⟨by omega, hall (y + 1) (by omega) (by omega)⟩)
  simp at hlen
  omega
end Go.Mth

/- What the test of primes says: the exponent of 2 by the table, strong powers. No program. No condition. -/
namespace Go.Proofs.YtfcmdefigldpnaaDoor
set_option linter.unusedVariables false
set_option maxRecDepth 8000
open Go Go.Mth

theorem and_neg {j m : Nat} (hm : m % 2 = 1) (hj : m < 2 ^ j) : m &&& (2 ^ j - m) = 1 := by
  obtain ⟨c, hc⟩ : ∃ c, m = 2 * c + 1 := ⟨m / 2, by omega⟩
  have e1 : 2 ^ j - m = 2 ^ j - (2 * c + 1) := by rw [hc]
  rw [e1]
  refine Nat.eq_of_testBit_eq fun i => ?_
  rw [Nat.testBit_and, Nat.testBit_two_pow_sub_succ (by omega)]
  cases i with
  | zero =>
    have h0 : 0 < j := by
      rcases Nat.eq_zero_or_pos j with rfl | h
      · rw [Nat.pow_zero] at hj; omega
      · exact h
    simp [hm, Nat.testBit_zero, h0, Nat.mul_mod_right]
  | succ i =>
    rw [Nat.testBit_succ, Nat.testBit_succ, Nat.testBit_succ, show m / 2 = c by omega, show 2 * c / 2 = c by omega]
    simp
    intro h1 _
    exact h1
theorem and_two {k m : Nat} (hk : k ≤ 64) (hm : m % 2 = 1) (hx : 2 ^ k * m < 2 ^ 64) : 2 ^ k * m &&& (2 ^ 64 - 2 ^ k * m) = 2 ^ k := by
  have h1 : 2 ^ 64 = 2 ^ k * 2 ^ (64 - k) := by rw [← Nat.pow_add]; congr 1; omega
  rw [h1, ← Nat.mul_sub, Nat.mul_comm, Nat.mul_comm (2 ^ k) (2 ^ (64 - k) - m), ← Nat.shiftLeft_eq, ← Nat.shiftLeft_eq, ← Nat.shiftLeft_and_distrib, and_neg hm, Nat.shiftLeft_eq, Nat.one_mul]
  rw [h1] at hx
  exact Nat.lt_of_mul_lt_mul_left hx
theorem tz_tab : ∀ k, k < 64 → tzT.getD (2 ^ k * 285870213051353865 % 18446744073709551616 / 2 ^ 58) 0 = k := by decide +kernel
theorem tz_two {k m : Nat} (hm : m % 2 = 1) (hx : 2 ^ k * m < 18446744073709551616) : tz (2 ^ k * m) = k := by
  have hm0 : 0 < m := by omega
  have hk : k < 64 := by
    refine Classical.byContradiction fun hc => ?_
    have h1 : 2 ^ 64 ≤ 2 ^ k := Nat.pow_le_pow_right (by decide) (by omega)
    have h2 : 2 ^ k * 1 ≤ 2 ^ k * m := Nat.mul_le_mul_left _ hm0
    have h3 : (2 : Nat) ^ 64 = 18446744073709551616 := by decide
    omega
  have hpos : 0 < 2 ^ k * m := Nat.mul_pos (Nat.pow_pos (by decide)) hm0
  have ha := and_two (by omega) hm (show 2 ^ k * m < 2 ^ 64 from hx)
  have h64 : (2 : Nat) ^ 64 = 18446744073709551616 := by decide
  rw [h64] at ha
  unfold tz
  have hm2 : (18446744073709551616 - 2 ^ k * m) % 18446744073709551616 = 18446744073709551616 - 2 ^ k * m := Nat.mod_eq_of_lt (by omega)
  rw [if_neg (by omega), hm2, ha]
  exact tz_tab k hk
theorem two_odd : ∀ {n : Nat}, 0 < n → ∃ k m, n = 2 ^ k * m ∧ m % 2 = 1 := by
  intro n
  induction n using Nat.strongRecOn with
  | ind n ih =>
    intro hn
    rcases Nat.mod_two_eq_zero_or_one n with h | h
    · obtain ⟨k, m, h1, h2⟩ := ih (n / 2) (by omega) (by omega)
      exact ⟨k + 1, m, by rw [Nat.pow_succ]; rw [Nat.mul_right_comm, ← h1]; omega, h2⟩
    · exact ⟨0, n, by simp, h⟩

theorem holdsLoop_two {n : Nat} (hn : n ≠ 0) : ∀ (k x : Nat), holdsLoop n k x = true → ∃ r, 1 ≤ r ∧ r ≤ k ∧ x ^ 2 ^ r % n = n - 1
  | 0, x, h => by cases h
  | k + 1, x, h => by
    unfold holdsLoop at h
    rw [Bool.or_eq_true] at h
    have hm : mulm x x n = x * x % n := by unfold mulm; rw [if_neg hn]
    rw [hm] at h
    rcases h with h | h
    · exact ⟨1, Nat.le_refl _, by omega, by rw [Nat.pow_one, Nat.pow_two]; exact beq_iff_eq.1 h⟩
    · obtain ⟨r, h1, h2, h3⟩ := holdsLoop_two hn k _ h
      refine ⟨r + 1, by omega, by omega, ?_⟩
      rw [← h3, ← Nat.pow_mod]
      congr 1
      rw [Nat.pow_succ 2 r, Nat.mul_comm (2 ^ r) 2, Nat.pow_mul, Nat.pow_two]
/-- What one base says. -/
def Strong (n d s a : Nat) : Prop := n ∣ a ∨ a ^ d % n = 1 ∨ ∃ r, r < s ∧ a ^ (d * 2 ^ r) % n = n - 1
theorem strong_of {n d s a : Nat} (hn : n ≠ 0) (hs : 1 ≤ s) (h : holdsB n d s a = true) : Strong n d s a := by
  unfold holdsB at h
  rw [Bool.or_eq_true, Bool.or_eq_true, Bool.or_eq_true] at h
  have hp : powm (a % n) d n = a ^ d % n := by unfold powm; rw [if_neg hn, ← Nat.pow_mod]
  rw [hp] at h
  rcases h with h | h | h | h
  · exact .inl (Nat.dvd_of_mod_eq_zero (beq_iff_eq.1 h))
  · exact .inr (.inl (beq_iff_eq.1 h))
  · exact .inr (.inr ⟨0, hs, by rw [Nat.pow_zero, Nat.mul_one]; exact beq_iff_eq.1 h⟩)
  · obtain ⟨r, h1, h2, h3⟩ := holdsLoop_two hn _ _ h
    refine .inr (.inr ⟨r, by omega, ?_⟩)
    rw [← Nat.pow_mod, ← Nat.pow_mul] at h3
    exact h3
theorem strong_all {n : Nat} (h4 : 4 ≤ n) (h2 : n % 2 = 1) (h64 : n < 18446744073709551616) (h : isB n = true) : ∃ s d, 1 ≤ s ∧ d % 2 = 1 ∧ n - 1 = 2 ^ s * d ∧ ∀ a ∈ bases, Strong n d s a := by
  obtain ⟨s, d, h5, h6⟩ := two_odd (n := n - 1) (by omega)
  have hs : 1 ≤ s := by
    refine Nat.pos_of_ne_zero fun h0 => ?_
    subst h0
    rw [Nat.pow_zero, Nat.one_mul] at h5
    omega
  have ht : tz (n - 1) = s := by rw [h5]; exact tz_two h6 (by omega)
  have hd : (n - 1) / 2 ^ s = d := by rw [h5]; exact Nat.mul_div_cancel_left _ (Nat.pow_pos (by decide))
  refine ⟨s, d, hs, h6, h5, fun a ha => ?_⟩
  unfold isB at h
  rw [if_neg (by omega), ht, hd, List.all_eq_true] at h
  exact strong_of (by omega) hs (h a ha)
end Go.Proofs.YtfcmdefigldpnaaDoor

/- What strong powers say of the primes of a number: for each base the same exponent of 2. No program. No condition. -/
namespace Go.Proofs.YtfcmdefigldpnaaDoor
set_option linter.unusedVariables false
set_option maxRecDepth 8000
open Go Go.Mth

theorem cgModN {a p r : Nat} (h : a % p = r) : Cg (p : Int) (a : Int) (r : Int) := by
  refine ⟨((a / p : Nat) : Int), ?_⟩
  have := Nat.div_add_mod a p
  rw [h] at this
  rw [← Int.natCast_mul]; omega
theorem cgToMod {a p r : Nat} (h : Cg (p : Int) (a : Int) (r : Int)) (hr : r < p) : a % p = r := by
  have h1 : Cg (p : Int) ((a % p : Nat) : Int) (a : Int) := by
    have := Cg.mod (p : Int) (a : Int)
    rw [← Int.natCast_emod] at this
    exact this
  exact Cg.eqN (h1.trans h) (Nat.mod_lt _ (by omega)) hr
theorem cgDvd {p n : Nat} {a b : Int} (h : Cg (n : Int) a b) (k : p ∣ n) : Cg (p : Int) a b := by
  obtain ⟨c, hc⟩ := h
  obtain ⟨m, rfl⟩ := k
  exact ⟨m * c, by rw [hc, Int.natCast_mul, Int.mul_assoc]⟩
theorem cgOne {p a : Int} (h : Cg p a 1) (n : Nat) : Cg p (a ^ n) 1 := by
  have := h.pow n
  rwa [Int.one_pow] at this
theorem odd_two {p z : Int} {d : Nat} (hd : d % 2 = 1) (h1 : Cg p (z ^ d) 1) : ∀ {e : Nat}, Cg p (z ^ 2 ^ e) 1 → Cg p z 1
  | 0, h => by rwa [Nat.pow_zero, Int.pow_one] at h
  | e + 1, h => by
    refine odd_two hd h1 (e := e) ?_
    have h2 : Cg p ((z ^ 2 ^ e) ^ d) 1 := by
      rw [← Int.pow_mul, Nat.mul_comm, Int.pow_mul]
      exact cgOne h1 _
    have h3 : Cg p ((z ^ 2 ^ e) ^ 2) 1 := by
      rw [← Int.pow_mul, ← Nat.pow_succ]; exact h
    obtain ⟨c, rfl⟩ : ∃ c, d = 2 * c + 1 := ⟨d / 2, by omega⟩
    rw [Int.pow_succ, Int.pow_mul] at h2
    have h4 := (cgOne h3 c).mul (Cg.refl p (z ^ 2 ^ e))
    rw [Int.one_mul] at h4
    exact h4.symm.trans h2

def sgl (p : Nat) : Nat → Nat → Nat
  | 0, _ => 0
  | k + 1, y => if y % p = 1 then 0 else 1 + sgl p k (y * y % p)
theorem sgl_val {p : Nat} : ∀ (k c y : Nat), c < k → y ^ 2 ^ c % p = 1 → (∀ j, j < c → y ^ 2 ^ j % p ≠ 1) → sgl p k y = c
  | 0, c, y, h, _, _ => by omega
  | k + 1, 0, y, _, h, _ => by
    rw [Nat.pow_zero, Nat.pow_one] at h
    unfold sgl; rw [if_pos h]
  | k + 1, c + 1, y, hc, h, hj => by
    have h0 := hj 0 (by omega)
    rw [Nat.pow_zero, Nat.pow_one] at h0
    have e : ∀ i, (y * y % p) ^ 2 ^ i % p = y ^ 2 ^ (i + 1) % p := fun i => by
      rw [← Nat.pow_mod, ← Nat.pow_two, ← Nat.pow_mul, Nat.pow_succ 2 i, Nat.mul_comm (2 ^ i) 2]
    unfold sgl
    rw [if_neg h0, sgl_val k c (y * y % p) (by omega) (by rw [e]; exact h) (fun j hjc => by rw [e]; exact hj (j + 1) (by omega))]
    omega
def oddp : Nat → Nat → Nat
  | 0, n => n
  | k + 1, n => if n % 2 = 0 then oddp k (n / 2) else n
theorem oddp_two : ∀ (k e f : Nat), e ≤ k → f % 2 = 1 → oddp k (2 ^ e * f) = f
  | 0, e, f, h, hf => by obtain rfl : e = 0 := by omega
                         simp [oddp]
  | k + 1, 0, f, h, hf => by unfold oddp; rw [Nat.pow_zero, Nat.one_mul, if_neg (by omega)]
  | k + 1, e + 1, f, h, hf => by
    unfold oddp
    rw [Nat.pow_succ, Nat.mul_right_comm, if_pos (Nat.mul_mod_left _ _), Nat.mul_div_cancel _ (by decide)]
    exact oddp_two k e f (by omega) hf
/-- The exponent of 2 in the order of a base. -/
def sg (p a : Nat) : Nat := sgl p 65 (fp p 64 a (oddp 64 (p - 1)))

theorem sg_strong {n d s a p : Nat} (hp : Pr p) (hp2 : p % 2 = 1) (hpn : p ∣ n) (h64 : n < 18446744073709551616) (hpa : ¬ p ∣ a) (hn : n - 1 = 2 ^ s * d) (hd : d % 2 = 1) :
    (a ^ d % n = 1 → sg p a = 0) ∧ ∀ r, r < s → a ^ (d * 2 ^ r) % n = n - 1 → sg p a = r + 1 := by
  have h2 := hp.1
  have hple : p ≤ n := by
    rcases Nat.eq_zero_or_pos n with h0 | h0
    · subst h0
      have : 0 < 2 ^ s * d := Nat.mul_pos (Nat.pow_pos (by decide)) (by omega)
      omega
    · exact Nat.le_of_dvd h0 hpn
  have hbig : ∀ {k m x : Nat}, m % 2 = 1 → x = 2 ^ k * m → x < 18446744073709551616 → k < 64 := fun {k m x} hm hx hlt => by
    refine Classical.byContradiction fun hc => ?_
    have h1 : 2 ^ 64 ≤ 2 ^ k := Nat.pow_le_pow_right (by decide) (by omega)
    have h2 : 2 ^ k * 1 ≤ 2 ^ k * m := Nat.mul_le_mul_left _ (by omega)
    have h3 : (2 : Nat) ^ 64 = 18446744073709551616 := by decide
    omega
  obtain ⟨e, f, h3, h4⟩ := two_odd (n := p - 1) (by omega)
  have he := hbig h4 h3 (by omega)
  have hs := hbig hd hn (by omega)
  have hsg : sg p a = sgl p 65 (a ^ f % p) := by
    unfold sg
    rw [fp_eq p 64 a _ (by
      rw [h3, oddp_two 64 e f (by omega) h4]
      have : 1 * f ≤ 2 ^ e * f := Nat.mul_le_mul_right _ (Nat.pow_pos (by decide))
      have h5 : (2 : Nat) ^ 64 = 18446744073709551616 := by decide
      omega), h3, oddp_two 64 e f (by omega) h4]
  have hF : Cg (p : Int) (((a ^ f : Nat) : Int) ^ 2 ^ e) 1 := by
    have := cgModN (fermat hp hpa)
    rw [h3, Nat.mul_comm, Nat.pow_mul] at this
    rw [← Int.natCast_pow]; exact this
  refine ⟨fun h => ?_, fun r hr h => ?_⟩
  · rw [hsg]
    have h5 := cgDvd (cgModN h) hpn
    have h6 : Cg (p : Int) (((a ^ f : Nat) : Int) ^ d) 1 := by
      rw [← Int.natCast_pow, ← Nat.pow_mul, Nat.mul_comm, Nat.pow_mul, Int.natCast_pow]
      exact cgOne h5 f
    have h7 := cgToMod (r := 1) (odd_two hd h6 hF) (by omega)
    exact sgl_val 65 0 _ (by decide) (by rw [Nat.pow_zero, Nat.pow_one, Nat.mod_mod]; exact h7) (fun j hj => by omega)
  · rw [hsg]
    have h5 : Cg (n : Int) ((a ^ (d * 2 ^ r) : Nat) : Int) (-1) := by
      refine (cgModN h).trans ⟨1, ?_⟩
      omega
    have h5 := cgDvd h5 hpn
    have h6 : Cg (p : Int) ((((a ^ f : Nat) : Int) ^ 2 ^ r) ^ d) (-1) := by
      have e1 : (((a ^ f : Nat) : Int) ^ 2 ^ r) ^ d = (((a ^ (d * 2 ^ r) : Nat) : Int)) ^ f := by
        rw [← Int.natCast_pow, ← Int.natCast_pow, ← Int.natCast_pow, ← Nat.pow_mul, ← Nat.pow_mul, ← Nat.pow_mul]
        congr 2
        simp only [Nat.mul_comm, Nat.mul_left_comm]
      rw [e1]
      refine (h5.pow f).trans (Cg.of_eq ?_)
      obtain ⟨c, rfl⟩ : ∃ c, f = 2 * c + 1 := ⟨f / 2, by omega⟩
      rw [Int.pow_succ, Int.pow_mul]
      simp [Int.one_pow]
    refine sgl_val 65 (r + 1) _ (by omega) ?_ fun j hj k => ?_
    · have h7 : Cg (p : Int) (((a ^ f : Nat) : Int) ^ 2 ^ (r + 1)) 1 := by
        refine odd_two (e := e) hd ?_ ?_
        · have := h6.mul h6
          rw [show (-1 : Int) * -1 = 1 by decide] at this
          rw [Nat.pow_succ, Int.pow_mul]
          generalize ((a ^ f : Nat) : Int) ^ 2 ^ r = w at *
          rw [← Int.pow_mul, Nat.mul_comm, Int.pow_mul, Int.pow_succ, Int.pow_succ, Int.pow_zero, Int.one_mul]
          exact this
        · rw [← Int.pow_mul, Nat.mul_comm, Int.pow_mul]
          exact cgOne hF _
      rw [← Nat.pow_mod]
      refine cgToMod (r := 1) ?_ (by omega)
      rw [Int.natCast_pow]; exact h7
    · rw [← Nat.pow_mod] at k
      have k1 := cgModN k
      rw [Int.natCast_pow] at k1
      obtain ⟨i, rfl⟩ : ∃ i, r = j + i := ⟨r - j, by omega⟩
      have k2 : Cg (p : Int) ((((a ^ f : Nat) : Int) ^ 2 ^ (j + i)) ^ d) 1 := by
        rw [Nat.pow_add, Int.pow_mul]
        exact cgOne (cgOne k1 _) _
      obtain ⟨c, hc⟩ := h6.symm.trans k2
      have hc2 : (p : Int) * c = -2 := by omega
      have : (p : Int) ∣ 2 := ⟨-c, by rw [Int.mul_neg]; omega⟩
      have := Int.le_of_dvd (by decide) this
      omega
theorem sg_eq {n d s a p q : Nat} (hp : Pr p) (hq : Pr q) (hp2 : p % 2 = 1) (hq2 : q % 2 = 1) (hpn : p ∣ n) (hqn : q ∣ n) (h64 : n < 18446744073709551616) (hpa : ¬ p ∣ a) (hqa : ¬ q ∣ a) (hn : n - 1 = 2 ^ s * d) (hd : d % 2 = 1) (h : Strong n d s a) : sg p a = sg q a := by
  have P := sg_strong (a := a) hp hp2 hpn h64 hpa hn hd
  have Q := sg_strong (a := a) hq hq2 hqn h64 hqa hn hd
  rcases h with h | h | ⟨r, hr, h⟩
  · exact absurd (Nat.dvd_trans hpn h) hpa
  · rw [P.1 h, Q.1 h]
  · rw [P.2 r hr h, Q.2 r hr h]
end Go.Proofs.YtfcmdefigldpnaaDoor

/- What strong powers say: of a prime's square, of two primes, of a prime that goes into the base. No program. No condition. -/
namespace Go.Proofs.YtfcmdefigldpnaaDoor
set_option linter.unusedVariables false
set_option maxRecDepth 8000
open Go Go.Mth

theorem strong_dvd {n d s a r : Nat} (hr : Pr r) (hrn : r ∣ n) (hn0 : 2 ≤ n) (hra : r ∣ a) (hd : 1 ≤ d) (h : Strong n d s a) : n ∣ a := by
  have h2 := hr.1
  have hz : ∀ m, 1 ≤ m → r ∣ a ^ m := fun m hm => by
    obtain ⟨k, rfl⟩ : ∃ k, m = k + 1 := ⟨m - 1, by omega⟩
    rw [Nat.pow_succ]
    exact Nat.dvd_trans hra (Nat.dvd_mul_left _ _)
  have hmod : ∀ m, 1 ≤ m → r ∣ a ^ m % n := fun m hm => (Nat.dvd_mod_iff hrn).2 (hz m hm)
  rcases h with h | h | ⟨i, -, h⟩
  · exact h
  · have := hmod d hd
    rw [h] at this
    have := Nat.le_of_dvd (by decide) this; omega
  · have := hmod (d * 2 ^ i) (Nat.mul_pos hd (Nat.pow_pos (by decide)))
    rw [h] at this
    have h3 := Nat.dvd_sub hrn this
    rw [show n - (n - 1) = 1 by omega] at h3
    have := Nat.le_of_dvd (by decide) h3; omega
theorem strong_fermat {n d s a : Nat} (hn : n - 1 = 2 ^ s * d) (hn0 : 2 ≤ n) (hna : ¬ n ∣ a) (h : Strong n d s a) : Cg (n : Int) ((a : Int) ^ (n - 1)) 1 := by
  rcases h with h | h | ⟨r, hr, h⟩
  · exact absurd h hna
  · rw [hn, Nat.mul_comm, Int.pow_mul]
    have := cgModN h
    rw [Int.natCast_pow] at this
    exact cgOne this _
  · have h5 : Cg (n : Int) ((a : Int) ^ (d * 2 ^ r)) (-1) := by
      have := (cgModN h).trans (c := -1) ⟨1, by omega⟩
      rwa [Int.natCast_pow] at this
    obtain ⟨i, rfl⟩ : ∃ i, s = r + 1 + i := ⟨s - (r + 1), by omega⟩
    have h6 := h5.mul h5
    rw [show (-1 : Int) * -1 = 1 by decide, ← Int.pow_add] at h6
    have h7 := cgOne h6 (2 ^ i)
    rw [← Int.pow_mul] at h7
    rw [hn]
    have e : (d * 2 ^ r + d * 2 ^ r) * 2 ^ i = 2 ^ (r + 1 + i) * d := by
      rw [Nat.pow_add, Nat.pow_succ, ← Nat.mul_two]
      simp only [Nat.mul_assoc, Nat.mul_comm, Nat.mul_left_comm]
    rwa [e] at h7
theorem pow_near {p k : Int} : ∀ m : Nat, Cg (p * p) ((1 + p * k) ^ m) (1 + m * (p * k))
  | 0 => by simp; exact Cg.refl _ _
  | m + 1 => by
    rw [Int.pow_succ]
    refine ((pow_near m).mul (Cg.refl _ (1 + p * k))).trans ⟨m * k * k, ?_⟩
    push_cast
    grind
/-- A prime's square. -/
theorem sq_fermat {n a p : Nat} (hp : Pr p) (hpn : p * p ∣ n) (hn0 : 2 ≤ n) (hpa : ¬ p ∣ a) (h : Cg (n : Int) ((a : Int) ^ (n - 1)) 1) : a ^ (p - 1) % (p * p) = 1 := by
  have h2 := hp.1
  have hf := cgModN (fermat hp hpa)
  obtain ⟨k, hk⟩ := hf
  have hk : ((a ^ (p - 1) : Nat) : Int) = 1 + p * k := hk
  have h1 := pow_near (p := p) (k := k) p
  rw [← hk] at h1
  have hx : Cg ((p * p : Nat) : Int) (((a ^ (p - 1) : Nat) : Int) ^ p) 1 := by
    rw [Int.natCast_mul]
    refine h1.trans ⟨k, ?_⟩
    rw [Int.mul_assoc]
  have h3 := cgDvd h hpn
  have h4 : Cg ((p * p : Nat) : Int) (((a ^ (p - 1) : Nat) : Int) ^ (n - 1)) 1 := by
    rw [Int.natCast_pow, ← Int.pow_mul, Nat.mul_comm (p - 1) (n - 1), Int.pow_mul]
    exact cgOne h3 _
  obtain ⟨m, hm⟩ := hpn
  have h5 : Cg ((p * p : Nat) : Int) (((a ^ (p - 1) : Nat) : Int) ^ n) 1 := by
    rw [hm, Nat.mul_assoc, Int.pow_mul]
    exact cgOne hx _
  have h6 := h4.mul (Cg.refl _ ((a ^ (p - 1) : Nat) : Int))
  rw [← Int.pow_succ, show (n - 1).succ = n by omega, Int.one_mul] at h6
  have h7 := h6.symm.trans h5
  have hpp : 2 * 2 ≤ p * p := Nat.mul_le_mul h2 h2
  exact cgToMod (r := 1) h7 (by omega)
/-- Two primes. -/
theorem two_fermat {n a p q : Nat} (hq : Pr q) (hn : n = p * q) (hp : 1 ≤ p) (hqa : ¬ q ∣ a) (h : Cg (n : Int) ((a : Int) ^ (n - 1)) 1) : q ∣ a ^ (p - 1) - 1 := by
  have h2 := hq.1
  have hf := cgModN (fermat hq hqa)
  rw [Int.natCast_pow] at hf
  have h3 := cgDvd (p := q) h ⟨p, by rw [hn, Nat.mul_comm]⟩
  have e : n - 1 = (q - 1) * p + (p - 1) := by
    rw [hn, Nat.sub_mul, Nat.one_mul, Nat.mul_comm q p]
    have : p * 1 ≤ p * q := Nat.mul_le_mul_left _ (by omega)
    omega
  rw [e, Int.pow_add, Int.pow_mul] at h3
  have h4 := (cgOne hf p).mul (Cg.refl (q : Int) ((a : Int) ^ (p - 1)))
  rw [Int.one_mul] at h4
  have h5 := h4.symm.trans h3
  rw [← Int.natCast_pow] at h5
  have h6 := cgToMod (r := 1) h5 (by omega)
  exact dvd_sub_of_mod (by rw [h6, Nat.mod_eq_of_lt (by omega)]) (by
    rcases Nat.eq_zero_or_pos (a ^ (p - 1)) with h0 | h0
    · rw [h0, Nat.zero_mod] at h6; omega
    · exact h0)
end Go.Proofs.YtfcmdefigldpnaaDoor

/- The checks of two and more primes, by the kernel. No program. No condition. -/
namespace Go.Proofs.YtfcmdefigldpnaaDoor
set_option linter.unusedVariables false
set_option maxRecDepth 8000
open Go Go.Mth

def smallL : List Nat := [3, 5, 7, 11, 13, 17, 19, 23, 29, 31, 37, 41, 43, 47, 53, 59, 61, 67, 71, 73, 79, 83, 89, 97, 101, 103, 107, 109, 113, 127, 131, 137, 139, 149, 151, 157, 163, 167, 173, 179, 181]
def smallPr : Nat := 2698673146402774891360107038836843903137758765182175327729755799791307145
def candP (p : Nat) : Bool := (Nat.ble p 181 && smallL.any fun x => Nat.beq x p) || (Nat.ble 182 p && Nat.beq (Nat.gcd p smallPr) 1)
def redG (p : Nat) : Nat → List Nat → Nat
  | g, [] => g
  | g, a :: rest => redG p (bif Nat.beq (a % p) 0 then g else Nat.gcd g (fp g 15 a (p - 1) + (g - 1))) rest
def dpr (m : Nat) : Nat → Nat → Nat
  | 0, acc => acc
  | k + 1, acc => dpr m k (bif Nat.beq (m % (k + 1)) 0 then acc * (k + 2) * (m / (k + 1) + 1) else acc)
def strip (P : Nat) : Nat → Nat → Nat
  | 0, g => g
  | k + 1, g => bif Nat.beq (Nat.gcd g P) 1 then g else strip P k (g / Nat.gcd g P)
def lastC (p r : Nat) : Bool := Nat.ble 1 r && (Nat.ble r p || (List.range (r / p)).all fun i => !(Nat.beq (r % (i + 1)) 0) || Nat.ble (r / (i + 1)) p || Nat.ble 1073741824 (p * (r / (i + 1))) || !isF (p * (r / (i + 1))))
def chk3 (p : Nat) : Bool := Nat.ble p 6 || !candP p || lastC p (strip (dpr (p - 1) 181 1) 60 (redG p (2 ^ (p - 1) - 1) bases.tail))
def chk2 (p : Nat) : Bool := !(Nat.beq (fp (p * p) 15 2 (p - 1)) 1) || !(Nat.beq (fp (p * p) 15 325 (p - 1)) 1)
def sigC (p : Nat) : Nat := bases.foldl (fun c a => c * 128 + sg p a) 0
def cover : Nat → Nat → List (Nat × Nat) → Bool
  | 0, _, _ => true
  | f + 1, n, [] => !candP n && cover f (n + 2) []
  | f + 1, n, x :: xs => bif Nat.beq x.1 n then Nat.beq (sigC n) x.2 && cover f (n + 2) xs else !candP n && cover f (n + 2) (x :: xs)
def chkT (p q T : Nat) : Bool := Nat.ble 1073741824 T || !(Nat.beq (fp p 10 2 ((T - 1) % (p - 1))) 1) || !(Nat.beq (fp q 14 2 ((T - 1) % (q - 1))) 1) || !isF T
def chkPart (p q i : Nat) : Bool := (List.range 16).all fun r => !(Nat.beq (p * q * r % 16) 1) || (List.range 4096).all fun j => chkT p q (p * q * (16 * (4096 * i + j) + r))
def chkPair (p q : Nat) : Bool := (List.range (67108864 / (p * q) / 4096 + 1)).all fun i => chkPart p q i
theorem chk3_0 : ((List.range 4).all fun i => (List.range 128).all fun j => chk3 (2 * (512 * 0 + 128 * i + j) + 1)) = true := by decide +kernel
theorem chk3_1 : ((List.range 4).all fun i => (List.range 128).all fun j => chk3 (2 * (512 * 1 + 128 * i + j) + 1)) = true := by decide +kernel
theorem chk3_2 : ((List.range 4).all fun i => (List.range 128).all fun j => chk3 (2 * (512 * 2 + 128 * i + j) + 1)) = true := by decide +kernel
theorem chk3_3 : ((List.range 4).all fun i => (List.range 128).all fun j => chk3 (2 * (512 * 3 + 128 * i + j) + 1)) = true := by decide +kernel
theorem chk3_4 : ((List.range 4).all fun i => (List.range 128).all fun j => chk3 (2 * (512 * 4 + 128 * i + j) + 1)) = true := by decide +kernel
theorem chk3_5 : ((List.range 4).all fun i => (List.range 128).all fun j => chk3 (2 * (512 * 5 + 128 * i + j) + 1)) = true := by decide +kernel
theorem chk3_6 : ((List.range 4).all fun i => (List.range 128).all fun j => chk3 (2 * (512 * 6 + 128 * i + j) + 1)) = true := by decide +kernel
theorem chk3_7 : ((List.range 4).all fun i => (List.range 128).all fun j => chk3 (2 * (512 * 7 + 128 * i + j) + 1)) = true := by decide +kernel
theorem chk3_8 : ((List.range 4).all fun i => (List.range 128).all fun j => chk3 (2 * (512 * 8 + 128 * i + j) + 1)) = true := by decide +kernel
theorem chk3_9 : ((List.range 4).all fun i => (List.range 128).all fun j => chk3 (2 * (512 * 9 + 128 * i + j) + 1)) = true := by decide +kernel
theorem chk3_10 : ((List.range 4).all fun i => (List.range 128).all fun j => chk3 (2 * (512 * 10 + 128 * i + j) + 1)) = true := by decide +kernel
theorem chk3_11 : ((List.range 4).all fun i => (List.range 128).all fun j => chk3 (2 * (512 * 11 + 128 * i + j) + 1)) = true := by decide +kernel
theorem chk3_12 : ((List.range 4).all fun i => (List.range 128).all fun j => chk3 (2 * (512 * 12 + 128 * i + j) + 1)) = true := by decide +kernel
theorem chk3_13 : ((List.range 4).all fun i => (List.range 128).all fun j => chk3 (2 * (512 * 13 + 128 * i + j) + 1)) = true := by decide +kernel
theorem chk3_14 : ((List.range 4).all fun i => (List.range 128).all fun j => chk3 (2 * (512 * 14 + 128 * i + j) + 1)) = true := by decide +kernel
theorem chk3_15 : ((List.range 4).all fun i => (List.range 128).all fun j => chk3 (2 * (512 * 15 + 128 * i + j) + 1)) = true := by decide +kernel
theorem chk3_16 : ((List.range 4).all fun i => (List.range 128).all fun j => chk3 (2 * (512 * 16 + 128 * i + j) + 1)) = true := by decide +kernel
theorem chk3_17 : ((List.range 4).all fun i => (List.range 128).all fun j => chk3 (2 * (512 * 17 + 128 * i + j) + 1)) = true := by decide +kernel
theorem chk3_18 : ((List.range 4).all fun i => (List.range 128).all fun j => chk3 (2 * (512 * 18 + 128 * i + j) + 1)) = true := by decide +kernel
theorem chk3_19 : ((List.range 4).all fun i => (List.range 128).all fun j => chk3 (2 * (512 * 19 + 128 * i + j) + 1)) = true := by decide +kernel
theorem chk3_20 : ((List.range 4).all fun i => (List.range 128).all fun j => chk3 (2 * (512 * 20 + 128 * i + j) + 1)) = true := by decide +kernel
theorem chk3_21 : ((List.range 4).all fun i => (List.range 128).all fun j => chk3 (2 * (512 * 21 + 128 * i + j) + 1)) = true := by decide +kernel
theorem chk3_22 : ((List.range 4).all fun i => (List.range 128).all fun j => chk3 (2 * (512 * 22 + 128 * i + j) + 1)) = true := by decide +kernel
theorem chk3_23 : ((List.range 4).all fun i => (List.range 128).all fun j => chk3 (2 * (512 * 23 + 128 * i + j) + 1)) = true := by decide +kernel
theorem chk3_24 : ((List.range 4).all fun i => (List.range 128).all fun j => chk3 (2 * (512 * 24 + 128 * i + j) + 1)) = true := by decide +kernel
theorem chk3_25 : ((List.range 4).all fun i => (List.range 128).all fun j => chk3 (2 * (512 * 25 + 128 * i + j) + 1)) = true := by decide +kernel
theorem chk3_26 : ((List.range 4).all fun i => (List.range 128).all fun j => chk3 (2 * (512 * 26 + 128 * i + j) + 1)) = true := by decide +kernel
theorem chk3_27 : ((List.range 4).all fun i => (List.range 128).all fun j => chk3 (2 * (512 * 27 + 128 * i + j) + 1)) = true := by decide +kernel
theorem chk3_28 : ((List.range 4).all fun i => (List.range 128).all fun j => chk3 (2 * (512 * 28 + 128 * i + j) + 1)) = true := by decide +kernel
theorem chk3_29 : ((List.range 4).all fun i => (List.range 128).all fun j => chk3 (2 * (512 * 29 + 128 * i + j) + 1)) = true := by decide +kernel
theorem chk3_30 : ((List.range 4).all fun i => (List.range 128).all fun j => chk3 (2 * (512 * 30 + 128 * i + j) + 1)) = true := by decide +kernel
theorem chk3_31 : ((List.range 4).all fun i => (List.range 128).all fun j => chk3 (2 * (512 * 31 + 128 * i + j) + 1)) = true := by decide +kernel
theorem chk2_all : ((List.range 128).all fun i => (List.range 128).all fun j => chk2 (2 * (128 * i + j) + 1)) = true := by decide +kernel
end Go.Proofs.YtfcmdefigldpnaaDoor

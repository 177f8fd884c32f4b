/- Texts PspH to OpenT of this work, joined: each says in its own head what it proves, and of which condition. -/
import Derived.Test.YtfgfmempmkjlnaaDoorMBb23
import Derived.ProofKit
import Derived.OpenShut
import Derived.ShutString
import Derived.ChangeOld
import Derived.Below
import Derived.Test.YtfgfmempmkjlnaaDoorRows
import Derived.LaidMore
import Derived.LaidLaws
import Derived.MakeChecks
/- A number below 2^30 that is 1 modulo 16 and passes the test of primes is one. No program. No condition. -/
namespace Go.Proofs.YtfgfmempmkjlnaaDoor
set_option linter.unusedVariables false
set_option maxRecDepth 8000
open Go Go.Mth

theorem nbeq {a b : Nat} (h : a = b) : Nat.beq a b = true := by rw [h]; exact Nat.beq_refl b
theorem nble {a b : Nat} (h : a ≤ b) : Nat.ble a b = true := Nat.ble_eq_true_of_le h
theorem nble' {a b : Nat} (h : b < a) : Nat.ble a b = false := by
  rcases hb : Nat.ble a b with _ | _
  · rfl
  · have := Nat.le_of_ble_eq_true hb; omega
theorem nbeq' {a b : Nat} (h : a ≠ b) : Nat.beq a b = false := by
  rcases hb : Nat.beq a b with _ | _
  · rfl
  · exact absurd (Nat.eq_of_beq_eq_true hb) h
theorem small_prd : prd smallL = smallPr := by decide +kernel
theorem small_mem : ∀ x ∈ smallL, x ≤ 181 := by decide
theorem small_all : ∀ p, p ≤ 181 → p % 2 = 1 → 3 ≤ p → p ∈ smallL ∨ ∃ d, d < p ∧ 2 ≤ d ∧ p % d = 0 := by decide +kernel
theorem candP_of {p : Nat} (hp : Pr p) (h2 : p % 2 = 1) : candP p = true := by
  have hp2 := hp.1
  unfold candP
  by_cases h : p ≤ 181
  · rw [nble h, Bool.true_and]
    have : (smallL.any fun x => Nat.beq x p) = true := by
      rcases small_all p h h2 (by omega) with k | ⟨d, h3, h4, h5⟩
      · exact List.any_eq_true.2 ⟨p, k, nbeq rfl⟩
      · rcases hp.2 d (Nat.dvd_of_mod_eq_zero h5) with k | k <;> omega
    rw [this]; rfl
  · rw [nble (show 182 ≤ p by omega), Bool.true_and]
    have hg : Nat.gcd p smallPr = 1 := by
      rcases hp.2 _ (Nat.gcd_dvd_left p smallPr) with k | k
      · exact k
      · exfalso
        have h3 : p ∣ smallPr := by rw [← k]; exact Nat.gcd_dvd_right _ _
        rw [← small_prd] at h3
        refine hp.prd smallL (fun x hx hd => ?_) h3
        have h4 := small_mem x hx
        have h5 : 0 < x := (show ∀ x ∈ smallL, 0 < x by decide) x hx
        have := Nat.le_of_dvd h5 hd
        omega
    rw [nbeq hg]; simp

-- a prime that goes into a base
def okT (t : Nat) : Bool := !(Nat.beq (t % 16) 1) || Nat.ble t 1 || (Nat.beq t 193 || Nat.beq t 407521) || !isF t
def okX (a x : Nat) : Bool := !(Nat.beq (a % x) 0) || (okT x && okT (a / x))
theorem base_div : (bases.all fun a => (List.range 212).all fun i => (List.range 200).all fun j => okX a (200 * i + j + 1)) = true := by decide +kernel
theorem okT_of {t : Nat} (h : okT t = true) (h16 : t % 16 = 1) (h1 : 1 < t) (hF : isF t = true) : t = 193 ∨ t = 407521 := by
  unfold okT at h
  rw [nbeq h16, nble' h1, hF] at h
  simp only [Bool.not_true, Bool.or_false, Bool.false_or, Bool.or_eq_true] at h
  rcases h with h | h
  · exact .inl (Nat.eq_of_beq_eq_true h)
  · exact .inr (Nat.eq_of_beq_eq_true h)
theorem div_base {T a : Nat} (ha : a ∈ bases) (hT : T ∣ a) (h16 : T % 16 = 1) (h1 : 1 < T) (hF : isF T = true) : T = 193 ∨ T = 407521 := by
  have H := List.all_eq_true.1 base_div a ha
  have hal : 0 < a ∧ a ≤ 1795265022 := (show ∀ a ∈ bases, 0 < a ∧ a ≤ 1795265022 by decide) a ha
  have key : ∀ x, 1 ≤ x → x ≤ 42400 → okX a x = true := fun x h1 h2 => by
    have h3 := List.all_eq_true.1 (List.all_eq_true.1 H ((x - 1) / 200) (List.mem_range.2 (by omega))) ((x - 1) % 200) (List.mem_range.2 (by omega))
    rwa [show 200 * ((x - 1) / 200) + (x - 1) % 200 + 1 = x by omega] at h3
  obtain ⟨c, hc⟩ := hT
  have hc0 : 0 < c := Nat.pos_of_ne_zero fun h0 => by subst h0; omega
  by_cases hle : T ≤ 42400
  · have k := key T (by omega) hle
    unfold okX at k
    rw [nbeq (show a % T = 0 by rw [hc, Nat.mul_mod_right])] at k
    simp only [Bool.not_true, Bool.false_or, Bool.and_eq_true] at k
    exact okT_of k.1 h16 h1 hF
  · have hcl : c ≤ 42400 := by
      refine Classical.byContradiction fun hn => ?_
      have : 42401 * 42401 ≤ T * c := Nat.mul_le_mul (by omega) (by omega)
      omega
    have k := key c hc0 hcl
    unfold okX at k
    rw [nbeq (show a % c = 0 by rw [hc, Nat.mul_mod_left]), show a / c = T by rw [hc, Nat.mul_div_cancel _ hc0]] at k
    simp only [Bool.not_true, Bool.false_or, Bool.and_eq_true] at k
    exact okT_of k.2 h16 h1 hF
theorem two_pr : (∀ p, p < 14 → 2 ≤ p → 193 % p ≠ 0) ∧ ∀ p, p < 639 → 2 ≤ p → 407521 % p ≠ 0 := by decide +kernel

-- the two checks
theorem chk2_at {p : Nat} (h : p < 32768) (h2 : p % 2 = 1) : chk2 p = true := by
  have h3 := List.all_eq_true.1 (List.all_eq_true.1 chk2_all (p / 2 / 128) (List.mem_range.2 (by omega))) (p / 2 % 128) (List.mem_range.2 (by omega))
  rwa [show 2 * (128 * (p / 2 / 128) + p / 2 % 128) + 1 = p by omega] at h3
theorem chk3_at {p : Nat} (h : p < 32768) (h2 : p % 2 = 1) : chk3 p = true := by
  have key : ∀ k, (p / 2 / 512 = k) → ((List.range 4).all fun i => (List.range 128).all fun j => chk3 (2 * (512 * k + 128 * i + j) + 1)) = true → chk3 p = true := fun k hk H => by
    have h3 := List.all_eq_true.1 (List.all_eq_true.1 H (p / 2 % 512 / 128) (List.mem_range.2 (by omega))) (p / 2 % 128) (List.mem_range.2 (by omega))
    rwa [show 2 * (512 * k + 128 * (p / 2 % 512 / 128) + p / 2 % 128) + 1 = p by omega] at h3
  have hb : p / 2 / 512 < 32 := by omega
  rcases (show p / 2 / 512 = 0 ∨ p / 2 / 512 = 1 ∨ p / 2 / 512 = 2 ∨ p / 2 / 512 = 3 ∨ p / 2 / 512 = 4 ∨ p / 2 / 512 = 5 ∨ p / 2 / 512 = 6 ∨ p / 2 / 512 = 7 ∨ p / 2 / 512 = 8 ∨ p / 2 / 512 = 9 ∨ p / 2 / 512 = 10 ∨ p / 2 / 512 = 11 ∨ p / 2 / 512 = 12 ∨ p / 2 / 512 = 13 ∨ p / 2 / 512 = 14 ∨ p / 2 / 512 = 15 ∨ p / 2 / 512 = 16 ∨ p / 2 / 512 = 17 ∨ p / 2 / 512 = 18 ∨ p / 2 / 512 = 19 ∨ p / 2 / 512 = 20 ∨ p / 2 / 512 = 21 ∨ p / 2 / 512 = 22 ∨ p / 2 / 512 = 23 ∨ p / 2 / 512 = 24 ∨ p / 2 / 512 = 25 ∨ p / 2 / 512 = 26 ∨ p / 2 / 512 = 27 ∨ p / 2 / 512 = 28 ∨ p / 2 / 512 = 29 ∨ p / 2 / 512 = 30 ∨ p / 2 / 512 = 31 by omega) with k | k | k | k | k | k | k | k | k | k | k | k | k | k | k | k | k | k | k | k | k | k | k | k | k | k | k | k | k | k | k | k
  · exact key 0 k chk3_0
  · exact key 1 k chk3_1
  · exact key 2 k chk3_2
  · exact key 3 k chk3_3
  · exact key 4 k chk3_4
  · exact key 5 k chk3_5
  · exact key 6 k chk3_6
  · exact key 7 k chk3_7
  · exact key 8 k chk3_8
  · exact key 9 k chk3_9
  · exact key 10 k chk3_10
  · exact key 11 k chk3_11
  · exact key 12 k chk3_12
  · exact key 13 k chk3_13
  · exact key 14 k chk3_14
  · exact key 15 k chk3_15
  · exact key 16 k chk3_16
  · exact key 17 k chk3_17
  · exact key 18 k chk3_18
  · exact key 19 k chk3_19
  · exact key 20 k chk3_20
  · exact key 21 k chk3_21
  · exact key 22 k chk3_22
  · exact key 23 k chk3_23
  · exact key 24 k chk3_24
  · exact key 25 k chk3_25
  · exact key 26 k chk3_26
  · exact key 27 k chk3_27
  · exact key 28 k chk3_28
  · exact key 29 k chk3_29
  · exact key 30 k chk3_30
  · exact key 31 k chk3_31

-- two primes
theorem redG_dvd {p q : Nat} (hq : 2 ≤ q) (hp : p < 32769) : ∀ (l : List Nat) (g : Nat), 0 < g → q ∣ g → (∀ a ∈ l, a % p ≠ 0 → 1 ≤ a ∧ q ∣ a ^ (p - 1) - 1) → q ∣ redG p g l
  | [], g, hg0, hg, h => hg
  | a :: l, g, hg0, hg, h => by
    unfold redG
    refine redG_dvd hq hp l _ ?_ ?_ fun b hb => h b (List.mem_cons_of_mem _ hb)
    · rcases Nat.beq (a % p) 0 with _ | _
      · exact Nat.gcd_pos_of_pos_left _ hg0
      · exact hg0
    rcases hz : Nat.beq (a % p) 0 with _ | _
    · dsimp only [cond]
      obtain ⟨ha, hd⟩ := h a (List.mem_cons_self ..) (fun e => by rw [nbeq e] at hz; cases hz)
      refine Nat.dvd_gcd hg ?_
      rw [fp_eq g 15 a (p - 1) (by have : (2 : Nat) ^ 15 = 32768 := by decide
                                   omega)]
      have hpos : 1 ≤ a ^ (p - 1) := Nat.pow_pos ha
      generalize a ^ (p - 1) = x at hpos hd
      have hx := Nat.div_add_mod x g
      obtain ⟨c, hc⟩ := hd
      obtain ⟨d, rfl⟩ := hg
      have hdd : q ∣ q * d * (x / (q * d)) := ⟨d * (x / (q * d)), Nat.mul_assoc _ _ _⟩
      generalize x / (q * d) = y at hx hdd
      have e : q * d * y + (x % (q * d) + (q * d - 1)) = q * c + q * d := by omega
      have h1 : q ∣ q * d * y + (x % (q * d) + (q * d - 1)) := by rw [e, ← Nat.mul_add]; exact Nat.dvd_mul_right _ _
      exact (Nat.dvd_add_right hdd).1 h1
    · exact hg
theorem dpr_nd {q m : Nat} (hq : Pr q) (h0 : 0 < m) (hm : m + 1 < q) : ∀ (k acc : Nat), ¬ q ∣ acc → ¬ q ∣ dpr m k acc
  | 0, acc, h => h
  | k + 1, acc, h => by
    unfold dpr
    refine dpr_nd hq h0 hm k _ ?_
    rcases hz : Nat.beq (m % (k + 1)) 0 with _ | _
    · exact h
    · have hz := Nat.eq_of_beq_eq_true hz
      dsimp only [cond]
      intro hd
      have hm1 : m / (k + 1) + 1 < q := by
        have := Nat.div_le_self m (k + 1); omega
      rcases hq.euclid hd with hd | hd
      · rcases hq.euclid hd with hd | hd
        · exact h hd
        · have h1 := Nat.le_of_dvd (by omega) hd
          have := Nat.le_of_dvd h0 (Nat.dvd_of_mod_eq_zero hz)
          omega
      · have := Nat.le_of_dvd (Nat.succ_pos _) hd
        omega
theorem strip_dvd {q P : Nat} (hq : Pr q) (hP : ¬ q ∣ P) : ∀ (k g : Nat), q ∣ g → q ∣ strip P k g
  | 0, g, h => h
  | k + 1, g, h => by
    unfold strip
    rcases Nat.beq (Nat.gcd g P) 1 with _ | _
    · dsimp only [cond]
      refine strip_dvd hq hP k _ ?_
      have e := Nat.mul_div_cancel' (Nat.gcd_dvd_left g P)
      rw [← e] at h
      rcases hq.euclid h with h | h
      · exact absurd (Nat.dvd_trans h (Nat.gcd_dvd_right g P)) hP
      · exact h
    · exact h

theorem lastC_no {p q r : Nat} (h : lastC p r = true) (hq : q ∣ r) (hpq : p < q) (hlt : p * q < 1073741824) (hF : isF (p * q) = true) : False := by
  unfold lastC at h
  rw [Bool.and_eq_true, Bool.or_eq_true] at h
  obtain ⟨h1, h2⟩ := h
  have hr := Nat.le_of_ble_eq_true h1
  have hle := Nat.le_of_dvd hr hq
  rcases h2 with h2 | h2
  · have := Nat.le_of_ble_eq_true h2; omega
  · obtain ⟨k, hk⟩ := hq
    have hk0 : 0 < k := Nat.pos_of_ne_zero fun h0 => by subst h0; omega
    have hp0 : 0 < p := Nat.pos_of_ne_zero fun h0 => by
      subst h0
      have : isF (0 * q) = false := by rw [Nat.zero_mul]; decide
      rw [this] at hF; cases hF
    have hkr : k ≤ r / p := by
      rw [Nat.le_div_iff_mul_le hp0, hk, Nat.mul_comm q k]
      exact Nat.mul_le_mul_left _ (by omega)
    have h3 := List.all_eq_true.1 h2 (k - 1) (List.mem_range.2 (by omega))
    rw [show k - 1 + 1 = k by omega, nbeq (show r % k = 0 by rw [hk, Nat.mul_mod_left]), show r / k = q by rw [hk, Nat.mul_div_cancel _ hk0], nble' hpq, nble' hlt, hF] at h3
    cases h3

-- three primes and more
theorem sigC_eq {p q : Nat} (h : ∀ a ∈ bases, sg p a = sg q a) : sigC p = sigC q := by
  unfold sigC
  have : ∀ (l : List Nat) (c : Nat), (∀ a ∈ l, sg p a = sg q a) → l.foldl (fun c a => c * 128 + sg p a) c = l.foldl (fun c a => c * 128 + sg q a) c := by
    intro l
    induction l with
    | nil => intro c _; rfl
    | cons a l ih =>
      intro c hl
      rw [List.foldl_cons, List.foldl_cons, hl a (List.mem_cons_self ..)]
      exact ih _ fun b hb => hl b (List.mem_cons_of_mem _ hb)
  exact this bases 0 h
theorem cover_mem : ∀ (f n : Nat) (l : List (Nat × Nat)), cover f n l = true → ∀ i, i < f → candP (n + 2 * i) = true → (n + 2 * i, sigC (n + 2 * i)) ∈ l
  | 0, n, l, h, i, hi, hc => by omega
  | f + 1, n, [], h, i, hi, hc => by
    unfold cover at h
    rw [Bool.and_eq_true] at h
    cases i with
    | zero =>
      rw [Nat.mul_zero, Nat.add_zero] at hc
      rw [hc] at h; cases h.1
    | succ i =>
      have := cover_mem f (n + 2) [] h.2 i (by omega) (by rw [show n + 2 + 2 * i = n + 2 * (i + 1) by omega]; exact hc)
      exact absurd this List.not_mem_nil
  | f + 1, n, x :: xs, h, i, hi, hc => by
    unfold cover at h
    rcases hz : Nat.beq x.1 n with _ | _
    · rw [hz] at h
      dsimp only [cond] at h
      rw [Bool.and_eq_true] at h
      cases i with
      | zero =>
        rw [Nat.mul_zero, Nat.add_zero] at hc
        rw [hc] at h; cases h.1
      | succ i =>
        have := cover_mem f (n + 2) (x :: xs) h.2 i (by omega) (by rw [show n + 2 + 2 * i = n + 2 * (i + 1) by omega]; exact hc)
        rwa [show n + 2 + 2 * i = n + 2 * (i + 1) by omega] at this
    · rw [hz] at h
      dsimp only [cond] at h
      rw [Bool.and_eq_true] at h
      have hx := Nat.eq_of_beq_eq_true hz
      have hs := Nat.eq_of_beq_eq_true h.1
      cases i with
      | zero =>
        rw [Nat.mul_zero, Nat.add_zero, hs, ← hx]
        exact List.mem_cons_self ..
      | succ i =>
        have := cover_mem f (n + 2) xs h.2 i (by omega) (by rw [show n + 2 + 2 * i = n + 2 * (i + 1) by omega]; exact hc)
        rw [show n + 2 + 2 * i = n + 2 * (i + 1) by omega] at this
        exact List.mem_cons_of_mem _ this
theorem coverAll_mem : ∀ (ls : List (List (Nat × Nat))) (n : Nat), coverAll n ls = true → ∀ i, i < 200 * ls.length → candP (n + 2 * i) = true → ∃ l ∈ ls, (n + 2 * i, sigC (n + 2 * i)) ∈ l
  | [], n, h, i, hi, hc => by simp at hi
  | l :: ls, n, h, i, hi, hc => by
    unfold coverAll at h
    rw [Bool.and_eq_true] at h
    simp only [List.length_cons] at hi
    by_cases hlt : i < 200
    · exact ⟨l, List.mem_cons_self .., cover_mem 200 n l h.1 i hlt hc⟩
    · obtain ⟨m, hm, hx⟩ := coverAll_mem ls (n + 400) h.2 (i - 200) (by omega) (by rw [show n + 400 + 2 * (i - 200) = n + 2 * i by omega]; exact hc)
      rw [show n + 400 + 2 * (i - 200) = n + 2 * i by omega] at hx
      exact ⟨m, List.mem_cons_of_mem _ hm, hx⟩
theorem tab_mem {p : Nat} (hp : Pr p) (h2 : p % 2 = 1) (h7 : 7 ≤ p) (hlt : p < 12400) : ∃ l ∈ tab, (p, sigC p) ∈ l := by
  have := coverAll_mem tab 7 tab_cover ((p - 7) / 2) (by
    have : tab.length = 31 := rfl
    omega) (by rw [show 7 + 2 * ((p - 7) / 2) = p by omega]; exact candP_of hp h2)
  rwa [show 7 + 2 * ((p - 7) / 2) = p by omega] at this
theorem pair_mem {p q : Nat} (hp : Pr p) (hq : Pr q) (hp2 : p % 2 = 1) (hq2 : q % 2 = 1) (h7 : 7 ≤ p) (hpq : p < q) (hlt : p * q * q < 1073741824) (hs : sigC p = sigC q) : chkPair p q = true := by
  have hq12 : q < 12400 := by
    refine Classical.byContradiction fun hc => ?_
    have h1 : 7 * 12400 ≤ p * q := Nat.mul_le_mul h7 (by omega)
    have h2 : 7 * 12400 * 12400 ≤ p * q * q := Nat.mul_le_mul h1 (by omega)
    omega
  obtain ⟨l, hl, hpl⟩ := tab_mem hp hp2 h7 (by omega)
  obtain ⟨m, hm, hqm⟩ := tab_mem hq hq2 (by omega) hq12
  have h1 := List.all_eq_true.1 (List.all_eq_true.1 tab_pairs l hl) _ hpl
  dsimp only at h1
  have hppp : p * p * p < 1073741824 := by
    have h1 : p * p ≤ p * q := Nat.mul_le_mul_left _ (by omega)
    have h2 : p * p * p ≤ p * q * q := Nat.mul_le_mul h1 (by omega)
    omega
  rw [nble' hppp, Bool.false_or] at h1
  have h2 := List.all_eq_true.1 (List.all_eq_true.1 h1 m hm) _ hqm
  dsimp only at h2
  rw [nbeq hs, nble' hpq, nble' hlt] at h2
  simp only [Bool.not_true, Bool.false_or] at h2
  obtain ⟨z, hz, h3⟩ := List.any_eq_true.1 h2
  rw [Bool.and_eq_true] at h3
  have h4 := pair_ok hz
  rwa [Nat.eq_of_beq_eq_true h3.1, Nat.eq_of_beq_eq_true h3.2] at h4
theorem pow_red {p m : Nat} (h2 : 2 ≤ p) (hf1 : 2 ^ (p - 1) % p = 1) (hf2 : 2 ^ m % p = 1) : 2 ^ (m % (p - 1)) % p = 1 := by
  have h5 := Nat.div_add_mod m (p - 1)
  rwa [← h5, Nat.pow_add, Nat.pow_mul, Nat.mul_mod, Nat.pow_mod, hf1, Nat.one_pow, Nat.mod_eq_of_lt (show 1 < p by omega), Nat.one_mul, Nat.mod_mod] at hf2
theorem pair_no {p q k : Nat} (hp : Pr p) (hq : Pr q) (hc : chkPair p q = true) (hp10 : p < 1025) (hq14 : q < 16385) (hpq : 0 < p * q) (hlt : p * q * k < 1073741824) (h16 : p * q * k % 16 = 1) (hF : isF (p * q * k) = true) (hf1 : 2 ^ (p - 1) % p = 1) (hf2 : 2 ^ (p * q * k - 1) % p = 1) (hg1 : 2 ^ (q - 1) % q = 1) (hg2 : 2 ^ (p * q * k - 1) % q = 1) : False := by
  have h2 := hp.1
  have h3 := hq.1
  unfold chkPair at hc
  have hk : 16 * (k / 16) + k % 16 = k := Nat.div_add_mod k 16
  have hj : k / 16 ≤ 67108864 / (p * q) := by
    refine (Nat.le_div_iff_mul_le hpq).2 ?_
    have h3 : p * q * (16 * (k / 16)) ≤ p * q * k := Nat.mul_le_mul_left _ (by omega)
    rw [Nat.mul_left_comm] at h3
    rw [Nat.mul_comm]
    omega
  have h0 := List.all_eq_true.1 hc (k / 16 / 4096) (List.mem_range.2 (Nat.lt_succ_of_le (Nat.div_le_div_right hj)))
  unfold chkPart at h0
  have h1 := List.all_eq_true.1 h0 (k % 16) (List.mem_range.2 (by omega))
  have e : p * q * (k % 16) % 16 = 1 := by rw [Nat.mul_mod_mod]; exact h16
  rw [nbeq e, Bool.not_true, Bool.false_or] at h1
  have h3 := List.all_eq_true.1 h1 (k / 16 % 4096) (List.mem_range.2 (by omega))
  rw [show 4096 * (k / 16 / 4096) + k / 16 % 4096 = k / 16 by omega, hk] at h3
  unfold chkT at h3
  have h4 : fp p 10 2 ((p * q * k - 1) % (p - 1)) = 1 := by
    rw [fp_eq p 10 2 _ (by
      have : (p * q * k - 1) % (p - 1) < p - 1 := Nat.mod_lt _ (by omega)
      have : (2 : Nat) ^ 10 = 1024 := by decide
      omega)]
    exact pow_red h2 hf1 hf2
  have h5 : fp q 14 2 ((p * q * k - 1) % (q - 1)) = 1 := by
    rw [fp_eq q 14 2 _ (by
      have : (p * q * k - 1) % (q - 1) < q - 1 := Nat.mod_lt _ (by omega)
      have : (2 : Nat) ^ 14 = 16384 := by decide
      omega)]
    exact pow_red (by omega) hg1 hg2
  rw [nble' hlt, hF, nbeq h4, nbeq h5] at h3
  cases h3

/-- What passes the test, is below 2^30 and 1 modulo 16 is a prime. -/
theorem prime_of_isB {T : Nat} (h17 : 4 ≤ T) (hlt : T < 1073741824) (h16 : T % 16 = 1) (h : isB T = true) : Pr T := by
  have hF : isF T = true := by rw [← isB_fast (by omega) (by omega)]; exact h
  obtain ⟨s, d, hs, hd, hsd, hS⟩ := strong_all h17 (by omega) (by omega) h
  obtain ⟨p, hp, hpT, hleast⟩ := least (n := T) (by omega)
  have hp2 := hp.1
  by_cases hpe : p = T
  · rwa [← hpe]
  exfalso
  obtain ⟨m, hm⟩ := id hpT
  have hm1 : 2 ≤ m := by
    rcases Nat.lt_or_ge m 2 with hc | hc
    · rcases (show m = 0 ∨ m = 1 by omega) with rfl | rfl <;> omega
    · exact hc
  have hmT : m ∣ T := ⟨p, by rw [hm, Nat.mul_comm]⟩
  have hpm := hleast m hm1 hmT
  have hpp : p * p ≤ T := by rw [hm]; exact Nat.mul_le_mul_left _ hpm
  have hp15 : p < 32768 := by
    refine Classical.byContradiction fun hc => ?_
    have : 32768 * 32768 ≤ p * p := Nat.mul_le_mul (by omega) (by omega)
    omega
  have hodd : ∀ r, r ∣ T → r % 2 = 1 := fun r hr => by
    refine Classical.byContradiction fun hc => ?_
    obtain ⟨c, hc2⟩ := Nat.dvd_trans (Nat.dvd_of_mod_eq_zero (show r % 2 = 0 by omega)) hr
    omega
  have nob : ∀ r, Pr r → r ∣ T → ∀ a ∈ bases, ¬ r ∣ a := fun r hr hrT a ha hra => by
    have h1 := strong_dvd hr hrT (by omega) hra (by omega) (hS a ha)
    have h2 := div_base ha h1 h16 (by omega) hF
    have hz := Nat.mod_eq_zero_of_dvd hpT
    rcases h2 with rfl | rfl
    · refine two_pr.1 p ?_ hp2 hz
      refine Classical.byContradiction fun hc => ?_
      have : 14 * 14 ≤ p * p := Nat.mul_le_mul (by omega) (by omega)
      omega
    · refine two_pr.2 p ?_ hp2 hz
      refine Classical.byContradiction fun hc => ?_
      have : 639 * 639 ≤ p * p := Nat.mul_le_mul (by omega) (by omega)
      omega
  have hpodd := hodd p hpT
  have h7 : 7 ≤ p := by
    have h3 : p ≠ 3 := fun e => nob p hp hpT 9375 (by decide) (by rw [e]; decide)
    have h5 : p ≠ 5 := fun e => nob p hp hpT 325 (by decide) (by rw [e]; decide)
    omega
  have hpa : ∀ a ∈ bases, ¬ T ∣ a := fun a ha hd => nob p hp hpT a ha (Nat.dvd_trans hpT hd)
  have fer : ∀ a ∈ bases, Cg (T : Int) ((a : Int) ^ (T - 1)) 1 := fun a ha => strong_fermat hsd (by omega) (hpa a ha) (hS a ha)
  have h215 : (2 : Nat) ^ 15 = 32768 := by decide
  by_cases hpm2 : p ∣ m
  · obtain ⟨c, hc⟩ := hpm2
    have hppT : p * p ∣ T := ⟨c, by rw [hm, hc, Nat.mul_assoc]⟩
    have k2 := sq_fermat hp hppT (by omega) (nob p hp hpT 2 (by decide)) (fer 2 (by decide))
    have k3 := sq_fermat hp hppT (by omega) (nob p hp hpT 325 (by decide)) (fer 325 (by decide))
    have k := chk2_at hp15 hpodd
    unfold chk2 at k
    rw [fp_eq _ 15 2 _ (by omega), fp_eq _ 15 325 _ (by omega), k2, k3] at k
    cases k
  obtain ⟨q, hq, hqm, hql⟩ := least hm1
  have hqT : q ∣ T := Nat.dvd_trans hqm hmT
  have hq2 := hq.1
  have hpq : p < q := by
    have h1 := hleast q hq2 hqT
    rcases Nat.lt_or_ge p q with hc | hc
    · exact hc
    · have : p = q := by omega
      exact absurd (this ▸ hqm) hpm2
  have hqodd := hodd q hqT
  obtain ⟨k, hk⟩ := hqm
  have hk0 : 0 < k := Nat.pos_of_ne_zero fun h0 => by subst h0; omega
  by_cases hk1 : k = 1
  · -- two primes
    subst hk1
    rw [Nat.mul_one] at hk
    rw [hk] at hm
    have k3 := chk3_at hp15 hpodd
    unfold chk3 at k3
    rw [nble' (show 6 < p by omega), candP_of hp hpodd] at k3
    simp only [Bool.false_or, Bool.not_true] at k3
    have hdv : ∀ a ∈ bases, q ∣ a ^ (p - 1) - 1 := fun a ha => two_fermat hq hm (by omega) (nob q hq hqT a ha) (fer a ha)
    have hb1 : ∀ a ∈ bases, 1 ≤ a := by decide
    refine lastC_no k3 ?_ hpq (by rw [← hm]; exact hlt) (by rw [← hm]; exact hF)
    refine strip_dvd hq (dpr_nd hq (by omega) (by omega) _ _ fun hd => ?_) _ _ ?_
    · have := Nat.le_of_dvd (by decide) hd; omega
    · have hpw : 2 ^ 2 ≤ 2 ^ (p - 1) := Nat.pow_le_pow_right (by decide) (by omega)
      refine redG_dvd hq2 (by omega) _ _ (by omega) (hdv 2 (by decide)) fun a ha _ => ?_
      exact ⟨hb1 a (List.mem_of_mem_tail ha), hdv a (List.mem_of_mem_tail ha)⟩
  · -- three primes and more
    have hqk : q ≤ k := hql k (by omega) ⟨q, by rw [hk, Nat.mul_comm]⟩
    have hT : T = p * q * k := by rw [hm, hk, Nat.mul_assoc]
    have hpqq : p * q * q < 1073741824 := by
      have : p * q * q ≤ p * q * k := Nat.mul_le_mul_left _ hqk
      omega
    have hsg : sigC p = sigC q := sigC_eq fun a ha => sg_eq hp hq hpodd hqodd hpT hqT (by omega) (nob p hp hpT a ha) (nob q hq hqT a ha) hsd hd (hS a ha)
    have hch := pair_mem hp hq hpodd hqodd h7 hpq hpqq hsg
    have hp10 : p < 1025 := by
      refine Classical.byContradiction fun hc => ?_
      have h1 : 1025 * 1025 ≤ p * q := Nat.mul_le_mul (by omega) (by omega)
      have h2 : 1025 * 1025 * 1025 ≤ p * q * q := Nat.mul_le_mul h1 (by omega)
      omega
    have hq14 : q < 16385 := by
      refine Classical.byContradiction fun hc => ?_
      have h1 : 7 * 16385 ≤ p * q := Nat.mul_le_mul h7 (by omega)
      have h2 : 7 * 16385 * 16385 ≤ p * q * q := Nat.mul_le_mul h1 (by omega)
      omega
    have two : ∀ r, Pr r → r ∣ T → 2 ^ (T - 1) % r = 1 := fun r hr hrT => by
      have h1 := cgDvd (fer 2 (by decide)) hrT
      have h2 : Cg (r : Int) ((2 ^ (T - 1) : Nat) : Int) (1 : Nat) := by rw [Int.natCast_pow]; exact h1
      exact cgToMod h2 (by have := hr.1; omega)
    have t1 := two p hp hpT
    have t2 := two q hq hqT
    rw [hT] at t1 t2 hlt h16 hF
    exact pair_no hp hq hch hp10 hq14 (Nat.mul_pos (by omega) (by omega)) hlt h16 hF (fermat hp (nob p hp hpT 2 (by decide))) t1 (fermat hq (nob q hq hqT 2 (by decide))) t2
end Go.Proofs.YtfgfmempmkjlnaaDoor

/- Package batch: the law BatchBack. Condition: the table of math/bits reads as it is laid. -/
namespace Go.Proofs.YtfgfmempmkjlnaaDoor
set_option linter.unusedVariables false
set_option maxRecDepth 8000
open Go Go.Den Go.RowKit Go.Mth Go.Dig

theorem qok_prime {L T : Nat} (h3 : 3 ≤ L) (hlt : T < 1073741824) (hm : T % (2 * 2 ^ L) = 1) (hB : isB T = true) : QOk L T := by
  have h16 : T % 16 = 1 := by
    obtain ⟨k, rfl⟩ : ∃ k, L = k + 3 := ⟨L - 3, by omega⟩
    have e : 2 * 2 ^ (k + 3) = 16 * 2 ^ k := by rw [Nat.pow_add]; omega
    rw [e] at hm
    rw [← Nat.mod_mod_of_dvd T (⟨2 ^ k, rfl⟩ : 16 ∣ 16 * 2 ^ k), hm]
  have hT : T ≠ 1 := fun e => by subst e; revert hB; decide
  have hp := prime_of_isB (by omega) hlt h16 hB
  obtain ⟨X, hX2, hXlt, hX⟩ := nonres hp (by omega)
  refine ⟨by omega, hm, by omega, hB, X, hX2, by omega, ?_⟩
  unfold powm
  rw [if_neg (by omega), if_neg (by omega), ← Nat.pow_mod, ← Nat.pow_mul]
  obtain ⟨c, hc⟩ : ∃ c, T = 2 * 2 ^ L * c + 1 := ⟨T / (2 * 2 ^ L), by have := Nat.div_add_mod T (2 * 2 ^ L); omega⟩
  have hpos : 0 < 2 ^ L := Nat.pow_pos (by decide)
  have e1 : (T - 1) / 2 ^ (L + 1) = c := by
    rw [hc, Nat.add_sub_cancel, Nat.pow_succ, Nat.mul_comm (2 ^ L) 2]
    exact Nat.mul_div_cancel_left _ (by omega)
  have e2 : 2 ^ (L + 1) / 2 = 2 ^ L := by rw [Nat.pow_succ, Nat.mul_div_cancel _ (by decide)]
  have e3 : (T - 1) / 2 = c * 2 ^ L := by
    rw [hc, Nat.add_sub_cancel, Nat.mul_assoc, Nat.mul_div_cancel_left _ (by decide), Nat.mul_comm]
  rw [e1, e2, ← e3]
  exact hX
theorem par_size {p : ParD} (P : parP p) (h64 : p.n ≤ 64) : ∃ L, 3 ≤ L ∧ L ≤ 6 ∧ p.n = ((2 ^ L : Nat) : Int) ∧ apart (2 ^ L) = true := by
  have h1 : 0 < rowF p.n := P.1.1
  obtain ⟨h8, -⟩ := rowF_pos h1
  unfold rowF at h1
  obtain ⟨a1, a2, a3, a4⟩ := apart_all
  by_cases hr : rowP p.n
  · unfold rowP at hr
    rcases hr with h | h | h | h | h | h
    · exact ⟨3, by decide, by decide, h, a1⟩
    · exact ⟨4, by decide, by decide, h, a2⟩
    · exact ⟨5, by decide, by decide, h, a3⟩
    · exact ⟨6, by decide, by decide, h, a4⟩
    · omega
    · omega
  · rw [if_neg hr] at h1
    exfalso
    split at h1
    · omega
    · split at h1
      · omega
      · split at h1 <;> omega
theorem qok_par {p : ParD} {L : Nat} (P : parP p) (hN : p.n = ((2 ^ L : Nat) : Int)) (h3 : 3 ≤ L) : QOk L p.t := by
  obtain ⟨h1, h2, h4⟩ := P.2.1
  refine qok_prime h3 h1 ?_ h4
  rw [hN, Int.toNat_natCast] at h2
  exact h2

theorem Tryd_ent7 : Ent Tryd.prog 7 := ent_of Tryd.func7 (by kernel_rfl) rfl
set_option maxHeartbeats 1000000 in
theorem batchBack_law (p : ParD) (vv : Value) (xs : List Int) (h : Hp) (TB0 : TB h) (A0 : ParA0 h p) (s : SlF h I vv xs) (hx : ∀ x ∈ xs, -9223372036854775808 ≤ x ∧ x < 9223372036854775808) (hl : xs.length < 9223372036854775808) (hn64 : -9223372036854775808 ≤ p.n ∧ p.n < 9223372036854775808) :
    CallsH Tryd.prog 7 [.agg p.cells.toArray, vv] h fun v' h' => v' = .bool true ∧ Ext h h' := by
  have SM := fun h A => small9_spec p h A
  have NO := fun h T A P => batchNew_no p h T A P
  have NW := fun L h T A P hN h1 h9 Q => batchNew_spec p L h T A P hN h1 h9 Q
  have CN := fun xs vv n h A s hx hN hn hl => cent9_spec p vv xs n h A s hx hN hn hl
  unfold ParD.cells at SM NO NW CN ⊢
  (apply enter Tryd.func7 rfl Tryd.ntmps7 rfl)
  refine runJ ?_
  (apply s_box; exact rfl; exact rfl; exact rfl; exact rfl)
  intro p1 h1 x1 e1 b1
  (try dsimp only [Value.cells, List.toList_toArray] at x1)
  refine ⟨(by first | exact trivial | exact Ext.refl _ | assumption | exact Ext.trans (by assumption) (by assumption)), ?_⟩
  refine runJ ?_
  apply (s_call Tryd_ent21 rfl rfl rfl)
  refine (fixed09_spec h1 (TB0.ext e1)).mono ?_
  rintro _ h2 ⟨rfl, e2⟩
  refine ⟨(by first | exact trivial | exact trivial), ?_⟩
  have x2 := x1.ext e2
  have E2 := e1.trans e2
  have A2 : ParA0 h2 p := ⟨A0.row.ext E2, A0.al, A0.t64, A0.ln⟩
  refine runJ ?_
  apply (s_call Tryd_ent22 rfl rfl rfl)
  refine (SM h2 A2).mono ?_
  rintro _ h3 ⟨rfl, e3⟩
  refine ⟨(by first | exact trivial | exact trivial), ?_⟩
  have x3 := x2.ext e3
  have E3 := E2.trans e3
  have s3 := s.ext E3
  by_cases hsm : p.n ≤ 64 ∧ p.q.length ≤ 20
  · rw [decide_eq_true hsm]
    refine runJ ?_
    refine s_quoI (b := 2) rfl rfl rfl (by omega) ?_
    refine runJ ?_
    by_cases hlong : p.n.tdiv 2 < (xs.length : Int)
    · refine w_sub (l' := [(23, .bool true)]) (Sub.consE rfl (congrArg Value.bool (by simp [hlong])) (Sub.nil _)) ?_
      refine runJ ?_
      exact fin1 rfl rfl ⟨rfl, E3⟩
    refine w_sub (l' := [(1, vv), (2, p1), (23, .bool false)]) (Sub.cons rfl (Sub.cons rfl (Sub.consE rfl (congrArg Value.bool (by simp [hlong])) (Sub.nil _)))) ?_
    have A3 : ParAt h3 p := ⟨A0.row.ext E3, A0.al, A0.t64, by have := hsm.2; omega⟩
    have T3 := TB0.ext E3
    by_cases P : parP p
    · obtain ⟨L, hL3, hL6, hN, hap⟩ := par_size P hsm.1
      have hn : 8 ≤ 2 ^ L ∧ 2 ^ L ≤ 64 := ⟨Nat.pow_le_pow_right (n := 2) (i := 3) (by omega) hL3, Nat.pow_le_pow_right (n := 2) (j := 6) (by omega) hL6⟩
      have hxl : xs.length ≤ 2 ^ L / 2 := by
        rw [hN] at hlong
        rw [show ((2 ^ L : Nat) : Int).tdiv 2 = ((2 ^ L / 2 : Nat) : Int) from rfl] at hlong
        omega
      refine runJ ?_
      apply (s_call Tryd_ent23 rfl rfl rfl)
      refine (NW L h3 T3 A3 P hN (by omega) (by omega) (qok_par P hN hL3)).mono ?_
      rintro _ h4 ⟨e4, g, B, rfl, BA, BK, hBL, hBt⟩
      refine ⟨(by first | exact trivial | exact trivial), ?_⟩
      have x4 := x3.ext e4
      have s4 := s3.ext e4
      have hBL' := hBL
      subst hBL'
      refine runJ ?_
      apply (s_call Tryd_ent24 rfl rfl rfl)
      refine (pack_spec g vv B xs h4 BK BA s4 hx hxl).mono ?_
      rintro _ h5 ⟨e5, r5, rs, rfl, o5, P5⟩
      refine ⟨(by first | exact trivial | exact trivial), ?_⟩
      have x5 := x4.ext e5
      have hfit : Fit (2 ^ B.L) B.t rs := by
        have := P5.1
        rwa [BK.tl, BK.tq] at this
      refine runJ ?_
      apply (s_call Tryd_ent25 rfl rfl rfl)
      refine (unpack_spec g r5 B rs h5 BK (BA.ext e5) o5.sl hfit).mono ?_
      rintro _ h6 ⟨e6, r6, ys, rfl, o6, V6⟩
      refine ⟨(by first | exact trivial | exact trivial), ?_⟩
      have x6 := x5.ext e6
      have hlf : Fit (2 ^ B.T.L) B.T.q (layF (2 ^ B.L) B.t xs) := by
        rw [BK.tl, BK.tq]
        exact ⟨layF_len _ _ xs, layF_lt (by have := BK.ok.q1; have := BK.tq; omega) xs⟩
      obtain rfl := bck_val BK.ok hlf P5 V6
      rw [unl_lay (apart_of hap) xs hxl] at o6
      have s6 := ((s4.ext e5).ext e6)
      have A6 := ((A3.ext e4).ext e5).ext e6
      refine runJ ?_
      apply (s_call Tryd_ent27 rfl rfl rfl)
      refine (CN xs vv (2 ^ B.L) h6 A6 s6 hx hN (by omega) hxl).mono ?_
      rintro w7 h7 ⟨e7, o7⟩
      refine ⟨(by first | exact trivial | exact trivial), ?_⟩
      rw [hBt] at o6
      refine runJ ?_
      apply (s_call Tryd_ent26 rfl rfl rfl)
      refine (sameRow_spec r6 w7 _ _ h7 (o6.sl.ext e7) o7.sl (by rw [centL_len]; omega) (by rw [centL_len]; omega)).mono ?_
      rintro _ _ ⟨rfl, rfl⟩
      refine ⟨(by first | exact trivial | exact trivial), ?_⟩
      refine runJ ?_
      exact fin1 rfl rfl ⟨by simp, (((E3.trans e4).trans e5).trans e6).trans e7⟩
    · refine runJ ?_
      apply (s_call Tryd_ent23 rfl rfl rfl)
      refine (NO h3 T3 A3 P).mono ?_
      rintro _ h4 ⟨rfl, e4⟩
      refine ⟨(by first | exact trivial | exact trivial), ?_⟩
      refine runJ ?_
      exact fin1 rfl rfl ⟨rfl, E3.trans e4⟩
  · rw [decide_eq_false hsm]
    refine runJ ?_
    exact fin1 rfl rfl ⟨rfl, E3⟩
end Go.Proofs.YtfgfmempmkjlnaaDoor

/- What an argument that came in reads as: from the kit's reading of data to rows and variables of the own calculus. No condition. -/
namespace Go.Den
set_option linter.unusedVariables false
set_option maxRecDepth 8000
open Go Go.RowKit Go.ChangeShapes Go.WideShapes

/-- The cells read as data of the type. -/
def Opn (P : Program) (w : World) (t : TypeId) (cs : List Value) : Prop := ∃ (H : Type) (enc : TypeId × Value → H) (fuel : Nat) (x : DataW H × List MemPlace), DataW.trod enc P w 0 (fun _ => true) true fuel t cs = some x

theorem opn_of {P : Program} {w : World} {t : TypeId} {v : Value} {H : Type} {enc : TypeId × Value → H} {d : DataW H} {ps : List MemPlace} (h : DataW.Trod enc P w 0 (fun _ => true) true t v d ps) : Opn P w t v.cells.toList := by
  obtain ⟨fuel, hf⟩ := h
  exact ⟨H, enc, fuel, _, hf⟩

section
variable {P : Program} {w : World} {t : TypeId} {cs : List Value}

theorem Opn.bool (ht : P.underlying t = some .bool) (h : Opn P w t cs) : ∃ b, cs = [.bool b] := by
  obtain ⟨H, enc, fuel, x, h⟩ := h
  obtain ⟨b, h1, -⟩ := DataW.trod_bool ht h
  exact ⟨b, h1⟩
theorem Opn.int {k : IntKind} (ht : P.underlying t = some (.int k)) (h : Opn P w t cs) : ∃ n, cs = [.int k n] ∧ (Lit.int k n).wf = true := by
  obtain ⟨H, enc, fuel, x, h⟩ := h
  obtain ⟨n, h1, -, h2⟩ := DataW.trod_int ht h
  exact ⟨n, h1, h2⟩
theorem Opn.struct {fs : Array Field} (ht : P.underlying t = some (.struct fs)) (h : Opn P w t cs) : cs.length = P.cellsOf t ∧ ∀ (i : Nat) (f : Field), fs[i]? = some f → Opn P w f.type ((cs.drop f.offset).take (P.cellsOf f.type)) := by
  obtain ⟨H, enc, fuel, x, h⟩ := h
  obtain ⟨xs, n, -, -, h1, h2, h3⟩ := DataW.trod_struct ht h
  refine ⟨h1, fun i f hf => ?_⟩
  have hi : i < xs.length := by rw [h2]; exact (Array.getElem?_eq_some_iff.1 hf).1
  exact ⟨H, enc, n, xs[i], by rw [h3 i f hf]; simp [hi]⟩
/-- A slice: its cells, an element's worth at a time, read as data. -/
theorem Opn.slice {e : TypeId} {s : Nat} (ht : P.underlying t = some (.slice e)) (hs : P.cellsOf e = s) (hs0 : 0 < s) (h : Opn P w t cs) :
    ∃ v n es, cs = [v] ∧ Sl w.heap v n es ∧ es.length = n * s ∧ n ≤ maxLen ∧ ∀ i, i < n → Opn P w e ((es.drop (i * s)).take s) := by
  obtain ⟨H, enc, fuel, x, h⟩ := h
  rcases DataW.trod_slice ht h with ⟨rfl, -⟩ | ⟨a, len, cap, elems, rest, n, -, rfl, -, -, hl, hm, hlen, hel, -, -⟩
  · exact ⟨_, 0, [], rfl, Sl.nil _, by simp, Nat.zero_le _, fun i hi => by omega⟩
  · rw [hs] at hel
    have each : ∀ i, i < len → ∃ c, w.cells? 0 (a.add (i * s)) s = some c ∧ c.length = s ∧ Opn P w e c := fun i hi => by
      have h1 := hel i hi
      rw [List.getElem?_eq_getElem (by omega)] at h1
      cases hc : w.cells? 0 (a.add (i * s)) s with
      | none => rw [hc] at h1; cases h1
      | some c =>
        rw [hc] at h1
        refine ⟨c, rfl, (World.cells?_some hc).2.1, H, enc, n, _, h1⟩
    by_cases h0 : len = 0
    · subst h0
      exact ⟨_, 0, [], rfl, Sl.empty _ a cap, by simp, Nat.zero_le _, fun i hi => by omega⟩
    · have cellAt : ∀ i r, i < len → r < s → ∀ c, w.cells? 0 (a.add (i * s)) s = some c → w.cell? (a.add (i * s + r)) = c[r]? := fun i r hi hr c hc => by
        rw [← Addr.add_add]; exact (World.cells?_some hc).2.2 r hr
      have hspot : a.spot = none := by
        obtain ⟨c, hc, hcl, -⟩ := each 0 (by omega)
        have := cellAt 0 0 (by omega) hs0 c hc
        rw [List.getElem?_eq_getElem (by omega)] at this
        have e0 : a.add (0 * s + 0) = a := by simp [Addr.add]
        rw [e0] at this
        unfold World.cell? at this
        split at this
        · split at this
          · cases this
          · rename_i hsp; simpa using hsp
        · cases this
      obtain ⟨b, o, sp⟩ := a
      simp only at hspot
      subst hspot
      have total : ∀ j, j < len * s → ∃ u, w.cell? ((⟨b, o, none⟩ : Addr).add j) = some u := fun j hj => by
        have hi : j / s < len := (Nat.div_lt_iff_lt_mul hs0).2 hj
        have hr : j % s < s := Nat.mod_lt _ hs0
        obtain ⟨c, hc, hcl, -⟩ := each (j / s) hi
        have := cellAt (j / s) (j % s) hi hr c hc
        rw [List.getElem?_eq_getElem (by omega), Nat.mul_comm (j / s) s, Nat.div_add_mod] at this
        exact ⟨_, this⟩
      refine ⟨_, len, (List.range (len * s)).map (fun j => (w.cell? ((⟨b, o, none⟩ : Addr).add j)).getD undef), rfl, .inr ⟨b, o, cap, rfl, hl, fun j u hu => ?_⟩, by simp, Nat.le_trans hl hm, fun i hi => ?_⟩
      · rw [List.getElem?_map] at hu
        by_cases hj : j < len * s
        · rw [List.getElem?_range hj] at hu
          obtain ⟨u', hu'⟩ := total j hj
          rw [Option.map_some, hu', Option.getD_some] at hu
          cases hu
          rw [Addr.add_lit, cell?_cellH] at hu'
          exact hu'
        · rw [List.getElem?_eq_none (by simpa using hj)] at hu; cases hu
      · obtain ⟨c, hc, hcl, ho⟩ := each i hi
        have e : ((List.map (fun j => (w.cell? ((⟨b, o, none⟩ : Addr).add j)).getD undef) (List.range (len * s))).drop (i * s)).take s = c := by
          have hle : i * s + s ≤ len * s := by rw [← Nat.succ_mul]; exact Nat.mul_le_mul_right _ hi
          apply List.ext_getElem?
          intro r
          rw [List.getElem?_take]
          by_cases hr : r < s
          · rw [if_pos hr, List.getElem?_drop, List.getElem?_map, List.getElem?_range (by omega)]
            have := cellAt i r hi hr c hc
            rw [Option.map_some, this, List.getElem?_eq_getElem (by omega)]; rfl
          · rw [if_neg hr, List.getElem?_eq_none (by omega)]
        rw [e]; exact ho
end

/-! ### words -/
theorem nat_of_lit {n : Int} (h : (Lit.int .u64 n).wf = true) : ∃ m : Nat, n = (m : Int) ∧ m < 18446744073709551616 := by
  have := bounds_u64 h
  exact ⟨n.toNat, by omega, by omega⟩

def wordOf : Option Value → Nat
  | some (.int _ z) => z.toNat
  | _ => 0
theorem opn_words {P : Program} {w : World} {t e : TypeId} {cs : List Value} (ht : P.underlying t = some (.slice e)) (he : P.underlying e = some (.int .u64)) (hc : P.cellsOf e = 1) (h : Opn P w t cs) :
    ∃ v xs, cs = [v] ∧ SlF w.heap U v xs ∧ Dig.Al 18446744073709551616 xs ∧ xs.length ≤ maxLen := by
  obtain ⟨v, n, es, h1, h2, h3, h4, h5⟩ := h.slice ht hc Nat.zero_lt_one
  have key : ∀ i, i < n → ∃ m : Nat, es[i]? = some (U m) ∧ m < 18446744073709551616 := fun i hi => by
    obtain ⟨z, hz, hw⟩ := (h5 i hi).int he
    obtain ⟨m, rfl, hm⟩ := nat_of_lit hw
    refine ⟨m, ?_, hm⟩
    rw [Nat.mul_one] at hz
    have : (es.drop i)[0]? = some (U m) := by
      have h0 : ((es.drop i).take 1)[0]? = some (U m) := by rw [hz]; rfl
      rwa [List.getElem?_take, if_pos (by omega)] at h0
    rwa [List.getElem?_drop, Nat.add_zero] at this
  have hxs : es = ((List.range n).map fun i => wordOf es[i]?).map U := by
    apply List.ext_getElem?
    intro i
    by_cases hi : i < n
    · obtain ⟨m, hm, -⟩ := key i hi
      rw [List.getElem?_map, List.getElem?_map, List.getElem?_range hi]
      simp [hm, wordOf]
    · rw [List.getElem?_eq_none (by omega), List.getElem?_eq_none (by simp; omega)]
  refine ⟨v, (List.range n).map fun i => wordOf es[i]?, h1, ?_, ?_, by simpa using h4⟩
  · unfold SlF
    rw [← hxs]; simpa using h2
  · intro x hx
    obtain ⟨i, hi, rfl⟩ := List.mem_map.1 hx
    obtain ⟨m, hm, hlt⟩ := key i (List.mem_range.1 hi)
    rw [hm]
    simpa [wordOf] using hlt

/-- A struct of a bool and a row of words. -/
theorem opn_boolwords {P : Program} {w : World} {t tb tn e : TypeId} {cs : List Value} {f0 f1 : Field} (ht : P.underlying t = some (.struct #[f0, f1])) (h0 : (f0.type, f0.offset, P.cellsOf f0.type) = (tb, 0, 1)) (h1 : (f1.type, f1.offset, P.cellsOf f1.type) = (tn, 1, 1))
    (hb : P.underlying tb = some .bool) (hn : P.underlying tn = some (.slice e)) (he : P.underlying e = some (.int .u64)) (hc : P.cellsOf e = 1) (hz : P.cellsOf t = 2) (h : Opn P w t cs) :
    ∃ b v xs, cs = [.bool b, v] ∧ SlF w.heap U v xs ∧ Dig.Al 18446744073709551616 xs := by
  obtain ⟨g1, g2⟩ := h.struct ht
  simp only [Prod.mk.injEq] at h0 h1
  have o0 := g2 0 f0 (by simp)
  have o1 := g2 1 f1 (by simp)
  rw [h0.2.1, h0.2.2, h0.1] at o0
  rw [h1.2.1, h1.2.2, h1.1] at o1
  obtain ⟨b, e0⟩ := o0.bool hb
  obtain ⟨v, xs, e1, s, al, -⟩ := opn_words hn he hc o1
  refine ⟨b, v, xs, ?_, s, al⟩
  rw [hz] at g1
  match cs, g1 with
  | [c0, c1], _ =>
    simp at e0 e1
    rw [e0, e1]
theorem arg_words {P : Program} {w : World} {t e : TypeId} {v : Value} (ht : P.underlying t = some (.slice e)) (he : P.underlying e = some (.int .u64)) (hc : P.cellsOf e = 1) (hv : ∃ a len cap, v = .slice a len cap) (h : Opn P w t v.cells.toList) :
    ∃ xs, SlF w.heap U v xs ∧ Dig.Al 18446744073709551616 xs ∧ xs.length ≤ maxLen := by
  obtain ⟨a, len, cap, rfl⟩ := hv
  obtain ⟨v, xs, e1, h2⟩ := opn_words ht he hc h
  simp [Value.cells] at e1
  subst e1
  exact ⟨xs, h2⟩
theorem arg_boolwords {P : Program} {w : World} {t tb tn e : TypeId} {v : Value} {f0 f1 : Field} (ht : P.underlying t = some (.struct #[f0, f1])) (h0 : (f0.type, f0.offset, P.cellsOf f0.type) = (tb, 0, 1)) (h1 : (f1.type, f1.offset, P.cellsOf f1.type) = (tn, 1, 1))
    (hb : P.underlying tb = some .bool) (hn : P.underlying tn = some (.slice e)) (he : P.underlying e = some (.int .u64)) (hc : P.cellsOf e = 1) (hz : P.cellsOf t = 2) (hv : ∃ cs, v = .agg cs) (h : Opn P w t v.cells.toList) :
    ∃ b a xs, v = .agg #[.bool b, a] ∧ SlF w.heap U a xs ∧ Dig.Al 18446744073709551616 xs := by
  obtain ⟨cs, rfl⟩ := hv
  obtain ⟨b, a, xs, e1, h2, h3⟩ := opn_boolwords ht h0 h1 hb hn he hc hz h
  exact ⟨b, a, xs, by simp only [Value.cells] at e1; rw [show cs = #[.bool b, a] from Array.toList_inj.1 e1], h2, h3⟩
end Go.Den

/- What an argument that came in reads as: rows of ints, rows of rows, rows of structs. No condition. -/
namespace Go.Den
set_option linter.unusedVariables false
set_option maxRecDepth 8000
open Go Go.RowKit Go.ChangeShapes Go.WideShapes

theorem chunks {α : Type} {f : α → List Value} {R : α → Prop} {s : Nat} : ∀ (n : Nat) (es : List Value), es.length = n * s → (∀ i, i < n → ∃ x, (es.drop (i * s)).take s = f x ∧ R x) → ∃ xs : List α, xs.length = n ∧ es = xs.flatMap f ∧ ∀ x ∈ xs, R x
  | 0, es, hl, _ => ⟨[], rfl, by simpa using hl, by simp⟩
  | n + 1, es, hl, h => by
    obtain ⟨x, hx, hr⟩ := h 0 (by omega)
    rw [Nat.zero_mul, List.drop_zero] at hx
    have hl' : (es.drop s).length = n * s := by rw [List.length_drop, hl, Nat.succ_mul]; omega
    obtain ⟨xs, h1, h2, h3⟩ := chunks (f := f) (R := R) n (es.drop s) hl' (fun i hi => by
      obtain ⟨y, hy, hr⟩ := h (i + 1) (by omega)
      refine ⟨y, ?_, hr⟩
      rw [List.drop_drop, show s + i * s = (i + 1) * s by rw [Nat.succ_mul]; omega]
      exact hy)
    refine ⟨x :: xs, by simp [h1], ?_, ?_⟩
    · rw [List.flatMap_cons, ← h2, ← hx, List.take_append_drop]
    · intro y hy
      rcases List.mem_cons.1 hy with rfl | hy
      · exact hr
      · exact h3 y hy

def ib64 (z : Int) : Prop := -9223372036854775808 ≤ z ∧ z < 9223372036854775808
section
variable {P : Program} {w : World} {t e : TypeId} {cs : List Value}
theorem Opn.i64 (ht : P.underlying t = some (.int .i64)) (h : Opn P w t cs) : ∃ n, cs = [I n] ∧ ib64 n := by
  obtain ⟨n, h1, h2⟩ := h.int ht
  exact ⟨n, h1, by have := bounds_i64 h2; unfold ib64; omega⟩
theorem Opn.rowA {α : Type} {f : α → List Value} {R : α → Prop} {s : Nat} (ht : P.underlying t = some (.slice e)) (hs : P.cellsOf e = s) (hs0 : 0 < s) (hf : ∀ x, (f x).length = s) (h : Opn P w t cs) (he : ∀ c, Opn P w e c → ∃ x, c = f x ∧ R x) :
    ∃ v xs, cs = [v] ∧ SlA w.heap f s v xs ∧ (∀ x ∈ xs, R x) ∧ xs.length ≤ maxLen := by
  obtain ⟨v, n, es, h1, h2, h3, h4, h5⟩ := h.slice ht hs hs0
  obtain ⟨xs, g1, g2, g3⟩ := chunks (f := f) (R := R) n es h3 (fun i hi => he _ (h5 i hi))
  subst g1
  exact ⟨v, xs, h1, ⟨hf, by rw [← g2]; exact h2⟩, g3, h4⟩
theorem flat_one {α : Type} (f : α → Value) (xs : List α) : xs.flatMap (fun x => [f x]) = xs.map f := by
  induction xs with
  | nil => rfl
  | cons x xs ih => rw [List.flatMap_cons, ih]; rfl
theorem SlA.one' {α : Type} {f : α → Value} {h : Hp} {v : Value} {xs : List α} (s : SlA h (fun x => [f x]) 1 v xs) : SlF h f v xs := by
  have := s.2
  rw [flat_one] at this
  exact this
theorem Opn.ints (ht : P.underlying t = some (.slice e)) (he : P.underlying e = some (.int .i64)) (hc : P.cellsOf e = 1) (h : Opn P w t cs) :
    ∃ v xs, cs = [v] ∧ SlF w.heap I v xs ∧ (∀ x ∈ xs, ib64 x) ∧ xs.length ≤ maxLen := by
  obtain ⟨v, xs, h1, h2, h3, h4⟩ := h.rowA (f := fun x => [I x]) (R := ib64) ht hc Nat.zero_lt_one (fun _ => rfl) (fun c hc => Opn.i64 he hc)
  exact ⟨v, xs, h1, h2.one', h3, h4⟩
/-- A row of int, told with its front. -/
def RowI (h : Hp) (x : Value × List Int) : Prop := SlF h I x.1 x.2 ∧ (∀ z ∈ x.2, ib64 z) ∧ x.2.length ≤ maxLen
theorem Opn.introws {e2 : TypeId} (ht : P.underlying t = some (.slice e)) (he : P.underlying e = some (.slice e2)) (he2 : P.underlying e2 = some (.int .i64)) (hc : P.cellsOf e = 1) (hc2 : P.cellsOf e2 = 1) (h : Opn P w t cs) :
    ∃ v xs, cs = [v] ∧ SlF w.heap Prod.fst v xs ∧ (∀ x ∈ xs, RowI w.heap x) ∧ xs.length ≤ maxLen := by
  obtain ⟨v, xs, h1, h2, h3, h4⟩ := h.rowA (f := fun x : Value × List Int => [x.1]) (R := RowI w.heap) ht hc Nat.zero_lt_one (fun _ => rfl) (fun c hc => by
    obtain ⟨v, xs, g1, g2, g3, g4⟩ := Opn.ints he he2 hc2 hc
    exact ⟨(v, xs), g1, g2, g3, g4⟩)
  exact ⟨v, xs, h1, h2.one', h3, h4⟩
theorem arg_ints {v : Value} (ht : P.underlying t = some (.slice e)) (he : P.underlying e = some (.int .i64)) (hc : P.cellsOf e = 1) (hv : ∃ a len cap, v = .slice a len cap) (h : Opn P w t v.cells.toList) :
    ∃ xs, SlF w.heap I v xs ∧ (∀ x ∈ xs, ib64 x) ∧ xs.length ≤ maxLen := by
  obtain ⟨a, len, cap, rfl⟩ := hv
  obtain ⟨v, xs, e1, h2⟩ := h.ints ht he hc
  simp [Value.cells] at e1
  subst e1
  exact ⟨xs, h2⟩
theorem arg_introws {e2 : TypeId} {v : Value} (ht : P.underlying t = some (.slice e)) (he : P.underlying e = some (.slice e2)) (he2 : P.underlying e2 = some (.int .i64)) (hc : P.cellsOf e = 1) (hc2 : P.cellsOf e2 = 1) (hv : ∃ a len cap, v = .slice a len cap) (h : Opn P w t v.cells.toList) :
    ∃ xs, SlF w.heap Prod.fst v xs ∧ (∀ x ∈ xs, RowI w.heap x) ∧ xs.length ≤ maxLen := by
  obtain ⟨a, len, cap, rfl⟩ := hv
  obtain ⟨v, xs, e1, h2⟩ := h.introws ht he he2 hc hc2
  simp [Value.cells] at e1
  subst e1
  exact ⟨xs, h2⟩
/-- A part of a struct. -/
theorem Opn.part {fs : Array Field} {tt : TypeId} {off s : Nat} (ht : P.underlying t = some (.struct fs)) (i : Nat) (hi : (fs[i]?).map (fun f => (f.type, f.offset, P.cellsOf f.type)) = some (tt, off, s)) (h : Opn P w t cs) : Opn P w tt ((cs.drop off).take s) := by
  obtain ⟨-, g2⟩ := h.struct ht
  cases hf : fs[i]? with
  | none => rw [hf] at hi; cases hi
  | some f =>
    rw [hf] at hi
    simp only [Option.map_some, Option.some.injEq, Prod.mk.injEq] at hi
    obtain ⟨rfl, rfl, rfl⟩ := hi
    exact g2 i f hf
theorem Opn.width {fs : Array Field} {s : Nat} (ht : P.underlying t = some (.struct fs)) (hc : P.cellsOf t = s) (h : Opn P w t cs) : cs.length = s := by
  obtain ⟨g1, -⟩ := h.struct ht
  rw [g1, hc]
end
end Go.Den

/- What the listed table reads as when the call begins. No condition. -/
namespace Go.Proofs.YtfgfmempmkjlnaaDoor
set_option linter.unusedVariables false
set_option maxRecDepth 8000
open Go Go.Den Go.RowKit Go.ChangeShapes Go.WideShapes

def laidL : List (String × DataW Unit) := [("math/bits.deBruijn64tab", Rows.laid_math_bits_deBruijn64tab)]
theorem laid_eq : (Rows.laid_math_bits_deBruijn64tab : DataW Unit) = .agg (tzT.map fun b => .lit (.int .u8 ((b : Nat) : Int))) := rfl
theorem gTab : Tryd.prog.globalNamed "math/bits.deBruijn64tab" = some 2 := by kernel_rfl
theorem tTab : (Tryd.prog.globals[2]?).map (·.type) = some 122 := by kernel_rfl
theorem tb_of_laid {W : World} (h : laidMetH Tryd.prog laidL W) : TB W.heap := by
  rw [MakeChecks.laidMetH_plain _ _ _ (by kernel_rfl)] at h
  obtain ⟨ps, ⟨g0, t0, cs0, f0, p0, q0, hg0, ht0, hv0, hd0, hrest⟩, hrest2⟩ := h
  obtain rfl := Option.some.inj (gTab.symm.trans hg0)
  obtain rfl := Option.some.inj (tTab.symm.trans ht0)
  rw [laid_eq] at hd0
  obtain ⟨xs, m1, -, hx1, hlen, hn, hel⟩ := DataW.trod_array Tryd.underlying122 hd0
  have c5 : Tryd.prog.cellsOf 5 = 1 := by kernel_rfl
  simp only [Prod.mk.injEq, DataW.agg.injEq] at hx1
  have key : ∀ j, j < 64 → cs0.toList[j]? = some (.int .u8 ((tzT.getD j 0 : Nat) : Int)) := fun j hj => by
    have hxj : xs[j]? = some xs[j] := List.getElem?_eq_getElem (by omega)
    have h1 := hel j hj
    rw [c5, Nat.mul_one, hxj] at h1
    obtain ⟨k, e1, e2, -⟩ := DataW.trod_int Tryd.underlying5 h1
    have h2 := congrArg (fun l => l[j]?) hx1.1
    simp only [List.getElem?_map, hxj, Option.map_some] at h2
    rw [List.getElem?_eq_getElem (show j < tzT.length from hj), Option.map_some, Option.some.injEq] at h2
    rw [e2] at h2
    simp only [DataW.lit.injEq, Lit.int.injEq, true_and] at h2
    have h3 : (List.drop j cs0.toList)[0]? = some (Value.int .u8 k) := by
      have : ((List.drop j cs0.toList).take 1)[0]? = some (Value.int .u8 k) := by rw [e1]; rfl
      rwa [List.getElem?_take, if_pos (by omega)] at this
    rw [List.getElem?_drop, Nat.add_zero] at h3
    rw [h3, List.getD_eq_getElem?_getD, List.getElem?_eq_getElem (show j < tzT.length from hj), Option.getD_some, h2]
  refine ⟨_, 0, rfl, fun j u hu => ?_⟩
  rw [List.getElem?_map, Option.map_eq_some_iff] at hu
  obtain ⟨b, hb, rfl⟩ := hu
  have hj : j < 64 := (List.getElem?_eq_some_iff.1 hb).1
  have h4 := World.var?_cell hg0 hv0 j
  rw [cell?_cellH] at h4
  rw [Nat.zero_add, h4]
  have h5 := key j hj
  rw [List.getD_eq_getElem?_getD, hb, Option.getD_some] at h5
  simpa using h5

/-- The heap that the program's own start leaves meets the condition. -/
theorem door_met (os : Os) (args : Array Value) : laidMetH Tryd.prog laidL ((World.doorLaid Tryd.prog 400 os).forCall (fun _ _ => 0) ⟨#[], args, []⟩).memory :=
  laidMetH_of_parts3 (fuel := 8) (laidMet_of_run' 8 (by kernel_rfl) (by kernel_rfl)) (by kernel_rfl) (by kernel_rfl)
end Go.Proofs.YtfgfmempmkjlnaaDoor

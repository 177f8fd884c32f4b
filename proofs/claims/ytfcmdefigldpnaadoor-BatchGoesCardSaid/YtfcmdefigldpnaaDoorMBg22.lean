/- Texts PspH to RfrB of this work, joined: each says in its own head what it proves, and of which condition. -/
import Derived.Test.YtfcmdefigldpnaaDoorMBg21
/- A number below 2^30 that is 1 modulo 16 and passes the test of primes is one. No program. No condition. -/
namespace Go.Proofs.YtfcmdefigldpnaaDoor
set_option linter.unusedVariables false
set_option maxRecDepth 8000
open Go Go.Mth

theorem nbeq {a b : Nat} (h : a = b) : Nat.beq a b = true := by rw [h]; exact Nat.beq_refl b
theorem nble {a b : Nat} (h : a ≤ b) : Nat.ble a b = true := Nat.ble_eq_true_of_le h
theorem nble' {a b : Nat} (h : b < a) : Nat.ble a b = false := by
  rcases hb : Nat.ble a b with _ | _
  · rfl
  · have := Nat.le_of_ble_eq_true hb; omega
theorem nbeq' {a b : Nat} (h : a ≠ b) : Nat.beq a b = false := by
  rcases hb : Nat.beq a b with _ | _
  · rfl
  · exact absurd (Nat.eq_of_beq_eq_true hb) h
theorem small_prd : prd smallL = smallPr := by decide +kernel
theorem small_mem : ∀ x ∈ smallL, x ≤ 181 := by decide
theorem small_all : ∀ p, p ≤ 181 → p % 2 = 1 → 3 ≤ p → p ∈ smallL ∨ ∃ d, d < p ∧ 2 ≤ d ∧ p % d = 0 := by decide +kernel
theorem candP_of {p : Nat} (hp : Pr p) (h2 : p % 2 = 1) : candP p = true := by
  have hp2 := hp.1
  unfold candP
  by_cases h : p ≤ 181
  · rw [nble h, Bool.true_and]
    have : (smallL.any fun x => Nat.beq x p) = true := by
      rcases small_all p h h2 (by omega) with k | ⟨d, h3, h4, h5⟩
      · exact List.any_eq_true.2 ⟨p, k, nbeq rfl⟩
      · rcases hp.2 d (Nat.dvd_of_mod_eq_zero h5) with k | k <;> omega
    rw [this]; rfl
  · rw [nble (show 182 ≤ p by omega), Bool.true_and]
    have hg : Nat.gcd p smallPr = 1 := by
      rcases hp.2 _ (Nat.gcd_dvd_left p smallPr) with k | k
      · exact k
      · exfalso
        have h3 : p ∣ smallPr := by rw [← k]; exact Nat.gcd_dvd_right _ _
        rw [← small_prd] at h3
        refine hp.prd smallL (fun x hx hd => ?_) h3
        have h4 := small_mem x hx
        have h5 : 0 < x := (show ∀ x ∈ smallL, 0 < x by decide) x hx
        have := Nat.le_of_dvd h5 hd
        omega
    rw [nbeq hg]; simp

-- a prime that goes into a base
def okT (t : Nat) : Bool := !(Nat.beq (t % 16) 1) || Nat.ble t 1 || (Nat.beq t 193 || Nat.beq t 407521) || !isF t
def okX (a x : Nat) : Bool := !(Nat.beq (a % x) 0) || (okT x && okT (a / x))
theorem base_div : (bases.all fun a => (List.range 212).all fun i => (List.range 200).all fun j => okX a (200 * i + j + 1)) = true := by decide +kernel
theorem okT_of {t : Nat} (h : okT t = true) (h16 : t % 16 = 1) (h1 : 1 < t) (hF : isF t = true) : t = 193 ∨ t = 407521 := by
  unfold okT at h
  rw [nbeq h16, nble' h1, hF] at h
  simp only [Bool.not_true, Bool.or_false, Bool.false_or, Bool.or_eq_true] at h
  rcases h with h | h
  · exact .inl (Nat.eq_of_beq_eq_true h)
  · exact .inr (Nat.eq_of_beq_eq_true h)
theorem div_base {T a : Nat} (ha : a ∈ bases) (hT : T ∣ a) (h16 : T % 16 = 1) (h1 : 1 < T) (hF : isF T = true) : T = 193 ∨ T = 407521 := by
  have H := List.all_eq_true.1 base_div a ha
  have hal : 0 < a ∧ a ≤ 1795265022 := (show ∀ a ∈ bases, 0 < a ∧ a ≤ 1795265022 by decide) a ha
  have key : ∀ x, 1 ≤ x → x ≤ 42400 → okX a x = true := fun x h1 h2 => by
    have h3 := List.all_eq_true.1 (List.all_eq_true.1 H ((x - 1) / 200) (List.mem_range.2 (by omega))) ((x - 1) % 200) (List.mem_range.2 (by omega))
    rwa [show 200 * ((x - 1) / 200) + (x - 1) % 200 + 1 = x by omega] at h3
  obtain ⟨c, hc⟩ := hT
  have hc0 : 0 < c := Nat.pos_of_ne_zero fun h0 => by subst h0; omega
  by_cases hle : T ≤ 42400
  · have k := key T (by omega) hle
    unfold okX at k
    rw [nbeq (show a % T = 0 by rw [hc, Nat.mul_mod_right])] at k
    simp only [Bool.not_true, Bool.false_or, Bool.and_eq_true] at k
    exact okT_of k.1 h16 h1 hF
  · have hcl : c ≤ 42400 := by
      refine Classical.byContradiction fun hn => ?_
      have : 42401 * 42401 ≤ T * c := Nat.mul_le_mul (by omega) (by omega)
      omega
    have k := key c hc0 hcl
    unfold okX at k
    rw [nbeq (show a % c = 0 by rw [hc, Nat.mul_mod_left]), show a / c = T by rw [hc, Nat.mul_div_cancel _ hc0]] at k
    simp only [Bool.not_true, Bool.false_or, Bool.and_eq_true] at k
    exact okT_of k.2 h16 h1 hF
theorem two_pr : (∀ p, p < 14 → 2 ≤ p → 193 % p ≠ 0) ∧ ∀ p, p < 639 → 2 ≤ p → 407521 % p ≠ 0 := by decide +kernel

-- the two checks
theorem chk2_at {p : Nat} (h : p < 32768) (h2 : p % 2 = 1) : chk2 p = true := by
  have h3 := List.all_eq_true.1 (List.all_eq_true.1 chk2_all (p / 2 / 128) (List.mem_range.2 (by omega))) (p / 2 % 128) (List.mem_range.2 (by omega))
  rwa [show 2 * (128 * (p / 2 / 128) + p / 2 % 128) + 1 = p by omega] at h3
theorem chk3_at {p : Nat} (h : p < 32768) (h2 : p % 2 = 1) : chk3 p = true := by
  have key : ∀ k, (p / 2 / 512 = k) → ((List.range 4).all fun i => (List.range 128).all fun j => chk3 (2 * (512 * k + 128 * i + j) + 1)) = true → chk3 p = true := fun k hk H => by
    have h3 := List.all_eq_true.1 (List.all_eq_true.1 H (p / 2 % 512 / 128) (List.mem_range.2 (by omega))) (p / 2 % 128) (List.mem_range.2 (by omega))
    rwa [show 2 * (512 * k + 128 * (p / 2 % 512 / 128) + p / 2 % 128) + 1 = p by omega] at h3
  have hb : p / 2 / 512 < 32 := by omega
  rcases (show p / 2 / 512 = 0 ∨ p / 2 / 512 = 1 ∨ p / 2 / 512 = 2 ∨ p / 2 / 512 = 3 ∨ p / 2 / 512 = 4 ∨ p / 2 / 512 = 5 ∨ p / 2 / 512 = 6 ∨ p / 2 / 512 = 7 ∨ p / 2 / 512 = 8 ∨ p / 2 / 512 = 9 ∨ p / 2 / 512 = 10 ∨ p / 2 / 512 = 11 ∨ p / 2 / 512 = 12 ∨ p / 2 / 512 = 13 ∨ p / 2 / 512 = 14 ∨ p / 2 / 512 = 15 ∨ p / 2 / 512 = 16 ∨ p / 2 / 512 = 17 ∨ p / 2 / 512 = 18 ∨ p / 2 / 512 = 19 ∨ p / 2 / 512 = 20 ∨ p / 2 / 512 = 21 ∨ p / 2 / 512 = 22 ∨ p / 2 / 512 = 23 ∨ p / 2 / 512 = 24 ∨ p / 2 / 512 = 25 ∨ p / 2 / 512 = 26 ∨ p / 2 / 512 = 27 ∨ p / 2 / 512 = 28 ∨ p / 2 / 512 = 29 ∨ p / 2 / 512 = 30 ∨ p / 2 / 512 = 31 by omega) with k | k | k | k | k | k | k | k | k | k | k | k | k | k | k | k | k | k | k | k | k | k | k | k | k | k | k | k | k | k | k | k
  · exact key 0 k chk3_0
  · exact key 1 k chk3_1
  · exact key 2 k chk3_2
  · exact key 3 k chk3_3
  · exact key 4 k chk3_4
  · exact key 5 k chk3_5
  · exact key 6 k chk3_6
  · exact key 7 k chk3_7
  · exact key 8 k chk3_8
  · exact key 9 k chk3_9
  · exact key 10 k chk3_10
  · exact key 11 k chk3_11
  · exact key 12 k chk3_12
  · exact key 13 k chk3_13
  · exact key 14 k chk3_14
  · exact key 15 k chk3_15
  · exact key 16 k chk3_16
  · exact key 17 k chk3_17
  · exact key 18 k chk3_18
  · exact key 19 k chk3_19
  · exact key 20 k chk3_20
  · exact key 21 k chk3_21
  · exact key 22 k chk3_22
  · exact key 23 k chk3_23
  · exact key 24 k chk3_24
  · exact key 25 k chk3_25
  · exact key 26 k chk3_26
  · exact key 27 k chk3_27
  · exact key 28 k chk3_28
  · exact key 29 k chk3_29
  · exact key 30 k chk3_30
  · exact key 31 k chk3_31

-- two primes
theorem redG_dvd {p q : Nat} (hq : 2 ≤ q) (hp : p < 32769) : ∀ (l : List Nat) (g : Nat), 0 < g → q ∣ g → (∀ a ∈ l, a % p ≠ 0 → 1 ≤ a ∧ q ∣ a ^ (p - 1) - 1) → q ∣ redG p g l
  | [], g, hg0, hg, h => hg
  | a :: l, g, hg0, hg, h => by
    unfold redG
    refine redG_dvd hq hp l _ ?_ ?_ fun b hb => h b (List.mem_cons_of_mem _ hb)
    · rcases Nat.beq (a % p) 0 with _ | _
      · exact Nat.gcd_pos_of_pos_left _ hg0
      · exact hg0
    rcases hz : Nat.beq (a % p) 0 with _ | _
    · dsimp only [cond]
      obtain ⟨ha, hd⟩ := h a (List.mem_cons_self ..) (fun e => by rw [nbeq e] at hz; cases hz)
      refine Nat.dvd_gcd hg ?_
      rw [fp_eq g 15 a (p - 1) (by have : (2 : Nat) ^ 15 = 32768 := by decide
                                   omega)]
      have hpos : 1 ≤ a ^ (p - 1) := Nat.pow_pos ha
      generalize a ^ (p - 1) = x at hpos hd
      have hx := Nat.div_add_mod x g
      obtain ⟨c, hc⟩ := hd
      obtain ⟨d, rfl⟩ := hg
      have hdd : q ∣ q * d * (x / (q * d)) := ⟨d * (x / (q * d)), Nat.mul_assoc _ _ _⟩
      generalize x / (q * d) = y at hx hdd
      have e : q * d * y + (x % (q * d) + (q * d - 1)) = q * c + q * d := by omega
      have h1 : q ∣ q * d * y + (x % (q * d) + (q * d - 1)) := by rw [e, ← Nat.mul_add]; exact Nat.dvd_mul_right _ _
      exact (Nat.dvd_add_right hdd).1 h1
    · exact hg
theorem dpr_nd {q m : Nat} (hq : Pr q) (h0 : 0 < m) (hm : m + 1 < q) : ∀ (k acc : Nat), ¬ q ∣ acc → ¬ q ∣ dpr m k acc
  | 0, acc, h => h
  | k + 1, acc, h => by
    unfold dpr
    refine dpr_nd hq h0 hm k _ ?_
    rcases hz : Nat.beq (m % (k + 1)) 0 with _ | _
    · exact h
    · have hz := Nat.eq_of_beq_eq_true hz
      dsimp only [cond]
      intro hd
      have hm1 : m / (k + 1) + 1 < q := by
        have := Nat.div_le_self m (k + 1); omega
      rcases hq.euclid hd with hd | hd
      · rcases hq.euclid hd with hd | hd
        · exact h hd
        · have h1 := Nat.le_of_dvd (by omega) hd
          have := Nat.le_of_dvd h0 (Nat.dvd_of_mod_eq_zero hz)
          omega
      · have := Nat.le_of_dvd (Nat.succ_pos _) hd
        omega
theorem strip_dvd {q P : Nat} (hq : Pr q) (hP : ¬ q ∣ P) : ∀ (k g : Nat), q ∣ g → q ∣ strip P k g
  | 0, g, h => h
  | k + 1, g, h => by
    unfold strip
    rcases Nat.beq (Nat.gcd g P) 1 with _ | _
    · dsimp only [cond]
      refine strip_dvd hq hP k _ ?_
      have e := Nat.mul_div_cancel' (Nat.gcd_dvd_left g P)
      rw [← e] at h
      rcases hq.euclid h with h | h
      · exact absurd (Nat.dvd_trans h (Nat.gcd_dvd_right g P)) hP
      · exact h
    · exact h

theorem lastC_no {p q r : Nat} (h : lastC p r = true) (hq : q ∣ r) (hpq : p < q) (hlt : p * q < 1073741824) (hF : isF (p * q) = true) : False := by
  unfold lastC at h
  rw [Bool.and_eq_true, Bool.or_eq_true] at h
  obtain ⟨h1, h2⟩ := h
  have hr := Nat.le_of_ble_eq_true h1
  have hle := Nat.le_of_dvd hr hq
  rcases h2 with h2 | h2
  · have := Nat.le_of_ble_eq_true h2; omega
  · obtain ⟨k, hk⟩ := hq
    have hk0 : 0 < k := Nat.pos_of_ne_zero fun h0 => by subst h0; omega
    have hp0 : 0 < p := Nat.pos_of_ne_zero fun h0 => by
      subst h0
      have : isF (0 * q) = false := by rw [Nat.zero_mul]; decide
      rw [this] at hF; cases hF
    have hkr : k ≤ r / p := by
      rw [Nat.le_div_iff_mul_le hp0, hk, Nat.mul_comm q k]
      exact Nat.mul_le_mul_left _ (by omega)
    have h3 := List.all_eq_true.1 h2 (k - 1) (List.mem_range.2 (by omega))
    rw [show k - 1 + 1 = k by omega, nbeq (show r % k = 0 by rw [hk, Nat.mul_mod_left]), show r / k = q by rw [hk, Nat.mul_div_cancel _ hk0], nble' hpq, nble' hlt, hF] at h3
    cases h3

-- three primes and more
theorem sigC_eq {p q : Nat} (h : ∀ a ∈ bases, sg p a = sg q a) : sigC p = sigC q := by
  unfold sigC
  have : ∀ (l : List Nat) (c : Nat), (∀ a ∈ l, sg p a = sg q a) → l.foldl (fun c a => c * 128 + sg p a) c = l.foldl (fun c a => c * 128 + sg q a) c := by
    intro l
    induction l with
    | nil => intro c _; rfl
    | cons a l ih =>
      intro c hl
      rw [List.foldl_cons, List.foldl_cons, hl a (List.mem_cons_self ..)]
      exact ih _ fun b hb => hl b (List.mem_cons_of_mem _ hb)
  exact this bases 0 h
theorem cover_mem : ∀ (f n : Nat) (l : List (Nat × Nat)), cover f n l = true → ∀ i, i < f → candP (n + 2 * i) = true → (n + 2 * i, sigC (n + 2 * i)) ∈ l
  | 0, n, l, h, i, hi, hc => by omega
  | f + 1, n, [], h, i, hi, hc => by
    unfold cover at h
    rw [Bool.and_eq_true] at h
    cases i with
    | zero =>
      rw [Nat.mul_zero, Nat.add_zero] at hc
      rw [hc] at h; cases h.1
    | succ i =>
      have := cover_mem f (n + 2) [] h.2 i (by omega) (by rw [show n + 2 + 2 * i = n + 2 * (i + 1) by omega]; exact hc)
      exact absurd this List.not_mem_nil
  | f + 1, n, x :: xs, h, i, hi, hc => by
    unfold cover at h
    rcases hz : Nat.beq x.1 n with _ | _
    · rw [hz] at h
      dsimp only [cond] at h
      rw [Bool.and_eq_true] at h
      cases i with
      | zero =>
        rw [Nat.mul_zero, Nat.add_zero] at hc
        rw [hc] at h; cases h.1
      | succ i =>
        have := cover_mem f (n + 2) (x :: xs) h.2 i (by omega) (by rw [show n + 2 + 2 * i = n + 2 * (i + 1) by omega]; exact hc)
        rwa [show n + 2 + 2 * i = n + 2 * (i + 1) by omega] at this
    · rw [hz] at h
      dsimp only [cond] at h
      rw [Bool.and_eq_true] at h
      have hx := Nat.eq_of_beq_eq_true hz
      have hs := Nat.eq_of_beq_eq_true h.1
      cases i with
      | zero =>
        rw [Nat.mul_zero, Nat.add_zero, hs, ← hx]
        exact List.mem_cons_self ..
      | succ i =>
        have := cover_mem f (n + 2) xs h.2 i (by omega) (by rw [show n + 2 + 2 * i = n + 2 * (i + 1) by omega]; exact hc)
        rw [show n + 2 + 2 * i = n + 2 * (i + 1) by omega] at this
        exact List.mem_cons_of_mem _ this
theorem coverAll_mem : ∀ (ls : List (List (Nat × Nat))) (n : Nat), coverAll n ls = true → ∀ i, i < 200 * ls.length → candP (n + 2 * i) = true → ∃ l ∈ ls, (n + 2 * i, sigC (n + 2 * i)) ∈ l
  | [], n, h, i, hi, hc => by simp at hi
  | l :: ls, n, h, i, hi, hc => by
    unfold coverAll at h
    rw [Bool.and_eq_true] at h
    simp only [List.length_cons] at hi
    by_cases hlt : i < 200
    · exact ⟨l, List.mem_cons_self .., cover_mem 200 n l h.1 i hlt hc⟩
    · obtain ⟨m, hm, hx⟩ := coverAll_mem ls (n + 400) h.2 (i - 200) (by omega) (by rw [show n + 400 + 2 * (i - 200) = n + 2 * i by omega]; exact hc)
      rw [show n + 400 + 2 * (i - 200) = n + 2 * i by omega] at hx
      exact ⟨m, List.mem_cons_of_mem _ hm, hx⟩
theorem tab_mem {p : Nat} (hp : Pr p) (h2 : p % 2 = 1) (h7 : 7 ≤ p) (hlt : p < 12400) : ∃ l ∈ tab, (p, sigC p) ∈ l := by
  have := coverAll_mem tab 7 tab_cover ((p - 7) / 2) (by
    have : tab.length = 31 := rfl
    omega) (by rw [show 7 + 2 * ((p - 7) / 2) = p by omega]; exact candP_of hp h2)
  rwa [show 7 + 2 * ((p - 7) / 2) = p by omega] at this
theorem pair_mem {p q : Nat} (hp : Pr p) (hq : Pr q) (hp2 : p % 2 = 1) (hq2 : q % 2 = 1) (h7 : 7 ≤ p) (hpq : p < q) (hlt : p * q * q < 1073741824) (hs : sigC p = sigC q) : chkPair p q = true := by
  have hq12 : q < 12400 := by
    refine Classical.byContradiction fun hc => ?_
    have h1 : 7 * 12400 ≤ p * q := Nat.mul_le_mul h7 (by omega)
    have h2 : 7 * 12400 * 12400 ≤ p * q * q := Nat.mul_le_mul h1 (by omega)
    omega
  obtain ⟨l, hl, hpl⟩ := tab_mem hp hp2 h7 (by omega)
  obtain ⟨m, hm, hqm⟩ := tab_mem hq hq2 (by omega) hq12
  have h1 := List.all_eq_true.1 (List.all_eq_true.1 tab_pairs l hl) _ hpl
  dsimp only at h1
  have hppp : p * p * p < 1073741824 := by
    have h1 : p * p ≤ p * q := Nat.mul_le_mul_left _ (by omega)
    have h2 : p * p * p ≤ p * q * q := Nat.mul_le_mul h1 (by omega)
    omega
  rw [nble' hppp, Bool.false_or] at h1
  have h2 := List.all_eq_true.1 (List.all_eq_true.1 h1 m hm) _ hqm
  dsimp only at h2
  rw [nbeq hs, nble' hpq, nble' hlt] at h2
  simp only [Bool.not_true, Bool.false_or] at h2
  obtain ⟨z, hz, h3⟩ := List.any_eq_true.1 h2
  rw [Bool.and_eq_true] at h3
  have h4 := pair_ok hz
  rwa [Nat.eq_of_beq_eq_true h3.1, Nat.eq_of_beq_eq_true h3.2] at h4
theorem pow_red {p m : Nat} (h2 : 2 ≤ p) (hf1 : 2 ^ (p - 1) % p = 1) (hf2 : 2 ^ m % p = 1) : 2 ^ (m % (p - 1)) % p = 1 := by
  have h5 := Nat.div_add_mod m (p - 1)
  rwa [← h5, Nat.pow_add, Nat.pow_mul, Nat.mul_mod, Nat.pow_mod, hf1, Nat.one_pow, Nat.mod_eq_of_lt (show 1 < p by omega), Nat.one_mul, Nat.mod_mod] at hf2
theorem pair_no {p q k : Nat} (hp : Pr p) (hq : Pr q) (hc : chkPair p q = true) (hp10 : p < 1025) (hq14 : q < 16385) (hpq : 0 < p * q) (hlt : p * q * k < 1073741824) (h16 : p * q * k % 16 = 1) (hF : isF (p * q * k) = true) (hf1 : 2 ^ (p - 1) % p = 1) (hf2 : 2 ^ (p * q * k - 1) % p = 1) (hg1 : 2 ^ (q - 1) % q = 1) (hg2 : 2 ^ (p * q * k - 1) % q = 1) : False := by
  have h2 := hp.1
  have h3 := hq.1
  unfold chkPair at hc
  have hk : 16 * (k / 16) + k % 16 = k := Nat.div_add_mod k 16
  have hj : k / 16 ≤ 67108864 / (p * q) := by
    refine (Nat.le_div_iff_mul_le hpq).2 ?_
    have h3 : p * q * (16 * (k / 16)) ≤ p * q * k := Nat.mul_le_mul_left _ (by omega)
    rw [Nat.mul_left_comm] at h3
    rw [Nat.mul_comm]
    omega
  have h0 := List.all_eq_true.1 hc (k / 16 / 4096) (List.mem_range.2 (Nat.lt_succ_of_le (Nat.div_le_div_right hj)))
  unfold chkPart at h0
  have h1 := List.all_eq_true.1 h0 (k % 16) (List.mem_range.2 (by omega))
  have e : p * q * (k % 16) % 16 = 1 := by rw [Nat.mul_mod_mod]; exact h16
  rw [nbeq e, Bool.not_true, Bool.false_or] at h1
  have h3 := List.all_eq_true.1 h1 (k / 16 % 4096) (List.mem_range.2 (by omega))
  rw [show 4096 * (k / 16 / 4096) + k / 16 % 4096 = k / 16 by omega, hk] at h3
  unfold chkT at h3
  have h4 : fp p 10 2 ((p * q * k - 1) % (p - 1)) = 1 := by
    rw [fp_eq p 10 2 _ (by
      have : (p * q * k - 1) % (p - 1) < p - 1 := Nat.mod_lt _ (by omega)
      have : (2 : Nat) ^ 10 = 1024 := by decide
      omega)]
    exact pow_red h2 hf1 hf2
  have h5 : fp q 14 2 ((p * q * k - 1) % (q - 1)) = 1 := by
    rw [fp_eq q 14 2 _ (by
      have : (p * q * k - 1) % (q - 1) < q - 1 := Nat.mod_lt _ (by omega)
      have : (2 : Nat) ^ 14 = 16384 := by decide
      omega)]
    exact pow_red (by omega) hg1 hg2
  rw [nble' hlt, hF, nbeq h4, nbeq h5] at h3
  cases h3

/-- What passes the test, is below 2^30 and 1 modulo 16 is a prime. -/
theorem prime_of_isB {T : Nat} (h17 : 4 ≤ T) (hlt : T < 1073741824) (h16 : T % 16 = 1) (h : isB T = true) : Pr T := by
  have hF : isF T = true := by rw [← isB_fast (by omega) (by omega)]; exact h
  obtain ⟨s, d, hs, hd, hsd, hS⟩ := strong_all h17 (by omega) (by omega) h
  obtain ⟨p, hp, hpT, hleast⟩ := least (n := T) (by omega)
  have hp2 := hp.1
  by_cases hpe : p = T
  · rwa [← hpe]
  exfalso
  obtain ⟨m, hm⟩ := id hpT
  have hm1 : 2 ≤ m := by
    rcases Nat.lt_or_ge m 2 with hc | hc
    · rcases (show m = 0 ∨ m = 1 by omega) with rfl | rfl <;> omega
    · exact hc
  have hmT : m ∣ T := ⟨p, by rw [hm, Nat.mul_comm]⟩
  have hpm := hleast m hm1 hmT
  have hpp : p * p ≤ T := by rw [hm]; exact Nat.mul_le_mul_left _ hpm
  have hp15 : p < 32768 := by
    refine Classical.byContradiction fun hc => ?_
    have : 32768 * 32768 ≤ p * p := Nat.mul_le_mul (by omega) (by omega)
    omega
  have hodd : ∀ r, r ∣ T → r % 2 = 1 := fun r hr => by
    refine Classical.byContradiction fun hc => ?_
    obtain ⟨c, hc2⟩ := Nat.dvd_trans (Nat.dvd_of_mod_eq_zero (show r % 2 = 0 by omega)) hr
    omega
  have nob : ∀ r, Pr r → r ∣ T → ∀ a ∈ bases, ¬ r ∣ a := fun r hr hrT a ha hra => by
    have h1 := strong_dvd hr hrT (by omega) hra (by omega) (hS a ha)
    have h2 := div_base ha h1 h16 (by omega) hF
    have hz := Nat.mod_eq_zero_of_dvd hpT
    rcases h2 with rfl | rfl
    · refine two_pr.1 p ?_ hp2 hz
      refine Classical.byContradiction fun hc => ?_
      have : 14 * 14 ≤ p * p := Nat.mul_le_mul (by omega) (by omega)
      omega
    · refine two_pr.2 p ?_ hp2 hz
      refine Classical.byContradiction fun hc => ?_
      have : 639 * 639 ≤ p * p := Nat.mul_le_mul (by omega) (by omega)
      omega
  have hpodd := hodd p hpT
  have h7 : 7 ≤ p := by
    have h3 : p ≠ 3 := fun e => nob p hp hpT 9375 (by decide) (by rw [e]; decide)
    have h5 : p ≠ 5 := fun e => nob p hp hpT 325 (by decide) (by rw [e]; decide)
    omega
  have hpa : ∀ a ∈ bases, ¬ T ∣ a := fun a ha hd => nob p hp hpT a ha (Nat.dvd_trans hpT hd)
  have fer : ∀ a ∈ bases, Cg (T : Int) ((a : Int) ^ (T - 1)) 1 := fun a ha => strong_fermat hsd (by omega) (hpa a ha) (hS a ha)
  have h215 : (2 : Nat) ^ 15 = 32768 := by decide
  by_cases hpm2 : p ∣ m
  · obtain ⟨c, hc⟩ := hpm2
    have hppT : p * p ∣ T := ⟨c, by rw [hm, hc, Nat.mul_assoc]⟩
    have k2 := sq_fermat hp hppT (by omega) (nob p hp hpT 2 (by decide)) (fer 2 (by decide))
    have k3 := sq_fermat hp hppT (by omega) (nob p hp hpT 325 (by decide)) (fer 325 (by decide))
    have k := chk2_at hp15 hpodd
    unfold chk2 at k
    rw [fp_eq _ 15 2 _ (by omega), fp_eq _ 15 325 _ (by omega), k2, k3] at k
    cases k
  obtain ⟨q, hq, hqm, hql⟩ := least hm1
  have hqT : q ∣ T := Nat.dvd_trans hqm hmT
  have hq2 := hq.1
  have hpq : p < q := by
    have h1 := hleast q hq2 hqT
    rcases Nat.lt_or_ge p q with hc | hc
    · exact hc
    · have : p = q := by omega
      exact absurd (this ▸ hqm) hpm2
  have hqodd := hodd q hqT
  obtain ⟨k, hk⟩ := hqm
  have hk0 : 0 < k := Nat.pos_of_ne_zero fun h0 => by subst h0; omega
  by_cases hk1 : k = 1
  · -- two primes
    subst hk1
    rw [Nat.mul_one] at hk
    rw [hk] at hm
    have k3 := chk3_at hp15 hpodd
    unfold chk3 at k3
    rw [nble' (show 6 < p by omega), candP_of hp hpodd] at k3
    simp only [Bool.false_or, Bool.not_true] at k3
    have hdv : ∀ a ∈ bases, q ∣ a ^ (p - 1) - 1 := fun a ha => two_fermat hq hm (by omega) (nob q hq hqT a ha) (fer a ha)
    have hb1 : ∀ a ∈ bases, 1 ≤ a := by decide
    refine lastC_no k3 ?_ hpq (by rw [← hm]; exact hlt) (by rw [← hm]; exact hF)
    refine strip_dvd hq (dpr_nd hq (by omega) (by omega) _ _ fun hd => ?_) _ _ ?_
    · have := Nat.le_of_dvd (by decide) hd; omega
    · have hpw : 2 ^ 2 ≤ 2 ^ (p - 1) := Nat.pow_le_pow_right (by decide) (by omega)
      refine redG_dvd hq2 (by omega) _ _ (by omega) (hdv 2 (by decide)) fun a ha _ => ?_
      exact ⟨hb1 a (List.mem_of_mem_tail ha), hdv a (List.mem_of_mem_tail ha)⟩
  · -- three primes and more
    have hqk : q ≤ k := hql k (by omega) ⟨q, by rw [hk, Nat.mul_comm]⟩
    have hT : T = p * q * k := by rw [hm, hk, Nat.mul_assoc]
    have hpqq : p * q * q < 1073741824 := by
      have : p * q * q ≤ p * q * k := Nat.mul_le_mul_left _ hqk
      omega
    have hsg : sigC p = sigC q := sigC_eq fun a ha => sg_eq hp hq hpodd hqodd hpT hqT (by omega) (nob p hp hpT a ha) (nob q hq hqT a ha) hsd hd (hS a ha)
    have hch := pair_mem hp hq hpodd hqodd h7 hpq hpqq hsg
    have hp10 : p < 1025 := by
      refine Classical.byContradiction fun hc => ?_
      have h1 : 1025 * 1025 ≤ p * q := Nat.mul_le_mul (by omega) (by omega)
      have h2 : 1025 * 1025 * 1025 ≤ p * q * q := Nat.mul_le_mul h1 (by omega)
      omega
    have hq14 : q < 16385 := by
      refine Classical.byContradiction fun hc => ?_
      have h1 : 7 * 16385 ≤ p * q := Nat.mul_le_mul h7 (by omega)
      have h2 : 7 * 16385 * 16385 ≤ p * q * q := Nat.mul_le_mul h1 (by omega)
      omega
    have two : ∀ r, Pr r → r ∣ T → 2 ^ (T - 1) % r = 1 := fun r hr hrT => by
      have h1 := cgDvd (fer 2 (by decide)) hrT
      have h2 : Cg (r : Int) ((2 ^ (T - 1) : Nat) : Int) (1 : Nat) := by rw [Int.natCast_pow]; exact h1
      exact cgToMod h2 (by have := hr.1; omega)
    have t1 := two p hp hpT
    have t2 := two q hq hqT
    rw [hT] at t1 t2 hlt h16 hF
    exact pair_no hp hq hch hp10 hq14 (Nat.mul_pos (by omega) (by omega)) hlt h16 hF (fermat hp (nob p hp hpT 2 (by decide))) t1 (fermat hq (nob q hq hqT 2 (by decide))) t2
end Go.Proofs.YtfcmdefigldpnaaDoor

/- Package batch: the law BatchBack. Condition: the table of math/bits reads as it is laid. -/
namespace Go.Proofs.YtfcmdefigldpnaaDoor
set_option linter.unusedVariables false
set_option maxRecDepth 8000
open Go Go.Den Go.RowKit Go.Mth Go.Dig

theorem qok_prime {L T : Nat} (h3 : 3 ≤ L) (hlt : T < 1073741824) (hm : T % (2 * 2 ^ L) = 1) (hB : isB T = true) : QOk L T := by
  have h16 : T % 16 = 1 := by
    obtain ⟨k, rfl⟩ : ∃ k, L = k + 3 := ⟨L - 3, by omega⟩
    have e : 2 * 2 ^ (k + 3) = 16 * 2 ^ k := by rw [Nat.pow_add]; omega
    rw [e] at hm
    rw [← Nat.mod_mod_of_dvd T (⟨2 ^ k, rfl⟩ : 16 ∣ 16 * 2 ^ k), hm]
  have hT : T ≠ 1 := fun e => by subst e; revert hB; decide
  have hp := prime_of_isB (by omega) hlt h16 hB
  obtain ⟨X, hX2, hXlt, hX⟩ := nonres hp (by omega)
  refine ⟨by omega, hm, by omega, hB, X, hX2, by omega, ?_⟩
  unfold powm
  rw [if_neg (by omega), if_neg (by omega), ← Nat.pow_mod, ← Nat.pow_mul]
  obtain ⟨c, hc⟩ : ∃ c, T = 2 * 2 ^ L * c + 1 := ⟨T / (2 * 2 ^ L), by have := Nat.div_add_mod T (2 * 2 ^ L); omega⟩
  have hpos : 0 < 2 ^ L := Nat.pow_pos (by decide)
  have e1 : (T - 1) / 2 ^ (L + 1) = c := by
    rw [hc, Nat.add_sub_cancel, Nat.pow_succ, Nat.mul_comm (2 ^ L) 2]
    exact Nat.mul_div_cancel_left _ (by omega)
  have e2 : 2 ^ (L + 1) / 2 = 2 ^ L := by rw [Nat.pow_succ, Nat.mul_div_cancel _ (by decide)]
  have e3 : (T - 1) / 2 = c * 2 ^ L := by
    rw [hc, Nat.add_sub_cancel, Nat.mul_assoc, Nat.mul_div_cancel_left _ (by decide), Nat.mul_comm]
  rw [e1, e2, ← e3]
  exact hX
theorem par_size {p : ParD} (P : parP p) (h64 : p.n ≤ 64) : ∃ L, 3 ≤ L ∧ L ≤ 6 ∧ p.n = ((2 ^ L : Nat) : Int) ∧ apart (2 ^ L) = true := by
  have h1 : 0 < rowF p.n := P.1.1
  obtain ⟨h8, -⟩ := rowF_pos h1
  unfold rowF at h1
  obtain ⟨a1, a2, a3, a4⟩ := apart_all
  by_cases hr : rowP p.n
  · unfold rowP at hr
    rcases hr with h | h | h | h | h | h
    · exact ⟨3, by decide, by decide, h, a1⟩
    · exact ⟨4, by decide, by decide, h, a2⟩
    · exact ⟨5, by decide, by decide, h, a3⟩
    · exact ⟨6, by decide, by decide, h, a4⟩
    · omega
    · omega
  · rw [if_neg hr] at h1
    exfalso
    split at h1
    · omega
    · split at h1
      · omega
      · split at h1 <;> omega
theorem qok_par {p : ParD} {L : Nat} (P : parP p) (hN : p.n = ((2 ^ L : Nat) : Int)) (h3 : 3 ≤ L) : QOk L p.t := by
  obtain ⟨h1, h2, h4⟩ := P.2.1
  refine qok_prime h3 h1 ?_ h4
  rw [hN, Int.toNat_natCast] at h2
  exact h2

end Go.Proofs.YtfcmdefigldpnaaDoor

/- Products and turns of polynomials, and what their values are: plain laws of numbers. No condition, no program. -/
namespace Go.Proofs.YtfcmdefigldpnaaDoor
set_option linter.unusedVariables false
set_option maxRecDepth 8000
open Go Go.Den Go.RowKit Go.Mth Go.Dig

/-- One product's share of the coefficient p. -/
def ctr (n : Nat) (X Y : Nat → Int) (p a b : Nat) : Int := if a + b = p then X a * Y b else if a + b = p + n then -(X a * Y b) else 0
/-- The product of two polynomials modulo X^n + 1. -/
def cnv (n : Nat) (X Y : Nat → Int) (p : Nat) : Int := sm n fun a => sm n fun b => ctr n X Y p a b
theorem cnv_dft {q w : Int} {n : Nat} (hw : Cg q (w ^ n) (-1)) (X Y : Nat → Int) (k : Nat) : Cg q (dft n w (cnv n X Y) k) (dft n w X k * dft n w Y k) := by
  have e1 : dft n w (cnv n X Y) k = sm n fun a => sm n fun b => sm n fun p => ctr n X Y p a b * w ^ (p * (2 * k + 1)) := by
    have e : dft n w (cnv n X Y) k = sm n fun p => sm n fun a => sm n fun b => ctr n X Y p a b * w ^ (p * (2 * k + 1)) := by
      unfold dft cnv
      refine sm_congr n fun p _ => ?_
      rw [← sm_mulR]
      exact sm_congr n fun a _ => (sm_mulR _ _).symm
    rw [e, sm_swap]
    exact sm_congr n fun a _ => sm_swap n n
  have e2 : dft n w X k * dft n w Y k = sm n fun a => sm n fun b => X a * w ^ (a * (2 * k + 1)) * (Y b * w ^ (b * (2 * k + 1))) := by
    unfold dft
    rw [← sm_mulR]
    exact sm_congr n fun a _ => (sm_mul _ _).symm
  rw [e1, e2]
  refine sm_cg n fun a ha => sm_cg n fun b hb => ?_
  have hp : w ^ (a * (2 * k + 1)) * w ^ (b * (2 * k + 1)) = w ^ ((a + b) * (2 * k + 1)) := by rw [Nat.add_mul, Int.pow_add]
  have e3 : X a * w ^ (a * (2 * k + 1)) * (Y b * w ^ (b * (2 * k + 1))) = X a * Y b * w ^ ((a + b) * (2 * k + 1)) := by rw [← hp]; ac_rfl
  rw [e3]
  rcases Nat.lt_or_ge (a + b) n with h | h
  · rw [sm_single (i := a + b) n h fun j hj hne => by unfold ctr; rw [if_neg (fun e => hne e.symm), if_neg (by omega), Int.zero_mul]]
    unfold ctr
    rw [if_pos rfl]
    exact Cg.refl _ _
  · rw [sm_single (i := a + b - n) n (by omega) fun j hj hne => by unfold ctr; rw [if_neg (by omega), if_neg (by omega), Int.zero_mul]]
    unfold ctr
    rw [if_neg (by omega), if_pos (by omega)]
    have e4 : w ^ ((a + b) * (2 * k + 1)) = w ^ ((a + b - n) * (2 * k + 1)) * w ^ (n * (2 * k + 1)) := by rw [← Int.pow_add, ← Nat.add_mul, Nat.sub_add_cancel h]
    rw [e4]
    have h5 := ((Cg.refl q (X a * Y b * w ^ ((a + b - n) * (2 * k + 1)))).mul (pow_odd hw k)).symm
    refine (Cg.of_eq ?_).trans (h5.trans (Cg.of_eq (Int.mul_assoc _ _ _)))
    rw [Int.mul_neg_one, Int.neg_mul]

/-- Sums of lists; a sum in another order. -/
def sl : List Int → Int
  | [] => 0
  | x :: xs => x + sl xs
theorem sl_perm {l1 l2 : List Int} (h : List.Perm l1 l2) : sl l1 = sl l2 := by
  induction h with
  | nil => rfl
  | cons x _ ih => simp only [sl, ih]
  | swap x y l => simp only [sl]; omega
  | trans _ _ ih1 ih2 => exact ih1.trans ih2
theorem sl_append : ∀ l1 l2 : List Int, sl (l1 ++ l2) = sl l1 + sl l2
  | [], l2 => by rw [List.nil_append]; show _ = 0 + _; omega
  | x :: xs, l2 => by rw [List.cons_append]; show x + sl (xs ++ l2) = x + sl xs + sl l2; rw [sl_append xs]; omega
theorem sm_sl (F : Nat → Int) : ∀ n, sm n F = sl ((List.range n).map F)
  | 0 => rfl
  | n + 1 => by
    rw [List.range_succ, List.map_append, sl_append, ← sm_sl F n]
    show sm n F + F n = sm n F + (F n + 0)
    omega
theorem sm_perm {n : Nat} {F : Nat → Int} {σ : Nat → Nat} (h1 : ∀ j, j < n → σ j < n) (h2 : ∀ i j, i < n → j < n → σ i = σ j → i = j) : sm n F = sm n fun j => F (σ j) := by
  rw [sm_sl, sm_sl]
  have hP : List.Perm ((List.range n).map σ) (List.range n) := by
    refine perm_of _ _ ?_ ?_ (by simp)
    · rw [List.nodup_iff_pairwise_ne, List.pairwise_map]
      have := List.nodup_range (n := n)
      rw [List.nodup_iff_pairwise_ne] at this
      refine List.Pairwise.imp_of_mem ?_ this
      intro x y hx hy hne e
      exact hne (h2 x y (List.mem_range.1 hx) (List.mem_range.1 hy) e)
    · intro y hy
      obtain ⟨x, hx, rfl⟩ := List.mem_map.1 hy
      exact List.mem_range.2 (h1 x (List.mem_range.1 hx))
  have := sl_perm (hP.map F)
  rw [List.map_map] at this
  exact this.symm

/-- Where a coefficient comes to lie by a turn. -/
def at2 (n k j : Nat) : Nat := j * (k % (2 * n)) % (2 * n)
theorem turnF_two (n q k : Nat) : ∀ (l : Nat) (xs : List Nat), xs.length = l → (turnF n q k xs).2 = at2 n k l := by
  intro l
  induction l with
  | zero =>
    intro xs hl
    obtain rfl : xs = [] := List.eq_nil_of_length_eq_zero hl
    show 0 = _
    unfold at2
    rw [Nat.zero_mul, Nat.zero_mod]
  | succ l ih =>
    intro xs hl
    obtain ⟨ys, x, rfl⟩ : ∃ ys x, xs = ys ++ [x] := ⟨xs.dropLast, xs.getLast (by intro e; subst e; cases hl), (List.dropLast_concat_getLast _).symm⟩
    have hyl : ys.length = l := by simpa using hl
    rw [turnF_snoc]
    unfold turnStep
    dsimp only
    rw [ih ys hyl]
    unfold at2
    rw [Nat.mod_add_mod, Nat.add_mul, Nat.one_mul]
def Inj2 (n k : Nat) : Prop := ∀ i j, i < n → j < n → at2 n k i % n = at2 n k j % n → i = j
theorem turn_at {n q k : Nat} (hn : 0 < n) (J : Inj2 n k) : ∀ (l : Nat) (xs : List Nat), xs.length = l → l ≤ n → ∀ j, j < l →
    (turnL n q k xs).getD (at2 n k j % n) 0 = if at2 n k j < n then xs.getD j 0 else subm 0 (xs.getD j 0) q := by
  intro l
  induction l with
  | zero => intro xs hl _ j hj; omega
  | succ l ih =>
    intro xs hl hle j hj
    obtain ⟨ys, x, rfl⟩ : ∃ ys x, xs = ys ++ [x] := ⟨xs.dropLast, xs.getLast (by intro e; subst e; cases hl), (List.dropLast_concat_getLast _).symm⟩
    have hyl : ys.length = l := by simpa using hl
    have hok := turnF_ok hn q k ys
    have h2 := turnF_two n q k l ys hyl
    have hst : turnL n q k (ys ++ [x]) = (turnL n q k ys).set (at2 n k l % n) (if at2 n k l < n then x else subm 0 x q) := by
      unfold turnL
      rw [turnF_snoc]
      unfold turnStep
      dsimp only
      rw [h2]
      rw [h2] at hok
      by_cases hc : at2 n k l < n
      · rw [if_pos hc, if_pos hc, Nat.mod_eq_of_lt hc]
      · have e : at2 n k l % n = at2 n k l - n := by rw [Nat.mod_eq_sub_mod (by omega), Nat.mod_eq_of_lt (by omega)]
        rw [if_neg hc, if_neg hc, e]
    rw [hst, getD_set (by unfold turnL; rw [hok.1]; exact Nat.mod_lt _ hn)]
    by_cases hjl : j = l
    · subst hjl
      have e : (ys ++ [x]).getD j 0 = x := by rw [List.getD_eq_getElem?_getD, ← hyl]; simp
      rw [if_pos rfl, e]
    · rw [if_neg fun e => hjl (J j l (by omega) (by omega) e)]
      have e : (ys ++ [x]).getD j 0 = ys.getD j 0 := by rw [List.getD_eq_getElem?_getD, List.getD_eq_getElem?_getD, List.getElem?_append_left (by omega)]
      rw [e]
      exact ih ys hyl (by omega) j (by omega)
theorem odd_inj {L k : Nat} (hk : k % 2 = 1) : Inj2 (2 ^ L) k := by
  have hpos : 0 < 2 ^ L := Nat.pow_pos (by decide)
  have hm : ∀ j, at2 (2 ^ L) k j % 2 ^ L = j * k % 2 ^ L := fun j => by
    unfold at2
    rw [Nat.mod_mod_of_dvd _ (⟨2, by rw [Nat.mul_comm]⟩ : 2 ^ L ∣ 2 * 2 ^ L), Nat.mul_mod, Nat.mod_mod_of_dvd _ (⟨2, by rw [Nat.mul_comm]⟩ : 2 ^ L ∣ 2 * 2 ^ L), ← Nat.mul_mod]
  have key : ∀ i j, i < 2 ^ L → j ≤ i → i * k % 2 ^ L = j * k % 2 ^ L → i = j := fun i j hi hji e => by
    have hd : 2 ^ L ∣ (i - j) * k := by rw [Nat.sub_mul]; exact dvd_sub_of_mod e (Nat.mul_le_mul_right _ hji)
    have hc : Nat.Coprime (2 ^ L) k := Nat.Coprime.pow_left L (by
      unfold Nat.Coprime
      rw [Nat.gcd_rec, hk, Nat.gcd_one_left])
    have hd2 := hc.dvd_of_dvd_mul_right hd
    rcases Nat.eq_zero_or_pos (i - j) with h0 | h0
    · omega
    · have := Nat.le_of_dvd h0 hd2; omega
  intro i j hi hj e
  rw [hm, hm] at e
  rcases Nat.le_total j i with h | h
  · exact key i j hi h e
  · exact (key j i hj h e.symm).symm
theorem pow_mod2 {q w : Int} {n : Nat} (hw : Cg q (w ^ n) (-1)) {a b : Nat} (h : a % (2 * n) = b % (2 * n)) : Cg q (w ^ a) (w ^ b) := by
  have h1 : Cg q (w ^ (2 * n)) 1 := by
    rw [Nat.mul_comm, Int.pow_mul]
    exact (hw.pow 2).trans (Cg.of_eq (by decide))
  have h2 : ∀ a, Cg q (w ^ a) (w ^ (a % (2 * n))) := fun a => by
    have e : w ^ a = w ^ (a % (2 * n)) * (w ^ (2 * n)) ^ (a / (2 * n)) := by rw [← Int.pow_mul, ← Int.pow_add, Nat.mod_add_div]
    rw [e]
    refine ((Cg.refl _ _).mul (h1.pow _)).trans (Cg.of_eq ?_)
    rw [Int.one_pow, Int.mul_one]
  exact (h2 a).trans ((Cg.of_eq (by rw [h])).trans (h2 b).symm)
/-- The values of what was turned are the values, moved. -/
theorem turn_dft {q L k m m' : Nat} {w : Int} (hq : 0 < q) (hw : Cg q (w ^ (2 ^ L)) (-1)) (hk : k % 2 = 1) (xs : List Nat) (hl : xs.length = 2 ^ L) (hm : (2 * m' + 1) % (2 * 2 ^ L) = k * (2 * m + 1) % (2 * 2 ^ L)) :
    Cg q (dft (2 ^ L) w (gt (turnL (2 ^ L) q k xs)) m) (dft (2 ^ L) w (gt xs) m') := by
  have J := odd_inj (L := L) hk
  have hpos : 0 < 2 ^ L := Nat.pow_pos (by decide)
  have TA := fun j hj => turn_at (q := q) hpos J _ xs hl (Nat.le_refl _) j hj
  generalize 2 ^ L = n at *
  unfold dft
  rw [sm_perm (σ := fun j => at2 n k j % n) (fun j _ => Nat.mod_lt _ hpos) J]
  refine sm_cg n fun j hj => ?_
  have h2 : at2 n k j < 2 * n := Nat.mod_lt _ (by omega)
  have hexp : at2 n k j * (2 * m + 1) % (2 * n) = j * (2 * m' + 1) % (2 * n) := by
    unfold at2
    rw [Nat.mod_mul_mod, Nat.mul_right_comm j (k % (2 * n)) (2 * m + 1), Nat.mul_mod_mod, ← Nat.mul_mod_mod j (2 * m' + 1), hm, Nat.mul_mod_mod, Nat.mul_assoc, Nat.mul_comm k]
  unfold gt
  rw [TA j hj]
  by_cases hc : at2 n k j < n
  · rw [if_pos hc, Nat.mod_eq_of_lt hc]
    exact (Cg.refl _ _).mul (pow_mod2 hw hexp)
  · have e : at2 n k j % n = at2 n k j - n := by rw [Nat.mod_eq_sub_mod (by omega), Nat.mod_eq_of_lt (by omega)]
    rw [if_neg hc, e]
    have e4 : w ^ (at2 n k j * (2 * m + 1)) = w ^ ((at2 n k j - n) * (2 * m + 1)) * w ^ (n * (2 * m + 1)) := by rw [← Int.pow_add, ← Nat.add_mul, Nat.sub_add_cancel (by omega)]
    refine Cg.trans ?_ ((Cg.refl q ((xs.getD j 0 : Nat) : Int)).mul (pow_mod2 hw hexp))
    rw [e4]
    refine ((cg_subm hq _ _).mul (Cg.refl _ _)).trans (Cg.trans (Cg.of_eq ?_) ((Cg.refl q _).mul ((Cg.refl q _).mul (pow_odd hw m).symm)))
    rw [Int.mul_neg_one, Int.mul_neg]
    generalize ((xs.getD j 0 : Nat) : Int) = X
    generalize w ^ ((at2 n k j - n) * (2 * m + 1)) = Y
    rw [show ((0 : Nat) : Int) - X = -X by omega, Int.neg_mul]
/-- The product of two rows, as it was reckoned; its values. -/
def Cnv (n q : Nat) (xs ys zs : List Nat) : Prop := Fit n q zs ∧ ∀ p, p < n → Cg q (gt zs p) (cnv n (gt xs) (gt ys) p)
theorem Cnv.dft {q n : Nat} {w : Int} {xs ys zs : List Nat} (hw : Cg q (w ^ n) (-1)) (h : Cnv n q xs ys zs) (k : Nat) : Cg q (dft n w (gt zs) k) (dft n w (gt xs) k * dft n w (gt ys) k) :=
  (dft_cg h.2 k).trans (cnv_dft hw _ _ k)
end Go.Proofs.YtfcmdefigldpnaaDoor

/- Products step by step; sums; what stands in the slots of sums, products and turned polynomials: plain laws. No condition, no program. -/
namespace Go.Proofs.YtfcmdefigldpnaaDoor
set_option linter.unusedVariables false
set_option maxRecDepth 8000
open Go Go.Den Go.RowKit Go.Mth Go.Dig

theorem gt_set {xs : List Nat} {r p v : Nat} (h : p < xs.length) : gt (xs.set r v) p = if p = r then (v : Int) else gt xs p := by
  unfold gt; rw [getD_set h]; split <;> rfl
theorem cmul_step {n q : Nat} (hq : 0 < q) {i k : Nat} (hi : i < n) (hk : k < n) {out : List Nat} {S X Y : Nat → Int} {pr : Nat} (hl : out.length = n) (h : ∀ p, p < n → Cg q (gt out p) (S p)) (hp : Cg q (pr : Int) (X i * Y k)) :
    (i + k < n → ∀ p, p < n → Cg q (gt (out.set (i + k) (addm (out.getD (i + k) 0) pr q)) p) (S p + ctr n X Y p i k)) ∧
    (¬ i + k < n → ∀ p, p < n → Cg q (gt (out.set (i + k - n) (subm (out.getD (i + k - n) 0) pr q)) p) (S p + ctr n X Y p i k)) := by
  constructor <;> intro hc p hpn
  · rw [gt_set (by omega)]
    unfold ctr
    by_cases e : p = i + k
    · subst e
      rw [if_pos rfl, if_pos rfl]
      exact (cg_addm hq _ _).trans ((h _ hpn).add hp)
    · rw [if_neg e, if_neg (fun e' => e e'.symm), if_neg (by omega), Int.add_zero]
      exact h p hpn
  · rw [gt_set (by omega)]
    unfold ctr
    rw [if_neg (show ¬ i + k = p by omega)]
    by_cases e : p = i + k - n
    · subst e
      rw [if_pos rfl, if_pos (by omega)]
      exact ((cg_subm hq _ _).trans ((h _ hpn).sub hp)).trans (Cg.of_eq (Int.sub_eq_add_neg))
    · rw [if_neg e, if_neg (by omega), Int.add_zero]
      exact h p hpn

theorem fit_set {n q r v : Nat} {xs : List Nat} (h : Fit n q xs) (hv : v < q) : Fit n q (xs.set r v) := ⟨by rw [List.length_set]; exact h.1, fun x hx => by
  rcases List.mem_or_eq_of_mem_set hx with hx | rfl
  · exact h.2 x hx
  · exact hv⟩

/-- Sum, difference and what is below 0, word by word. -/
def addL (q : Nat) (xs ys : List Nat) : List Nat := List.zipWith (fun a b => addm a b q) xs ys
def subL (q : Nat) (xs ys : List Nat) : List Nat := List.zipWith (fun a b => subm a b q) xs ys
def negL (q : Nat) (xs : List Nat) : List Nat := xs.map fun a => subm 0 a q
theorem addL_len {q : Nat} {xs ys : List Nat} (h : xs.length = ys.length) : (addL q xs ys).length = xs.length := by unfold addL; simp [h]
theorem addL_get {q i a b : Nat} {xs ys : List Nat} (h1 : xs[i]? = some a) (h2 : ys[i]? = some b) : (addL q xs ys)[i]? = some (addm a b q) := by
  unfold addL; rw [List.getElem?_zipWith, h1, h2]
theorem addL_gt {q i : Nat} {xs ys : List Nat} (hq : 0 < q) (h1 : i < xs.length) (h2 : i < ys.length) : Cg q (gt (addL q xs ys) i) (gt xs i + gt ys i) := by
  obtain ⟨a, ha⟩ : ∃ a, xs[i]? = some a := ⟨_, List.getElem?_eq_getElem h1⟩
  obtain ⟨b, hb⟩ : ∃ b, ys[i]? = some b := ⟨_, List.getElem?_eq_getElem h2⟩
  unfold gt
  rw [getD_of (addL_get ha hb), getD_of ha, getD_of hb]
  exact cg_addm hq _ _
theorem addL_fit {n q : Nat} {xs ys : List Nat} (hq : 0 < q) (h1 : xs.length = n) (h2 : ys.length = n) : Fit n q (addL q xs ys) := ⟨by rw [addL_len (by omega), h1], fun x hx => by
  obtain ⟨i, hi⟩ := List.getElem?_of_mem hx
  have hil := (List.getElem?_eq_some_iff.1 hi).1
  rw [addL_len (by omega)] at hil
  rw [addL_get (List.getElem?_eq_getElem hil) (List.getElem?_eq_getElem (show i < ys.length by omega))] at hi
  cases hi
  exact addm_lt hq⟩

/-- Powers of 3. -/
theorem pow3_half : pow3 8 4 = 1 ∧ pow3 16 8 = 1 ∧ pow3 32 16 = 1 ∧ pow3 64 32 = 1 := by decide +kernel
theorem pow3_add (n a b : Nat) : pow3 n (a + b) = pow3 n a * pow3 n b % (2 * n) := by unfold pow3; rw [Nat.pow_add, Nat.mul_mod]
theorem pow3_mod {n : Nat} (hn : 0 < n) (h1 : pow3 n (n / 2) = 1) (a : Nat) : pow3 n a = pow3 n (a % (n / 2)) := by
  have h2 : ∀ c, pow3 n (n / 2 * c) = 1 := by
    intro c
    induction c with
    | zero => unfold pow3; rw [Nat.mul_zero, Nat.pow_zero]; exact Nat.mod_eq_of_lt (by omega)
    | succ c ih => rw [Nat.mul_succ, pow3_add, ih, h1]; exact Nat.mod_eq_of_lt (by omega)
  conv => lhs; rw [← Nat.mod_add_div a (n / 2)]
  rw [pow3_add, h2, Nat.mul_one]
  unfold pow3
  rw [Nat.mod_mod]
theorem place_odd (n i : Nat) : 2 * (place n i).1 + 1 = pow3 n i := by
  have := pow3_odd n i
  unfold place
  dsimp only
  omega
theorem turn_place {n : Nat} (hn : 0 < n) (h1 : pow3 n (n / 2) = 1) (i b : Nat) : (2 * (place n ((i + b) % (n / 2))).1 + 1) % (2 * n) = pow3 n b * (2 * (place n i).1 + 1) % (2 * n) := by
  rw [place_odd, place_odd, ← pow3_mod hn h1, pow3_add, Nat.mod_mod, Nat.mul_comm]

/-- What a packed polynomial has at its places. -/
def Slt (B : BatD) (rs : List Nat) (F : Nat → Int) : Prop := Fit (2 ^ B.L) B.t rs ∧ ∀ m, m < 2 ^ B.L → Cg B.t (dft (2 ^ B.L) B.T.w (gt rs) m) (F m)
theorem BatOk.cw {B : BatD} (K : BatOk B) : Cg B.t ((B.T.w : Int) ^ (2 ^ B.L)) (-1) := by
  have := K.ok.cw
  rwa [K.tl, K.tq] at this
theorem slt_bck {B : BatD} (K : BatOk B) {xs rs : List Nat} (h : Bck B.T xs rs) : Slt B rs (gt xs) := by
  have h1 := h.1
  have h2 : ∀ p, p < 2 ^ B.T.L → Cg B.T.q (dft (2 ^ B.T.L) B.T.w (gt rs) p) (gt xs p) := fun p hp => (dft_cg (fun j hj => h.2 j hj) p).trans (dft_idft K.ok.cw K.ok.cuw K.ok.cp (gt xs) hp)
  rw [K.tl, K.tq] at h1 h2
  exact ⟨h1, h2⟩
theorem slt_val {B : BatD} (K : BatOk B) {rs ys : List Nat} {F : Nat → Int} (h : Slt B rs F) (V : Val B.T rs ys) {m v : Nat} (hm : m < 2 ^ B.L) (hv : v < B.t) (hF : Cg B.t (v : Int) (F m)) : ys.getD m 0 = v := by
  have h1 := V.1
  have h2 := V.2
  rw [K.tl, K.tq] at h1 h2
  obtain ⟨y, hy⟩ : ∃ y, ys[m]? = some y := ⟨_, List.getElem?_eq_getElem (by rw [h1.1]; exact hm)⟩
  have h3 := (h2 m hm).trans ((h.2 m hm).trans hF.symm)
  have hyt := h1.2 y (List.mem_of_getElem? hy)
  unfold gt at h3
  rw [getD_of hy] at h3 ⊢
  exact h3.eqN hyt hv
theorem slt_add {B : BatD} (K : BatOk B) {rs rs' : List Nat} {F G : Nat → Int} (h : Slt B rs F) (k : Slt B rs' G) : Slt B (addL B.t rs rs') (fun m => F m + G m) := by
  have hq : 0 < B.t := by have := K.ok.q1; have := K.tq; omega
  refine ⟨addL_fit hq h.1.1 k.1.1, fun m hm => ?_⟩
  refine (dft_cg (b := fun j => gt rs j + gt rs' j) (fun j hj => addL_gt hq (by rw [h.1.1]; exact hj) (by rw [k.1.1]; exact hj)) m).trans ?_
  refine (Cg.of_eq ?_).trans ((h.2 m hm).add (k.2 m hm))
  unfold dft
  rw [← sm_add]
  exact sm_congr _ fun j _ => Int.add_mul _ _ _
theorem slt_mul {B : BatD} (K : BatOk B) {rs rs' zs : List Nat} {F G : Nat → Int} (h : Slt B rs F) (k : Slt B rs' G) (hz : Cnv (2 ^ B.L) B.t rs rs' zs) : Slt B zs (fun m => F m * G m) :=
  ⟨hz.1, fun m hm => (hz.dft K.cw m).trans ((h.2 m hm).mul (k.2 m hm))⟩
theorem turnL_fit {n q k : Nat} (hn : 0 < n) (hq : 0 < q) {xs : List Nat} (hx : ∀ x ∈ xs, x < q) : Fit n q (turnL n q k xs) := by
  refine ⟨(turnF_ok hn q k xs).1, ?_⟩
  unfold turnL turnF
  suffices H : ∀ (xs : List Nat) (s : List Nat × Nat), (∀ x ∈ xs, x < q) → (∀ x ∈ s.1, x < q) → ∀ x ∈ (xs.foldl (turnStep n q (k % (2 * n))) s).1, x < q from H xs _ hx (fun x h => by have := (List.mem_replicate.1 h).2; omega)
  intro xs
  induction xs with
  | nil => intro s _ h; exact h
  | cons x xs ih =>
    intro s hx hs
    rw [List.foldl_cons]
    refine ih _ (fun y hy => hx y (List.mem_cons_of_mem _ hy)) ?_
    unfold turnStep
    dsimp only
    intro y hy
    split at hy
    · rcases List.mem_or_eq_of_mem_set hy with hy | rfl
      · exact hs y hy
      · exact hx _ (List.mem_cons_self ..)
    · rcases List.mem_or_eq_of_mem_set hy with hy | rfl
      · exact hs y hy
      · exact subm_lt hq
theorem slt_turn {B : BatD} (K : BatOk B) {rs ys : List Nat} {F : Nat → Int} (h : Slt B rs F) {k : Nat} (hk : k % 2 = 1) (V : Val B.T (turnL (2 ^ B.L) B.t k rs) ys) {m m' v : Nat} (hm : m < 2 ^ B.L) (hm' : m' < 2 ^ B.L)
    (e : (2 * m' + 1) % (2 * 2 ^ B.L) = k * (2 * m + 1) % (2 * 2 ^ B.L)) (hv : v < B.t) (hF : Cg B.t (v : Int) (F m')) : ys.getD m 0 = v := by
  have hq : 0 < B.t := by have := K.ok.q1; have := K.tq; omega
  have hpos : 0 < 2 ^ B.L := Nat.pow_pos (by decide)
  have S : Slt B (turnL (2 ^ B.L) B.t k rs) (fun m => dft (2 ^ B.L) B.T.w (gt (turnL (2 ^ B.L) B.t k rs)) m) := ⟨turnL_fit hpos hq h.1.2, fun m _ => Cg.refl _ _⟩
  exact slt_val K S V hm hv (hF.trans ((turn_dft hq K.cw hk rs h.1.1 e).trans (h.2 m' hm')).symm)
theorem lift_center {r t : Nat} (h : r < t) (ht : t ≤ 4611686018427387904) : liftm (centerm r t) t = r := by
  unfold liftm centerm
  rw [if_neg (by omega), if_neg (by omega), Nat.mod_eq_of_lt h]
  split
  · rw [Int.sub_emod_right, Int.emod_eq_of_lt (by omega) (by omega), Int.toNat_natCast]
  · rw [Int.emod_eq_of_lt (by omega) (by omega), Int.toNat_natCast]
end Go.Proofs.YtfcmdefigldpnaaDoor

/- Texts SrcA to PspC of this work, joined: each says in its own head what it proves, and of which condition. -/
import Derived.Test.YtbhhagdnbkkjpaaDoorMPr15
/- The reference's test of primes, told by a function. No condition. -/
namespace Go.Proofs.YtbhhagdnbkkjpaaDoor
set_option linter.unusedVariables false
set_option maxRecDepth 8000
open Go Go.Den Go.RowKit Go.Mth

/-- The odd part, and how often 2 goes into a number. -/
def spl : Nat → Nat → Nat → Nat × Nat
  | 0, d, s => (d, s)
  | k + 1, d, s => if d % 2 = 0 then spl k (d / 2) (s + 1) else (d, s)
theorem spl_odd {d : Nat} (h : ¬ d % 2 = 0) : ∀ (k s : Nat), spl k d s = (d, s)
  | 0, _ => rfl
  | k + 1, s => by unfold spl; rw [if_neg h]
def strongR (n a : Nat) : Bool := powm a (spl 64 (n - 1) 0).1 n == 1 || (powm a (spl 64 (n - 1) 0).1 n == n - 1 || holdsLoop n ((spl 64 (n - 1) 0).2 - 1) (powm a (spl 64 (n - 1) 0).1 n))
def trialR : Nat → Nat → Nat → Bool
  | 0, _, _ => true
  | k + 1, d, n => if d * d ≤ n then (if n % d = 0 then false else trialR k (d + 1) n) else true
def basesR : List Nat := [2, 3, 5, 7, 11, 13, 17, 19, 23, 29, 31, 37]
def isR (n : Nat) : Bool := if n < 2 then false else if n < 65536 then trialR 300 2 n else basesR.all fun a => !(n % a == 0) && strongR n a
theorem pow_lt61 {d s n : Nat} (h : d * 2 ^ s = n - 1) (hn : n < 2305843009213693952) (hn2 : 2 ≤ n) : s < 61 := by
  refine Classical.byContradiction fun hc => ?_
  have h1 : 2 ^ 61 ≤ 2 ^ s := Nat.pow_le_pow_right (by decide) (by omega)
  have h2 : 0 < d := Nat.pos_of_ne_zero fun e => by subst e; omega
  have h3 : 2 ^ s ≤ d * 2 ^ s := Nat.le_mul_of_pos_left _ h2
  have h4 : (2 : Nat) ^ 61 = 2305843009213693952 := by decide
  omega

theorem Tryd_ent21 : Ent Tryd.prog 21 := ent_of Tryd.func21 (by kernel_rfl) rfl
theorem strongR_spec (n a : Nat) (h : Hp) (hn : 2 ≤ n) (hn2 : n < 2305843009213693952) (ha : a < 18446744073709551616) :
    CallsH Tryd.prog 21 [U n, U a] h fun v' h' => v' = .bool (strongR n a) ∧ h = h' := by
  (apply enter Tryd.func21 rfl Tryd.ntmps21 rfl)
  refine runJ ?_
  (first | (apply w_seqB; exact rfl; apply w_block; exact rfl) | skip)
  apply (w_loop (σ := Nat × Nat) rfl (fun j => [(0, U n), (1, U a), (5, U j.1), (6, N j.2)])
    (fun j h' => h = h' ∧ 1 ≤ j.1 ∧ j.1 + j.2 < n ∧ j.1 * 2 ^ j.2 = n - 1 ∧ spl 64 (n - 1) 0 = spl (64 - j.2) j.1 j.2) (fun j => j.1) (n - 1, 0))
  · exact (Sub.cons rfl (Sub.cons rfl (Sub.cons rfl (Sub.cons rfl (Sub.nil _)))))
  · exact ⟨rfl, by dsimp only; omega, by dsimp only; omega, by dsimp only; rw [Nat.pow_zero, Nat.mul_one], rfl⟩
  rintro ⟨d, s⟩ h' ⟨rfl, j1, j2, j3, j4⟩
  dsimp only at j1 j2 j3 j4 ⊢
  refine runJ ?_
  (apply w_condD; exact rfl; exact rfl) <;> intro hd
  · refine runJ ?_
    apply again_normal (d / 2, s + 1)
    · exact (Sub.cons rfl (Sub.cons rfl (Sub.cons rfl (Sub.cons rfl (Sub.nil _)))))
    · have hs := pow_lt61 j3 hn2 hn
      refine ⟨rfl, by dsimp only; omega, by dsimp only; omega, ?_, ?_⟩
      · dsimp only
        rw [← j3, Nat.pow_succ, Nat.mul_comm (2 ^ s) 2, ← Nat.mul_assoc, Nat.div_mul_cancel (Nat.dvd_of_mod_eq_zero hd)]
      · dsimp only
        rw [j4, show 64 - s = (64 - (s + 1)) + 1 by omega]
        conv => lhs; unfold spl
        rw [if_pos hd]
    · dsimp only; omega
  have hsp : spl 64 (n - 1) 0 = (d, s) := j4.trans (spl_odd hd _ _)
  have hR : strongR n a = (powm a d n == 1 || (powm a d n == n - 1 || holdsLoop n (s - 1) (powm a d n))) := by unfold strongR; rw [hsp]
  rw [hR]
  refine runJ ?_
  apply (s_call Tryd_ent10 rfl rfl rfl)
  refine (refPow_spec a d n h ha (by omega) (by omega)).mono ?_
  rintro _ _ ⟨rfl, rfl⟩
  refine ⟨(by first | exact trivial | exact Ext.refl _ | assumption | exact Ext.trans (by assumption) (by assumption)), ?_⟩
  have hx : powm a d n < n := by unfold powm; rw [if_neg (by omega)]; exact Nat.mod_lt _ (by omega)
  generalize powm a d n = x at *
  refine runJ ?_
  (apply s_splitG; exact rfl; exact rfl; exact rfl; exact rfl) <;> intro g1
  · refine runJ ?_
    exact fin1 rfl rfl ⟨by simp [g1], rfl⟩
  refine runJ ?_
  (apply w_condD; exact rfl; exact rfl) <;> intro g2
  · refine runJ ?_
    exact fin1 rfl rfl ⟨by simp [g2], rfl⟩
  refine runJ ?_
  (first | (apply w_seqB; exact rfl; apply w_block; exact rfl) | skip)
  apply (w_loop (σ := Nat × Nat) rfl (fun j => [(0, U n), (6, N s), (7, U j.1), (8, N j.2)])
    (fun j h' => h = h' ∧ j.1 < n ∧ 1 ≤ j.2 ∧ holdsLoop n (s - 1) x = holdsLoop n (s - j.2) j.1) (fun j => s - j.2) (x, 1))
  · exact (Sub.cons rfl (Sub.cons rfl (Sub.cons rfl (Sub.cons rfl (Sub.nil _)))))
  · exact ⟨rfl, hx, Nat.le_refl _, rfl⟩
  rintro ⟨y, i⟩ h' ⟨rfl, k1, k2, k3⟩
  dsimp only at k1 k2 k3 ⊢
  have hx1 : (x == 1) = false := by simp [g1]
  have hx2 : (x == n - 1) = false := by simp [g2]
  refine runJ ?_
  (apply w_condD; exact rfl; exact rfl) <;> intro hi
  · have hstep : holdsLoop n (s - i) y = (mulm y y n == n - 1 || holdsLoop n (s - (i + 1)) (mulm y y n)) := by
      rw [show s - i = (s - (i + 1)) + 1 by omega]; rfl
    refine runJ ?_
    apply (s_call Tryd_ent19 rfl rfl rfl)
    refine (refMul_spec y y n h (by omega) (by omega) (by omega)).mono ?_
    rintro _ _ ⟨rfl, rfl⟩
    refine ⟨(by first | exact trivial | exact Ext.refl _ | assumption | exact Ext.trans (by assumption) (by assumption)), ?_⟩
    have hm : mulm y y n < n := mulm_lt (by omega)
    generalize mulm y y n = z at *
    refine runJ ?_
    (apply w_condD; exact rfl; exact rfl) <;> intro hy
    · refine runJ ?_
      exact fin1 rfl rfl ⟨by rw [hx1, hx2, k3, hstep]; simp [hy], rfl⟩
    · refine runJ ?_
      apply again_normal (z, i + 1)
      · exact (Sub.cons rfl (Sub.cons rfl (Sub.cons rfl (Sub.cons rfl (Sub.nil _)))))
      · refine ⟨rfl, hm, by dsimp only; omega, ?_⟩
        dsimp only
        rw [k3, hstep]
        simp [hy]
      · dsimp only; omega
  · refine runJ ?_
    have h0 : holdsLoop n (s - i) y = false := by rw [show s - i = 0 by omega]; rfl
    exact fin1 rfl rfl ⟨by rw [hx1, hx2, k3, h0]; rfl, rfl⟩

theorem Tryd_ent13 : Ent Tryd.prog 13 := ent_of Tryd.func13 (by kernel_rfl) rfl
theorem refIs_spec (n : Nat) (h : Hp) (hn2 : n < 2305843009213693952) :
    CallsH Tryd.prog 13 [U n] h fun v' h' => v' = .bool (isR n) ∧ Ext h h' := by
  (apply enter Tryd.func13 rfl Tryd.ntmps13 rfl)
  refine runJ ?_
  (apply w_condD; exact rfl; exact rfl) <;> intro g1
  · refine runJ ?_
    exact fin1 rfl rfl ⟨by unfold isR; rw [if_pos g1], Ext.refl _⟩
  refine runJ ?_
  (apply w_condD; exact rfl; exact rfl) <;> intro g2
  · have hR : isR n = trialR 300 2 n := by unfold isR; rw [if_neg g1, if_pos g2]
    rw [hR]
    refine runJ ?_
    (first | (apply w_seqB; exact rfl; apply w_block; exact rfl) | skip)
    apply (w_loop (σ := Nat) rfl (fun d => [(0, U n), (3, U d)])
      (fun d h' => h = h' ∧ 2 ≤ d ∧ d ≤ 300 ∧ trialR 300 2 n = trialR (302 - d) d n) (fun d => 302 - d) 2)
    · exact (Sub.cons rfl (Sub.cons rfl (Sub.nil _)))
    · exact ⟨rfl, by omega, by omega, rfl⟩
    rintro d h' ⟨rfl, d1, d2, d3⟩
    have hdd : d * d ≤ 300 * 300 := Nat.mul_le_mul d2 d2
    have hdl : d ≤ d * d := Nat.le_mul_self d
    have hst : trialR (302 - d) d n = if d * d ≤ n then (if n % d = 0 then false else trialR (302 - (d + 1)) (d + 1) n) else true := by
      rw [show 302 - d = (302 - (d + 1)) + 1 by omega]; rfl
    rw [d3, hst]
    refine runJ ?_
    (apply w_condD; exact rfl; exact rfl) <;> intro hd
    · rw [if_pos hd]
      have hd256 : d < 256 := by
        refine Classical.byContradiction fun hc => ?_
        have : 256 * 256 ≤ d * d := Nat.mul_le_mul (by omega) (by omega)
        omega
      refine runJ ?_
      (apply w_condD; exact rfl; exact rfl) <;> intro hm
      · rw [if_pos hm]
        refine runJ ?_
        exact fin1 rfl rfl ⟨rfl, Ext.refl _⟩
      · rw [if_neg hm]
        refine runJ ?_
        apply again_normal (d + 1)
        · exact (Sub.cons rfl (Sub.cons rfl (Sub.nil _)))
        · exact ⟨rfl, by omega, by omega, rfl⟩
        · omega
    · rw [if_neg hd]
      refine runJ ?_
      exact fin1 rfl rfl ⟨rfl, Ext.refl _⟩
  have hR : isR n = basesR.all fun a => !(n % a == 0) && strongR n a := by unfold isR; rw [if_neg g1, if_neg g2]
  rw [hR]
  refine runJ ?_
  (apply (s_litF (f := U) [2, 3, 5, 7, 11, 13, 17, 19, 23, 29, 31, 37] (fun _ => rfl)); exact rfl; exact rfl; exact rfl; exact rfl; exact rfl; exact rfl; exact rfl; exact rfl; omega)
  intro w h1 o1 e1 b1
  refine ⟨(by first | exact trivial | exact Ext.refl _ | assumption | exact Ext.trans (by assumption) (by assumption)), ?_⟩
  have s1 := o1.sl
  refine runJ ?_
  (first | (apply w_seqB; exact rfl; apply w_block; exact rfl) | skip)
  apply (w_loop (σ := Nat) rfl (fun j => [(0, U n), (21, w), (22, N 12), (23, N j)])
    (fun j h' => h1 = h' ∧ j ≤ 12 ∧ ∀ i a, i < j → basesR[i]? = some a → ((!(n % a == 0)) && strongR n a) = true) (fun j => 12 - j) 0)
  · exact (Sub.cons rfl (Sub.cons rfl (Sub.cons rfl (Sub.cons rfl (Sub.nil _)))))
  · exact ⟨rfl, by omega, by intro i a hi; omega⟩
  rintro j h' ⟨rfl, j1, j2⟩
  refine runJ ?_
  (apply w_condD; exact rfl; exact rfl) <;> intro hj
  · obtain ⟨a, ha⟩ := get_lt (l := [2, 3, 5, 7, 11, 13, 17, 19, 23, 29, 31, 37]) (j := j) hj
    have ham : a ∈ basesR := List.mem_of_getElem? ha
    have hal : 0 < a ∧ a < 100 := by
      have hall : ∀ x ∈ basesR, 0 < x ∧ x < 100 := by decide
      exact hall a ham
    refine runJ ?_
    (apply s_splitG; exact rfl; exact rfl; exact rfl; exact rfl) <;> intro g3
    · refine runJ ?_
      refine fin1 rfl rfl ⟨?_, e1⟩
      congr 1
      symm
      rw [List.all_eq_false]
      exact ⟨a, ham, by simp [g3]⟩
    refine runJ ?_
    apply (s_call Tryd_ent21 rfl rfl rfl)
    refine (strongR_spec n a h1 (by omega) hn2 (by omega)).mono ?_
    rintro _ _ ⟨rfl, rfl⟩
    refine ⟨(by first | exact trivial | exact trivial), ?_⟩
    refine runJ ?_
    (apply w_cond; exact rfl; exact rfl) <;> intro hb
    · refine runJ ?_
      refine fin1 rfl rfl ⟨?_, e1⟩
      congr 1
      symm
      rw [List.all_eq_false]
      refine ⟨a, ham, ?_⟩
      have hb : strongR n a = false := by simpa using hb
      simp [hb]
    · refine runJ ?_
      apply again_normal (j + 1)
      · exact (Sub.cons rfl (Sub.cons rfl (Sub.cons rfl (Sub.cons rfl (Sub.nil _)))))
      · refine ⟨rfl, hj, fun i a' hi ha' => ?_⟩
        rcases Nat.lt_succ_iff_lt_or_eq.1 hi with hi | rfl
        · exact j2 i a' hi ha'
        · have : a' = a := by
            have := ha'.symm.trans ha
            exact Option.some.inj this
          subst this
          have hb : strongR n a' = true := by simpa using hb
          rw [hb]; simp [g3]
      · omega
  · refine runJ ?_
    refine fin1 rfl rfl ⟨?_, e1⟩
    congr 1
    symm
    rw [List.all_eq_true]
    intro a ha
    obtain ⟨i, hi⟩ := List.getElem?_of_mem ha
    have hil : i < 12 := (List.getElem?_eq_some_iff.1 hi).1
    exact j2 i a (by omega) hi
end Go.Proofs.YtbhhagdnbkkjpaaDoor

/- The reference's search for primes, told by a function. No condition. -/
namespace Go.Proofs.YtbhhagdnbkkjpaaDoor
set_option linter.unusedVariables false
set_option maxRecDepth 8000
open Go Go.Den Go.RowKit Go.Mth

theorem Tryd_ent12 : Ent Tryd.prog 12 := ent_of Tryd.func12 (by kernel_rfl) rfl
theorem refStep_spec (m : Nat) (h : Hp) (hm1 : 1 ≤ m) (hm2 : m ≤ 12) :
    CallsH Tryd.prog 12 [U (2 ^ m)] h fun v' h' => v' = .bool true ∧ h = h' := by
  have hb : 2 ^ m ≤ 4096 := Nat.pow_le_pow_right (n := 2) (j := 12) (by omega) hm2
  have hinj : ∀ i, i ≤ m → (2 ^ i = 2 ^ m ↔ i = m) := fun i hi => by
    constructor
    · intro e
      rcases Nat.lt_or_ge i m with h1 | h1
      · have := Nat.pow_lt_pow_right (a := 2) (by omega) h1; omega
      · omega
    · rintro rfl; rfl
  have hle : ∀ i, i ≤ m → 2 ^ i ≤ 2 ^ m := fun i hi => Nat.pow_le_pow_right (by omega) hi
  generalize hx : 2 ^ m = x at *
  (apply enter Tryd.func12 rfl Tryd.ntmps12 rfl)
  refine runJ ?_
  (first | (apply w_seqB; exact rfl; apply w_block; exact rfl) | skip)
  apply (w_loop (σ := Nat × Nat) rfl (fun k => [(0, U x), (3, U k.1)])
    (fun k h' => h = h' ∧ k.1 = 2 ^ k.2 ∧ k.2 ≤ m) (fun k => m - k.2) (2, 1))
  · exact (Sub.cons rfl (Sub.cons rfl (Sub.nil _)))
  · exact ⟨rfl, rfl, hm1⟩
  rintro ⟨k, i⟩ h' ⟨rfl, k1, k2⟩
  dsimp only at k1 k2 ⊢
  have h1 := hle i k2
  have h2 := hinj i k2
  rw [← k1] at h1 h2
  refine runJ ?_
  (apply w_condT; exact rfl; exact rfl; exact (show k ≤ 8192 by omega))
  refine runJ ?_
  (apply w_condD; exact rfl; exact rfl) <;> intro hd
  · refine runJ ?_
    exact fin1 rfl rfl ⟨rfl, rfl⟩
  · have hi : i < m := by
      rcases Nat.lt_or_ge i m with h3 | h3
      · exact h3
      · exact absurd (h2.2 (by omega)).symm hd
    refine runJ ?_
    apply again_normal (2 * k, i + 1)
    · exact (Sub.cons rfl (Sub.cons rfl (Sub.nil _)))
    · exact ⟨rfl, by dsimp only; rw [k1, Nat.pow_succ, Nat.mul_comm], hi⟩
    · dsimp only; omega

/-- The search: so many steps at most; none: they did not suffice. -/
def srchF (least step count : Nat) : Nat → Nat → List Nat → Option (Option (List Nat))
  | 0, _, _ => none
  | k + 1, c, out => if out.length < count then (if c ≤ least then some none else if c < step then some none else srchF least step count k (c - step) (if isR c then out ++ [c] else out)) else some (some out)

def SrchR (h h' : Hp) (v' : Value) : Option (List Nat) → Prop
  | none => ∃ e : Nat, v' = .tuple #[.slice none 0 0, N e]
  | some ys => ∃ w, v' = .tuple #[w, N 0] ∧ OwnF h' h.size 22 U w ys
theorem Tryd_ent7 : Ent Tryd.prog 7 := ent_of Tryd.func7 (by kernel_rfl) rfl
set_option maxHeartbeats 1000000 in
theorem refSearch_spec (bits m count fuel : Nat) (r : Option (List Nat)) (h : Hp) (hb1 : 4 ≤ bits) (hb2 : bits ≤ 61) (hm1 : 1 ≤ m) (hm2 : m ≤ 12) (hc1 : 1 ≤ count) (hc2 : count ≤ 16)
    (hr : srchF (2 ^ (bits - 1)) (2 ^ m) count fuel ((2 * 2 ^ (bits - 1) - 2) / 2 ^ m * 2 ^ m + 1) [] = some r) :
    CallsH Tryd.prog 7 [N bits, U (2 ^ m), N count] h fun v' h' => Ext h h' ∧ SrchR h h' v' r := by
  have SS := refStep_spec m h hm1 hm2
  have hL : 2 ^ (bits - 1) ≤ 2 ^ 60 := Nat.pow_le_pow_right (by omega) (by omega)
  have hL1 : 1 ≤ 2 ^ (bits - 1) := Nat.pow_pos (by omega)
  have h60 : (2 : Nat) ^ 60 = 1152921504606846976 := by decide
  have hM : 2 ^ m ≤ 4096 := Nat.pow_le_pow_right (n := 2) (j := 12) (by omega) hm2
  have hM1 : 1 ≤ 2 ^ m := Nat.pow_pos (by omega)
  generalize hx : 2 ^ m = x at *
  generalize hl : 2 ^ (bits - 1) = least at *
  have hdm : (2 * least - 2) / x * x ≤ 2 * least - 2 := Nat.div_mul_le_self _ _
  have hmb : (2 * least - 2) / x * x < 18446744073709551616 := by omega
  (apply enter Tryd.func7 rfl Tryd.ntmps7 rfl)
  refine runJ ?_
  (apply s_splitG; exact rfl; exact rfl; exact rfl; exact rfl) <;> intro g1
  · exact absurd g1 (by omega)
  refine runJ ?_
  (apply s_splitG; exact rfl; exact rfl; exact rfl; exact rfl) <;> intro g2
  · exact absurd g2 (by omega)
  refine runJ ?_
  apply (s_call Tryd_ent12 rfl rfl rfl)
  refine (SS).mono ?_
  rintro _ _ ⟨rfl, rfl⟩
  refine ⟨(by first | exact trivial | exact Ext.refl _ | assumption | exact Ext.trans (by assumption) (by assumption)), ?_⟩
  refine runJ ?_
  (apply s_splitG; exact rfl; exact rfl; exact rfl; exact rfl) <;> intro g3
  · exact absurd g3 (by omega)
  refine runJ ?_
  (apply w_condF; exact rfl; exact rfl; exact (show ¬ 16 < count by omega))
  refine runJ ?_
  rw [Nat.one_mul, hl]
  refine runJ ?_
  generalize hc0 : (2 * least - 2) / x * x = c0 at *
  refine runJ ?_
  (first | (apply w_seqB; exact rfl; apply w_block; exact rfl) | skip)
  apply (w_loop (σ := (Nat × Nat) × List Nat × Value) rfl (fun j => [(1, U x), (2, N count), (8, j.2.2), (9, U least), (10, U j.1.2)])
    (fun j h' => Ext h h' ∧ srchF least x count j.1.1 j.1.2 j.2.1 = some r ∧ j.1.2 ≤ 2 * least - 1 ∧ OwnF h' h.size 22 U j.2.2 j.2.1 ∧ j.2.1.length ≤ count) (fun j => j.1.1) ((fuel, c0 + 1), [], .slice none 0 0))
  · exact (Sub.cons rfl (Sub.cons rfl (Sub.cons rfl (Sub.cons rfl (Sub.cons rfl (Sub.nil _))))))
  · exact ⟨Ext.refl _, hr, by dsimp only; omega, OwnF.nil _ _ _ _, Nat.zero_le _⟩
  clear hr
  rintro ⟨⟨k, c⟩, out, v⟩ h1 ⟨e1, hr, c1, o1, l1⟩
  dsimp only at e1 hr c1 o1 l1 ⊢
  rcases k with _ | k
  · exact absurd hr (by unfold srchF; exact fun e => by cases e)
  unfold srchF at hr
  refine runJ ?_
  (apply w_condD; exact rfl; exact rfl) <;> intro hlt
  · rw [if_pos hlt] at hr
    refine runJ ?_
    (apply w_condD; exact rfl; exact rfl) <;> intro hcl
    · rw [if_pos hcl] at hr
      cases hr
      refine runJ ?_
      exact fin2 rfl rfl rfl ⟨e1, 7, rfl⟩
    rw [if_neg hcl] at hr
    refine runJ ?_
    apply (s_call Tryd_ent13 rfl rfl rfl)
    refine (refIs_spec c h1 (by omega)).mono ?_
    rintro _ h2 ⟨rfl, e2⟩
    refine ⟨(by first | exact trivial | exact trivial), ?_⟩
    have e12 := e1.trans e2
    have o2 := o1.ext e2
    refine runJ ?_
    apply (w_tcut (σ := List Nat × Value) (fun j => [(1, U x), (2, N count), (8, j.2), (9, U least), (10, U c)]) (fun j h' => Ext h h' ∧ OwnF h' h.size 22 U j.2 j.1 ∧ j.1.length ≤ count ∧ j.1 = if isR c then out ++ [c] else out))
    · (apply w_cond; exact rfl; exact rfl) <;> intro hi
      · have hi : isR c = true := by simpa using hi
        refine runJ ?_
        (refine s_app1 (bytes := 8) (c) o2 e12 rfl rfl rfl rfl rfl rfl rfl rfl rfl (by first | exact rfl | exact congrArg some (congrArg I (by omega))) (fun _ => rfl) rfl rfl (fun _ _ => trivial) (by omega) (by simp only [maxLen]; omega) ?_)
        intro v3 h3 o3 e3 k3 b3
        refine runJ ?_
        apply cut_normal (out ++ [c], v3)
        · exact (Sub.cons rfl (Sub.cons rfl (Sub.cons rfl (Sub.cons rfl (Sub.cons rfl (Sub.nil _))))))
        · exact ⟨e3, o3, by rw [List.length_append]; simp; omega, by rw [if_pos hi]⟩
      · have hi : ¬ isR c = true := by simpa using hi
        refine runJ ?_
        apply cut_normal (out, v)
        · exact (Sub.cons rfl (Sub.cons rfl (Sub.cons rfl (Sub.cons rfl (Sub.cons rfl (Sub.nil _))))))
        · exact ⟨e12, o2, l1, by rw [if_neg hi]⟩
    rintro ⟨out', v'⟩ h3 ⟨e3, o3, l3, q3⟩
    dsimp only at e3 o3 l3 q3 ⊢
    refine runJ ?_
    (apply w_condD; exact rfl; exact rfl) <;> intro hcx
    · rw [if_pos hcx] at hr
      cases hr
      refine runJ ?_
      exact fin2 rfl rfl rfl ⟨e3, 7, rfl⟩
    · rw [if_neg hcx, ← q3] at hr
      refine runJ ?_
      apply again_normal ((k, c - x), out', v')
      · exact (Sub.cons rfl (Sub.cons rfl (Sub.cons rfl (Sub.cons rfl (Sub.cons rfl (Sub.nil _))))))
      · exact ⟨e3, hr, by dsimp only; omega, o3, l3⟩
      · dsimp only; omega
  · rw [if_neg hlt] at hr
    cases hr
    refine runJ ?_
    exact fin2 rfl rfl rfl ⟨e1, v, rfl, o1⟩
end Go.Proofs.YtbhhagdnbkkjpaaDoor

/- Primes: Euclid's lemma, Fermat's theorem. No program. No condition. -/
namespace Go.Mth
set_option linter.unusedVariables false
set_option maxRecDepth 8000

/-- A prime: nothing but 1 and itself goes into it. -/
def Pr (p : Nat) : Prop := 2 ≤ p ∧ ∀ d, d ∣ p → d = 1 ∨ d = p
theorem Pr.euclid {p a b : Nat} (h : Pr p) (k : p ∣ a * b) : p ∣ a ∨ p ∣ b := by
  rcases h.2 (Nat.gcd p a) (Nat.gcd_dvd_left p a) with h1 | h1
  · exact .inr (Nat.Coprime.dvd_of_dvd_mul_left h1 k)
  · exact .inl (h1 ▸ Nat.gcd_dvd_right p a)
theorem Pr.pow {p a : Nat} (h : Pr p) : ∀ n, p ∣ a ^ n → p ∣ a
  | 0, k => by
    rw [Nat.pow_zero] at k
    have := Nat.le_of_dvd (by decide) k
    have := h.1; omega
  | n + 1, k => by
    rw [Nat.pow_succ] at k
    rcases h.euclid k with k | k
    · exact h.pow n k
    · exact k

/-- Every number above 1 has a least divisor above 1, which is a prime; it is at most the root, if the number is none. -/
theorem least {n : Nat} (hn : 2 ≤ n) : ∃ p, Pr p ∧ p ∣ n ∧ ∀ d, 2 ≤ d → d ∣ n → p ≤ d := by
  have key : ∀ k, (∃ d, 2 ≤ d ∧ d ≤ k ∧ d ∣ n) → ∃ p, 2 ≤ p ∧ p ∣ n ∧ ∀ d, 2 ≤ d → d ∣ n → p ≤ d := by
    intro k
    induction k with
    | zero => rintro ⟨d, h1, h2, -⟩; omega
    | succ k ih =>
      rintro ⟨d, h1, h2, h3⟩
      by_cases hc : ∃ d, 2 ≤ d ∧ d ≤ k ∧ d ∣ n
      · exact ih hc
      · refine ⟨d, h1, h3, fun e he1 he2 => ?_⟩
        refine Classical.byContradiction fun hlt => hc ⟨e, he1, by omega, he2⟩
  obtain ⟨p, h1, h2, h3⟩ := key n ⟨n, hn, Nat.le_refl _, Nat.dvd_refl _⟩
  refine ⟨p, ⟨h1, fun d hd => ?_⟩, h2, h3⟩
  rcases Nat.lt_or_ge d 2 with hd2 | hd2
  · rcases Nat.eq_zero_or_pos d with rfl | h0
    · have := Nat.eq_zero_of_zero_dvd hd; omega
    · exact .inl (by omega)
  · exact .inr (Nat.le_antisymm (Nat.le_of_dvd (by omega) hd) (h3 d hd2 (Nat.dvd_trans hd h2)))

theorem perm_of {α : Type} [DecidableEq α] : ∀ (l1 l2 : List α), l1.Nodup → (∀ x ∈ l1, x ∈ l2) → l2.length ≤ l1.length → List.Perm l1 l2
  | [], l2, _, _, hl => by
    have : l2 = [] := List.eq_nil_of_length_eq_zero (by simpa using hl)
    subst this; exact List.Perm.refl _
  | x :: xs, l2, hn, hs, hl => by
    have hx : x ∈ l2 := hs x (List.mem_cons_self ..)
    have h1 := List.perm_cons_erase hx
    rw [List.nodup_cons] at hn
    have h2 : List.Perm xs (l2.erase x) := perm_of xs (l2.erase x) hn.2 (fun y hy => by
      have hyx : y ≠ x := fun e => hn.1 (e ▸ hy)
      exact (List.mem_erase_of_ne hyx).2 (hs y (List.mem_cons_of_mem _ hy))) (by
      rw [List.length_erase_of_mem hx]
      simp only [List.length_cons] at hl
      omega)
    exact (h2.cons x).trans h1.symm

def prd : List Nat → Nat
  | [] => 1
  | x :: xs => x * prd xs
theorem prd_perm {l1 l2 : List Nat} (h : List.Perm l1 l2) : prd l1 = prd l2 := by
  induction h with
  | nil => rfl
  | cons x _ ih => simp only [prd, ih]
  | swap x y l => simp only [prd]; rw [← Nat.mul_assoc, ← Nat.mul_assoc, Nat.mul_comm y x]
  | trans _ _ ih1 ih2 => exact ih1.trans ih2
theorem prd_map (a p : Nat) : ∀ l : List Nat, prd (l.map fun x => a * x % p) % p = a ^ l.length * prd l % p
  | [] => by simp [prd]
  | x :: xs => by
    simp only [List.map_cons, prd, List.length_cons]
    rw [Nat.mul_mod, prd_map a p xs, Nat.mod_mod, ← Nat.mul_mod]
    congr 1
    rw [Nat.pow_succ]
    simp only [Nat.mul_assoc, Nat.mul_comm, Nat.mul_left_comm]
theorem Pr.prd {p : Nat} (h : Pr p) : ∀ l : List Nat, (∀ x ∈ l, ¬ p ∣ x) → ¬ p ∣ prd l
  | [], _ => fun k => by have := Nat.le_of_dvd (by decide) k; have := h.1; simp only [Mth.prd] at *; omega
  | x :: xs, hx => fun k => by
    rcases h.euclid k with k | k
    · exact hx x (List.mem_cons_self ..) k
    · exact h.prd xs (fun y hy => hx y (List.mem_cons_of_mem _ hy)) k

theorem dvd_sub_of_mod {a b p : Nat} (h : a % p = b % p) (hab : b ≤ a) : p ∣ a - b := by
  rw [Nat.dvd_iff_mod_eq_zero]
  exact (Nat.sub_mod_eq_zero_of_mod_eq h)
/-- Fermat's theorem. -/
theorem fermat {p a : Nat} (h : Pr p) (ha : ¬ p ∣ a) : a ^ (p - 1) % p = 1 := by
  have h2 := h.1
  have hl : ((List.range (p - 1)).map (· + 1)).length = p - 1 := by simp
  have hmem : ∀ x, x ∈ (List.range (p - 1)).map (· + 1) ↔ 1 ≤ x ∧ x < p := fun x => by
    simp only [List.mem_map, List.mem_range]
    constructor
    · rintro ⟨y, hy, rfl⟩; omega
    · intro hx; exact ⟨x - 1, by omega, by omega⟩
  have hnd : ((List.range (p - 1)).map (· + 1)).Nodup := by
    rw [List.nodup_iff_pairwise_ne, List.pairwise_map]
    exact List.nodup_range.imp fun hab e => hab (by omega)
  generalize (List.range (p - 1)).map (· + 1) = l at *
  have hnp : ∀ x ∈ l, ¬ p ∣ x := fun x hx k => by
    have := (hmem x).1 hx
    have := Nat.le_of_dvd (by omega) k; omega
  have hinj : ∀ x ∈ l, ∀ y ∈ l, y ≤ x → a * x % p = a * y % p → x = y := fun x hx y hy hle e => by
    have k := dvd_sub_of_mod e (Nat.mul_le_mul_left _ hle)
    rw [← Nat.mul_sub] at k
    rcases h.euclid k with k | k
    · exact absurd k ha
    · have h3 := (hmem x).1 hx
      have h4 := (hmem y).1 hy
      rcases Nat.eq_zero_or_pos (x - y) with h0 | h0
      · omega
      · have := Nat.le_of_dvd h0 k; omega
  have hP : List.Perm (l.map fun x => a * x % p) l := by
    refine perm_of _ _ ?_ ?_ (by simp)
    · rw [List.nodup_iff_pairwise_ne, List.pairwise_map]
      have := hnd
      rw [List.nodup_iff_pairwise_ne] at this
      refine List.Pairwise.imp_of_mem ?_ this
      intro x y hx hy hne e
      rcases Nat.le_total y x with hle | hle
      · exact hne (hinj x hx y hy hle e)
      · exact hne (hinj y hy x hx hle e.symm).symm
    · intro y hy
      obtain ⟨x, hx, rfl⟩ := List.mem_map.1 hy
      refine (hmem _).2 ⟨?_, Nat.mod_lt _ (by omega)⟩
      refine Nat.pos_of_ne_zero fun h0 => ?_
      rcases h.euclid (Nat.dvd_of_mod_eq_zero h0) with k | k
      · exact ha k
      · exact hnp x hx k
  have h3 := prd_map a p l
  rw [prd_perm hP, hl] at h3
  have h4 : p ∣ a ^ (p - 1) * prd l - prd l := dvd_sub_of_mod h3.symm (Nat.le_mul_of_pos_left _ (Nat.pow_pos (Nat.pos_of_ne_zero fun h0 => ha (h0 ▸ Nat.dvd_zero p))))
  have h5 : a ^ (p - 1) * prd l - prd l = (a ^ (p - 1) - 1) * prd l := by rw [Nat.sub_mul, Nat.one_mul]
  rw [h5] at h4
  rcases h.euclid h4 with k | k
  · have hpos : 1 ≤ a ^ (p - 1) := Nat.pow_pos (Nat.pos_of_ne_zero fun h0 => ha (h0 ▸ Nat.dvd_zero p))
    obtain ⟨c, hc⟩ := k
    rw [show a ^ (p - 1) = 1 + p * c by omega, Nat.add_mul_mod_self_left, Nat.mod_eq_of_lt (by omega)]
  · exact absurd k (h.prd l hnp)
end Go.Mth

/- Primes: so many roots has a polynomial; a number that is no square. No program. No condition. -/
namespace Go.Mth
set_option linter.unusedVariables false
set_option maxRecDepth 8000

def ev (x : Int) : List Int → Int
  | [] => 0
  | c :: cs => c + x * ev x cs
def quo (r : Int) : List Int → List Int
  | [] => []
  | [_] => []
  | _ :: c :: cs => ev r (c :: cs) :: quo r (c :: cs)
theorem ev_quo (x r : Int) : ∀ cs : List Int, ev x cs - ev r cs = (x - r) * ev x (quo r cs)
  | [] => by simp [ev, quo]
  | [c] => by simp [ev, quo]
  | c :: d :: cs => by
    have ih := ev_quo x r (d :: cs)
    have h1 : ev x (c :: d :: cs) = c + x * ev x (d :: cs) := rfl
    have h2 : ev r (c :: d :: cs) = c + r * ev r (d :: cs) := rfl
    have h3 : ev x (quo r (c :: d :: cs)) = ev r (d :: cs) + x * ev x (quo r (d :: cs)) := rfl
    rw [h1, h2, h3]
    generalize ev x (d :: cs) = A at *
    generalize ev r (d :: cs) = B at *
    generalize ev x (quo r (d :: cs)) = C at *
    have : A = B + (x - r) * C := by omega
    subst this
    grind
def Mon (n : Nat) (cs : List Int) : Prop := cs.length = n + 1 ∧ cs.getLast? = some 1
theorem mon_quo {n : Nat} {r : Int} : ∀ {cs : List Int}, Mon (n + 1) cs → Mon n (quo r cs)
  | [], h => by simp [Mon] at h
  | [c], h => by simp [Mon] at h
  | [c, d], h => by
    obtain ⟨h1, h2⟩ := h
    simp at h1 h2
    subst h1 h2
    simp [Mon, quo, ev]
  | c :: d :: e :: cs, h => by
    obtain ⟨h1, h2⟩ := h
    cases n with
    | zero => simp at h1
    | succ n =>
      have ih := mon_quo (n := n) (r := r) (cs := d :: e :: cs) ⟨by simpa using h1, by simpa [List.getLast?_cons_cons] using h2⟩
      refine ⟨?_, ?_⟩
      · have := ih.1
        show (quo r (d :: e :: cs)).length + 1 = _
        omega
      · show (ev r (d :: e :: cs) :: quo r (d :: e :: cs)).getLast? = _
        have h3 : quo r (d :: e :: cs) = ev r (e :: cs) :: quo r (e :: cs) := rfl
        rw [h3, List.getLast?_cons_cons, ← h3]
        exact ih.2
theorem Pr.euclidI {p : Nat} {a b : Int} (h : Pr p) (k : (p : Int) ∣ a * b) : (p : Int) ∣ a ∨ (p : Int) ∣ b := by
  have k := Int.natAbs_dvd_natAbs.2 k
  rw [Int.natAbs_mul, Int.natAbs_natCast] at k
  rcases h.euclid k with k | k
  · exact .inl (Int.natAbs_dvd_natAbs.1 (by rw [Int.natAbs_natCast]; exact k))
  · exact .inr (Int.natAbs_dvd_natAbs.1 (by rw [Int.natAbs_natCast]; exact k))
theorem lagrange {p : Nat} (h : Pr p) : ∀ (n : Nat) (cs : List Int) (rs : List Nat), Mon n cs → rs.Nodup → (∀ r ∈ rs, r < p ∧ (p : Int) ∣ ev r cs) → rs.length ≤ n
  | 0, cs, rs, hm, hn, hr => by
    cases rs with
    | nil => exact Nat.le_refl _
    | cons r rs =>
      obtain ⟨h1, h2⟩ := hm
      match cs, h1 with
      | [c], _ =>
        simp at h2
        subst h2
        have h3 := (hr r (List.mem_cons_self ..)).2
        simp only [ev, Int.mul_zero, Int.add_zero] at h3
        have h4 := Int.le_of_dvd (by decide) h3
        have := h.1; omega
  | n + 1, cs, rs, hm, hn, hr => by
    cases rs with
    | nil => exact Nat.zero_le _
    | cons r rs =>
      rw [List.nodup_cons] at hn
      have ih := lagrange h n (quo r cs) rs (mon_quo hm) hn.2 fun x hx => by
        obtain ⟨h1, h2⟩ := hr x (List.mem_cons_of_mem _ hx)
        obtain ⟨h3, h4⟩ := hr r (List.mem_cons_self ..)
        refine ⟨h1, ?_⟩
        have h5 := Int.dvd_sub h2 h4
        rw [ev_quo] at h5
        rcases h.euclidI h5 with k | k
        · exfalso
          have hne : x ≠ r := fun e => hn.1 (e ▸ hx)
          obtain ⟨c, hc⟩ := k
          rcases Int.lt_trichotomy c 0 with c0 | c0 | c0
          · have := Int.mul_le_mul_of_nonneg_left (show c ≤ -1 by omega) (show 0 ≤ (p : Int) by omega)
            omega
          · subst c0; omega
          · have := Int.mul_le_mul_of_nonneg_left (show 1 ≤ c by omega) (show 0 ≤ (p : Int) by omega)
            omega
        · exact k
      simp only [List.length_cons]
      omega
theorem ev_rep (x : Int) : ∀ n, ev x (List.replicate n 0 ++ [1]) = x ^ n
  | 0 => by simp [ev]
  | n + 1 => by
    rw [List.replicate_succ, List.cons_append]
    show 0 + x * ev x (List.replicate n 0 ++ [1]) = _
    rw [ev_rep x n, Int.pow_succ, Int.zero_add, Int.mul_comm]
/-- Not all are squares. -/
theorem nonres {p : Nat} (h : Pr p) (hp : p % 2 = 1) : ∃ X, 2 ≤ X ∧ X < p ∧ X ^ ((p - 1) / 2) % p = p - 1 := by
  refine Classical.byContradiction fun hc => ?_
  have h2 := h.1
  obtain ⟨n, hn⟩ : ∃ n, n + 1 = (p - 1) / 2 := ⟨(p - 1) / 2 - 1, by omega⟩
  have hall : ∀ x, 1 ≤ x → x < p → (p : Int) ∣ ev (x : Int) (-1 :: (List.replicate n 0 ++ [1])) := fun x h1 hx => by
    show (p : Int) ∣ -1 + (x : Int) * ev x (List.replicate n 0 ++ [1])
    rw [ev_rep]
    have hnd : ¬ p ∣ x := fun k => by have := Nat.le_of_dvd (by omega) k; omega
    have hf := fermat h hnd
    have hsq : p - 1 = (n + 1) + (n + 1) := by omega
    rw [hsq, Nat.pow_add] at hf
    have hx1 : 1 ≤ x ^ (n + 1) := Nat.pow_pos h1
    have hd : p ∣ (x ^ (n + 1) - 1) * (x ^ (n + 1) + 1) := by
      have : (x ^ (n + 1) - 1) * (x ^ (n + 1) + 1) = x ^ (n + 1) * x ^ (n + 1) - 1 := by
        generalize x ^ (n + 1) = y at *
        obtain ⟨z, rfl⟩ : ∃ z, y = z + 1 := ⟨y - 1, by omega⟩
        have : (z + 1) * (z + 1) = z * (z + 1 + 1) + 1 := by grind
        rw [this, Nat.add_sub_cancel, Nat.add_sub_cancel]
      rw [this]
      have := Nat.div_add_mod (x ^ (n + 1) * x ^ (n + 1)) p
      rw [hf] at this
      exact ⟨x ^ (n + 1) * x ^ (n + 1) / p, by omega⟩
    have e1 : (x : Int) * (x : Int) ^ n = ((x ^ (n + 1) : Nat) : Int) := by
      rw [Int.natCast_pow, Int.pow_succ, Int.mul_comm]
    rw [e1]
    rcases h.euclid hd with k | k
    · obtain ⟨c, hc⟩ := k
      refine ⟨c, ?_⟩
      rw [← Int.natCast_mul, ← hc]; omega
    · exfalso
      refine hc ⟨x, ?_, hx, ?_⟩
      · refine Classical.byContradiction fun hlt => ?_
        obtain rfl : x = 1 := by omega
        rw [Nat.one_pow] at k
        have := Nat.le_of_dvd (by decide) k
        omega
      · rw [← hn]
        obtain ⟨c, hc⟩ := k
        cases c with
        | zero => omega
        | succ c =>
          rw [Nat.mul_succ] at hc
          rw [show x ^ (n + 1) = (p - 1) + p * c by omega, Nat.add_mul_mod_self_left, Nat.mod_eq_of_lt (by omega)]
  have hlen := lagrange h (n + 1) (-1 :: (List.replicate n 0 ++ [1])) ((List.range (p - 1)).map (· + 1)) ⟨by simp, by
      rw [← List.cons_append, List.getLast?_concat]⟩ (by
      rw [List.nodup_iff_pairwise_ne, List.pairwise_map]
      exact List.nodup_range.imp fun hab e => hab (by omega)) (fun r hr => by
      obtain ⟨y, hy, rfl⟩ := List.mem_map.1 hr
      have := List.mem_range.1 hy
      exact ⟨by omega, hall (y + 1) (by omega) (by omega)⟩)
  simp at hlen
  omega
end Go.Mth

/- What the test of primes says: the exponent of 2 by the table, strong powers. No program. No condition. -/
namespace Go.Proofs.YtbhhagdnbkkjpaaDoor
set_option linter.unusedVariables false
set_option maxRecDepth 8000
open Go Go.Mth

theorem and_neg {j m : Nat} (hm : m % 2 = 1) (hj : m < 2 ^ j) : m &&& (2 ^ j - m) = 1 := by
  obtain ⟨c, hc⟩ : ∃ c, m = 2 * c + 1 := ⟨m / 2, by omega⟩
  have e1 : 2 ^ j - m = 2 ^ j - (2 * c + 1) := by rw [hc]
  rw [e1]
  refine Nat.eq_of_testBit_eq fun i => ?_
  rw [Nat.testBit_and, Nat.testBit_two_pow_sub_succ (by omega)]
  cases i with
  | zero =>
    have h0 : 0 < j := by
      rcases Nat.eq_zero_or_pos j with rfl | h
      · rw [Nat.pow_zero] at hj; omega
      · exact h
    simp [hm, Nat.testBit_zero, h0, Nat.mul_mod_right]
  | succ i =>
    rw [Nat.testBit_succ, Nat.testBit_succ, Nat.testBit_succ, show m / 2 = c by omega, show 2 * c / 2 = c by omega]
    simp
    intro h1 _
    exact h1
theorem and_two {k m : Nat} (hk : k ≤ 64) (hm : m % 2 = 1) (hx : 2 ^ k * m < 2 ^ 64) : 2 ^ k * m &&& (2 ^ 64 - 2 ^ k * m) = 2 ^ k := by
  have h1 : 2 ^ 64 = 2 ^ k * 2 ^ (64 - k) := by rw [← Nat.pow_add]; congr 1; omega
  rw [h1, ← Nat.mul_sub, Nat.mul_comm, Nat.mul_comm (2 ^ k) (2 ^ (64 - k) - m), ← Nat.shiftLeft_eq, ← Nat.shiftLeft_eq, ← Nat.shiftLeft_and_distrib, and_neg hm, Nat.shiftLeft_eq, Nat.one_mul]
  rw [h1] at hx
  exact Nat.lt_of_mul_lt_mul_left hx
theorem tz_tab : ∀ k, k < 64 → tzT.getD (2 ^ k * 285870213051353865 % 18446744073709551616 / 2 ^ 58) 0 = k := by decide +kernel
theorem tz_two {k m : Nat} (hm : m % 2 = 1) (hx : 2 ^ k * m < 18446744073709551616) : tz (2 ^ k * m) = k := by
  have hm0 : 0 < m := by omega
  have hk : k < 64 := by
    refine Classical.byContradiction fun hc => ?_
    have h1 : 2 ^ 64 ≤ 2 ^ k := Nat.pow_le_pow_right (by decide) (by omega)
    have h2 : 2 ^ k * 1 ≤ 2 ^ k * m := Nat.mul_le_mul_left _ hm0
    have h3 : (2 : Nat) ^ 64 = 18446744073709551616 := by decide
    omega
  have hpos : 0 < 2 ^ k * m := Nat.mul_pos (Nat.pow_pos (by decide)) hm0
  have ha := and_two (by omega) hm (show 2 ^ k * m < 2 ^ 64 from hx)
  have h64 : (2 : Nat) ^ 64 = 18446744073709551616 := by decide
  rw [h64] at ha
  unfold tz
  have hm2 : (18446744073709551616 - 2 ^ k * m) % 18446744073709551616 = 18446744073709551616 - 2 ^ k * m := Nat.mod_eq_of_lt (by omega)
  rw [if_neg (by omega), hm2, ha]
  exact tz_tab k hk
theorem two_odd : ∀ {n : Nat}, 0 < n → ∃ k m, n = 2 ^ k * m ∧ m % 2 = 1 := by
  intro n
  induction n using Nat.strongRecOn with
  | ind n ih =>
    intro hn
    rcases Nat.mod_two_eq_zero_or_one n with h | h
    · obtain ⟨k, m, h1, h2⟩ := ih (n / 2) (by omega) (by omega)
      exact ⟨k + 1, m, by rw [Nat.pow_succ]; rw [Nat.mul_right_comm, ← h1]; omega, h2⟩
    · exact ⟨0, n, by simp, h⟩

theorem holdsLoop_two {n : Nat} (hn : n ≠ 0) : ∀ (k x : Nat), holdsLoop n k x = true → ∃ r, 1 ≤ r ∧ r ≤ k ∧ x ^ 2 ^ r % n = n - 1
  | 0, x, h => by cases h
  | k + 1, x, h => by
    unfold holdsLoop at h
    rw [Bool.or_eq_true] at h
    have hm : mulm x x n = x * x % n := by unfold mulm; rw [if_neg hn]
    rw [hm] at h
    rcases h with h | h
    · exact ⟨1, Nat.le_refl _, by omega, by rw [Nat.pow_one, Nat.pow_two]; exact beq_iff_eq.1 h⟩
    · obtain ⟨r, h1, h2, h3⟩ := holdsLoop_two hn k _ h
      refine ⟨r + 1, by omega, by omega, ?_⟩
      rw [← h3, ← Nat.pow_mod]
      congr 1
      rw [Nat.pow_succ 2 r, Nat.mul_comm (2 ^ r) 2, Nat.pow_mul, Nat.pow_two]
/-- What one base says. -/
def Strong (n d s a : Nat) : Prop := n ∣ a ∨ a ^ d % n = 1 ∨ ∃ r, r < s ∧ a ^ (d * 2 ^ r) % n = n - 1
theorem strong_of {n d s a : Nat} (hn : n ≠ 0) (hs : 1 ≤ s) (h : holdsB n d s a = true) : Strong n d s a := by
  unfold holdsB at h
  rw [Bool.or_eq_true, Bool.or_eq_true, Bool.or_eq_true] at h
  have hp : powm (a % n) d n = a ^ d % n := by unfold powm; rw [if_neg hn, ← Nat.pow_mod]
  rw [hp] at h
  rcases h with h | h | h | h
  · exact .inl (Nat.dvd_of_mod_eq_zero (beq_iff_eq.1 h))
  · exact .inr (.inl (beq_iff_eq.1 h))
  · exact .inr (.inr ⟨0, hs, by rw [Nat.pow_zero, Nat.mul_one]; exact beq_iff_eq.1 h⟩)
  · obtain ⟨r, h1, h2, h3⟩ := holdsLoop_two hn _ _ h
    refine .inr (.inr ⟨r, by omega, ?_⟩)
    rw [← Nat.pow_mod, ← Nat.pow_mul] at h3
    exact h3
theorem strong_all {n : Nat} (h4 : 4 ≤ n) (h2 : n % 2 = 1) (h64 : n < 18446744073709551616) (h : isB n = true) : ∃ s d, 1 ≤ s ∧ d % 2 = 1 ∧ n - 1 = 2 ^ s * d ∧ ∀ a ∈ bases, Strong n d s a := by
  obtain ⟨s, d, h5, h6⟩ := two_odd (n := n - 1) (by omega)
  have hs : 1 ≤ s := by
    refine Nat.pos_of_ne_zero fun h0 => ?_
    subst h0
    rw [Nat.pow_zero, Nat.one_mul] at h5
    omega
  have ht : tz (n - 1) = s := by rw [h5]; exact tz_two h6 (by omega)
  have hd : (n - 1) / 2 ^ s = d := by rw [h5]; exact Nat.mul_div_cancel_left _ (Nat.pow_pos (by decide))
  refine ⟨s, d, hs, h6, h5, fun a ha => ?_⟩
  unfold isB at h
  rw [if_neg (by omega), ht, hd, List.all_eq_true] at h
  exact strong_of (by omega) hs (h a ha)
end Go.Proofs.YtbhhagdnbkkjpaaDoor

/- Texts PrmE to OpenT of this work, joined: each says in its own head what it proves, and of which condition. -/
import Derived.Test.YtbhhagdnbkkjpaaDoorMPr17
import Derived.ProofKit
import Derived.OpenShut
import Derived.ShutString
import Derived.ChangeOld
import Derived.Below
import Derived.Test.YtbhhagdnbkkjpaaDoorRows
import Derived.LaidMore
import Derived.LaidLaws
import Derived.MakeChecks
/- Package prime: the search, told exactly; the laws PrimeFinds, PrimeFriendly. Condition: the table of math/bits reads as it is laid. -/
namespace Go.Proofs.YtbhhagdnbkkjpaaDoor
set_option linter.unusedVariables false
set_option maxRecDepth 8000
open Go Go.Den Go.RowKit Go.Mth

theorem Tryd_ent6 : Ent Tryd.prog 6 := ent_of Tryd.func6 (by kernel_rfl) rfl
set_option maxHeartbeats 2000000 in
theorem searchOk_spec (b x count : Nat) (h : Hp) (T : TB h) (hb1 : 4 ≤ b) (hb2 : b ≤ 61) (hx : pows13.contains x = true) (hc1 : 1 ≤ count) (hc2 : count ≤ 16) :
    CallsH Tryd.prog 6 [N b, U x, N count] h fun v' h' => Ext h h' ∧ SrchE h h' v' (srG isB (2 ^ (b - 1)) x count ((2 * 2 ^ (b - 1) - 2) / x) []) := by
  obtain ⟨l1, l2, x1, x2, -⟩ := srch_nums hb1 hb2 hx
  have SS := pstepG_spec x h (by omega)
  rw [hx] at SS
  generalize hl : 2 ^ (b - 1) = least at *
  have hdm : (2 * least - 2) / x * x ≤ 2 * least - 2 := Nat.div_mul_le_self _ _
  have hkx : ∀ k, k ≤ (2 * least - 2) / x → k * x ≤ 2 * least - 2 := fun k hk => Nat.le_trans (Nat.mul_le_mul_right _ hk) hdm
  generalize hr : srG isB least x count ((2 * least - 2) / x) [] = r
  have hsh : 1 * 2 ^ (b - 1) < 18446744073709551616 := by rw [hl]; omega
  (apply enter Tryd.func6 rfl Tryd.ntmps6 rfl)
  refine runJ ?_
  (apply s_splitG; exact rfl; exact rfl; exact rfl; exact rfl) <;> intro g1
  · exact absurd g1 (by omega)
  refine runJ ?_
  (apply s_splitG; exact rfl; exact rfl; exact rfl; exact rfl) <;> intro g2
  · exact absurd g2 (by omega)
  refine runJ ?_
  apply (s_call Tryd_ent11 rfl rfl rfl)
  refine (SS).mono ?_
  rintro _ _ ⟨rfl, rfl⟩
  refine ⟨(by first | exact trivial | exact Ext.refl _ | assumption | exact Ext.trans (by assumption) (by assumption)), ?_⟩
  refine runJ ?_
  (apply s_splitG; exact rfl; exact rfl; exact rfl; exact rfl) <;> intro g3
  · exact absurd g3 (by omega)
  refine runJ ?_
  (apply w_condF; exact rfl; exact rfl; exact (show ¬ 16 < count by omega))
  refine runJ ?_
  rw [Nat.one_mul, hl]
  refine runJ ?_
  have hk64 : (2 * least - 2) / x < 18446744073709551616 := Nat.lt_of_le_of_lt (Nat.div_le_self _ _) (by omega)
  generalize hk0 : (2 * least - 2) / x = k0 at *
  (first | (apply w_seqB; exact rfl; apply w_block; exact rfl) | skip)
  apply (w_loop (σ := Nat × List Nat × Value) rfl (fun j => [(1, U x), (2, N count), (8, j.2.2), (9, U least), (10, U j.1)])
    (fun j h' => Ext h h' ∧ srG isB least x count j.1 j.2.1 = r ∧ j.1 ≤ k0 ∧ OwnF h' h.size 22 U j.2.2 j.2.1 ∧ j.2.1.length < count) (fun j => j.1) (k0, [], .slice none 0 0))
  · exact (Sub.cons rfl (Sub.cons rfl (Sub.cons rfl (Sub.cons rfl (Sub.cons rfl (Sub.nil _))))))
  · exact ⟨Ext.refl _, hr, Nat.le_refl _, OwnF.nil _ _ _ _, hc1⟩
  clear hr
  rintro ⟨k, out, v⟩ h1 ⟨e1, hr, k1, o1, lo1⟩
  dsimp only at e1 hr k1 o1 lo1 ⊢
  have hkk := hkx k k1
  refine runJ ?_
  (apply s_splitG; exact rfl; exact rfl; exact rfl; exact rfl) <;> intro g1
  · obtain ⟨k', rfl⟩ : ∃ k', k = k' + 1 := ⟨k - 1, by omega⟩
    unfold srG at hr
    have hm : (k' + 1) * x < 18446744073709551616 := by omega
    have hm1 : (k' + 1) * x + 1 < 18446744073709551616 := by omega
    refine runJ ?_
    (apply w_condD; exact rfl; exact rfl) <;> intro g2
    · rw [if_neg (by omega)] at hr
      refine runJ ?_
      apply (s_call Tryd_ent9 rfl rfl rfl)
      refine (is_spec ((k' + 1) * x + 1) h1 (T.ext e1) hm1).mono ?_
      rintro _ h2 ⟨rfl, e2⟩
      refine ⟨(by first | exact trivial | exact trivial), ?_⟩
      have e12 := e1.trans e2
      have o2 := o1.ext e2
      cases hB : isB ((k' + 1) * x + 1) with
      | true =>
        rw [if_pos hB] at hr
        refine runJ ?_
        (refine s_app1 (bytes := 8) ((k' + 1) * x + 1) o2 e12 rfl rfl rfl rfl rfl rfl rfl rfl rfl (by first | exact rfl | exact congrArg some (congrArg I (by omega))) (fun _ => rfl) rfl rfl (fun _ _ => trivial) (by omega) (by simp only [maxLen]; omega) ?_)
        intro v3 h3 o3 e3 k3 b3
        refine runJ ?_
        (apply w_condD; exact rfl; exact rfl) <;> intro he
        · have he : out.length + 1 = count := by rw [List.length_append, List.length_singleton] at he; exact he
          rw [if_pos he] at hr
          subst hr
          refine runJ ?_
          exact fin2 rfl rfl rfl ⟨e3, v3, rfl, o3⟩
        · have he : ¬ out.length + 1 = count := by rw [List.length_append, List.length_singleton] at he; exact he
          rw [if_neg he] at hr
          refine runJ ?_
          apply again_normal (k', out ++ [(k' + 1) * x + 1], v3)
          · exact (Sub.cons rfl (Sub.cons rfl (Sub.cons rfl (Sub.cons rfl (Sub.cons rfl (Sub.nil _))))))
          · exact ⟨e3, hr, by dsimp only; omega, o3, by dsimp only; rw [List.length_append, List.length_singleton]; omega⟩
          · dsimp only; omega
      | false =>
        rw [if_neg (by rw [hB]; decide)] at hr
        refine runJ ?_
        apply again_normal (k', out, v)
        · exact (Sub.cons rfl (Sub.cons rfl (Sub.cons rfl (Sub.cons rfl (Sub.cons rfl (Sub.nil _))))))
        · exact ⟨e12, hr, by dsimp only; omega, o2, lo1⟩
        · dsimp only; omega
    · rw [if_pos (by omega)] at hr
      subst hr
      refine runJ ?_
      exact fin2 rfl rfl rfl ⟨e1, rfl⟩
  · obtain rfl : k = 0 := by omega
    have hr : none = r := hr
    subst hr
    refine runJ ?_
    exact fin2 rfl rfl rfl ⟨e1, rfl⟩
theorem searchNo_spec (b count : Int) (x : Nat) (h : Hp) (hx : x < 18446744073709551616) (hb : -9223372036854775808 ≤ b ∧ b < 9223372036854775808) (hc : -9223372036854775808 ≤ count ∧ count < 9223372036854775808) (hno : ¬ srchOk b x count) :
    CallsH Tryd.prog 6 [I b, U x, I count] h fun v' h' => v' = .tuple #[.slice none 0 0, N 1] ∧ h = h' := by
  unfold srchOk at hno
  have SS := pstepG_spec x h hx
  (apply enter Tryd.func6 rfl Tryd.ntmps6 rfl)
  refine runJ ?_
  (apply s_splitG; exact rfl; exact rfl; exact rfl; exact rfl) <;> intro g1
  · refine runJ ?_
    exact fin2 rfl rfl rfl ⟨rfl, rfl⟩
  refine runJ ?_
  (apply s_splitG; exact rfl; exact rfl; exact rfl; exact rfl) <;> intro g2
  · refine runJ ?_
    exact fin2 rfl rfl rfl ⟨rfl, rfl⟩
  refine runJ ?_
  apply (s_call Tryd_ent11 rfl rfl rfl)
  refine (SS).mono ?_
  rintro _ _ ⟨rfl, rfl⟩
  refine ⟨(by first | exact trivial | exact Ext.refl _ | assumption | exact Ext.trans (by assumption) (by assumption)), ?_⟩
  cases hp : pows13.contains x with
  | false =>
    refine runJ ?_
    exact fin2 rfl rfl rfl ⟨rfl, rfl⟩
  | true =>
    refine runJ ?_
    (apply s_splitG; exact rfl; exact rfl; exact rfl; exact rfl) <;> intro g3
    · refine runJ ?_
      exact fin2 rfl rfl rfl ⟨rfl, rfl⟩
    refine runJ ?_
    have h16 : 16 < count := Classical.byContradiction fun hc => hno ⟨by omega, by omega, hp, by omega, by omega⟩
    (apply w_condT; exact rfl; exact rfl; exact h16)
    refine runJ ?_
    exact fin2 rfl rfl rfl ⟨rfl, rfl⟩

theorem Tryd_ent5 : Ent Tryd.prog 5 := ent_of Tryd.func5 (by kernel_rfl) rfl
set_option maxHeartbeats 2000000 in
theorem fixed03_spec (h : Hp) (T : TB h) : CallsH Tryd.prog 5 [] h fun v' h' => v' = .bool true ∧ Ext h h' := by
  have FX : srG isB (2 ^ (8 - 1)) 16 2 ((2 * 2 ^ (8 - 1) - 2) / 16) [] = some [241, 193] := srch_fix
  have S0 := searchOk_spec 8 16 2 h T (by decide) (by decide) (by decide) (by decide) (by decide)
  rw [FX] at S0
  have R17 : ∀ h, TB h → CallsH Tryd.prog 8 [U 17, U 8] h fun v' h' => (∃ r, v' = .tuple #[U r, N 0] ∧ RootR 17 8 r) ∧ Ext h h' := fun h T => root_spec 17 3 3 h T (by decide) (by decide) (by decide) (by decide) (by decide +kernel) (by decide) (by decide) (by decide) (by decide +kernel)
  have R97 : ∀ h, TB h → CallsH Tryd.prog 8 [U 97, U 32] h fun v' h' => (∃ r, v' = .tuple #[U r, N 0] ∧ RootR 97 32 r) ∧ Ext h h' := fun h T => root_spec 97 5 5 h T (by decide) (by decide) (by decide) (by decide) (by decide +kernel) (by decide) (by decide) (by decide) (by decide +kernel)
  have I2 : ∀ h, TB h → CallsH Tryd.prog 9 [U 2] h fun v' h' => v' = .bool true ∧ Ext h h' := fun h T => (is_spec 2 h T (by decide)).mono fun v h' ⟨e, k⟩ => ⟨by rw [e]; rfl, k⟩
  have I1 : ∀ h, TB h → CallsH Tryd.prog 9 [U 1] h fun v' h' => v' = .bool false ∧ Ext h h' := fun h T => (is_spec 1 h T (by decide)).mono fun v h' ⟨e, k⟩ => ⟨by rw [e]; rfl, k⟩
  have hx0 : ([241, 193] : List Nat)[0]? = some 241 := rfl
  have hx1 : ([241, 193] : List Nat)[1]? = some 193 := rfl
  (apply enter Tryd.func5 rfl Tryd.ntmps5 rfl)
  refine runJ ?_
  apply (s_call Tryd_ent6 rfl rfl rfl)
  refine (S0).mono ?_
  rintro _ h1 ⟨e1, w, rfl, o1⟩
  refine ⟨(by first | exact trivial | exact trivial), ?_⟩
  refine runJ ?_
  apply (s_call Tryd_ent8 rfl rfl rfl)
  refine (R17 h1 (T.ext e1)).mono ?_
  rintro _ h2 ⟨⟨r, rfl, hr⟩, e2⟩
  refine ⟨(by first | exact trivial | exact trivial), ?_⟩
  obtain rfl := rootR17 hr
  have E2 := e1.trans e2
  refine runJ ?_
  apply (s_call Tryd_ent8 rfl rfl rfl)
  refine (R97 h2 (T.ext E2)).mono ?_
  rintro _ h3 ⟨⟨r2, rfl, hr2⟩, e3⟩
  refine ⟨(by first | exact trivial | exact trivial), ?_⟩
  obtain rfl := rootR97 hr2
  have E3 := E2.trans e3
  have o3 := ((o1.ext e2).ext e3).sl
  refine runJ ?_
  apply (s_call Tryd_ent9 rfl rfl rfl)
  refine (I2 h3 (T.ext E3)).mono ?_
  rintro _ h4 ⟨rfl, e4⟩
  refine ⟨(by first | exact trivial | exact trivial), ?_⟩
  have E4 := E3.trans e4
  refine runJ ?_
  apply (s_call Tryd_ent9 rfl rfl rfl)
  refine (I1 h4 (T.ext E4)).mono ?_
  rintro _ h5 ⟨rfl, e5⟩
  refine ⟨(by first | exact trivial | exact trivial), ?_⟩
  refine runJ ?_
  exact fin1 rfl rfl ⟨rfl, E4.trans e5⟩

theorem Tryd_ent3 : Ent Tryd.prog 3 := ent_of Tryd.func3 (by kernel_rfl) rfl
set_option maxHeartbeats 2000000 in
theorem primeFinds_law (b count : Int) (x : Nat) (h : Hp) (T : TB h) (hx : x < 18446744073709551616) (hb : -9223372036854775808 ≤ b ∧ b < 9223372036854775808) (hc : -9223372036854775808 ≤ count ∧ count < 9223372036854775808) :
    CallsH Tryd.prog 3 [I b, U x, I count] h fun v' h' => v' = .bool true ∧ Ext h h' := by
  have key : ∀ g : Hp, Ext h g → ∃ r : Option (List Nat) × Nat, (∀ l, r.1 = some l → l.length ≤ 16) ∧
      CallsH Tryd.prog 6 [I b, U x, I count] g (fun v' h' => Ext g h' ∧ ∃ w e, v' = .tuple #[w, N e] ∧ (r.1 = none ∧ w = .slice none 0 0 ∧ e = r.2 ∨ ∃ l, r.1 = some l ∧ e = 0 ∧ OwnF h' g.size 22 U w l)) ∧
      ∀ g', CallsH Tryd.prog 7 [I b, U x, I count] g' (fun v' h' => Ext g' h' ∧ ∃ w e, v' = .tuple #[w, N e] ∧ (r.1 = none ∧ w = .slice none 0 0 ∧ e = r.2 ∨ ∃ l, r.1 = some l ∧ e = 0 ∧ OwnF h' g'.size 22 U w l)) := fun g eg => by
    by_cases hok : srchOk b x count
    · obtain ⟨k1, k2, k3, k4, k5⟩ := hok
      obtain ⟨bn, rfl⟩ : ∃ n : Nat, b = n := ⟨b.toNat, by omega⟩
      obtain ⟨cn, rfl⟩ : ∃ n : Nat, count = n := ⟨count.toNat, by omega⟩
      obtain ⟨s1, s2⟩ := srch_same (b := bn) (count := cn) (x := x) (by omega) (by omega) k3 (by omega) (by omega)
      refine ⟨(srG isB (2 ^ (bn - 1)) x cn ((2 * 2 ^ (bn - 1) - 2) / x) [], 7), fun l hl => by have := (s2 l hl).1; omega, ?_, fun g' => ?_⟩
      · refine (searchOk_spec bn x cn g (T.ext eg) (by omega) (by omega) k3 (by omega) (by omega)).mono fun v' h' ⟨e, s⟩ => ⟨e, ?_⟩
        dsimp only
        cases hS : srG isB (2 ^ (bn - 1)) x cn ((2 * 2 ^ (bn - 1) - 2) / x) [] with
        | none => rw [hS] at s; exact ⟨_, _, s, .inl ⟨rfl, rfl, rfl⟩⟩
        | some l => rw [hS] at s; obtain ⟨w, e', o⟩ := s; exact ⟨w, 0, e', .inr ⟨l, rfl, rfl, o⟩⟩
      · refine (refSearchOk_spec bn x cn g' (by omega) (by omega) k3 (by omega) (by omega)).mono fun v' h' ⟨e, s⟩ => ⟨e, ?_⟩
        rw [← s1] at s
        dsimp only
        cases hS : srG isB (2 ^ (bn - 1)) x cn ((2 * 2 ^ (bn - 1) - 2) / x) [] with
        | none => rw [hS] at s; exact ⟨_, _, s, .inl ⟨rfl, rfl, rfl⟩⟩
        | some l => rw [hS] at s; obtain ⟨w, e', o⟩ := s; exact ⟨w, 0, e', .inr ⟨l, rfl, rfl, o⟩⟩
    · refine ⟨(none, 1), (fun l hl => by cases hl), ?_, fun g' => ?_⟩
      · exact (searchNo_spec b count x g hx hb hc hok).mono fun v' h' ⟨e, k⟩ => by subst k; exact ⟨Ext.refl _, _, _, e, .inl ⟨rfl, rfl, rfl⟩⟩
      · exact (refSearchNo_spec b count x g' hx hb hc hok).mono fun v' h' ⟨e, k⟩ => by subst k; exact ⟨Ext.refl _, _, _, e, .inl ⟨rfl, rfl, rfl⟩⟩
  (apply enter Tryd.func3 rfl Tryd.ntmps3 rfl)
  refine runJ ?_
  apply (s_call Tryd_ent5 rfl rfl rfl)
  refine (fixed03_spec h T).mono ?_
  rintro _ h1 ⟨rfl, e1⟩
  refine ⟨(by first | exact trivial | exact trivial), ?_⟩
  obtain ⟨⟨r, er⟩, r16, S1, S2⟩ := key h1 e1
  dsimp only at r16 S1 S2
  refine runJ ?_
  apply (s_call Tryd_ent6 rfl rfl rfl)
  refine (S1).mono ?_
  rintro _ h2 ⟨e2, w, e, rfl, q1⟩
  refine ⟨(by first | exact trivial | exact trivial), ?_⟩
  refine runJ ?_
  apply (s_call Tryd_ent7 rfl rfl rfl)
  refine (S2 h2).mono ?_
  rintro _ h3 ⟨e3, w', e', rfl, q2⟩
  refine ⟨(by first | exact trivial | exact trivial), ?_⟩
  have E3 := (e1.trans e2).trans e3
  rcases q1 with ⟨rfl, rfl, rfl⟩ | ⟨l, rfl, rfl, o1⟩
  · rcases q2 with ⟨-, rfl, rfl⟩ | ⟨l, hl, -⟩
    · have sn : SlF h3 U (.slice none 0 0) ([] : List Nat) := SlF.nil _ _
      refine runJ ?_
      (apply s_splitG; exact rfl; exact rfl; exact rfl; exact rfl) <;> intro g1
      · exact absurd rfl g1
      refine runJ ?_
      (first | (apply w_seqB; exact rfl; apply w_block; exact rfl) | skip)
      apply (w_loop (σ := Nat) rfl (fun j => [(39, N ([] : List Nat).length), (40, N j)]) (fun j h' => h3 = h') (fun j => 0) 0)
      · exact (Sub.cons rfl (Sub.cons rfl (Sub.nil _)))
      · rfl
      rintro j _ rfl
      refine runJ ?_
      exact fin1 rfl rfl ⟨rfl, E3⟩
    · cases hl
  · rcases q2 with ⟨hl, -⟩ | ⟨l', hl, rfl, o2⟩
    · cases hl
    · cases hl
      have l16 := r16 l rfl
      have s1 := (o1.ext e3).sl
      have s2 := o2.sl
      refine runJ ?_
      (apply w_condF; exact rfl; exact rfl; exact (show ¬ ¬ l.length = l.length from fun hh => hh rfl))
      refine runJ ?_
      (first | (apply w_seqB; exact rfl; apply w_block; exact rfl) | skip)
      apply (w_loop (σ := Nat) rfl (fun j => [(7, w), (9, w'), (39, N l.length), (40, N j)]) (fun j h' => h3 = h' ∧ j ≤ l.length) (fun j => l.length - j) 0)
      · exact (Sub.cons rfl (Sub.cons rfl (Sub.cons rfl (Sub.cons rfl (Sub.nil _)))))
      · exact ⟨rfl, Nat.zero_le _⟩
      rintro j _ ⟨rfl, j1⟩
      refine runJ ?_
      (apply w_condD; exact rfl; exact rfl) <;> intro hj
      · obtain ⟨y, hy⟩ := get_lt hj
        refine runJ ?_
        (apply w_condD; exact rfl; exact rfl) <;> intro hne
        · exact absurd rfl hne
        refine runJ ?_
        apply again_normal (j + 1)
        · exact (Sub.cons rfl (Sub.cons rfl (Sub.cons rfl (Sub.cons rfl (Sub.nil _)))))
        · exact ⟨rfl, hj⟩
        · omega
      · refine runJ ?_
        exact fin1 rfl rfl ⟨rfl, E3⟩

theorem Tryd_ent4 : Ent Tryd.prog 4 := ent_of Tryd.func4 (by kernel_rfl) rfl
set_option maxHeartbeats 4000000 in
theorem primeFriendly_law (b count : Int) (k : Nat) (h : Hp) (T : TB h) (hk : k < 256) (hb : -9223372036854775808 ≤ b ∧ b < 9223372036854775808) (hc : -9223372036854775808 ≤ count ∧ count < 9223372036854775808) :
    CallsH Tryd.prog 4 [I b, Y k, I count] h fun v' h' => v' = .bool true ∧ Ext h h' := by
  have hk8 : k % 8 < 8 := Nat.mod_lt _ (by decide)
  (apply enter Tryd.func4 rfl Tryd.ntmps4 rfl)
  refine runJ ?_
  apply (s_call Tryd_ent5 rfl rfl rfl)
  refine (fixed03_spec h T).mono ?_
  rintro _ h1 ⟨rfl, e1⟩
  refine ⟨(by first | exact trivial | exact trivial), ?_⟩
  refine runJ ?_
  apply s_remU8 (isK_t rfl) isK_c rfl (by decide)
  generalize hke : k % 8 = e at *
  have hst : 2 * 2 ^ e = 2 ^ (e + 1) := by rw [Nat.pow_succ, Nat.mul_comm]
  have hp8 : 2 ^ (e + 1) ≤ 2 ^ 8 := Nat.pow_le_pow_right (by decide) (by omega)
  have hp1 : 2 ^ 1 ≤ 2 ^ (e + 1) := Nat.pow_le_pow_right (by decide) (by omega)
  have h28 : (2 : Nat) ^ 8 = 256 := by decide
  have h21 : (2 : Nat) ^ 1 = 2 := by decide
  have hsh : 2 * 2 ^ e < 18446744073709551616 := by omega
  have hin : pows13.contains (2 ^ (e + 1)) = true := pows_in (e + 1) (by omega) (by omega)
  refine runJ ?_
  rw [hst]
  refine runJ ?_
  have T1 := T.ext e1
  by_cases hok : srchOk b (2 ^ (e + 1)) count
  · obtain ⟨k1, k2, k3, k4, k5⟩ := hok
    obtain ⟨bn, rfl⟩ : ∃ n : Nat, b = n := ⟨b.toNat, by omega⟩
    obtain ⟨cn, rfl⟩ : ∃ n : Nat, count = n := ⟨count.toNat, by omega⟩
    obtain ⟨-, s2⟩ := srch_same (b := bn) (count := cn) (x := 2 ^ (e + 1)) (by omega) (by omega) k3 (by omega) (by omega)
    apply (s_call Tryd_ent6 rfl rfl rfl)
    refine (searchOk_spec bn (2 ^ (e + 1)) cn h1 T1 (by omega) (by omega) k3 (by omega) (by omega)).mono ?_
    rintro v h2 ⟨e2, S⟩
    refine ⟨(by first | exact trivial | exact trivial), ?_⟩
    have E2 := e1.trans e2
    cases hS : srG isB (2 ^ (bn - 1)) (2 ^ (e + 1)) cn ((2 * 2 ^ (bn - 1) - 2) / 2 ^ (e + 1)) [] with
    | none =>
      rw [hS] at S
      subst S
      have sn : SlF h2 U (.slice none 0 0) ([] : List Nat) := SlF.nil _ _
      refine runJ ?_
      exact fin1 rfl rfl ⟨rfl, E2⟩
    | some l =>
      rw [hS] at S
      obtain ⟨w, rfl, ow⟩ := S
      obtain ⟨lc, lp, lf⟩ := s2 l hS
      clear s2 hS
      generalize 2 ^ (bn - 1) = least at *
      have sw := ow.sl
      refine runJ ?_
      (first | (apply w_seqB; exact rfl; apply w_block; exact rfl) | skip)
      apply (w_loop (σ := Nat) rfl (fun j => [(2, N cn), (7, U (2 ^ (e + 1))), (8, w), (31, w), (32, N l.length), (33, N j)])
        (fun j h' => Ext h2 h' ∧ j ≤ l.length) (fun j => l.length - j) 0)
      · exact (Sub.cons rfl (Sub.cons rfl (Sub.cons rfl (Sub.cons rfl (Sub.cons rfl (Sub.cons rfl (Sub.nil _)))))))
      · exact ⟨Ext.refl _, Nat.zero_le _⟩
      rintro j h3 ⟨e3, j1⟩
      have E3 := E2.trans e3
      have sw3 := sw.ext e3
      refine runJ ?_
      (apply w_condD; exact rfl; exact rfl) <;> intro hj
      · obtain ⟨q, hq⟩ := get_lt hj
        obtain ⟨f1, f2, f3, f4, X, x1, x2, x3⟩ := lf q (List.mem_of_getElem? hq)
        have hd : (q - 1) % 2 ^ (e + 1) = 0 := by
          have := Nat.div_add_mod q (2 ^ (e + 1))
          rw [f2] at this
          rw [← this, Nat.add_sub_cancel, Nat.mul_mod_right]
        have RT := root_spec q (e + 1) X h3 (T.ext E3) (by omega) (by omega) (by omega) f4 f1 hd x1 (by omega) x3
        refine runJ ?_
        apply (s_call Tryd_ent8 rfl rfl rfl)
        refine (RT).mono ?_
        rintro _ h4 ⟨⟨r, rfl, hr⟩, e4⟩
        refine ⟨(by first | exact trivial | exact trivial), ?_⟩
        have hrq : r < q := hr.1
        have hhalf := root_half (by omega) hr
        have E4 := E3.trans e4
        have sw4 := sw3.ext e4
        have IS : CallsH Tryd.prog 9 [U q] h4 fun v' h' => v' = .bool true ∧ Ext h4 h' := (is_spec q h4 (T.ext E4) f4).mono fun v h' ⟨e, k⟩ => ⟨by rw [e, f1], k⟩
        refine runJ ?_
        apply (s_call Tryd_ent9 rfl rfl rfl)
        refine (IS).mono ?_
        rintro _ h5 ⟨rfl, e5⟩
        refine ⟨(by first | exact trivial | exact trivial), ?_⟩
        have E5 := E4.trans e5
        have e25 := (e3.trans e4).trans e5
        have sw5 := sw4.ext e5
        refine runJ ?_
        (apply s_splitG; exact rfl; exact rfl; exact rfl; exact rfl) <;> intro g1
        · exact absurd f2 g1
        refine runJ ?_
        (apply s_splitG; exact rfl; exact rfl; exact rfl; exact rfl) <;> intro g2
        · obtain ⟨q', hq'⟩ := get_lt (l := l) (j := j - 1) (by omega)
          have hlt : q < q' := List.pairwise_iff_getElem.1 lp (j - 1) j (List.getElem?_eq_some_iff.1 hq').1 hj (by omega) |> fun hh => by
            rw [(List.getElem?_eq_some_iff.1 hq).2, (List.getElem?_eq_some_iff.1 hq').2] at hh
            exact hh
          refine runJ ?_
          (apply s_splitG; exact rfl; exact rfl; exact rfl; exact rfl) <;> intro g3
          · omega
          refine runJ ?_
          apply (s_call Tryd_ent10 rfl rfl rfl)
          refine (refPow_spec r (2 ^ (e + 1) / 2) q h5 (by omega) (by omega) f4).mono ?_
          rintro _ _ ⟨rfl, rfl⟩
          refine ⟨(by first | exact trivial | exact Ext.refl _ | assumption | exact Ext.trans (by assumption) (by assumption)), ?_⟩
          rw [hhalf]
          refine runJ ?_
          (apply w_condD; exact rfl; exact rfl) <;> intro g4
          · exact absurd rfl g4
          refine runJ ?_
          apply again_normal (j + 1)
          · exact (Sub.cons rfl (Sub.cons rfl (Sub.cons rfl (Sub.cons rfl (Sub.cons rfl (Sub.cons rfl (Sub.nil _)))))))
          · exact ⟨e25, hj⟩
          · omega
        · refine runJ ?_
          apply (s_call Tryd_ent10 rfl rfl rfl)
          refine (refPow_spec r (2 ^ (e + 1) / 2) q h5 (by omega) (by omega) f4).mono ?_
          rintro _ _ ⟨rfl, rfl⟩
          refine ⟨(by first | exact trivial | exact Ext.refl _ | assumption | exact Ext.trans (by assumption) (by assumption)), ?_⟩
          rw [hhalf]
          refine runJ ?_
          (apply w_condD; exact rfl; exact rfl) <;> intro g4
          · exact absurd rfl g4
          refine runJ ?_
          apply again_normal (j + 1)
          · exact (Sub.cons rfl (Sub.cons rfl (Sub.cons rfl (Sub.cons rfl (Sub.cons rfl (Sub.cons rfl (Sub.nil _)))))))
          · exact ⟨e25, hj⟩
          · omega
      · refine runJ ?_
        exact fin1 rfl rfl ⟨by rw [lc]; simp, E3⟩
  · apply (s_call Tryd_ent6 rfl rfl rfl)
    refine (searchNo_spec b count (2 ^ (e + 1)) h1 (by omega) hb hc hok).mono ?_
    rintro _ _ ⟨rfl, rfl⟩
    refine ⟨(by first | exact trivial | exact trivial), ?_⟩
    have sn : SlF h1 U (.slice none 0 0) ([] : List Nat) := SlF.nil _ _
    refine runJ ?_
    exact fin1 rfl rfl ⟨rfl, e1⟩
end Go.Proofs.YtbhhagdnbkkjpaaDoor

/- What an argument that came in reads as: from the kit's reading of data to rows and variables of the own calculus. No condition. -/
namespace Go.Den
set_option linter.unusedVariables false
set_option maxRecDepth 8000
open Go Go.RowKit Go.ChangeShapes Go.WideShapes

/-- The cells read as data of the type. -/
def Opn (P : Program) (w : World) (t : TypeId) (cs : List Value) : Prop := ∃ (H : Type) (enc : TypeId × Value → H) (fuel : Nat) (x : DataW H × List MemPlace), DataW.trod enc P w 0 (fun _ => true) true fuel t cs = some x

theorem opn_of {P : Program} {w : World} {t : TypeId} {v : Value} {H : Type} {enc : TypeId × Value → H} {d : DataW H} {ps : List MemPlace} (h : DataW.Trod enc P w 0 (fun _ => true) true t v d ps) : Opn P w t v.cells.toList := by
  obtain ⟨fuel, hf⟩ := h
  exact ⟨H, enc, fuel, _, hf⟩

section
variable {P : Program} {w : World} {t : TypeId} {cs : List Value}

theorem Opn.bool (ht : P.underlying t = some .bool) (h : Opn P w t cs) : ∃ b, cs = [.bool b] := by
  obtain ⟨H, enc, fuel, x, h⟩ := h
  obtain ⟨b, h1, -⟩ := DataW.trod_bool ht h
  exact ⟨b, h1⟩
theorem Opn.int {k : IntKind} (ht : P.underlying t = some (.int k)) (h : Opn P w t cs) : ∃ n, cs = [.int k n] ∧ (Lit.int k n).wf = true := by
  obtain ⟨H, enc, fuel, x, h⟩ := h
  obtain ⟨n, h1, -, h2⟩ := DataW.trod_int ht h
  exact ⟨n, h1, h2⟩
theorem Opn.struct {fs : Array Field} (ht : P.underlying t = some (.struct fs)) (h : Opn P w t cs) : cs.length = P.cellsOf t ∧ ∀ (i : Nat) (f : Field), fs[i]? = some f → Opn P w f.type ((cs.drop f.offset).take (P.cellsOf f.type)) := by
  obtain ⟨H, enc, fuel, x, h⟩ := h
  obtain ⟨xs, n, -, -, h1, h2, h3⟩ := DataW.trod_struct ht h
  refine ⟨h1, fun i f hf => ?_⟩
  have hi : i < xs.length := by rw [h2]; exact (Array.getElem?_eq_some_iff.1 hf).1
  exact ⟨H, enc, n, xs[i], by rw [h3 i f hf]; simp [hi]⟩
/-- A slice: its cells, an element's worth at a time, read as data. -/
theorem Opn.slice {e : TypeId} {s : Nat} (ht : P.underlying t = some (.slice e)) (hs : P.cellsOf e = s) (hs0 : 0 < s) (h : Opn P w t cs) :
    ∃ v n es, cs = [v] ∧ Sl w.heap v n es ∧ es.length = n * s ∧ n ≤ maxLen ∧ ∀ i, i < n → Opn P w e ((es.drop (i * s)).take s) := by
  obtain ⟨H, enc, fuel, x, h⟩ := h
  rcases DataW.trod_slice ht h with ⟨rfl, -⟩ | ⟨a, len, cap, elems, rest, n, -, rfl, -, -, hl, hm, hlen, hel, -, -⟩
  · exact ⟨_, 0, [], rfl, Sl.nil _, by simp, Nat.zero_le _, fun i hi => by omega⟩
  · rw [hs] at hel
    have each : ∀ i, i < len → ∃ c, w.cells? 0 (a.add (i * s)) s = some c ∧ c.length = s ∧ Opn P w e c := fun i hi => by
      have h1 := hel i hi
      rw [List.getElem?_eq_getElem (by omega)] at h1
      cases hc : w.cells? 0 (a.add (i * s)) s with
      | none => rw [hc] at h1; cases h1
      | some c =>
        rw [hc] at h1
        refine ⟨c, rfl, (World.cells?_some hc).2.1, H, enc, n, _, h1⟩
    by_cases h0 : len = 0
    · subst h0
      exact ⟨_, 0, [], rfl, Sl.empty _ a cap, by simp, Nat.zero_le _, fun i hi => by omega⟩
    · have cellAt : ∀ i r, i < len → r < s → ∀ c, w.cells? 0 (a.add (i * s)) s = some c → w.cell? (a.add (i * s + r)) = c[r]? := fun i r hi hr c hc => by
        rw [← Addr.add_add]; exact (World.cells?_some hc).2.2 r hr
      have hspot : a.spot = none := by
        obtain ⟨c, hc, hcl, -⟩ := each 0 (by omega)
        have := cellAt 0 0 (by omega) hs0 c hc
        rw [List.getElem?_eq_getElem (by omega)] at this
        have e0 : a.add (0 * s + 0) = a := by simp [Addr.add]
        rw [e0] at this
        unfold World.cell? at this
        split at this
        · split at this
          · cases this
          · rename_i hsp; simpa using hsp
        · cases this
      obtain ⟨b, o, sp⟩ := a
      simp only at hspot
      subst hspot
      have total : ∀ j, j < len * s → ∃ u, w.cell? ((⟨b, o, none⟩ : Addr).add j) = some u := fun j hj => by
        have hi : j / s < len := (Nat.div_lt_iff_lt_mul hs0).2 hj
        have hr : j % s < s := Nat.mod_lt _ hs0
        obtain ⟨c, hc, hcl, -⟩ := each (j / s) hi
        have := cellAt (j / s) (j % s) hi hr c hc
        rw [List.getElem?_eq_getElem (by omega), Nat.mul_comm (j / s) s, Nat.div_add_mod] at this
        exact ⟨_, this⟩
      refine ⟨_, len, (List.range (len * s)).map (fun j => (w.cell? ((⟨b, o, none⟩ : Addr).add j)).getD undef), rfl, .inr ⟨b, o, cap, rfl, hl, fun j u hu => ?_⟩, by simp, Nat.le_trans hl hm, fun i hi => ?_⟩
      · rw [List.getElem?_map] at hu
        by_cases hj : j < len * s
        · rw [List.getElem?_range hj] at hu
          obtain ⟨u', hu'⟩ := total j hj
          rw [Option.map_some, hu', Option.getD_some] at hu
          cases hu
          rw [Addr.add_lit, cell?_cellH] at hu'
          exact hu'
        · rw [List.getElem?_eq_none (by simpa using hj)] at hu; cases hu
      · obtain ⟨c, hc, hcl, ho⟩ := each i hi
        have e : ((List.map (fun j => (w.cell? ((⟨b, o, none⟩ : Addr).add j)).getD undef) (List.range (len * s))).drop (i * s)).take s = c := by
          have hle : i * s + s ≤ len * s := by rw [← Nat.succ_mul]; exact Nat.mul_le_mul_right _ hi
          apply List.ext_getElem?
          intro r
          rw [List.getElem?_take]
          by_cases hr : r < s
          · rw [if_pos hr, List.getElem?_drop, List.getElem?_map, List.getElem?_range (by omega)]
            have := cellAt i r hi hr c hc
            rw [Option.map_some, this, List.getElem?_eq_getElem (by omega)]; rfl
          · rw [if_neg hr, List.getElem?_eq_none (by omega)]
        rw [e]; exact ho
end

/-! ### words -/
theorem nat_of_lit {n : Int} (h : (Lit.int .u64 n).wf = true) : ∃ m : Nat, n = (m : Int) ∧ m < 18446744073709551616 := by
  have := bounds_u64 h
  exact ⟨n.toNat, by omega, by omega⟩

def wordOf : Option Value → Nat
  | some (.int _ z) => z.toNat
  | _ => 0
theorem opn_words {P : Program} {w : World} {t e : TypeId} {cs : List Value} (ht : P.underlying t = some (.slice e)) (he : P.underlying e = some (.int .u64)) (hc : P.cellsOf e = 1) (h : Opn P w t cs) :
    ∃ v xs, cs = [v] ∧ SlF w.heap U v xs ∧ Dig.Al 18446744073709551616 xs ∧ xs.length ≤ maxLen := by
  obtain ⟨v, n, es, h1, h2, h3, h4, h5⟩ := h.slice ht hc Nat.zero_lt_one
  have key : ∀ i, i < n → ∃ m : Nat, es[i]? = some (U m) ∧ m < 18446744073709551616 := fun i hi => by
    obtain ⟨z, hz, hw⟩ := (h5 i hi).int he
    obtain ⟨m, rfl, hm⟩ := nat_of_lit hw
    refine ⟨m, ?_, hm⟩
    rw [Nat.mul_one] at hz
    have : (es.drop i)[0]? = some (U m) := by
      have h0 : ((es.drop i).take 1)[0]? = some (U m) := by rw [hz]; rfl
      rwa [List.getElem?_take, if_pos (by omega)] at h0
    rwa [List.getElem?_drop, Nat.add_zero] at this
  have hxs : es = ((List.range n).map fun i => wordOf es[i]?).map U := by
    apply List.ext_getElem?
    intro i
    by_cases hi : i < n
    · obtain ⟨m, hm, -⟩ := key i hi
      rw [List.getElem?_map, List.getElem?_map, List.getElem?_range hi]
      simp [hm, wordOf]
    · rw [List.getElem?_eq_none (by omega), List.getElem?_eq_none (by simp; omega)]
  refine ⟨v, (List.range n).map fun i => wordOf es[i]?, h1, ?_, ?_, by simpa using h4⟩
  · unfold SlF
    rw [← hxs]; simpa using h2
  · intro x hx
    obtain ⟨i, hi, rfl⟩ := List.mem_map.1 hx
    obtain ⟨m, hm, hlt⟩ := key i (List.mem_range.1 hi)
    rw [hm]
    simpa [wordOf] using hlt

/-- A struct of a bool and a row of words. -/
theorem opn_boolwords {P : Program} {w : World} {t tb tn e : TypeId} {cs : List Value} {f0 f1 : Field} (ht : P.underlying t = some (.struct #[f0, f1])) (h0 : (f0.type, f0.offset, P.cellsOf f0.type) = (tb, 0, 1)) (h1 : (f1.type, f1.offset, P.cellsOf f1.type) = (tn, 1, 1))
    (hb : P.underlying tb = some .bool) (hn : P.underlying tn = some (.slice e)) (he : P.underlying e = some (.int .u64)) (hc : P.cellsOf e = 1) (hz : P.cellsOf t = 2) (h : Opn P w t cs) :
    ∃ b v xs, cs = [.bool b, v] ∧ SlF w.heap U v xs ∧ Dig.Al 18446744073709551616 xs := by
  obtain ⟨g1, g2⟩ := h.struct ht
  simp only [Prod.mk.injEq] at h0 h1
  have o0 := g2 0 f0 (by simp)
  have o1 := g2 1 f1 (by simp)
  rw [h0.2.1, h0.2.2, h0.1] at o0
  rw [h1.2.1, h1.2.2, h1.1] at o1
  obtain ⟨b, e0⟩ := o0.bool hb
  obtain ⟨v, xs, e1, s, al, -⟩ := opn_words hn he hc o1
  refine ⟨b, v, xs, ?_, s, al⟩
  rw [hz] at g1
  match cs, g1 with
  | [c0, c1], _ =>
    simp at e0 e1
    rw [e0, e1]
theorem arg_words {P : Program} {w : World} {t e : TypeId} {v : Value} (ht : P.underlying t = some (.slice e)) (he : P.underlying e = some (.int .u64)) (hc : P.cellsOf e = 1) (hv : ∃ a len cap, v = .slice a len cap) (h : Opn P w t v.cells.toList) :
    ∃ xs, SlF w.heap U v xs ∧ Dig.Al 18446744073709551616 xs ∧ xs.length ≤ maxLen := by
  obtain ⟨a, len, cap, rfl⟩ := hv
  obtain ⟨v, xs, e1, h2⟩ := opn_words ht he hc h
  simp [Value.cells] at e1
  subst e1
  exact ⟨xs, h2⟩
theorem arg_boolwords {P : Program} {w : World} {t tb tn e : TypeId} {v : Value} {f0 f1 : Field} (ht : P.underlying t = some (.struct #[f0, f1])) (h0 : (f0.type, f0.offset, P.cellsOf f0.type) = (tb, 0, 1)) (h1 : (f1.type, f1.offset, P.cellsOf f1.type) = (tn, 1, 1))
    (hb : P.underlying tb = some .bool) (hn : P.underlying tn = some (.slice e)) (he : P.underlying e = some (.int .u64)) (hc : P.cellsOf e = 1) (hz : P.cellsOf t = 2) (hv : ∃ cs, v = .agg cs) (h : Opn P w t v.cells.toList) :
    ∃ b a xs, v = .agg #[.bool b, a] ∧ SlF w.heap U a xs ∧ Dig.Al 18446744073709551616 xs := by
  obtain ⟨cs, rfl⟩ := hv
  obtain ⟨b, a, xs, e1, h2, h3⟩ := opn_boolwords ht h0 h1 hb hn he hc hz h
  exact ⟨b, a, xs, by simp only [Value.cells] at e1; rw [show cs = #[.bool b, a] from Array.toList_inj.1 e1], h2, h3⟩
end Go.Den

/- What an argument that came in reads as: rows of ints, rows of rows, rows of structs. No condition. -/
namespace Go.Den
set_option linter.unusedVariables false
set_option maxRecDepth 8000
open Go Go.RowKit Go.ChangeShapes Go.WideShapes

theorem chunks {α : Type} {f : α → List Value} {R : α → Prop} {s : Nat} : ∀ (n : Nat) (es : List Value), es.length = n * s → (∀ i, i < n → ∃ x, (es.drop (i * s)).take s = f x ∧ R x) → ∃ xs : List α, xs.length = n ∧ es = xs.flatMap f ∧ ∀ x ∈ xs, R x
  | 0, es, hl, _ => ⟨[], rfl, by simpa using hl, by simp⟩
  | n + 1, es, hl, h => by
    obtain ⟨x, hx, hr⟩ := h 0 (by omega)
    rw [Nat.zero_mul, List.drop_zero] at hx
    have hl' : (es.drop s).length = n * s := by rw [List.length_drop, hl, Nat.succ_mul]; omega
    obtain ⟨xs, h1, h2, h3⟩ := chunks (f := f) (R := R) n (es.drop s) hl' (fun i hi => by
      obtain ⟨y, hy, hr⟩ := h (i + 1) (by omega)
      refine ⟨y, ?_, hr⟩
      rw [List.drop_drop, show s + i * s = (i + 1) * s by rw [Nat.succ_mul]; omega]
      exact hy)
    refine ⟨x :: xs, by simp [h1], ?_, ?_⟩
    · rw [List.flatMap_cons, ← h2, ← hx, List.take_append_drop]
    · intro y hy
      rcases List.mem_cons.1 hy with rfl | hy
      · exact hr
      · exact h3 y hy

def ib64 (z : Int) : Prop := -9223372036854775808 ≤ z ∧ z < 9223372036854775808
section
variable {P : Program} {w : World} {t e : TypeId} {cs : List Value}
theorem Opn.i64 (ht : P.underlying t = some (.int .i64)) (h : Opn P w t cs) : ∃ n, cs = [I n] ∧ ib64 n := by
  obtain ⟨n, h1, h2⟩ := h.int ht
  exact ⟨n, h1, by have := bounds_i64 h2; unfold ib64; omega⟩
theorem Opn.rowA {α : Type} {f : α → List Value} {R : α → Prop} {s : Nat} (ht : P.underlying t = some (.slice e)) (hs : P.cellsOf e = s) (hs0 : 0 < s) (hf : ∀ x, (f x).length = s) (h : Opn P w t cs) (he : ∀ c, Opn P w e c → ∃ x, c = f x ∧ R x) :
    ∃ v xs, cs = [v] ∧ SlA w.heap f s v xs ∧ (∀ x ∈ xs, R x) ∧ xs.length ≤ maxLen := by
  obtain ⟨v, n, es, h1, h2, h3, h4, h5⟩ := h.slice ht hs hs0
  obtain ⟨xs, g1, g2, g3⟩ := chunks (f := f) (R := R) n es h3 (fun i hi => he _ (h5 i hi))
  subst g1
  exact ⟨v, xs, h1, ⟨hf, by rw [← g2]; exact h2⟩, g3, h4⟩
theorem flat_one {α : Type} (f : α → Value) (xs : List α) : xs.flatMap (fun x => [f x]) = xs.map f := by
  induction xs with
  | nil => rfl
  | cons x xs ih => rw [List.flatMap_cons, ih]; rfl
theorem SlA.one' {α : Type} {f : α → Value} {h : Hp} {v : Value} {xs : List α} (s : SlA h (fun x => [f x]) 1 v xs) : SlF h f v xs := by
  have := s.2
  rw [flat_one] at this
  exact this
theorem Opn.ints (ht : P.underlying t = some (.slice e)) (he : P.underlying e = some (.int .i64)) (hc : P.cellsOf e = 1) (h : Opn P w t cs) :
    ∃ v xs, cs = [v] ∧ SlF w.heap I v xs ∧ (∀ x ∈ xs, ib64 x) ∧ xs.length ≤ maxLen := by
  obtain ⟨v, xs, h1, h2, h3, h4⟩ := h.rowA (f := fun x => [I x]) (R := ib64) ht hc Nat.zero_lt_one (fun _ => rfl) (fun c hc => Opn.i64 he hc)
  exact ⟨v, xs, h1, h2.one', h3, h4⟩
/-- A row of int, told with its front. -/
def RowI (h : Hp) (x : Value × List Int) : Prop := SlF h I x.1 x.2 ∧ (∀ z ∈ x.2, ib64 z) ∧ x.2.length ≤ maxLen
theorem Opn.introws {e2 : TypeId} (ht : P.underlying t = some (.slice e)) (he : P.underlying e = some (.slice e2)) (he2 : P.underlying e2 = some (.int .i64)) (hc : P.cellsOf e = 1) (hc2 : P.cellsOf e2 = 1) (h : Opn P w t cs) :
    ∃ v xs, cs = [v] ∧ SlF w.heap Prod.fst v xs ∧ (∀ x ∈ xs, RowI w.heap x) ∧ xs.length ≤ maxLen := by
  obtain ⟨v, xs, h1, h2, h3, h4⟩ := h.rowA (f := fun x : Value × List Int => [x.1]) (R := RowI w.heap) ht hc Nat.zero_lt_one (fun _ => rfl) (fun c hc => by
    obtain ⟨v, xs, g1, g2, g3, g4⟩ := Opn.ints he he2 hc2 hc
    exact ⟨(v, xs), g1, g2, g3, g4⟩)
  exact ⟨v, xs, h1, h2.one', h3, h4⟩
theorem arg_ints {v : Value} (ht : P.underlying t = some (.slice e)) (he : P.underlying e = some (.int .i64)) (hc : P.cellsOf e = 1) (hv : ∃ a len cap, v = .slice a len cap) (h : Opn P w t v.cells.toList) :
    ∃ xs, SlF w.heap I v xs ∧ (∀ x ∈ xs, ib64 x) ∧ xs.length ≤ maxLen := by
  obtain ⟨a, len, cap, rfl⟩ := hv
  obtain ⟨v, xs, e1, h2⟩ := h.ints ht he hc
  simp [Value.cells] at e1
  subst e1
  exact ⟨xs, h2⟩
theorem arg_introws {e2 : TypeId} {v : Value} (ht : P.underlying t = some (.slice e)) (he : P.underlying e = some (.slice e2)) (he2 : P.underlying e2 = some (.int .i64)) (hc : P.cellsOf e = 1) (hc2 : P.cellsOf e2 = 1) (hv : ∃ a len cap, v = .slice a len cap) (h : Opn P w t v.cells.toList) :
    ∃ xs, SlF w.heap Prod.fst v xs ∧ (∀ x ∈ xs, RowI w.heap x) ∧ xs.length ≤ maxLen := by
  obtain ⟨a, len, cap, rfl⟩ := hv
  obtain ⟨v, xs, e1, h2⟩ := h.introws ht he he2 hc hc2
  simp [Value.cells] at e1
  subst e1
  exact ⟨xs, h2⟩
/-- A part of a struct. -/
theorem Opn.part {fs : Array Field} {tt : TypeId} {off s : Nat} (ht : P.underlying t = some (.struct fs)) (i : Nat) (hi : (fs[i]?).map (fun f => (f.type, f.offset, P.cellsOf f.type)) = some (tt, off, s)) (h : Opn P w t cs) : Opn P w tt ((cs.drop off).take s) := by
  obtain ⟨-, g2⟩ := h.struct ht
  cases hf : fs[i]? with
  | none => rw [hf] at hi; cases hi
  | some f =>
    rw [hf] at hi
    simp only [Option.map_some, Option.some.injEq, Prod.mk.injEq] at hi
    obtain ⟨rfl, rfl, rfl⟩ := hi
    exact g2 i f hf
theorem Opn.width {fs : Array Field} {s : Nat} (ht : P.underlying t = some (.struct fs)) (hc : P.cellsOf t = s) (h : Opn P w t cs) : cs.length = s := by
  obtain ⟨g1, -⟩ := h.struct ht
  rw [g1, hc]
end
end Go.Den

/- What the listed table reads as when the call begins. No condition. -/
namespace Go.Proofs.YtbhhagdnbkkjpaaDoor
set_option linter.unusedVariables false
set_option maxRecDepth 8000
open Go Go.Den Go.RowKit Go.ChangeShapes Go.WideShapes

def laidL : List (String × DataW Unit) := [("math/bits.deBruijn64tab", Rows.laid_math_bits_deBruijn64tab)]
theorem laid_eq : (Rows.laid_math_bits_deBruijn64tab : DataW Unit) = .agg (tzT.map fun b => .lit (.int .u8 ((b : Nat) : Int))) := rfl
theorem gTab : Tryd.prog.globalNamed "math/bits.deBruijn64tab" = some 0 := by kernel_rfl
theorem tTab : (Tryd.prog.globals[0]?).map (·.type) = some 43 := by kernel_rfl
theorem tb_of_laid {W : World} (h : laidMetH Tryd.prog laidL W) : TB W.heap := by
  rw [MakeChecks.laidMetH_plain _ _ _ (by kernel_rfl)] at h
  obtain ⟨ps, ⟨g0, t0, cs0, f0, p0, q0, hg0, ht0, hv0, hd0, hrest⟩, hrest2⟩ := h
  obtain rfl := Option.some.inj (gTab.symm.trans hg0)
  obtain rfl := Option.some.inj (tTab.symm.trans ht0)
  rw [laid_eq] at hd0
  obtain ⟨xs, m1, -, hx1, hlen, hn, hel⟩ := DataW.trod_array Tryd.underlying43 hd0
  have c5 : Tryd.prog.cellsOf 5 = 1 := by kernel_rfl
  simp only [Prod.mk.injEq, DataW.agg.injEq] at hx1
  have key : ∀ j, j < 64 → cs0.toList[j]? = some (.int .u8 ((tzT.getD j 0 : Nat) : Int)) := fun j hj => by
    have hxj : xs[j]? = some xs[j] := List.getElem?_eq_getElem (by omega)
    have h1 := hel j hj
    rw [c5, Nat.mul_one, hxj] at h1
    obtain ⟨k, e1, e2, -⟩ := DataW.trod_int Tryd.underlying5 h1
    have h2 := congrArg (fun l => l[j]?) hx1.1
    simp only [List.getElem?_map, hxj, Option.map_some] at h2
    rw [List.getElem?_eq_getElem (show j < tzT.length from hj), Option.map_some, Option.some.injEq] at h2
    rw [e2] at h2
    simp only [DataW.lit.injEq, Lit.int.injEq, true_and] at h2
    have h3 : (List.drop j cs0.toList)[0]? = some (Value.int .u8 k) := by
      have : ((List.drop j cs0.toList).take 1)[0]? = some (Value.int .u8 k) := by rw [e1]; rfl
      rwa [List.getElem?_take, if_pos (by omega)] at this
    rw [List.getElem?_drop, Nat.add_zero] at h3
    rw [h3, List.getD_eq_getElem?_getD, List.getElem?_eq_getElem (show j < tzT.length from hj), Option.getD_some, h2]
  refine ⟨_, 0, rfl, fun j u hu => ?_⟩
  rw [List.getElem?_map, Option.map_eq_some_iff] at hu
  obtain ⟨b, hb, rfl⟩ := hu
  have hj : j < 64 := (List.getElem?_eq_some_iff.1 hb).1
  have h4 := World.var?_cell hg0 hv0 j
  rw [cell?_cellH] at h4
  rw [Nat.zero_add, h4]
  have h5 := key j hj
  rw [List.getD_eq_getElem?_getD, hb, Option.getD_some] at h5
  simpa using h5

/-- The heap that the program's own start leaves meets the condition. -/
theorem door_met (os : Os) (args : Array Value) : laidMetH Tryd.prog laidL ((World.doorLaid Tryd.prog 400 os).forCall (fun _ _ => 0) ⟨#[], args, []⟩).memory :=
  laidMetH_of_parts3 (fuel := 8) (laidMet_of_run' 8 (by kernel_rfl) (by kernel_rfl)) (by kernel_rfl) (by kernel_rfl)
end Go.Proofs.YtbhhagdnbkkjpaaDoor

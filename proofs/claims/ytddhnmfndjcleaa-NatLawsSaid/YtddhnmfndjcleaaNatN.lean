/- Naturals: long division by bits of the reference, by contract. No condition. -/
import Derived.Test.YtddhnmfndjcleaaNatM
namespace Go.Proofs.Ytddhnmfndjcleaa
set_option linter.unusedVariables false
open Go Go.Den Go.RowKit Go.Dig

/-- A bit more of what is divided. -/
theorem bit_step {V W x j t R Y : Nat} (hj : j ≤ 15) (h : V * 2 ^ (16 - (j + 1)) + x / 2 ^ (j + 1) = (W * 2 ^ (16 - (j + 1)) + t) * Y + R) :
    V * 2 ^ (16 - j) + x / 2 ^ j = (W * 2 ^ (16 - j) + 2 * t) * Y + (2 * R + x / 2 ^ j % 2) := by
  have e : 2 ^ (16 - j) = 2 * 2 ^ (16 - (j + 1)) := by rw [show 16 - j = (16 - (j + 1)) + 1 by omega, Nat.pow_succ, Nat.mul_comm]
  have d : x / 2 ^ (j + 1) = x / 2 ^ j / 2 := by rw [Nat.pow_succ, Nat.div_div_eq_div_mul]
  rw [d] at h
  have m := Nat.div_add_mod (x / 2 ^ j) 2
  have f0 : W * 2 ^ (16 - j) + 2 * t = 2 * (W * 2 ^ (16 - (j + 1)) + t) := by rw [e, Nat.mul_add, Nat.mul_left_comm]
  have f : (W * 2 ^ (16 - j) + 2 * t) * Y = 2 * ((W * 2 ^ (16 - (j + 1)) + t) * Y) := by rw [f0, Nat.mul_assoc]
  have g : V * 2 ^ (16 - j) = 2 * (V * 2 ^ (16 - (j + 1))) := by rw [e, Nat.mul_left_comm]
  rw [f, g]
  omega
theorem bit_take {A t R Y N : Nat} (h : N = (A + 2 * t) * Y + R) (hle : Y ≤ R) : N = (A + (2 * t + 1)) * Y + (R - Y) := by
  rw [h, ← Nat.add_assoc, Nat.add_mul (A + 2 * t) 1 Y, Nat.one_mul]; omega

theorem cmpI_ge {m n : Nat} : 0 ≤ cmpI m n ↔ n ≤ m := by
  unfold cmpI
  by_cases h1 : m < n
  · simp [h1]
  · by_cases h2 : n < m <;> simp [h1, h2] <;> omega
theorem tpow {t j : Nat} (hj : j ≤ 15) (ht : t < 2 ^ (16 - (j + 1))) : 2 * t + 1 < 2 ^ (16 - j) ∧ (2 * t + 1) * 2 ^ j < 65536 ∧ t * 2 ^ (j + 1) + 1 * 2 ^ j = (2 * t + 1) * 2 ^ j ∧ t * 2 ^ (j + 1) = 2 * t * 2 ^ j ∧ 1 * 2 ^ j < 9223372036854775808 ∧ t * 2 ^ (j + 1) + 1 * 2 ^ j < 9223372036854775808 := by
  have e : 2 ^ (16 - j) = 2 * 2 ^ (16 - (j + 1)) := by rw [show 16 - j = (16 - (j + 1)) + 1 by omega, Nat.pow_succ, Nat.mul_comm]
  have h1 : 2 * t + 1 < 2 ^ (16 - j) := by omega
  have h2 : (2 * t + 1) * 2 ^ j < 65536 := by
    have := Nat.mul_lt_mul_of_pos_right h1 (Nat.pow_pos (show 0 < 2 by omega) (n := j))
    rwa [← Nat.pow_add, show 16 - j + j = 16 by omega] at this
  have h3 : t * 2 ^ (j + 1) = 2 * t * 2 ^ j := by rw [Nat.pow_succ, Nat.mul_comm (2 ^ j) 2, ← Nat.mul_assoc, Nat.mul_comm t 2]
  have h4 : t * 2 ^ (j + 1) + 1 * 2 ^ j = (2 * t + 1) * 2 ^ j := by rw [h3, Nat.add_mul]
  have h5 : 1 * 2 ^ j ≤ (2 * t + 1) * 2 ^ j := Nat.mul_le_mul_right _ (by omega)
  refine ⟨h1, h2, h4, h3, by omega, by rw [h4]; omega⟩

theorem Try_ent46 : Ent Try.prog 46 := ent_of Try.func46 (by kernel_rfl) rfl
set_option maxHeartbeats 4000000 in
theorem parts_spec (va vb : Value) (xs ys : List Nat) (h : Hp) (ha : SlF h N va xs) (hb : SlF h N vb ys) (hx : Al 65536 xs) (hy : Al 65536 ys) (hyn : nrm ys = ys) (hl : xs.length < 549755813888) (hl2 : ys.length < 549755813888) (hY0 : 0 < vl 65536 ys) :
    CallsH Try.prog 46 [va, vb] h fun v' h' => ∃ q r, v' = .tuple #[q, r] ∧ Ext h h' ∧ OwnF h' h.size 3 N q (dg 65536 (vl 65536 xs / vl 65536 ys)) ∧ OwnF h' h.size 3 N r (dg 65536 (vl 65536 xs % vl 65536 ys)) := by
  have hYl := vl_lt hy
  generalize hY : vl 65536 ys = Y at *
  (apply enter Try.func46 rfl Try.ntmps46 rfl)
  refine runG ?_
  (apply (s_make (f := N) (bytes := 8) (0)); (first | exact isK_c | exact isK_t rfl); (first | exact isK_c | exact isK_t rfl); exact rfl; exact rfl; exact rfl; exact rfl; exact rfl; exact rfl; omega; omega; omega)
  intro qv h1 o1 e1 b1
  refine ⟨(by first | exact trivial | exact Ext.refl _ | assumption | exact Ext.trans (by assumption) (by assumption)), ?_⟩
  refine runG ?_
  (first | (apply w_seqB; exact rfl; apply w_block; exact rfl) | skip)
  apply (w_loop (σ := Nat × Value × Nat × List Nat) rfl (fun p => [(0, va), (1, vb), (6, qv), (7, p.2.1), (8, I ((p.1 : Int) - 1))])
    (fun p h' => Ext h h' ∧ h1.size ≤ h'.size ∧ OwnF h' h.size 3 N qv p.2.2.2 ∧ OwnF h' h1.size 3 N p.2.1 (dg 65536 p.2.2.1) ∧ p.2.2.2.length = xs.length ∧ p.1 ≤ xs.length ∧ Al 65536 p.2.2.2 ∧ p.2.2.1 < Y ∧
      vl 65536 (xs.drop p.1) = vl 65536 (p.2.2.2.drop p.1) * Y + p.2.2.1 ∧ ∀ j, j < p.1 → p.2.2.2.getD j 0 = 0) (fun p => p.1) (xs.length, .slice none 0 0, 0, List.replicate xs.length 0))
  · exact (Sub.consE rfl (by first | rfl | (refine congrArg I ?_; (try dsimp only); omega) | (refine congrArg Value.bool ?_; simp [*])) (Sub.consE rfl (by first | rfl | (refine congrArg I ?_; (try dsimp only); omega) | (refine congrArg Value.bool ?_; simp [*])) (Sub.consE rfl (by first | rfl | (refine congrArg I ?_; (try dsimp only); omega) | (refine congrArg Value.bool ?_; simp [*])) (Sub.consE rfl (by first | rfl | (refine congrArg I ?_; (try dsimp only); omega) | (refine congrArg Value.bool ?_; simp [*])) (Sub.consE rfl (by first | rfl | (refine congrArg I ?_; (try dsimp only); omega) | (refine congrArg Value.bool ?_; simp [*])) (Sub.nil _))))))
  · refine ⟨e1, Nat.le_refl _, o1, OwnF.nil _ _ _ _, by simp, Nat.le_refl _, Al.replicate (by omega) _, hY0, ?_, fun j hj => ?_⟩
    · simp [List.drop_of_length_le, vl]
    · simp only [] at hj ⊢
      simp [hj]
  · rintro ⟨k, rv, R, qs0⟩ h2 ⟨e2, hs2, q2, r2, i1, i2, i3, i4, i5, i6⟩
    dsimp only at e2 hs2 q2 r2 i1 i2 i3 i4 i5 i6 ⊢
    refine runG ?_
    (apply w_condD; exact rfl; exact rfl) <;> intro hk
    · obtain ⟨i, rfl⟩ : ∃ i, k = i + 1 := ⟨k - 1, by omega⟩
      (apply w_know (t := 8) (u := N (i)) rfl (congrArg I (by omega)))
      have hxi := hx.getD (by omega) i
      have hq0 := i6 i (by omega)
      refine runG ?_
      (first | (apply w_seqB; exact rfl; apply w_block; exact rfl) | skip)
      apply (w_loop (σ := Nat × Value × Nat × Nat × List Nat) rfl (fun p => [(0, va), (1, vb), (6, qv), (7, p.2.1), (8, N i), (9, I ((p.1 : Int) - 1))])
        (fun p h' => Ext h h' ∧ h1.size ≤ h'.size ∧ OwnF h' h.size 3 N qv p.2.2.2.2 ∧ OwnF h' h1.size 3 N p.2.1 (dg 65536 p.2.2.1) ∧ p.2.2.2.2.length = xs.length ∧ p.1 ≤ 16 ∧ Al 65536 p.2.2.2.2 ∧ p.2.2.1 < Y ∧
          vl 65536 (xs.drop (i + 1)) * 2 ^ (16 - p.1) + xs.getD i 0 / 2 ^ p.1 = (vl 65536 (qs0.drop (i + 1)) * 2 ^ (16 - p.1) + p.2.2.2.1) * Y + p.2.2.1 ∧ p.2.2.2.2.drop (i + 1) = qs0.drop (i + 1) ∧
          p.2.2.2.2.getD i 0 = p.2.2.2.1 * 2 ^ p.1 ∧ p.2.2.2.1 < 2 ^ (16 - p.1) ∧ ∀ j, j < i → p.2.2.2.2.getD j 0 = 0) (fun p => p.1) (16, rv, R, 0, qs0))
      · exact (Sub.consE rfl (by first | rfl | (refine congrArg I ?_; (try dsimp only); omega) | (refine congrArg Value.bool ?_; simp [*])) (Sub.consE rfl (by first | rfl | (refine congrArg I ?_; (try dsimp only); omega) | (refine congrArg Value.bool ?_; simp [*])) (Sub.consE rfl (by first | rfl | (refine congrArg I ?_; (try dsimp only); omega) | (refine congrArg Value.bool ?_; simp [*])) (Sub.consE rfl (by first | rfl | (refine congrArg I ?_; (try dsimp only); omega) | (refine congrArg Value.bool ?_; simp [*])) (Sub.consE rfl (by first | rfl | (refine congrArg I ?_; (try dsimp only); omega) | (refine congrArg Value.bool ?_; simp [*])) (Sub.consE rfl (by first | rfl | (refine congrArg I ?_; (try dsimp only); omega) | (refine congrArg Value.bool ?_; simp [*])) (Sub.nil _)))))))
      · refine ⟨e2, hs2, q2, r2, i1, Nat.le_refl _, i3, i4, ?_, rfl, by rw [hq0]; simp, by simp, fun j hj => i6 j (by omega)⟩
        simp only [Nat.sub_self, Nat.pow_zero, Nat.mul_one, Nat.add_zero]
        rw [Nat.div_eq_of_lt hxi, Nat.add_zero]; exact i5
      · rintro ⟨kk, rv, R, t, qs⟩ h3 ⟨e3, hs3, q3, r3, j1, j2, j3, j4, j5, j6, j7, j8, j9⟩
        dsimp only at e3 hs3 q3 r3 j1 j2 j3 j4 j5 j6 j7 j8 j9 ⊢
        refine runG ?_
        (apply w_condD; exact rfl; exact rfl) <;> intro hkk
        · obtain ⟨j, rfl⟩ : ∃ j, kk = j + 1 := ⟨kk - 1, by omega⟩
          (apply w_know (t := 9) (u := N (j)) rfl (congrArg I (by omega)))
          have hst := bit_step (by omega) j5
          have hRl : (dg 65536 R).length ≤ ys.length := dg_len (by omega) (by omega)
          have hR2 : ∀ Z, Z < 2 * Y → (dg 65536 Z).length ≤ ys.length + 1 := fun Z hZ => dg_len (by omega) (by rw [Nat.pow_succ]; omega)
          refine runG ?_
          apply (s_call Try_ent40 rfl rfl rfl)
          refine (plus_spec rv rv _ _ h3 r3.sl r3.sl (al_dg (by omega) _) (al_dg (by omega) _) (by omega) (by omega)).mono ?_
          rintro v4 h4 ⟨e4, o4⟩
          refine ⟨(by first | exact trivial | exact Ext.refl _ | assumption | exact Ext.trans (by assumption) (by assumption)), ?_⟩
          rw [vl_dg (by omega)] at o4
          have ha4 := ha.ext (e3.trans e4)
          have hR3 := hR2 (R + R) (by omega)
          have hjj : j ≤ 64 := by omega
          have hxj : xs.getD i 0 / 2 ^ j < 65536 := Nat.lt_of_le_of_lt (Nat.div_le_self _ _) hxi
          refine runG ?_
          generalize hbd : xs.getD i 0 / 2 ^ j % 2 = bit at *
          have hb2 : bit < 2 := by omega
          (apply (s_litF (f := N) [bit] (fun _ => rfl)); exact rfl; exact rfl; exact rfl; exact rfl; exact rfl; exact rfl; exact rfl; exact rfl; omega)
          intro v5 h5 o5 e5 b5
          refine ⟨(by first | exact trivial | exact Ext.refl _ | assumption | exact Ext.trans (by assumption) (by assumption)), ?_⟩
          have e35 := e4.trans e5
          have o45 := o4.ext e5
          refine runG ?_
          apply (s_call Try_ent52 rfl rfl rfl)
          refine (trim_spec v5 [bit] h5 o5.sl (by simp)).mono ?_
          rintro v6 _ ⟨rfl, s6, -⟩
          refine ⟨(by first | exact trivial | exact Ext.refl _ | assumption | exact Ext.trans (by assumption) (by assumption)), ?_⟩
          rw [nrm_eq (b := 65536) (by omega) (Al.cons (by omega) Al.nil)] at s6
          have hbl : (dg 65536 (vl 65536 [bit])).length ≤ 1 := dg_len (by omega) (by simp [vl]; omega)
          refine runG ?_
          apply (s_call Try_ent40 rfl rfl rfl)
          refine (plus_spec v4 v6 _ _ h5 o45.sl s6 (al_dg (by omega) _) (al_dg (by omega) _) (by omega) (by omega)).mono ?_
          rintro v7 h7 ⟨e7, o7⟩
          refine ⟨(by first | exact trivial | exact Ext.refl _ | assumption | exact Ext.trans (by assumption) (by assumption)), ?_⟩
          rw [vl_dg (by omega), vl_dg (by omega), show R + R + vl 65536 [bit] = 2 * R + bit by simp [vl]; omega] at o7
          generalize hR' : 2 * R + bit = R2 at *
          have e37 := e35.trans e7
          have hb7 := hb.ext (e3.trans e37)
          have hR4 := hR2 R2 (by omega)
          refine runG ?_
          apply (s_call Try_ent41 rfl rfl rfl)
          refine (compare_spec v7 vb _ ys h7 o7.sl hb7 (al_dg (by omega) _) (nrm_dg (by omega) _) hy hyn (by omega) (by omega)).mono ?_
          rintro _ _ ⟨rfl, rfl⟩
          refine ⟨(by first | exact trivial | exact Ext.refl _ | assumption | exact Ext.trans (by assumption) (by assumption)), ?_⟩
          rw [vl_dg (by omega), hY]
          obtain ⟨tp1, tp2, tp3, tp4, tp5, tp6⟩ := tpow (by omega) j8
          have hil : i < qs.length := by omega
          have hh7 := e37.1
          have hh5 := e35.1
          have nqr := OwnF.ne' q3 o7 (by have := q3.blk; omega)
          have q7 := q3.ext e37
          refine runG ?_
          (apply w_condD; exact rfl; exact rfl) <;> intro hge
          · rw [cmpI_ge] at hge
            refine runG ?_
            apply (s_call Try_ent37 rfl rfl rfl)
            refine (less_spec v7 vb _ ys h7 o7.sl hb7 (al_dg (by omega) _) hy (by omega) (by omega) (by rw [vl_dg (by omega), hY]; exact hge)).mono ?_
            rintro v8 h8 ⟨e8, o8⟩
            refine ⟨(by first | exact trivial | exact Ext.refl _ | assumption | exact Ext.trans (by assumption) (by assumption)), ?_⟩
            rw [vl_dg (by omega), hY] at o8
            have q8 := q7.ext e8
            have hh8 := e8.1
            have nrq := OwnF.ne q7 o8 (Nat.le_refl _)
            refine runG ?_
            rw [j7]
            refine runG ?_
            rw [tp3]
            have htk := bit_take hst hge
            generalize hqi : (2 * t + 1) * 2 ^ j = qi at *
            (apply (s_storeF (qi)); exact rfl; exact rfl; exact rfl; exact rfl; exact rfl; exact q8; exact rfl; (first | assumption | omega))
            intro h9 q9 k9
            refine ⟨(by first | exact trivial | exact Ext.refl _ | assumption | exact Ext.trans (by assumption) (by assumption)), ?_⟩
            have e9 := q8.old k9 ((e3.trans e37).trans e8) (Nat.le_refl _)
            have o9 := (o8.only k9 nrq).base (B' := h1.size) (by omega)
            have hh9 := k9.1
            refine runG ?_
            apply again_normal (j, v8, R2 - Y, 2 * t + 1, qs.set i qi)
            · exact (Sub.cons rfl (Sub.cons rfl (Sub.cons rfl (Sub.cons rfl (Sub.cons rfl (Sub.cons rfl (Sub.nil _)))))))
            · refine ⟨e9, by (try simp only []); omega, q9, o9, by simpa using j1, by (try simp only []); omega, j3.set tp2 _, by (try simp only []); omega, htk, ?_, ?_, tp1, fun m hm => ?_⟩
              · (try simp only []); rw [List.drop_set_of_lt (by omega)]; exact j6
              · (try simp only []); rw [getD_set_self hil, hqi]
              · (try simp only [] at hm ⊢); rw [getD_set_other (by omega)]; exact j9 m hm
            · exact Nat.lt_succ_self j
          · rw [cmpI_ge] at hge
            have o9 := o7.base (B' := h1.size) (by omega)
            refine runG ?_
            apply again_normal (j, v7, R2, 2 * t, qs)
            · exact (Sub.cons rfl (Sub.cons rfl (Sub.cons rfl (Sub.cons rfl (Sub.cons rfl (Sub.cons rfl (Sub.nil _)))))))
            · exact ⟨e3.trans e37, by (try simp only []); omega, q7, o9, j1, by (try simp only []); omega, j3, by (try simp only []); omega, hst, j6, by (try simp only []); rw [j7, tp4], by (try simp only []); omega, j9⟩
            · exact Nat.lt_succ_self j
        · obtain rfl : kk = 0 := by omega
          simp only [Nat.sub_zero, Nat.pow_zero, Nat.div_one, Nat.mul_one] at j5 j7 j8
          refine runG ?_
          apply again_normal (i, rv, R, qs)
          · exact (Sub.cons rfl (Sub.cons rfl (Sub.cons rfl (Sub.cons rfl (Sub.cons rfl (Sub.nil _))))))
          · refine ⟨e3, hs3, q3, r3, j1, by (try simp only []); omega, j3, j4, ?_, j9⟩
            (try simp only [])
            rw [vl_drop_head (by omega : i < xs.length), vl_drop_head (by omega : i < qs.length), j6, j7, Nat.add_comm (xs.getD i 0), Nat.add_comm t, Nat.mul_comm 65536, Nat.mul_comm 65536]
            exact j5
          · exact Nat.lt_succ_self i
    · obtain rfl : k = 0 := by omega
      simp only [List.drop_zero] at i5
      obtain ⟨f1, f2⟩ := div_mod_of (X := vl 65536 xs) (q := vl 65536 qs0) (r := R) (by omega) i4
      refine runG ?_
      apply (s_call Try_ent52 rfl rfl rfl)
      refine (trim_spec qv qs0 h2 q2.sl (by omega)).mono ?_
      rintro v6 _ ⟨rfl, s6, o6⟩
      refine ⟨(by first | exact trivial | exact Ext.refl _ | assumption | exact Ext.trans (by assumption) (by assumption)), ?_⟩
      have o6 := o6 _ _ q2
      rw [nrm_eq (by omega) i3, f1] at o6
      rw [f2] at r2
      have := e1.1
      refine runG ?_
      exact fin2 rfl rfl rfl ⟨_, _, rfl, e2, o6, r2.base this⟩
end Go.Proofs.Ytddhnmfndjcleaa

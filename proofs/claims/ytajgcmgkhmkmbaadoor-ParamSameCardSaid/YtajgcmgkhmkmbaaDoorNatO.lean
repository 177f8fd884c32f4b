/- Naturals: the reference's functions on naturals, by contracts. No condition. -/
import Derived.Test.YtajgcmgkhmkmbaaDoorNatN
namespace Go.Proofs.YtajgcmgkhmkmbaaDoor
set_option linter.unusedVariables false
set_option maxRecDepth 8000
open Go Go.Den Go.RowKit Go.Dig

theorem vlt {xs : List Nat} (hx : Al 18446744073709551616 xs) : vl 18446744073709551616 xs < 65536 ^ (4 * xs.length) := by rw [pow64]; exact vl_lt hx
theorem d16_len {X n : Nat} (h : X < 65536 ^ (4 * n)) : (dg 65536 X).length ≤ 4 * n := dg_len (by omega) h
theorem d16_add {X Y m n : Nat} (h : X < 65536 ^ (4 * m)) (k : Y < 65536 ^ (4 * n)) : X + Y < 65536 ^ (4 * (m + n + 1)) := by
  have a : 65536 ^ (4 * m) ≤ 65536 ^ (4 * (m + n)) := Nat.pow_le_pow_right (by omega) (by omega)
  have b : 65536 ^ (4 * n) ≤ 65536 ^ (4 * (m + n)) := Nat.pow_le_pow_right (by omega) (by omega)
  have c : 65536 ^ (4 * (m + n + 1)) = 65536 ^ (4 * (m + n)) * 65536 ^ 4 := by rw [show 4 * (m + n + 1) = 4 * (m + n) + 4 by omega, Nat.pow_add]
  have d : 65536 ^ (4 * (m + n)) * 2 ≤ 65536 ^ (4 * (m + n)) * 65536 ^ 4 := Nat.mul_le_mul_left _ (by omega)
  rw [c]; omega
theorem d16_mul {X Y m n : Nat} (h : X < 65536 ^ (4 * m)) (k : Y < 65536 ^ (4 * n)) : X * Y < 65536 ^ (4 * (m + n)) := by
  rw [show 4 * (m + n) = 4 * m + 4 * n by omega, Nat.pow_add]; exact Nat.mul_lt_mul'' h k

theorem Tryd_ent20 : Ent Tryd.prog 20 := ent_of Tryd.func20 (by kernel_rfl) rfl
theorem rof_spec (w : Nat) (h : Hp) (hw : w < 18446744073709551616) :
    CallsH Tryd.prog 20 [U w] h fun v' h' => Ext h h' ∧ OwnF h' h.size 31 U v' (dg 18446744073709551616 w) := by
  (apply enter Tryd.func20 rfl Tryd.ntmps20 rfl)
  refine runG ?_
  (apply (s_litF (f := U) [w] (fun _ => rfl)); exact rfl; exact rfl; exact rfl; exact rfl; exact rfl; exact rfl; exact rfl; exact rfl; omega)
  intro v1 h1 o1 e1 b1
  refine ⟨(by first | exact trivial | exact Ext.refl _ | assumption | exact Ext.trans (by assumption) (by assumption)), ?_⟩
  have ha : Al 18446744073709551616 [w] := Al.cons hw Al.nil
  have hv := vlt ha
  have hl := d16_len hv
  rw [show vl 18446744073709551616 [w] = w by simp [vl]] at hv hl
  refine runG ?_
  apply (s_call Tryd_ent47 rfl rfl rfl)
  refine (digits_spec v1 [w] h1 o1.sl ha (by simp)).mono ?_
  rintro v2 h2 ⟨e2, o2⟩
  refine ⟨(by first | exact trivial | exact Ext.refl _ | assumption | exact Ext.trans (by assumption) (by assumption)), ?_⟩
  rw [show vl 18446744073709551616 [w] = w by simp [vl]] at o2
  refine runG ?_
  apply (s_call Tryd_ent45 rfl rfl rfl)
  refine (from_spec v2 _ h2 o2.sl (al_dg (by omega) _) (by simp at hl; omega)).mono ?_
  rintro v3 h3 ⟨e3, o3⟩
  refine ⟨(by first | exact trivial | exact Ext.refl _ | assumption | exact Ext.trans (by assumption) (by assumption)), ?_⟩
  rw [vl_dg (by omega)] at o3
  refine runG ?_
  exact fin1 rfl rfl ⟨(e1.trans e2).trans e3, o3.base (e1.trans e2).1⟩

theorem Tryd_ent32 : Ent Tryd.prog 32 := ent_of Tryd.func32 (by kernel_rfl) rfl
theorem rcmp_spec (va vb : Value) (xs ys : List Nat) (h : Hp) (ha : SlF h U va xs) (hb : SlF h U vb ys) (hx : Al 18446744073709551616 xs) (hy : Al 18446744073709551616 ys) (hl : xs.length < 68719476736) (hl2 : ys.length < 68719476736) :
    CallsH Tryd.prog 32 [va, vb] h fun v' h' => v' = I (cmpI (vl 18446744073709551616 xs) (vl 18446744073709551616 ys)) ∧ Ext h h' := by
  (apply enter Tryd.func32 rfl Tryd.ntmps32 rfl)
  have lx := d16_len (vlt hx)
  have ly := d16_len (vlt hy)
  refine runG ?_
  apply (s_call Tryd_ent47 rfl rfl rfl)
  refine (digits_spec va xs h ha hx (by omega)).mono ?_
  rintro v1 h1 ⟨e1, o1⟩
  refine ⟨(by first | exact trivial | exact Ext.refl _ | assumption | exact Ext.trans (by assumption) (by assumption)), ?_⟩
  have hb1 := hb.ext e1
  refine runG ?_
  apply (s_call Tryd_ent47 rfl rfl rfl)
  refine (digits_spec vb ys h1 hb1 hy (by omega)).mono ?_
  rintro v2 h2 ⟨e2, o2⟩
  refine ⟨(by first | exact trivial | exact Ext.refl _ | assumption | exact Ext.trans (by assumption) (by assumption)), ?_⟩
  have o1' := o1.ext e2
  refine runG ?_
  apply (s_call Tryd_ent62 rfl rfl rfl)
  refine (compare_spec v1 v2 _ _ h2 o1'.sl o2.sl (al_dg (by omega) _) (nrm_dg (by omega) _) (al_dg (by omega) _) (nrm_dg (by omega) _) (by omega) (by omega)).mono ?_
  rintro _ _ ⟨rfl, rfl⟩
  refine ⟨(by first | exact trivial | exact Ext.refl _ | assumption | exact Ext.trans (by assumption) (by assumption)), ?_⟩
  rw [vl_dg (by omega), vl_dg (by omega)]
  refine runG ?_
  exact fin1 rfl rfl ⟨rfl, e1.trans e2⟩

theorem nb_half {v : Nat} (h : v ≠ 0) : nb v = nb (v / 2) + 1 := by
  by_cases h1 : v / 2 = 0
  · have : v = 1 := by omega
    subst this; rfl
  · have h2 := (Nat.le_log2 h1).1 (Nat.le_refl _)
    have h3 := (Nat.log2_lt h1).1 (Nat.lt_succ_self _)
    rw [show nb (v / 2) = (v / 2).log2 + 1 by rw [nb, if_neg h1]]
    apply nb_of
    · rw [Nat.pow_succ]; omega
    · rw [Nat.pow_succ]; simp only [Nat.succ_eq_add_one] at h3; omega

theorem Tryd_ent23 : Ent Tryd.prog 23 := ent_of Tryd.func23 (by kernel_rfl) rfl
set_option maxHeartbeats 800000 in
theorem rbits_spec (va : Value) (xs0 : List Nat) (h : Hp) (ha0 : SlF h U va xs0) (hx0 : Al 18446744073709551616 xs0) (hl0 : xs0.length < 68719476736) :
    CallsH Tryd.prog 23 [va] h fun v' h' => v' = N (nb (vl 18446744073709551616 xs0)) ∧ Ext h h' := by
  (apply enter Tryd.func23 rfl Tryd.ntmps23 rfl)
  have lx := d16_len (vlt hx0)
  refine runG ?_
  apply (s_call Tryd_ent47 rfl rfl rfl)
  refine (digits_spec va xs0 h ha0 hx0 (by omega)).mono ?_
  rintro v1 h1 ⟨e1, o1⟩
  refine ⟨(by first | exact trivial | exact Ext.refl _ | assumption | exact Ext.trans (by assumption) (by assumption)), ?_⟩
  have hz : (dg 65536 (vl 18446744073709551616 xs0)).length = 0 ↔ vl 18446744073709551616 xs0 = 0 := dg_len0 (by omega)
  have hv := vl_dg (b := 65536) (by omega) (vl 18446744073709551616 xs0)
  have hdl : ∀ k, vl 18446744073709551616 xs0 < 65536 ^ k → (dg 65536 (vl 18446744073709551616 xs0)).length ≤ k := fun k hk => dg_len (by omega) hk
  have hx := al_dg (b := 65536) (by omega) (vl 18446744073709551616 xs0)
  generalize vl 18446744073709551616 xs0 = X at *
  generalize dg 65536 X = xs at *
  have ha := o1.sl
  refine runG ?_
  (apply w_condD; exact rfl; exact rfl) <;> intro h0
  · refine runG ?_
    exact fin1 rfl rfl ⟨by rw [hz.1 h0]; rfl, e1⟩
  · obtain ⟨m, hm⟩ : ∃ m, xs.length = m + 1 := ⟨xs.length - 1, by omega⟩
    have hsp : X = pv 65536 xs m + 65536 ^ m * xs.getD m 0 := by rw [← hv, ← pv_full (k := m + 1) (by omega)]; rfl
    have htop : xs.getD m 0 ≠ 0 := by
      intro hz'
      rw [hz', Nat.mul_zero, Nat.add_zero] at hsp
      have h3 := pv_lt hx (by omega) m
      rw [← hsp] at h3
      have := hdl m h3
      omega
    have htw := hx.getD (by omega) m
    have hnb : nb X = 16 * m + nb (xs.getD m 0) := by
      have h1 : nb (xs.getD m 0) = (xs.getD m 0).log2 + 1 := by rw [nb, if_neg htop]
      have h2 := (Nat.le_log2 htop).1 (Nat.le_refl _)
      have h3 := (Nat.log2_lt htop).1 (Nat.lt_succ_self _)
      rw [← hv, nb_top (k := 16) (by rfl) hx hm h2 h3, h1, Nat.add_assoc]
    have hnl : nb (xs.getD m 0) ≤ 16 := by
      rw [nb, if_neg htop]
      have := (Nat.log2_lt htop).2 (show xs.getD m 0 < 2 ^ 16 by omega)
      omega
    refine runG ?_
    rw [hm, Nat.add_sub_cancel]
    refine runG ?_
    rw [hnb]
    generalize xs.getD m 0 = tp at *
    (first | (apply w_seqB; exact rfl; apply w_block; exact rfl) | skip)
    apply (w_loop (σ := Nat × Nat) rfl (fun p => [(4, N p.1), (5, N p.2)]) (fun p h' => h1 = h' ∧ p.1 + nb p.2 = 16 * m + nb tp ∧ p.2 < 65536) (fun p => p.2) (16 * m, tp))
    · exact (Sub.cons rfl (Sub.cons rfl (Sub.nil _)))
    · exact ⟨rfl, rfl, htw⟩
    · rintro ⟨n, v⟩ _ ⟨rfl, j1, j2⟩
      dsimp only at j1 j2 ⊢
      refine runG ?_
      (apply w_condD; exact rfl; exact rfl) <;> intro hc
      · have hs := nb_half (v := v) (by omega)
        refine runG ?_
        apply again_normal (n + 1, v / 2)
        · exact (Sub.cons rfl (Sub.cons rfl (Sub.nil _)))
        · exact ⟨rfl, by simp only []; omega, by simp only []; omega⟩
        · simp only []; omega
      · have hv0 : v = 0 := by omega
        subst hv0
        refine runG ?_
        refine fin1 rfl rfl ⟨congrArg I ?_, e1⟩
        rw [← j1]; rfl

theorem Tryd_ent18 : Ent Tryd.prog 18 := ent_of Tryd.func18 (by kernel_rfl) rfl
theorem radd_spec (va vb : Value) (xs ys : List Nat) (h : Hp) (ha : SlF h U va xs) (hb : SlF h U vb ys) (hx : Al 18446744073709551616 xs) (hy : Al 18446744073709551616 ys) (hl : xs.length < 68719476736) (hl2 : ys.length < 68719476736) :
    CallsH Tryd.prog 18 [va, vb] h fun v' h' => Ext h h' ∧ OwnF h' h.size 31 U v' (dg 18446744073709551616 (vl 18446744073709551616 xs + vl 18446744073709551616 ys)) := by
  (apply enter Tryd.func18 rfl Tryd.ntmps18 rfl)
  have lx := d16_len (vlt hx)
  have ly := d16_len (vlt hy)
  have lz := d16_len (d16_add (vlt hx) (vlt hy))
  refine runG ?_
  apply (s_call Tryd_ent47 rfl rfl rfl)
  refine (digits_spec va xs h ha hx (by omega)).mono ?_
  rintro v1 h1 ⟨e1, o1⟩
  refine ⟨(by first | exact trivial | exact Ext.refl _ | assumption | exact Ext.trans (by assumption) (by assumption)), ?_⟩
  have hb1 := hb.ext e1
  refine runG ?_
  apply (s_call Tryd_ent47 rfl rfl rfl)
  refine (digits_spec vb ys h1 hb1 hy (by omega)).mono ?_
  rintro v2 h2 ⟨e2, o2⟩
  refine ⟨(by first | exact trivial | exact Ext.refl _ | assumption | exact Ext.trans (by assumption) (by assumption)), ?_⟩
  have o1' := o1.ext e2
  refine runG ?_
  apply (s_call Tryd_ent46 rfl rfl rfl)
  refine (plus_spec v1 v2 _ _ h2 o1'.sl o2.sl (al_dg (by omega) _) (al_dg (by omega) _) (by omega) (by omega)).mono ?_
  rintro v3 h3 ⟨e3, o3⟩
  refine ⟨(by first | exact trivial | exact Ext.refl _ | assumption | exact Ext.trans (by assumption) (by assumption)), ?_⟩
  rw [vl_dg (by omega), vl_dg (by omega)] at o3
  refine runG ?_
  apply (s_call Tryd_ent45 rfl rfl rfl)
  refine (from_spec v3 _ h3 o3.sl (al_dg (by omega) _) (by omega)).mono ?_
  rintro v4 h4 ⟨e4, o4⟩
  refine ⟨(by first | exact trivial | exact Ext.refl _ | assumption | exact Ext.trans (by assumption) (by assumption)), ?_⟩
  rw [vl_dg (by omega)] at o4
  refine runG ?_
  have e := (e1.trans e2).trans e3
  exact fin1 rfl rfl ⟨e.trans e4, o4.base e.1⟩

theorem Tryd_ent19 : Ent Tryd.prog 19 := ent_of Tryd.func19 (by kernel_rfl) rfl
theorem rmul_spec (va vb : Value) (xs ys : List Nat) (h : Hp) (ha : SlF h U va xs) (hb : SlF h U vb ys) (hx : Al 18446744073709551616 xs) (hy : Al 18446744073709551616 ys) (hl : xs.length < 68719476736) (hl2 : ys.length < 68719476736) :
    CallsH Tryd.prog 19 [va, vb] h fun v' h' => Ext h h' ∧ OwnF h' h.size 31 U v' (dg 18446744073709551616 (vl 18446744073709551616 xs * vl 18446744073709551616 ys)) := by
  (apply enter Tryd.func19 rfl Tryd.ntmps19 rfl)
  have lx := d16_len (vlt hx)
  have ly := d16_len (vlt hy)
  have lz := d16_len (d16_mul (vlt hx) (vlt hy))
  refine runG ?_
  apply (s_call Tryd_ent47 rfl rfl rfl)
  refine (digits_spec va xs h ha hx (by omega)).mono ?_
  rintro v1 h1 ⟨e1, o1⟩
  refine ⟨(by first | exact trivial | exact Ext.refl _ | assumption | exact Ext.trans (by assumption) (by assumption)), ?_⟩
  have hb1 := hb.ext e1
  refine runG ?_
  apply (s_call Tryd_ent47 rfl rfl rfl)
  refine (digits_spec vb ys h1 hb1 hy (by omega)).mono ?_
  rintro v2 h2 ⟨e2, o2⟩
  refine ⟨(by first | exact trivial | exact Ext.refl _ | assumption | exact Ext.trans (by assumption) (by assumption)), ?_⟩
  have o1' := o1.ext e2
  refine runG ?_
  apply (s_call Tryd_ent48 rfl rfl rfl)
  refine (times_spec v1 v2 _ _ h2 o1'.sl o2.sl (al_dg (by omega) _) (al_dg (by omega) _) (by omega) (by omega)).mono ?_
  rintro v3 h3 ⟨e3, o3⟩
  refine ⟨(by first | exact trivial | exact Ext.refl _ | assumption | exact Ext.trans (by assumption) (by assumption)), ?_⟩
  rw [vl_dg (by omega), vl_dg (by omega)] at o3
  refine runG ?_
  apply (s_call Tryd_ent45 rfl rfl rfl)
  refine (from_spec v3 _ h3 o3.sl (al_dg (by omega) _) (by omega)).mono ?_
  rintro v4 h4 ⟨e4, o4⟩
  refine ⟨(by first | exact trivial | exact Ext.refl _ | assumption | exact Ext.trans (by assumption) (by assumption)), ?_⟩
  rw [vl_dg (by omega)] at o4
  refine runG ?_
  have e := (e1.trans e2).trans e3
  exact fin1 rfl rfl ⟨e.trans e4, o4.base e.1⟩

theorem Tryd_ent41 : Ent Tryd.prog 41 := ent_of Tryd.func41 (by kernel_rfl) rfl
theorem rsub_spec (va vb : Value) (xs ys : List Nat) (h : Hp) (ha : SlF h U va xs) (hb : SlF h U vb ys) (hx : Al 18446744073709551616 xs) (hy : Al 18446744073709551616 ys) (hl : xs.length < 68719476736) (hl2 : ys.length < 68719476736) :
    CallsH Tryd.prog 41 [va, vb] h fun v' h' => Ext h h' ∧
      (vl 18446744073709551616 xs < vl 18446744073709551616 ys → v' = .tuple [.slice none 0 0, N 5].toArray) ∧
      (vl 18446744073709551616 ys ≤ vl 18446744073709551616 xs → ∃ v1, v' = .tuple [v1, N 0].toArray ∧ OwnF h' h.size 31 U v1 (dg 18446744073709551616 (vl 18446744073709551616 xs - vl 18446744073709551616 ys))) := by
  (apply enter Tryd.func41 rfl Tryd.ntmps41 rfl)
  have lx := d16_len (vlt hx)
  have ly := d16_len (vlt hy)
  have lz := d16_len (Nat.lt_of_le_of_lt (Nat.sub_le (vl 18446744073709551616 xs) (vl 18446744073709551616 ys)) (vlt hx))
  refine runG ?_
  apply (s_call Tryd_ent32 rfl rfl rfl)
  refine (rcmp_spec va vb xs ys h ha hb hx hy hl hl2).mono ?_
  rintro _ h0 ⟨rfl, e0⟩
  refine ⟨(by first | exact trivial | exact Ext.refl _ | assumption | exact Ext.trans (by assumption) (by assumption)), ?_⟩
  have ha0 := ha.ext e0
  refine runG ?_
  (apply w_condD; exact rfl; exact rfl) <;> intro hc
  · rw [cmpI_neg] at hc
    refine runG ?_
    exact fin2 rfl rfl rfl ⟨e0, fun _ => rfl, fun hh => by omega⟩
  · rw [cmpI_neg] at hc
    refine runG ?_
    apply (s_call Tryd_ent47 rfl rfl rfl)
    refine (digits_spec va xs h0 ha0 hx (by omega)).mono ?_
    rintro v1 h1 ⟨e1, o1⟩
    refine ⟨(by first | exact trivial | exact Ext.refl _ | assumption | exact Ext.trans (by assumption) (by assumption)), ?_⟩
    have hb1 := hb.ext (e0.trans e1)
    refine runG ?_
    apply (s_call Tryd_ent47 rfl rfl rfl)
    refine (digits_spec vb ys h1 hb1 hy (by omega)).mono ?_
    rintro v2 h2 ⟨e2, o2⟩
    refine ⟨(by first | exact trivial | exact Ext.refl _ | assumption | exact Ext.trans (by assumption) (by assumption)), ?_⟩
    have o1' := o1.ext e2
    refine runG ?_
    apply (s_call Tryd_ent69 rfl rfl rfl)
    refine (less_spec v1 v2 _ _ h2 o1'.sl o2.sl (al_dg (by omega) _) (al_dg (by omega) _) (by omega) (by omega) (by rw [vl_dg (by omega), vl_dg (by omega)]; omega)).mono ?_
    rintro v3 h3 ⟨e3, o3⟩
    refine ⟨(by first | exact trivial | exact Ext.refl _ | assumption | exact Ext.trans (by assumption) (by assumption)), ?_⟩
    rw [vl_dg (by omega), vl_dg (by omega)] at o3
    refine runG ?_
    apply (s_call Tryd_ent45 rfl rfl rfl)
    refine (from_spec v3 _ h3 o3.sl (al_dg (by omega) _) (by omega)).mono ?_
    rintro v4 h4 ⟨e4, o4⟩
    refine ⟨(by first | exact trivial | exact Ext.refl _ | assumption | exact Ext.trans (by assumption) (by assumption)), ?_⟩
    rw [vl_dg (by omega)] at o4
    refine runG ?_
    have e := ((e0.trans e1).trans e2).trans e3
    exact fin2 rfl rfl rfl ⟨e.trans e4, fun hh => absurd hh hc, fun _ => ⟨_, rfl, o4.base e.1⟩⟩

end Go.Proofs.YtajgcmgkhmkmbaaDoor

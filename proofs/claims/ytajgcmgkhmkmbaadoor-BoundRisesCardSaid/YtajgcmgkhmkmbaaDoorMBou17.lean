/- Texts NatO to NatP of this work, joined: each says in its own head what it proves, and of which condition. -/
import Derived.Test.YtajgcmgkhmkmbaaDoorMBou16
/- Naturals: the reference's functions on naturals, by contracts. No condition. -/
namespace Go.Proofs.YtajgcmgkhmkmbaaDoor
set_option linter.unusedVariables false
set_option maxRecDepth 8000
open Go Go.Den Go.RowKit Go.Dig

theorem vlt {xs : List Nat} (hx : Al 18446744073709551616 xs) : vl 18446744073709551616 xs < 65536 ^ (4 * xs.length) := by rw [pow64]; exact vl_lt hx
theorem d16_len {X n : Nat} (h : X < 65536 ^ (4 * n)) : (dg 65536 X).length ≤ 4 * n := dg_len (by omega) h
theorem d16_add {X Y m n : Nat} (h : X < 65536 ^ (4 * m)) (k : Y < 65536 ^ (4 * n)) : X + Y < 65536 ^ (4 * (m + n + 1)) := by
  have a : 65536 ^ (4 * m) ≤ 65536 ^ (4 * (m + n)) := Nat.pow_le_pow_right (by omega) (by omega)
  have b : 65536 ^ (4 * n) ≤ 65536 ^ (4 * (m + n)) := Nat.pow_le_pow_right (by omega) (by omega)
  have c : 65536 ^ (4 * (m + n + 1)) = 65536 ^ (4 * (m + n)) * 65536 ^ 4 := by rw [show 4 * (m + n + 1) = 4 * (m + n) + 4 by omega, Nat.pow_add]
  have d : 65536 ^ (4 * (m + n)) * 2 ≤ 65536 ^ (4 * (m + n)) * 65536 ^ 4 := Nat.mul_le_mul_left _ (by omega)
  rw [c]; omega
theorem d16_mul {X Y m n : Nat} (h : X < 65536 ^ (4 * m)) (k : Y < 65536 ^ (4 * n)) : X * Y < 65536 ^ (4 * (m + n)) := by
  rw [show 4 * (m + n) = 4 * m + 4 * n by omega, Nat.pow_add]; exact Nat.mul_lt_mul'' h k

theorem Tryd_ent20 : Ent Tryd.prog 20 := ent_of Tryd.func20 (by kernel_rfl) rfl
theorem rof_spec (w : Nat) (h : Hp) (hw : w < 18446744073709551616) :
    CallsH Tryd.prog 20 [U w] h fun v' h' => Ext h h' ∧ OwnF h' h.size 31 U v' (dg 18446744073709551616 w) := by
  (apply enter Tryd.func20 rfl Tryd.ntmps20 rfl)
  refine runG ?_
  (apply (s_litF (f := U) [w] (fun _ => rfl)); exact rfl; exact rfl; exact rfl; exact rfl; exact rfl; exact rfl; exact rfl; exact rfl; omega)
  intro v1 h1 o1 e1 b1
  refine ⟨(by first | exact trivial | exact Ext.refl _ | assumption | exact Ext.trans (by assumption) (by assumption)), ?_⟩
  have ha : Al 18446744073709551616 [w] := Al.cons hw Al.nil
  have hv := vlt ha
  have hl := d16_len hv
  rw [show vl 18446744073709551616 [w] = w by simp [vl]] at hv hl
  refine runG ?_
  apply (s_call Tryd_ent47 rfl rfl rfl)
  refine (digits_spec v1 [w] h1 o1.sl ha (by simp)).mono ?_
  rintro v2 h2 ⟨e2, o2⟩
  refine ⟨(by first | exact trivial | exact Ext.refl _ | assumption | exact Ext.trans (by assumption) (by assumption)), ?_⟩
  rw [show vl 18446744073709551616 [w] = w by simp [vl]] at o2
  refine runG ?_
  apply (s_call Tryd_ent45 rfl rfl rfl)
  refine (from_spec v2 _ h2 o2.sl (al_dg (by omega) _) (by simp at hl; omega)).mono ?_
  rintro v3 h3 ⟨e3, o3⟩
  refine ⟨(by first | exact trivial | exact Ext.refl _ | assumption | exact Ext.trans (by assumption) (by assumption)), ?_⟩
  rw [vl_dg (by omega)] at o3
  refine runG ?_
  exact fin1 rfl rfl ⟨(e1.trans e2).trans e3, o3.base (e1.trans e2).1⟩

theorem Tryd_ent32 : Ent Tryd.prog 32 := ent_of Tryd.func32 (by kernel_rfl) rfl
theorem rcmp_spec (va vb : Value) (xs ys : List Nat) (h : Hp) (ha : SlF h U va xs) (hb : SlF h U vb ys) (hx : Al 18446744073709551616 xs) (hy : Al 18446744073709551616 ys) (hl : xs.length < 68719476736) (hl2 : ys.length < 68719476736) :
    CallsH Tryd.prog 32 [va, vb] h fun v' h' => v' = I (cmpI (vl 18446744073709551616 xs) (vl 18446744073709551616 ys)) ∧ Ext h h' := by
  (apply enter Tryd.func32 rfl Tryd.ntmps32 rfl)
  have lx := d16_len (vlt hx)
  have ly := d16_len (vlt hy)
  refine runG ?_
  apply (s_call Tryd_ent47 rfl rfl rfl)
  refine (digits_spec va xs h ha hx (by omega)).mono ?_
  rintro v1 h1 ⟨e1, o1⟩
  refine ⟨(by first | exact trivial | exact Ext.refl _ | assumption | exact Ext.trans (by assumption) (by assumption)), ?_⟩
  have hb1 := hb.ext e1
  refine runG ?_
  apply (s_call Tryd_ent47 rfl rfl rfl)
  refine (digits_spec vb ys h1 hb1 hy (by omega)).mono ?_
  rintro v2 h2 ⟨e2, o2⟩
  refine ⟨(by first | exact trivial | exact Ext.refl _ | assumption | exact Ext.trans (by assumption) (by assumption)), ?_⟩
  have o1' := o1.ext e2
  refine runG ?_
  apply (s_call Tryd_ent62 rfl rfl rfl)
  refine (compare_spec v1 v2 _ _ h2 o1'.sl o2.sl (al_dg (by omega) _) (nrm_dg (by omega) _) (al_dg (by omega) _) (nrm_dg (by omega) _) (by omega) (by omega)).mono ?_
  rintro _ _ ⟨rfl, rfl⟩
  refine ⟨(by first | exact trivial | exact Ext.refl _ | assumption | exact Ext.trans (by assumption) (by assumption)), ?_⟩
  rw [vl_dg (by omega), vl_dg (by omega)]
  refine runG ?_
  exact fin1 rfl rfl ⟨rfl, e1.trans e2⟩

theorem nb_half {v : Nat} (h : v ≠ 0) : nb v = nb (v / 2) + 1 := by
  by_cases h1 : v / 2 = 0
  · have : v = 1 := by omega
    subst this; rfl
  · have h2 := (Nat.le_log2 h1).1 (Nat.le_refl _)
    have h3 := (Nat.log2_lt h1).1 (Nat.lt_succ_self _)
    rw [show nb (v / 2) = (v / 2).log2 + 1 by rw [nb, if_neg h1]]
    apply nb_of
    · rw [Nat.pow_succ]; omega
    · rw [Nat.pow_succ]; simp only [Nat.succ_eq_add_one] at h3; omega

theorem Tryd_ent23 : Ent Tryd.prog 23 := ent_of Tryd.func23 (by kernel_rfl) rfl
set_option maxHeartbeats 800000 in
theorem rbits_spec (va : Value) (xs0 : List Nat) (h : Hp) (ha0 : SlF h U va xs0) (hx0 : Al 18446744073709551616 xs0) (hl0 : xs0.length < 68719476736) :
    CallsH Tryd.prog 23 [va] h fun v' h' => v' = N (nb (vl 18446744073709551616 xs0)) ∧ Ext h h' := by
  (apply enter Tryd.func23 rfl Tryd.ntmps23 rfl)
  have lx := d16_len (vlt hx0)
  refine runG ?_
  apply (s_call Tryd_ent47 rfl rfl rfl)
  refine (digits_spec va xs0 h ha0 hx0 (by omega)).mono ?_
  rintro v1 h1 ⟨e1, o1⟩
  refine ⟨(by first | exact trivial | exact Ext.refl _ | assumption | exact Ext.trans (by assumption) (by assumption)), ?_⟩
  have hz : (dg 65536 (vl 18446744073709551616 xs0)).length = 0 ↔ vl 18446744073709551616 xs0 = 0 := dg_len0 (by omega)
  have hv := vl_dg (b := 65536) (by omega) (vl 18446744073709551616 xs0)
  have hdl : ∀ k, vl 18446744073709551616 xs0 < 65536 ^ k → (dg 65536 (vl 18446744073709551616 xs0)).length ≤ k := fun k hk => dg_len (by omega) hk
  have hx := al_dg (b := 65536) (by omega) (vl 18446744073709551616 xs0)
  generalize vl 18446744073709551616 xs0 = X at *
  generalize dg 65536 X = xs at *
  have ha := o1.sl
  refine runG ?_
  (apply w_condD; exact rfl; exact rfl) <;> intro h0
  · refine runG ?_
    exact fin1 rfl rfl ⟨by rw [hz.1 h0]; rfl, e1⟩
  · obtain ⟨m, hm⟩ : ∃ m, xs.length = m + 1 := ⟨xs.length - 1, by omega⟩
    have hsp : X = pv 65536 xs m + 65536 ^ m * xs.getD m 0 := by rw [← hv, ← pv_full (k := m + 1) (by omega)]; rfl
    have htop : xs.getD m 0 ≠ 0 := by
      intro hz'
      rw [hz', Nat.mul_zero, Nat.add_zero] at hsp
      have h3 := pv_lt hx (by omega) m
      rw [← hsp] at h3
      have := hdl m h3
      omega
    have htw := hx.getD (by omega) m
    have hnb : nb X = 16 * m + nb (xs.getD m 0) := by
      have h1 : nb (xs.getD m 0) = (xs.getD m 0).log2 + 1 := by rw [nb, if_neg htop]
      have h2 := (Nat.le_log2 htop).1 (Nat.le_refl _)
      have h3 := (Nat.log2_lt htop).1 (Nat.lt_succ_self _)
      rw [← hv, nb_top (k := 16) (by rfl) hx hm h2 h3, h1, Nat.add_assoc]
    have hnl : nb (xs.getD m 0) ≤ 16 := by
      rw [nb, if_neg htop]
      have := (Nat.log2_lt htop).2 (show xs.getD m 0 < 2 ^ 16 by omega)
      omega
    refine runG ?_
    rw [hm, Nat.add_sub_cancel]
    refine runG ?_
    rw [hnb]
    generalize xs.getD m 0 = tp at *
    (first | (apply w_seqB; exact rfl; apply w_block; exact rfl) | skip)
    apply (w_loop (σ := Nat × Nat) rfl (fun p => [(4, N p.1), (5, N p.2)]) (fun p h' => h1 = h' ∧ p.1 + nb p.2 = 16 * m + nb tp ∧ p.2 < 65536) (fun p => p.2) (16 * m, tp))
    · exact (Sub.cons rfl (Sub.cons rfl (Sub.nil _)))
    · exact ⟨rfl, rfl, htw⟩
    · rintro ⟨n, v⟩ _ ⟨rfl, j1, j2⟩
      dsimp only at j1 j2 ⊢
      refine runG ?_
      (apply w_condD; exact rfl; exact rfl) <;> intro hc
      · have hs := nb_half (v := v) (by omega)
        refine runG ?_
        apply again_normal (n + 1, v / 2)
        · exact (Sub.cons rfl (Sub.cons rfl (Sub.nil _)))
        · exact ⟨rfl, by simp only []; omega, by simp only []; omega⟩
        · simp only []; omega
      · have hv0 : v = 0 := by omega
        subst hv0
        refine runG ?_
        refine fin1 rfl rfl ⟨congrArg I ?_, e1⟩
        rw [← j1]; rfl

theorem Tryd_ent18 : Ent Tryd.prog 18 := ent_of Tryd.func18 (by kernel_rfl) rfl
theorem radd_spec (va vb : Value) (xs ys : List Nat) (h : Hp) (ha : SlF h U va xs) (hb : SlF h U vb ys) (hx : Al 18446744073709551616 xs) (hy : Al 18446744073709551616 ys) (hl : xs.length < 68719476736) (hl2 : ys.length < 68719476736) :
    CallsH Tryd.prog 18 [va, vb] h fun v' h' => Ext h h' ∧ OwnF h' h.size 31 U v' (dg 18446744073709551616 (vl 18446744073709551616 xs + vl 18446744073709551616 ys)) := by
  (apply enter Tryd.func18 rfl Tryd.ntmps18 rfl)
  have lx := d16_len (vlt hx)
  have ly := d16_len (vlt hy)
  have lz := d16_len (d16_add (vlt hx) (vlt hy))
  refine runG ?_
  apply (s_call Tryd_ent47 rfl rfl rfl)
  refine (digits_spec va xs h ha hx (by omega)).mono ?_
  rintro v1 h1 ⟨e1, o1⟩
  refine ⟨(by first | exact trivial | exact Ext.refl _ | assumption | exact Ext.trans (by assumption) (by assumption)), ?_⟩
  have hb1 := hb.ext e1
  refine runG ?_
  apply (s_call Tryd_ent47 rfl rfl rfl)
  refine (digits_spec vb ys h1 hb1 hy (by omega)).mono ?_
  rintro v2 h2 ⟨e2, o2⟩
  refine ⟨(by first | exact trivial | exact Ext.refl _ | assumption | exact Ext.trans (by assumption) (by assumption)), ?_⟩
  have o1' := o1.ext e2
  refine runG ?_
  apply (s_call Tryd_ent46 rfl rfl rfl)
  refine (plus_spec v1 v2 _ _ h2 o1'.sl o2.sl (al_dg (by omega) _) (al_dg (by omega) _) (by omega) (by omega)).mono ?_
  rintro v3 h3 ⟨e3, o3⟩
  refine ⟨(by first | exact trivial | exact Ext.refl _ | assumption | exact Ext.trans (by assumption) (by assumption)), ?_⟩
  rw [vl_dg (by omega), vl_dg (by omega)] at o3
  refine runG ?_
  apply (s_call Tryd_ent45 rfl rfl rfl)
  refine (from_spec v3 _ h3 o3.sl (al_dg (by omega) _) (by omega)).mono ?_
  rintro v4 h4 ⟨e4, o4⟩
  refine ⟨(by first | exact trivial | exact Ext.refl _ | assumption | exact Ext.trans (by assumption) (by assumption)), ?_⟩
  rw [vl_dg (by omega)] at o4
  refine runG ?_
  have e := (e1.trans e2).trans e3
  exact fin1 rfl rfl ⟨e.trans e4, o4.base e.1⟩

theorem Tryd_ent19 : Ent Tryd.prog 19 := ent_of Tryd.func19 (by kernel_rfl) rfl
theorem rmul_spec (va vb : Value) (xs ys : List Nat) (h : Hp) (ha : SlF h U va xs) (hb : SlF h U vb ys) (hx : Al 18446744073709551616 xs) (hy : Al 18446744073709551616 ys) (hl : xs.length < 68719476736) (hl2 : ys.length < 68719476736) :
    CallsH Tryd.prog 19 [va, vb] h fun v' h' => Ext h h' ∧ OwnF h' h.size 31 U v' (dg 18446744073709551616 (vl 18446744073709551616 xs * vl 18446744073709551616 ys)) := by
  (apply enter Tryd.func19 rfl Tryd.ntmps19 rfl)
  have lx := d16_len (vlt hx)
  have ly := d16_len (vlt hy)
  have lz := d16_len (d16_mul (vlt hx) (vlt hy))
  refine runG ?_
  apply (s_call Tryd_ent47 rfl rfl rfl)
  refine (digits_spec va xs h ha hx (by omega)).mono ?_
  rintro v1 h1 ⟨e1, o1⟩
  refine ⟨(by first | exact trivial | exact Ext.refl _ | assumption | exact Ext.trans (by assumption) (by assumption)), ?_⟩
  have hb1 := hb.ext e1
  refine runG ?_
  apply (s_call Tryd_ent47 rfl rfl rfl)
  refine (digits_spec vb ys h1 hb1 hy (by omega)).mono ?_
  rintro v2 h2 ⟨e2, o2⟩
  refine ⟨(by first | exact trivial | exact Ext.refl _ | assumption | exact Ext.trans (by assumption) (by assumption)), ?_⟩
  have o1' := o1.ext e2
  refine runG ?_
  apply (s_call Tryd_ent48 rfl rfl rfl)
  refine (times_spec v1 v2 _ _ h2 o1'.sl o2.sl (al_dg (by omega) _) (al_dg (by omega) _) (by omega) (by omega)).mono ?_
  rintro v3 h3 ⟨e3, o3⟩
  refine ⟨(by first | exact trivial | exact Ext.refl _ | assumption | exact Ext.trans (by assumption) (by assumption)), ?_⟩
  rw [vl_dg (by omega), vl_dg (by omega)] at o3
  refine runG ?_
  apply (s_call Tryd_ent45 rfl rfl rfl)
  refine (from_spec v3 _ h3 o3.sl (al_dg (by omega) _) (by omega)).mono ?_
  rintro v4 h4 ⟨e4, o4⟩
  refine ⟨(by first | exact trivial | exact Ext.refl _ | assumption | exact Ext.trans (by assumption) (by assumption)), ?_⟩
  rw [vl_dg (by omega)] at o4
  refine runG ?_
  have e := (e1.trans e2).trans e3
  exact fin1 rfl rfl ⟨e.trans e4, o4.base e.1⟩

theorem Tryd_ent41 : Ent Tryd.prog 41 := ent_of Tryd.func41 (by kernel_rfl) rfl
theorem rsub_spec (va vb : Value) (xs ys : List Nat) (h : Hp) (ha : SlF h U va xs) (hb : SlF h U vb ys) (hx : Al 18446744073709551616 xs) (hy : Al 18446744073709551616 ys) (hl : xs.length < 68719476736) (hl2 : ys.length < 68719476736) :
    CallsH Tryd.prog 41 [va, vb] h fun v' h' => Ext h h' ∧
      (vl 18446744073709551616 xs < vl 18446744073709551616 ys → v' = .tuple [.slice none 0 0, N 5].toArray) ∧
      (vl 18446744073709551616 ys ≤ vl 18446744073709551616 xs → ∃ v1, v' = .tuple [v1, N 0].toArray ∧ OwnF h' h.size 31 U v1 (dg 18446744073709551616 (vl 18446744073709551616 xs - vl 18446744073709551616 ys))) := by
  (apply enter Tryd.func41 rfl Tryd.ntmps41 rfl)
  have lx := d16_len (vlt hx)
  have ly := d16_len (vlt hy)
  have lz := d16_len (Nat.lt_of_le_of_lt (Nat.sub_le (vl 18446744073709551616 xs) (vl 18446744073709551616 ys)) (vlt hx))
  refine runG ?_
  apply (s_call Tryd_ent32 rfl rfl rfl)
  refine (rcmp_spec va vb xs ys h ha hb hx hy hl hl2).mono ?_
  rintro _ h0 ⟨rfl, e0⟩
  refine ⟨(by first | exact trivial | exact Ext.refl _ | assumption | exact Ext.trans (by assumption) (by assumption)), ?_⟩
  have ha0 := ha.ext e0
  refine runG ?_
  (apply w_condD; exact rfl; exact rfl) <;> intro hc
  · rw [cmpI_neg] at hc
    refine runG ?_
    exact fin2 rfl rfl rfl ⟨e0, fun _ => rfl, fun hh => by omega⟩
  · rw [cmpI_neg] at hc
    refine runG ?_
    apply (s_call Tryd_ent47 rfl rfl rfl)
    refine (digits_spec va xs h0 ha0 hx (by omega)).mono ?_
    rintro v1 h1 ⟨e1, o1⟩
    refine ⟨(by first | exact trivial | exact Ext.refl _ | assumption | exact Ext.trans (by assumption) (by assumption)), ?_⟩
    have hb1 := hb.ext (e0.trans e1)
    refine runG ?_
    apply (s_call Tryd_ent47 rfl rfl rfl)
    refine (digits_spec vb ys h1 hb1 hy (by omega)).mono ?_
    rintro v2 h2 ⟨e2, o2⟩
    refine ⟨(by first | exact trivial | exact Ext.refl _ | assumption | exact Ext.trans (by assumption) (by assumption)), ?_⟩
    have o1' := o1.ext e2
    refine runG ?_
    apply (s_call Tryd_ent69 rfl rfl rfl)
    refine (less_spec v1 v2 _ _ h2 o1'.sl o2.sl (al_dg (by omega) _) (al_dg (by omega) _) (by omega) (by omega) (by rw [vl_dg (by omega), vl_dg (by omega)]; omega)).mono ?_
    rintro v3 h3 ⟨e3, o3⟩
    refine ⟨(by first | exact trivial | exact Ext.refl _ | assumption | exact Ext.trans (by assumption) (by assumption)), ?_⟩
    rw [vl_dg (by omega), vl_dg (by omega)] at o3
    refine runG ?_
    apply (s_call Tryd_ent45 rfl rfl rfl)
    refine (from_spec v3 _ h3 o3.sl (al_dg (by omega) _) (by omega)).mono ?_
    rintro v4 h4 ⟨e4, o4⟩
    refine ⟨(by first | exact trivial | exact Ext.refl _ | assumption | exact Ext.trans (by assumption) (by assumption)), ?_⟩
    rw [vl_dg (by omega)] at o4
    refine runG ?_
    have e := ((e0.trans e1).trans e2).trans e3
    exact fin2 rfl rfl rfl ⟨e.trans e4, fun hh => absurd hh hc, fun _ => ⟨_, rfl, o4.base e.1⟩⟩

end Go.Proofs.YtajgcmgkhmkmbaaDoor

/- Whole numbers: the reference's functions on them, by contracts. No condition. -/
namespace Go.Proofs.YtajgcmgkhmkmbaaDoor
set_option linter.unusedVariables false
set_option maxRecDepth 8000
open Go Go.Den Go.RowKit Go.Dig

theorem Tryd_ent40 : Ent Tryd.prog 40 := ent_of Tryd.func40 (by kernel_rfl) rfl
theorem rwhole_spec (neg : Bool) (va : Value) (xs : List Nat) (h : Hp) (ha : SlF h U va xs) (hx : Al 18446744073709551616 xs) (hl : xs.length < 68719476736) :
    CallsH Tryd.prog 40 [.bool neg, va] h fun v' h' => ∃ v, v' = .agg #[.bool (neg && decide (vl 18446744073709551616 xs ≠ 0)), v] ∧ Ext h h' ∧ OwnF h' h.size 31 U v (dg 18446744073709551616 (vl 18446744073709551616 xs)) := by
  (apply enter Tryd.func40 rfl Tryd.ntmps40 rfl)
  have lx := d16_len (vlt hx)
  refine runG ?_
  (apply s_alloc; exact rfl; exact rfl; exact rfl)
  intro p h1 v1 e1 b1
  (try dsimp only [Value.cells, List.toList_toArray] at v1)
  refine ⟨(by first | exact trivial | exact Ext.refl _ | assumption | exact Ext.trans (by assumption) (by assumption)), ?_⟩
  refine runG ?_
  have ha1 := ha.ext e1
  apply (s_call Tryd_ent47 rfl rfl rfl)
  refine (digits_spec va xs h1 ha1 hx (by omega)).mono ?_
  rintro vd h2 ⟨e2, o2⟩
  refine ⟨(by first | exact trivial | exact Ext.refl _ | assumption | exact Ext.trans (by assumption) (by assumption)), ?_⟩
  refine runG ?_
  apply (s_call Tryd_ent45 rfl rfl rfl)
  refine (from_spec vd _ h2 o2.sl (al_dg (by omega) _) (by omega)).mono ?_
  rintro vn h3 ⟨e3, o3⟩
  refine ⟨(by first | exact trivial | exact Ext.refl _ | assumption | exact Ext.trans (by assumption) (by assumption)), ?_⟩
  rw [vl_dg (by omega)] at o3
  have hz : (dg 18446744073709551616 (vl 18446744073709551616 xs)).length = 0 ↔ vl 18446744073709551616 xs = 0 := dg_len0 (by omega)
  have hDl : (dg 18446744073709551616 (vl 18446744073709551616 xs)).length ≤ xs.length := dg_len (by omega) (vl_lt hx)
  generalize hX : vl 18446744073709551616 xs = X at *
  generalize hD : dg 18446744073709551616 X = D at *
  have s3 := o3.sl
  have v3 := (v1.ext e2).ext e3
  have hs1 := e1.1
  have hs2 := e2.1
  have hlt1 : h.size < h1.size := by
    obtain ⟨k, hk, hlt⟩ := v1.blk
    rw [b1] at hk; cases hk; exact hlt
  cases neg with
  | true =>
    refine runG ?_
    (apply (s_build ([.bool (decide (0 < D.length)), vn])); exact rfl; exact rfl; exact rfl; (repeat (first | exact CellsAll.nil | (apply CellsAll.cons; (first | exact oneL (by assumption) | exact oneL (SlF.one (by assumption)) | exact oneL (SlF.one (OwnF.sl (by assumption))) | exact oneL (Var.one (by assumption)) | exact rfl)))); exact rfl; exact rfl)
    refine runG ?_
    (apply s_storeV; exact rfl; exact rfl; exact rfl; (repeat (first | exact OneAll.nil | (apply OneAll.cons; (first | exact rfl | exact SlF.one (by assumption) | exact SlF.one (OwnF.sl (by assumption)) | exact Var.one (by assumption))))); exact rfl; exact rfl; exact v3; exact rfl)
    intro h4 v4 k4
    (try dsimp only [Value.cells, List.toList_toArray] at v4)
    refine ⟨(by first | exact trivial | exact Ext.refl _ | assumption | exact Ext.only (by assumption) _ | exact Only.trans (Ext.only (by assumption) _) (by assumption)), ?_⟩
    have e4 := k4.oldV ((e1.trans e2).trans e3) b1 (Nat.le_refl _)
    have o4 := (o3.only k4 (o3.neV b1 (by omega))).base (B' := h.size) (by omega)
    refine runG ?_
    refine finC rfl rfl v4 rfl rfl ⟨vn, ?_, e4, o4⟩
    have : (0 < D.length) ↔ X ≠ 0 := by omega
    simp only [this, Bool.true_and]
  | false =>
    refine runG ?_
    (apply (s_build ([.bool false, vn])); exact rfl; exact rfl; exact rfl; (repeat (first | exact CellsAll.nil | (apply CellsAll.cons; (first | exact oneL (by assumption) | exact oneL (SlF.one (by assumption)) | exact oneL (SlF.one (OwnF.sl (by assumption))) | exact oneL (Var.one (by assumption)) | exact rfl)))); exact rfl; exact rfl)
    refine runG ?_
    (apply s_storeV; exact rfl; exact rfl; exact rfl; (repeat (first | exact OneAll.nil | (apply OneAll.cons; (first | exact rfl | exact SlF.one (by assumption) | exact SlF.one (OwnF.sl (by assumption)) | exact Var.one (by assumption))))); exact rfl; exact rfl; exact v3; exact rfl)
    intro h4 v4 k4
    (try dsimp only [Value.cells, List.toList_toArray] at v4)
    refine ⟨(by first | exact trivial | exact Ext.refl _ | assumption | exact Ext.only (by assumption) _ | exact Only.trans (Ext.only (by assumption) _) (by assumption)), ?_⟩
    have e4 := k4.oldV ((e1.trans e2).trans e3) b1 (Nat.le_refl _)
    have o4 := (o3.only k4 (o3.neV b1 (by omega))).base (B' := h.size) (by omega)
    refine runG ?_
    exact finC rfl rfl v4 rfl rfl ⟨vn, by rw [Bool.false_and], e4, o4⟩

theorem Tryd_ent10 : Ent Tryd.prog 10 := ent_of Tryd.func10 (by kernel_rfl) rfl
set_option maxHeartbeats 1600000 in
theorem rsum_spec (n1 n2 : Bool) (va vb : Value) (xs ys : List Nat) (h : Hp) (ha : SlF h U va xs) (hb : SlF h U vb ys) (hx : Al 18446744073709551616 xs) (hy : Al 18446744073709551616 ys) (hl : xs.length < 8589934592) (hl2 : ys.length < 8589934592) :
    CallsH Tryd.prog 10 [.agg #[.bool n1, va], .agg #[.bool n2, vb]] h fun v' h' => Ext h h' ∧ IntOf h' h.size v' (IV n1 (vl 18446744073709551616 xs) + IV n2 (vl 18446744073709551616 ys)) := by
  (apply enter Tryd.func10 rfl Tryd.ntmps10 rfl)
  refine runG ?_
  (apply s_box; exact rfl; exact rfl; exact rfl; exact rfl)
  intro p h1 v1 e1 b1
  (try dsimp only [Value.cells, List.toList_toArray] at v1)
  refine ⟨(by first | exact trivial | exact Ext.refl _ | assumption | exact Ext.trans (by assumption) (by assumption)), ?_⟩
  refine runG ?_
  (apply s_box; exact rfl; exact rfl; exact rfl; exact rfl)
  intro q h2 v2 e2 b2
  (try dsimp only [Value.cells, List.toList_toArray] at v2)
  refine ⟨(by first | exact trivial | exact Ext.refl _ | assumption | exact Ext.trans (by assumption) (by assumption)), ?_⟩
  have v1' := v1.ext e2
  refine runG ?_
  (apply s_alloc; exact rfl; exact rfl; exact rfl)
  intro r h3 v3 e3 b3
  (try dsimp only [Value.cells, List.toList_toArray] at v3)
  refine ⟨(by first | exact trivial | exact Ext.refl _ | assumption | exact Ext.trans (by assumption) (by assumption)), ?_⟩
  have v1'' := v1'.ext e3
  have v2' := v2.ext e3
  refine runG ?_
  have npr := v1'.ne_new b3 (Nat.le_refl _)
  have nqr := v2.ne_new b3 (Nat.le_refl _)
  have npq := v1.ne_new b2 (Nat.le_refl _)
  have E3 := (e1.trans e2).trans e3
  have ha3 := ha.ext E3
  have hb3 := hb.ext E3
  (apply w_condD; exact rfl; exact rfl) <;> intro hn
  · subst hn
    refine runGN ?_
    (apply (r_drawnO (pblk r)); exact rfl; exact mixed; kernel_rfl)
    refine runG ?_
    apply (s_call Tryd_ent18 rfl rfl rfl)
    refine (radd_spec va vb xs ys h3 ha3 hb3 hx hy (by omega) (by omega)).mono ?_
    rintro v4 h4 ⟨e4, o4⟩
    refine ⟨e4.only _, ?_⟩
    refine runG ?_
    have hl4 := dg_len_add (m := max xs.length ys.length) hx hy rfl rfl (by omega) (by omega)
    apply (s_call Tryd_ent40 rfl rfl rfl)
    refine (rwhole_spec n1 v4 _ h4 o4.sl (al_dg (by omega) _) (by omega)).mono ?_
    rintro _ h5 ⟨v5, rfl, e5, o5⟩
    refine ⟨(e4.trans e5).only _, ?_⟩
    rw [vl_dg (by omega)] at o5
    rw [vl_dg (by omega)]
    have e35 := e4.trans e5
    have hs4 := e4.1
    have v3' := v3.ext e35
    refine runG ?_
    (apply s_storeV; exact rfl; exact rfl; exact rfl; (repeat (first | exact OneAll.nil | (apply OneAll.cons; (first | exact rfl | exact SlF.one (by assumption) | exact SlF.one (OwnF.sl (by assumption)) | exact Var.one (by assumption))))); exact rfl; exact rfl; exact v3'; exact rfl)
    intro h6 v6 k6
    (try dsimp only [Value.cells, List.toList_toArray] at v6)
    refine ⟨(by first | exact trivial | exact Ext.refl _ | assumption | exact Ext.only (by assumption) _ | exact Only.trans (Ext.only (by assumption) _) (by assumption)), ?_⟩
    have eh2 := e1.1
    have eh3 := e2.1
    have eh4 := e3.1
    have e6 := k6.oldV (E3.trans e35) b3 (by omega)
    have hr3 : h2.size < h3.size := by
      obtain ⟨k, hk, hlt⟩ := v3.blk
      rw [b3] at hk; cases hk; exact hlt
    have o6 := (o5.only k6 (o5.neV b3 (by have := e4.1; omega))).base (B' := h.size) (by omega)
    refine runG ?_
    exact finC rfl rfl v6 rfl rfl ⟨e6, by rw [← iv_same]; exact IntOf.of o6⟩
  · have hr3 : h2.size < h3.size := by
      obtain ⟨k, hk, hlt⟩ := v3.blk
      rw [b3] at hk; cases hk; exact hlt
    have eh2 := e1.1
    have eh3 := e2.1
    have eh4 := e3.1
    refine runG ?_
    apply (s_call Tryd_ent32 rfl rfl rfl)
    refine (rcmp_spec va vb xs ys h3 ha3 hb3 hx hy (by omega) (by omega)).mono ?_
    rintro _ h4 ⟨rfl, e4⟩
    refine ⟨(by first | exact trivial | exact Ext.refl _ | assumption | exact Ext.trans (by assumption) (by assumption)), ?_⟩
    have v1a := v1''.ext e4
    have v2a := v2'.ext e4
    have v3a := v3.ext e4
    have E4 := E3.trans e4
    have ha4 := ha3.ext e4
    have hb4 := hb3.ext e4
    refine runG ?_
    (apply w_condD; exact rfl; exact rfl) <;> intro hc
    · rw [cmpI_ge] at hc
      have hle : vl 18446744073709551616 ys ≤ vl 18446744073709551616 xs := by omega
      rw [← iv_other hn hle]
      refine runG ?_
      apply (s_call Tryd_ent41 rfl rfl rfl)
      refine (rsub_spec va vb xs ys h4 ha4 hb4 hx hy (by omega) (by omega)).mono ?_
      rintro _ h5 ⟨e5, -, g2⟩
      refine ⟨(by first | exact trivial | exact Ext.refl _ | assumption | exact Ext.trans (by assumption) (by assumption)), ?_⟩
      obtain ⟨v5, rfl, o5⟩ := g2 hle
      have v1b := v1a.ext e5
      have v2b := v2a.ext e5
      have hl5 := dg_len_le (Y := vl 18446744073709551616 xs - vl 18446744073709551616 ys) hx rfl (by omega)
      refine runG ?_
      apply (s_call Tryd_ent40 rfl rfl rfl)
      refine (rwhole_spec n1 v5 _ h5 o5.sl (al_dg (by omega) _) (by omega)).mono ?_
      rintro _ h6 ⟨v6, rfl, e6, o6⟩
      refine ⟨(by first | exact trivial | exact Ext.refl _ | assumption | exact Ext.trans (by assumption) (by assumption)), ?_⟩
      rw [vl_dg (by omega)] at o6
      rw [vl_dg (by omega)]
      have v3b := v3a.ext (e5.trans e6)
      refine runG ?_
      (apply s_storeV; exact rfl; exact rfl; exact rfl; (repeat (first | exact OneAll.nil | (apply OneAll.cons; (first | exact rfl | exact SlF.one (by assumption) | exact SlF.one (OwnF.sl (by assumption)) | exact Var.one (by assumption))))); exact rfl; exact rfl; exact v3b; exact rfl)
      intro h7 v7 k7
      (try dsimp only [Value.cells, List.toList_toArray] at v7)
      refine ⟨(by first | exact trivial | exact Ext.refl _ | assumption | exact Ext.only (by assumption) _ | exact Only.trans (Ext.only (by assumption) _) (by assumption)), ?_⟩
      have e7 := k7.oldV (E4.trans (e5.trans e6)) b3 (by omega)
      have hs5 := e5.1
      have hs4 := e4.1
      have o7 := (o6.only k7 (o6.neV b3 (by omega))).base (B' := h.size) (by omega)
      refine runG ?_
      exact finC rfl rfl v7 rfl rfl ⟨e7, IntOf.of o7⟩
    · rw [cmpI_ge] at hc
      have hle : vl 18446744073709551616 xs ≤ vl 18446744073709551616 ys := by omega
      rw [Int.add_comm, ← iv_other (fun e => hn e.symm) hle]
      refine runG ?_
      apply (s_call Tryd_ent41 rfl rfl rfl)
      refine (rsub_spec vb va ys xs h4 hb4 ha4 hy hx (by omega) (by omega)).mono ?_
      rintro _ h5 ⟨e5, -, g2⟩
      refine ⟨(by first | exact trivial | exact Ext.refl _ | assumption | exact Ext.trans (by assumption) (by assumption)), ?_⟩
      obtain ⟨v5, rfl, o5⟩ := g2 hle
      have v1b := v1a.ext e5
      have v2b := v2a.ext e5
      have hl5 := dg_len_le (Y := vl 18446744073709551616 ys - vl 18446744073709551616 xs) hy rfl (by omega)
      refine runG ?_
      apply (s_call Tryd_ent40 rfl rfl rfl)
      refine (rwhole_spec n2 v5 _ h5 o5.sl (al_dg (by omega) _) (by omega)).mono ?_
      rintro _ h6 ⟨v6, rfl, e6, o6⟩
      refine ⟨(by first | exact trivial | exact Ext.refl _ | assumption | exact Ext.trans (by assumption) (by assumption)), ?_⟩
      rw [vl_dg (by omega)] at o6
      rw [vl_dg (by omega)]
      have v3b := v3a.ext (e5.trans e6)
      refine runG ?_
      (apply s_storeV; exact rfl; exact rfl; exact rfl; (repeat (first | exact OneAll.nil | (apply OneAll.cons; (first | exact rfl | exact SlF.one (by assumption) | exact SlF.one (OwnF.sl (by assumption)) | exact Var.one (by assumption))))); exact rfl; exact rfl; exact v3b; exact rfl)
      intro h7 v7 k7
      (try dsimp only [Value.cells, List.toList_toArray] at v7)
      refine ⟨(by first | exact trivial | exact Ext.refl _ | assumption | exact Ext.only (by assumption) _ | exact Only.trans (Ext.only (by assumption) _) (by assumption)), ?_⟩
      have e7 := k7.oldV (E4.trans (e5.trans e6)) b3 (by omega)
      have hs5 := e5.1
      have hs4 := e4.1
      have o7 := (o6.only k7 (o6.neV b3 (by omega))).base (B' := h.size) (by omega)
      refine runG ?_
      exact finC rfl rfl v7 rfl rfl ⟨e7, IntOf.of o7⟩

theorem Tryd_ent11 : Ent Tryd.prog 11 := ent_of Tryd.func11 (by kernel_rfl) rfl
set_option maxHeartbeats 1600000 in
theorem rtimes_spec (n1 n2 : Bool) (va vb : Value) (xs ys : List Nat) (h : Hp) (ha : SlF h U va xs) (hb : SlF h U vb ys) (hx : Al 18446744073709551616 xs) (hy : Al 18446744073709551616 ys) (hl : xs.length < 8589934592) (hl2 : ys.length < 8589934592) :
    CallsH Tryd.prog 11 [.agg #[.bool n1, va], .agg #[.bool n2, vb]] h fun v' h' => Ext h h' ∧ IntOf h' h.size v' (IV n1 (vl 18446744073709551616 xs) * IV n2 (vl 18446744073709551616 ys)) := by
  (apply enter Tryd.func11 rfl Tryd.ntmps11 rfl)
  refine runG ?_
  (apply s_box; exact rfl; exact rfl; exact rfl; exact rfl)
  intro p h1 v1 e1 b1
  (try dsimp only [Value.cells, List.toList_toArray] at v1)
  refine ⟨(by first | exact trivial | exact Ext.refl _ | assumption | exact Ext.trans (by assumption) (by assumption)), ?_⟩
  refine runG ?_
  (apply s_box; exact rfl; exact rfl; exact rfl; exact rfl)
  intro q h2 v2 e2 b2
  (try dsimp only [Value.cells, List.toList_toArray] at v2)
  refine ⟨(by first | exact trivial | exact Ext.refl _ | assumption | exact Ext.trans (by assumption) (by assumption)), ?_⟩
  have v1' := v1.ext e2
  refine runG ?_
  (apply s_alloc; exact rfl; exact rfl; exact rfl)
  intro r h3 v3 e3 b3
  (try dsimp only [Value.cells, List.toList_toArray] at v3)
  refine ⟨(by first | exact trivial | exact Ext.refl _ | assumption | exact Ext.trans (by assumption) (by assumption)), ?_⟩
  have v1'' := v1'.ext e3
  have v2' := v2.ext e3
  have npr := v1'.ne_new b3 (Nat.le_refl _)
  have nqr := v2.ne_new b3 (Nat.le_refl _)
  have E3 := (e1.trans e2).trans e3
  have ha3 := ha.ext E3
  have hb3 := hb.ext E3
  have eh2 := e1.1
  have eh3 := e2.1
  have eh4 := e3.1
  have hr3 : h2.size < h3.size := by
    obtain ⟨k, hk, hlt⟩ := v3.blk
    rw [b3] at hk; cases hk; exact hlt
  refine runGN ?_
  (apply (r_drawnO (pblk r)); exact rfl; exact mixed; kernel_rfl)
  refine runG ?_
  apply (s_call Tryd_ent19 rfl rfl rfl)
  refine (rmul_spec va vb xs ys h3 ha3 hb3 hx hy (by omega) (by omega)).mono ?_
  rintro v4 h4 ⟨e4, o4⟩
  refine ⟨e4.only _, ?_⟩
  have hl4 := dg_len_mul hx hy
  refine runG ?_
  apply (s_call Tryd_ent40 rfl rfl rfl)
  refine (rwhole_spec (decide (n1 ≠ n2)) v4 _ h4 o4.sl (al_dg (by omega) _) (by omega)).mono ?_
  rintro _ h5 ⟨v5, rfl, e5, o5⟩
  refine ⟨(e4.trans e5).only _, ?_⟩
  rw [vl_dg (by omega)] at o5
  rw [vl_dg (by omega)]
  have e35 := e4.trans e5
  have hs4 := e4.1
  have v3' := v3.ext e35
  refine runG ?_
  (apply s_storeV; exact rfl; exact rfl; exact rfl; (repeat (first | exact OneAll.nil | (apply OneAll.cons; (first | exact rfl | exact SlF.one (by assumption) | exact SlF.one (OwnF.sl (by assumption)) | exact Var.one (by assumption))))); exact rfl; exact rfl; exact v3'; exact rfl)
  intro h6 v6 k6
  (try dsimp only [Value.cells, List.toList_toArray] at v6)
  refine ⟨(by first | exact trivial | exact Ext.refl _ | assumption | exact Ext.only (by assumption) _ | exact Only.trans (Ext.only (by assumption) _) (by assumption)), ?_⟩
  have e6 := k6.oldV (E3.trans e35) b3 (by omega)
  have o6 := (o5.only k6 (o5.neV b3 (by have := e4.1; omega))).base (B' := h.size) (by omega)
  refine runG ?_
  exact finC rfl rfl v6 rfl rfl ⟨e6, by rw [← iv_mul]; exact IntOf.of o6⟩


/-- v is a whole number, of the value z, as it is told, wherever it lies. -/
def IntSl (h : Hp) (v : Value) (z : Int) : Prop := ∃ a, v = .agg #[.bool (decide (z < 0)), a] ∧ SlF h U a (dg 18446744073709551616 z.natAbs)
theorem IntOf.sl {h : Hp} {B : Nat} {v : Value} {z : Int} (s : IntOf h B v z) : IntSl h v z := by obtain ⟨a, h1, h2⟩ := s; exact ⟨a, h1, h2.sl⟩
theorem IntSl.ext {h h' : Hp} {v : Value} {z : Int} (s : IntSl h v z) (e : Ext h h') : IntSl h' v z := by obtain ⟨a, h1, h2⟩ := s; exact ⟨a, h1, h2.ext e⟩
theorem int_eq_iff {z w : Int} : z = w ↔ decide (z < 0) = decide (w < 0) ∧ dg 18446744073709551616 z.natAbs = dg 18446744073709551616 w.natAbs := by
  constructor
  · rintro rfl; exact ⟨rfl, rfl⟩
  · rintro ⟨h1, h2⟩
    have := dg_inj (b := 18446744073709551616) (by omega) h2
    simp only [decide_eq_decide] at h1
    omega

theorem Tryd_ent35 : Ent Tryd.prog 35 := ent_of Tryd.func35 (by kernel_rfl) rfl
theorem sameInt_spec (v w : Value) (z y : Int) (h : Hp) (hv : IntSl h v z) (hw : IntSl h w y) (hl : (dg 18446744073709551616 z.natAbs).length < 4611686018427387904) :
    CallsH Tryd.prog 35 [v, w] h fun v' h' => v' = .bool (decide (z = y)) ∧ Ext h h' := by
  obtain ⟨va, rfl, ha⟩ := hv
  obtain ⟨vb, rfl, hb⟩ := hw
  rw [show decide (z = y) = decide (decide (z < 0) = decide (y < 0) ∧ dg 18446744073709551616 z.natAbs = dg 18446744073709551616 y.natAbs) from by rw [decide_eq_decide]; exact int_eq_iff]
  generalize dg 18446744073709551616 z.natAbs = xs at *
  generalize dg 18446744073709551616 y.natAbs = ys at *
  generalize decide (z < 0) = n1 at *
  generalize decide (y < 0) = n2 at *
  (apply enter Tryd.func35 rfl Tryd.ntmps35 rfl)
  refine runG ?_
  (apply s_box; exact rfl; exact rfl; exact rfl; exact rfl)
  intro p h1 v1 e1 b1
  (try dsimp only [Value.cells, List.toList_toArray] at v1)
  refine ⟨(by first | exact trivial | exact Ext.refl _ | assumption | exact Ext.trans (by assumption) (by assumption)), ?_⟩
  refine runG ?_
  (apply s_box; exact rfl; exact rfl; exact rfl; exact rfl)
  intro q h2 v2 e2 b2
  (try dsimp only [Value.cells, List.toList_toArray] at v2)
  refine ⟨(by first | exact trivial | exact Ext.refl _ | assumption | exact Ext.trans (by assumption) (by assumption)), ?_⟩
  have v1' := v1.ext e2
  have ha2 := ha.ext (e1.trans e2)
  have hb2 := hb.ext (e1.trans e2)
  refine runG ?_
  (apply s_splitG; exact rfl; exact rfl; exact rfl; exact rfl) <;> intro hn
  · subst hn
    refine runG ?_
    apply (s_call Tryd_ent17 rfl rfl rfl)
    refine (same_spec va vb xs ys h2 ha2 hb2 hl).mono ?_
    rintro _ _ ⟨rfl, rfl⟩
    refine ⟨(by first | exact trivial | exact Ext.refl _ | assumption | exact Ext.trans (by assumption) (by assumption)), ?_⟩
    refine runG ?_
    exact fin1 rfl rfl ⟨by simp, e1.trans e2⟩
  · refine runG ?_
    exact fin1 rfl rfl ⟨by simp [hn], e1.trans e2⟩
end Go.Proofs.YtajgcmgkhmkmbaaDoor

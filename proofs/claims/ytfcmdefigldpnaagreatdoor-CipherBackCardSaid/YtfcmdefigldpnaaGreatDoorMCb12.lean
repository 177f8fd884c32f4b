/- Texts NatO to DenP of this work, joined, without what the law does not lean on. -/
import Derived.Test.YtfcmdefigldpnaaGreatDoorMCb11
import Derived.ChangeKeysEq
import Derived.Laws.StructEq
namespace Go.Proofs.YtfcmdefigldpnaaGreatDoor
set_option linter.unusedVariables false
set_option maxRecDepth 8000
open Go Go.Den Go.RowKit Go.Dig

theorem vlt {xs : List Nat} (hx : Al 18446744073709551616 xs) : vl 18446744073709551616 xs < 65536 ^ (4 * xs.length) := by rw [pow64]; exact vl_lt hx
theorem d16_len {X n : Nat} (h : X < 65536 ^ (4 * n)) : (dg 65536 X).length ≤ 4 * n := dg_len (by omega) h
theorem d16_add {X Y m n : Nat} (h : X < 65536 ^ (4 * m)) (k : Y < 65536 ^ (4 * n)) : X + Y < 65536 ^ (4 * (m + n + 1)) := by
  have a : 65536 ^ (4 * m) ≤ 65536 ^ (4 * (m + n)) := Nat.pow_le_pow_right (by omega) (by omega)
  have b : 65536 ^ (4 * n) ≤ 65536 ^ (4 * (m + n)) := Nat.pow_le_pow_right (by omega) (by omega)
  have c : 65536 ^ (4 * (m + n + 1)) = 65536 ^ (4 * (m + n)) * 65536 ^ 4 := by rw [show 4 * (m + n + 1) = 4 * (m + n) + 4 by omega, Nat.pow_add]
  have d : 65536 ^ (4 * (m + n)) * 2 ≤ 65536 ^ (4 * (m + n)) * 65536 ^ 4 := Nat.mul_le_mul_left _ (by omega)
  rw [c]; omega
theorem d16_mul {X Y m n : Nat} (h : X < 65536 ^ (4 * m)) (k : Y < 65536 ^ (4 * n)) : X * Y < 65536 ^ (4 * (m + n)) := by
  rw [show 4 * (m + n) = 4 * m + 4 * n by omega, Nat.pow_add]; exact Nat.mul_lt_mul'' h k

theorem Tryz_ent27 : Ent Tryz.prog 27 := ent_of Tryz.func27 (by kernel_rfl) rfl
theorem rof_spec (w : Nat) (h : Hp) (hw : w < 18446744073709551616) :
    CallsH Tryz.prog 27 [U w] h fun v' h' => Ext h h' ∧ OwnF h' h.size 26 U v' (dg 18446744073709551616 w) := by
  (apply enter Tryz.func27 rfl Tryz.ntmps27 rfl)
  refine runG ?_
  (apply (s_litF (f := U) [w] (fun _ => rfl)); exact rfl; exact rfl; exact rfl; exact rfl; exact rfl; exact rfl; exact rfl; exact rfl; omega)
  intro v1 h1 o1 e1 b1
  refine clsI ?_
  have ha : Al 18446744073709551616 [w] := Al.cons hw Al.nil
  have hv := vlt ha
  have hl := d16_len hv
  rw [show vl 18446744073709551616 [w] = w by simp [vl]] at hv hl
  refine runG ?_
  apply (s_call Tryz_ent73 rfl rfl rfl)
  refine (digits_spec v1 [w] h1 o1.sl ha (by simp)).mono ?_
  rintro v2 h2 ⟨e2, o2⟩
  refine clsI ?_
  rw [show vl 18446744073709551616 [w] = w by simp [vl]] at o2
  refine runG ?_
  apply (s_call Tryz_ent72 rfl rfl rfl)
  refine (from_spec v2 _ h2 o2.sl (al_dg (by omega) _) (by simp at hl; omega)).mono ?_
  rintro v3 h3 ⟨e3, o3⟩
  refine clsI ?_
  rw [vl_dg (by omega)] at o3
  refine runG ?_
  exact fin1 rfl rfl ⟨(e1.trans e2).trans e3, o3.base (e1.trans e2).1⟩

theorem Tryz_ent28 : Ent Tryz.prog 28 := ent_of Tryz.func28 (by kernel_rfl) rfl
theorem rcmp_spec (va vb : Value) (xs ys : List Nat) (h : Hp) (ha : SlF h U va xs) (hb : SlF h U vb ys) (hx : Al 18446744073709551616 xs) (hy : Al 18446744073709551616 ys) (hl : xs.length < 68719476736) (hl2 : ys.length < 68719476736) :
    CallsH Tryz.prog 28 [va, vb] h fun v' h' => v' = I (cmpI (vl 18446744073709551616 xs) (vl 18446744073709551616 ys)) ∧ Ext h h' := by
  (apply enter Tryz.func28 rfl Tryz.ntmps28 rfl)
  have lx := d16_len (vlt hx)
  have ly := d16_len (vlt hy)
  refine runG ?_
  apply (s_call Tryz_ent73 rfl rfl rfl)
  refine (digits_spec va xs h ha hx (by omega)).mono ?_
  rintro v1 h1 ⟨e1, o1⟩
  refine clsI ?_
  have hb1 := hb.ext e1
  refine runG ?_
  apply (s_call Tryz_ent73 rfl rfl rfl)
  refine (digits_spec vb ys h1 hb1 hy (by omega)).mono ?_
  rintro v2 h2 ⟨e2, o2⟩
  refine clsI ?_
  have o1' := o1.ext e2
  refine runG ?_
  apply (s_call Tryz_ent74 rfl rfl rfl)
  refine (compare_spec v1 v2 _ _ h2 o1'.sl o2.sl (al_dg (by omega) _) (nrm_dg (by omega) _) (al_dg (by omega) _) (nrm_dg (by omega) _) (by omega) (by omega)).mono ?_
  rintro _ _ ⟨rfl, rfl⟩
  refine clsI ?_
  rw [vl_dg (by omega), vl_dg (by omega)]
  refine runG ?_
  exact fin1 rfl rfl ⟨rfl, e1.trans e2⟩

theorem Tryz_ent199 : Ent Tryz.prog 199 := ent_of Tryz.func199 (by kernel_rfl) rfl
theorem radd_spec (va vb : Value) (xs ys : List Nat) (h : Hp) (ha : SlF h U va xs) (hb : SlF h U vb ys) (hx : Al 18446744073709551616 xs) (hy : Al 18446744073709551616 ys) (hl : xs.length < 68719476736) (hl2 : ys.length < 68719476736) :
    CallsH Tryz.prog 199 [va, vb] h fun v' h' => Ext h h' ∧ OwnF h' h.size 26 U v' (dg 18446744073709551616 (vl 18446744073709551616 xs + vl 18446744073709551616 ys)) := by
  (apply enter Tryz.func199 rfl Tryz.ntmps199 rfl)
  have lx := d16_len (vlt hx)
  have ly := d16_len (vlt hy)
  have lz := d16_len (d16_add (vlt hx) (vlt hy))
  refine runG ?_
  apply (s_call Tryz_ent73 rfl rfl rfl)
  refine (digits_spec va xs h ha hx (by omega)).mono ?_
  rintro v1 h1 ⟨e1, o1⟩
  refine clsI ?_
  have hb1 := hb.ext e1
  refine runG ?_
  apply (s_call Tryz_ent73 rfl rfl rfl)
  refine (digits_spec vb ys h1 hb1 hy (by omega)).mono ?_
  rintro v2 h2 ⟨e2, o2⟩
  refine clsI ?_
  have o1' := o1.ext e2
  refine runG ?_
  apply (s_call Tryz_ent204 rfl rfl rfl)
  refine (plus_spec v1 v2 _ _ h2 o1'.sl o2.sl (al_dg (by omega) _) (al_dg (by omega) _) (by omega) (by omega)).mono ?_
  rintro v3 h3 ⟨e3, o3⟩
  refine clsI ?_
  rw [vl_dg (by omega), vl_dg (by omega)] at o3
  refine runG ?_
  apply (s_call Tryz_ent72 rfl rfl rfl)
  refine (from_spec v3 _ h3 o3.sl (al_dg (by omega) _) (by omega)).mono ?_
  rintro v4 h4 ⟨e4, o4⟩
  refine clsI ?_
  rw [vl_dg (by omega)] at o4
  refine runG ?_
  have e := (e1.trans e2).trans e3
  exact fin1 rfl rfl ⟨e.trans e4, o4.base e.1⟩

theorem Tryz_ent141 : Ent Tryz.prog 141 := ent_of Tryz.func141 (by kernel_rfl) rfl
theorem rmul_spec (va vb : Value) (xs ys : List Nat) (h : Hp) (ha : SlF h U va xs) (hb : SlF h U vb ys) (hx : Al 18446744073709551616 xs) (hy : Al 18446744073709551616 ys) (hl : xs.length < 68719476736) (hl2 : ys.length < 68719476736) :
    CallsH Tryz.prog 141 [va, vb] h fun v' h' => Ext h h' ∧ OwnF h' h.size 26 U v' (dg 18446744073709551616 (vl 18446744073709551616 xs * vl 18446744073709551616 ys)) := by
  (apply enter Tryz.func141 rfl Tryz.ntmps141 rfl)
  have lx := d16_len (vlt hx)
  have ly := d16_len (vlt hy)
  have lz := d16_len (d16_mul (vlt hx) (vlt hy))
  refine runG ?_
  apply (s_call Tryz_ent73 rfl rfl rfl)
  refine (digits_spec va xs h ha hx (by omega)).mono ?_
  rintro v1 h1 ⟨e1, o1⟩
  refine clsI ?_
  have hb1 := hb.ext e1
  refine runG ?_
  apply (s_call Tryz_ent73 rfl rfl rfl)
  refine (digits_spec vb ys h1 hb1 hy (by omega)).mono ?_
  rintro v2 h2 ⟨e2, o2⟩
  refine clsI ?_
  have o1' := o1.ext e2
  refine runG ?_
  apply (s_call Tryz_ent183 rfl rfl rfl)
  refine (times_spec v1 v2 _ _ h2 o1'.sl o2.sl (al_dg (by omega) _) (al_dg (by omega) _) (by omega) (by omega)).mono ?_
  rintro v3 h3 ⟨e3, o3⟩
  refine clsI ?_
  rw [vl_dg (by omega), vl_dg (by omega)] at o3
  refine runG ?_
  apply (s_call Tryz_ent72 rfl rfl rfl)
  refine (from_spec v3 _ h3 o3.sl (al_dg (by omega) _) (by omega)).mono ?_
  rintro v4 h4 ⟨e4, o4⟩
  refine clsI ?_
  rw [vl_dg (by omega)] at o4
  refine runG ?_
  have e := (e1.trans e2).trans e3
  exact fin1 rfl rfl ⟨e.trans e4, o4.base e.1⟩

theorem Tryz_ent206 : Ent Tryz.prog 206 := ent_of Tryz.func206 (by kernel_rfl) rfl
theorem rsub_spec (va vb : Value) (xs ys : List Nat) (h : Hp) (ha : SlF h U va xs) (hb : SlF h U vb ys) (hx : Al 18446744073709551616 xs) (hy : Al 18446744073709551616 ys) (hl : xs.length < 68719476736) (hl2 : ys.length < 68719476736) :
    CallsH Tryz.prog 206 [va, vb] h fun v' h' => Ext h h' ∧
      (vl 18446744073709551616 xs < vl 18446744073709551616 ys → v' = .tuple [.slice none 0 0, N 5].toArray) ∧
      (vl 18446744073709551616 ys ≤ vl 18446744073709551616 xs → ∃ v1, v' = .tuple [v1, N 0].toArray ∧ OwnF h' h.size 26 U v1 (dg 18446744073709551616 (vl 18446744073709551616 xs - vl 18446744073709551616 ys))) := by
  (apply enter Tryz.func206 rfl Tryz.ntmps206 rfl)
  have lx := d16_len (vlt hx)
  have ly := d16_len (vlt hy)
  have lz := d16_len (Nat.lt_of_le_of_lt (Nat.sub_le (vl 18446744073709551616 xs) (vl 18446744073709551616 ys)) (vlt hx))
  refine runG ?_
  apply (s_call Tryz_ent28 rfl rfl rfl)
  refine (rcmp_spec va vb xs ys h ha hb hx hy hl hl2).mono ?_
  rintro _ h0 ⟨rfl, e0⟩
  refine clsI ?_
  have ha0 := ha.ext e0
  refine runG ?_
  (apply w_condD; exact rfl; exact rfl) <;> intro hc
  · rw [cmpI_neg] at hc
    refine runG ?_
    exact fin2 rfl rfl rfl ⟨e0, fun _ => rfl, fun hh => by omega⟩
  · rw [cmpI_neg] at hc
    refine runG ?_
    apply (s_call Tryz_ent73 rfl rfl rfl)
    refine (digits_spec va xs h0 ha0 hx (by omega)).mono ?_
    rintro v1 h1 ⟨e1, o1⟩
    refine clsI ?_
    have hb1 := hb.ext (e0.trans e1)
    refine runG ?_
    apply (s_call Tryz_ent73 rfl rfl rfl)
    refine (digits_spec vb ys h1 hb1 hy (by omega)).mono ?_
    rintro v2 h2 ⟨e2, o2⟩
    refine clsI ?_
    have o1' := o1.ext e2
    refine runG ?_
    apply (s_call Tryz_ent205 rfl rfl rfl)
    refine (less_spec v1 v2 _ _ h2 o1'.sl o2.sl (al_dg (by omega) _) (al_dg (by omega) _) (by omega) (by omega) (by rw [vl_dg (by omega), vl_dg (by omega)]; omega)).mono ?_
    rintro v3 h3 ⟨e3, o3⟩
    refine clsI ?_
    rw [vl_dg (by omega), vl_dg (by omega)] at o3
    refine runG ?_
    apply (s_call Tryz_ent72 rfl rfl rfl)
    refine (from_spec v3 _ h3 o3.sl (al_dg (by omega) _) (by omega)).mono ?_
    rintro v4 h4 ⟨e4, o4⟩
    refine clsI ?_
    rw [vl_dg (by omega)] at o4
    refine runG ?_
    have e := ((e0.trans e1).trans e2).trans e3
    exact fin2 rfl rfl rfl ⟨e.trans e4, fun hh => absurd hh hc, fun _ => ⟨_, rfl, o4.base e.1⟩⟩

theorem Tryz_ent176 : Ent Tryz.prog 176 := ent_of Tryz.func176 (by kernel_rfl) rfl
set_option maxHeartbeats 800000 in
theorem rdiv_spec (va vb : Value) (xs ys : List Nat) (h : Hp) (ha : SlF h U va xs) (hb : SlF h U vb ys) (hx : Al 18446744073709551616 xs) (hy : Al 18446744073709551616 ys) (hl : xs.length < 68719476736) (hl2 : ys.length < 68719476736) :
    CallsH Tryz.prog 176 [va, vb] h fun v' h' => ∃ q r, v' = .tuple #[q, r, N (if vl 18446744073709551616 ys = 0 then 1 else 0)] ∧ Ext h h' ∧
      OwnF h' h.size 26 U q (dg 18446744073709551616 (vl 18446744073709551616 xs / vl 18446744073709551616 ys)) ∧
      OwnF h' h.size 26 U r (dg 18446744073709551616 (if vl 18446744073709551616 ys = 0 then 0 else vl 18446744073709551616 xs % vl 18446744073709551616 ys)) := by
  (apply enter Tryz.func176 rfl Tryz.ntmps176 rfl)
  have lx := d16_len (vlt hx)
  have ly := d16_len (vlt hy)
  have lq := d16_len (Nat.lt_of_le_of_lt (Nat.div_le_self (vl 18446744073709551616 xs) (vl 18446744073709551616 ys)) (vlt hx))
  have lr := d16_len (Nat.lt_of_le_of_lt (Nat.mod_le (vl 18446744073709551616 xs) (vl 18446744073709551616 ys)) (vlt hx))
  have hz : (dg 65536 (vl 18446744073709551616 ys)).length = 0 ↔ vl 18446744073709551616 ys = 0 := dg_len0 (by omega)
  refine runG ?_
  apply (s_call Tryz_ent73 rfl rfl rfl)
  refine (digits_spec vb ys h hb hy (by omega)).mono ?_
  rintro v1 h1 ⟨e1, o1⟩
  refine clsI ?_
  refine runG ?_
  (apply w_condD; exact rfl; exact rfl) <;> intro h0
  · rw [hz] at h0
    refine runG ?_
    refine fin3 rfl rfl rfl rfl ⟨_, _, by rw [if_pos h0], e1, ?_, ?_⟩
    · rw [h0, Nat.div_zero]; exact OwnF.nil _ _ _ _
    · rw [if_pos h0]; exact OwnF.nil _ _ _ _
  · rw [hz] at h0
    rw [if_neg h0, if_neg h0]
    have ha1 := ha.ext e1
    refine runG ?_
    apply (s_call Tryz_ent73 rfl rfl rfl)
    refine (digits_spec va xs h1 ha1 hx (by omega)).mono ?_
    rintro v2 h2 ⟨e2, o2⟩
    refine clsI ?_
    have o1' := o1.ext e2
    refine runG ?_
    apply (s_call Tryz_ent198 rfl rfl rfl)
    refine (parts_spec v2 v1 _ _ h2 o2.sl o1'.sl (al_dg (by omega) _) (al_dg (by omega) _) (nrm_dg (by omega) _) (by omega) (by omega) (by rw [vl_dg (by omega)]; omega)).mono ?_
    rintro _ h3 ⟨q, r, rfl, e3, o3, o3'⟩
    refine clsI ?_
    rw [vl_dg (by omega), vl_dg (by omega)] at o3 o3'
    refine runG ?_
    apply (s_call Tryz_ent72 rfl rfl rfl)
    refine (from_spec q _ h3 o3.sl (al_dg (by omega) _) (by omega)).mono ?_
    rintro v4 h4 ⟨e4, o4⟩
    refine clsI ?_
    rw [vl_dg (by omega)] at o4
    have o34 := o3'.ext e4
    refine runG ?_
    apply (s_call Tryz_ent72 rfl rfl rfl)
    refine (from_spec r _ h4 o34.sl (al_dg (by omega) _) (by omega)).mono ?_
    rintro v5 h5 ⟨e5, o5⟩
    refine clsI ?_
    rw [vl_dg (by omega)] at o5
    have e := (e1.trans e2).trans e3
    have hs := e.1
    have hs4 := e4.1
    refine runG ?_
    exact fin3 rfl rfl rfl rfl ⟨_, _, rfl, (e.trans e4).trans e5, (o4.ext e5).base (by omega), o5.base (by omega)⟩

theorem Tryz_ent177 : Ent Tryz.prog 177 := ent_of Tryz.func177 (by kernel_rfl) rfl
theorem rmod_spec (va : Value) (xs : List Nat) (w : Nat) (h : Hp) (ha : SlF h U va xs) (hx : Al 18446744073709551616 xs) (hl : xs.length < 68719476736) (hw : w < 18446744073709551616) :
    CallsH Tryz.prog 177 [va, U w] h fun v' h' => v' = U (if w = 0 then 0 else vl 18446744073709551616 xs % w) ∧ Ext h h' := by
  (apply enter Tryz.func177 rfl Tryz.ntmps177 rfl)
  refine runG ?_
  (apply w_condD; exact rfl; exact rfl) <;> intro h0
  · refine runG ?_
    exact fin1 rfl rfl ⟨by rw [if_pos h0], Ext.refl h⟩
  · rw [if_neg h0]
    refine runG ?_
    (apply (s_litF (f := U) [w] (fun _ => rfl)); exact rfl; exact rfl; exact rfl; exact rfl; exact rfl; exact rfl; exact rfl; exact rfl; omega)
    intro v1 h1 o1 e1 b1
    refine clsI ?_
    have ha1 := ha.ext e1
    refine runG ?_
    apply (s_call Tryz_ent176 rfl rfl rfl)
    refine (rdiv_spec va v1 xs [w] h1 ha1 o1.sl hx (Al.cons hw Al.nil) hl (by simp)).mono ?_
    rintro _ h2 ⟨q, r, rfl, e2, o2, o2'⟩
    refine clsI ?_
    rw [show vl 18446744073709551616 [w] = w by simp [vl], if_neg h0] at o2'
    have hlt : vl 18446744073709551616 xs % w < 18446744073709551616 := Nat.lt_trans (Nat.mod_lt _ (by omega)) hw
    have hz : (dg 18446744073709551616 (vl 18446744073709551616 xs % w)).length = 0 ↔ vl 18446744073709551616 xs % w = 0 := dg_len0 (by omega)
    have hv := vl_dg (b := 18446744073709551616) (by omega) (vl 18446744073709551616 xs % w)
    have hle : (dg 18446744073709551616 (vl 18446744073709551616 xs % w)).length ≤ 1 := dg_len (by omega) (by omega)
    generalize vl 18446744073709551616 xs % w = m at *
    generalize dg 18446744073709551616 m = D at *
    refine runG ?_
    (apply w_condD; exact rfl; exact rfl) <;> intro hc
    · refine runG ?_
      exact fin1 rfl rfl ⟨by rw [hz.1 hc], e1.trans e2⟩
    · obtain ⟨x, rfl⟩ : ∃ x, D = [x] := by
        cases D with
        | nil => exact absurd rfl hc
        | cons x D => cases D with
          | nil => exact ⟨x, rfl⟩
          | cons _ _ => simp at hle
      have hl1 : ([x] : List Nat).length = 1 := rfl
      simp only [vl, Nat.mul_zero, Nat.add_zero] at hv
      refine runG ?_
      exact fin1 rfl rfl ⟨by rw [← hv]; rfl, e1.trans e2⟩

theorem Tryz_ent136 : Ent Tryz.prog 136 := ent_of Tryz.func136 (by kernel_rfl) rfl
theorem rwhole_spec (neg : Bool) (va : Value) (xs : List Nat) (h : Hp) (ha : SlF h U va xs) (hx : Al 18446744073709551616 xs) (hl : xs.length < 68719476736) :
    CallsH Tryz.prog 136 [.bool neg, va] h fun v' h' => ∃ v, v' = .agg #[.bool (neg && decide (vl 18446744073709551616 xs ≠ 0)), v] ∧ Ext h h' ∧ OwnF h' h.size 26 U v (dg 18446744073709551616 (vl 18446744073709551616 xs)) := by
  (apply enter Tryz.func136 rfl Tryz.ntmps136 rfl)
  have lx := d16_len (vlt hx)
  refine runG ?_
  (apply s_alloc; exact rfl; exact rfl; exact rfl)
  intro p h1 v1 e1 b1
  (try dsimp only [Value.cells, List.toList_toArray] at v1)
  refine clsI ?_
  refine runG ?_
  have ha1 := ha.ext e1
  apply (s_call Tryz_ent73 rfl rfl rfl)
  refine (digits_spec va xs h1 ha1 hx (by omega)).mono ?_
  rintro vd h2 ⟨e2, o2⟩
  refine clsI ?_
  refine runG ?_
  apply (s_call Tryz_ent72 rfl rfl rfl)
  refine (from_spec vd _ h2 o2.sl (al_dg (by omega) _) (by omega)).mono ?_
  rintro vn h3 ⟨e3, o3⟩
  refine clsI ?_
  rw [vl_dg (by omega)] at o3
  have hz : (dg 18446744073709551616 (vl 18446744073709551616 xs)).length = 0 ↔ vl 18446744073709551616 xs = 0 := dg_len0 (by omega)
  have hDl : (dg 18446744073709551616 (vl 18446744073709551616 xs)).length ≤ xs.length := dg_len (by omega) (vl_lt hx)
  generalize hX : vl 18446744073709551616 xs = X at *
  generalize hD : dg 18446744073709551616 X = D at *
  have s3 := o3.sl
  have v3 := (v1.ext e2).ext e3
  have hs1 := e1.1
  have hs2 := e2.1
  have hlt1 : h.size < h1.size := by
    obtain ⟨k, hk, hlt⟩ := v1.blk
    rw [b1] at hk; cases hk; exact hlt
  cases neg with
  | true =>
    refine runG ?_
    (apply (s_build ([.bool (decide (0 < D.length)), vn])); exact rfl; exact rfl; exact rfl; (repeat (first | exact CellsAll.nil | (apply CellsAll.cons; (first | exact oneL (by assumption) | exact oneL (SlF.one (by assumption)) | exact oneL (SlF.one (OwnF.sl (by assumption))) | exact oneL (Var.one (by assumption)) | exact rfl)))); exact rfl; exact rfl)
    refine runG ?_
    (apply s_storeV; exact rfl; exact rfl; exact rfl; (repeat (first | exact OneAll.nil | (apply OneAll.cons; (first | exact rfl | exact SlF.one (by assumption) | exact SlF.one (OwnF.sl (by assumption)) | exact Var.one (by assumption))))); exact rfl; exact rfl; exact v3; exact rfl)
    intro h4 v4 k4
    (try dsimp only [Value.cells, List.toList_toArray] at v4)
    refine ⟨(by first | exact trivial | exact Ext.refl _ | assumption | exact Ext.only (by assumption) _ | exact Only.trans (Ext.only (by assumption) _) (by assumption)), ?_⟩
    have e4 := k4.oldV ((e1.trans e2).trans e3) b1 (Nat.le_refl _)
    have o4 := (o3.only k4 (o3.neV b1 (by omega))).base (B' := h.size) (by omega)
    refine runG ?_
    refine finC rfl rfl v4 rfl rfl ⟨vn, ?_, e4, o4⟩
    have : (0 < D.length) ↔ X ≠ 0 := by omega
    simp only [this, Bool.true_and]
  | false =>
    refine runG ?_
    (apply (s_build ([.bool false, vn])); exact rfl; exact rfl; exact rfl; (repeat (first | exact CellsAll.nil | (apply CellsAll.cons; (first | exact oneL (by assumption) | exact oneL (SlF.one (by assumption)) | exact oneL (SlF.one (OwnF.sl (by assumption))) | exact oneL (Var.one (by assumption)) | exact rfl)))); exact rfl; exact rfl)
    refine runG ?_
    (apply s_storeV; exact rfl; exact rfl; exact rfl; (repeat (first | exact OneAll.nil | (apply OneAll.cons; (first | exact rfl | exact SlF.one (by assumption) | exact SlF.one (OwnF.sl (by assumption)) | exact Var.one (by assumption))))); exact rfl; exact rfl; exact v3; exact rfl)
    intro h4 v4 k4
    (try dsimp only [Value.cells, List.toList_toArray] at v4)
    refine ⟨(by first | exact trivial | exact Ext.refl _ | assumption | exact Ext.only (by assumption) _ | exact Only.trans (Ext.only (by assumption) _) (by assumption)), ?_⟩
    have e4 := k4.oldV ((e1.trans e2).trans e3) b1 (Nat.le_refl _)
    have o4 := (o3.only k4 (o3.neV b1 (by omega))).base (B' := h.size) (by omega)
    refine runG ?_
    exact finC rfl rfl v4 rfl rfl ⟨vn, by rw [Bool.false_and], e4, o4⟩

theorem Tryz_ent137 : Ent Tryz.prog 137 := ent_of Tryz.func137 (by kernel_rfl) rfl
set_option maxHeartbeats 1600000 in
theorem rtimes_spec (n1 n2 : Bool) (va vb : Value) (xs ys : List Nat) (h : Hp) (ha : SlF h U va xs) (hb : SlF h U vb ys) (hx : Al 18446744073709551616 xs) (hy : Al 18446744073709551616 ys) (hl : xs.length < 8589934592) (hl2 : ys.length < 8589934592) :
    CallsH Tryz.prog 137 [.agg #[.bool n1, va], .agg #[.bool n2, vb]] h fun v' h' => Ext h h' ∧ IntOf h' h.size v' (IV n1 (vl 18446744073709551616 xs) * IV n2 (vl 18446744073709551616 ys)) := by
  (apply enter Tryz.func137 rfl Tryz.ntmps137 rfl)
  refine runG ?_
  (apply s_box; exact rfl; exact rfl; exact rfl; exact rfl)
  intro p h1 v1 e1 b1
  (try dsimp only [Value.cells, List.toList_toArray] at v1)
  refine clsI ?_
  refine runG ?_
  (apply s_box; exact rfl; exact rfl; exact rfl; exact rfl)
  intro q h2 v2 e2 b2
  (try dsimp only [Value.cells, List.toList_toArray] at v2)
  refine clsI ?_
  have v1' := v1.ext e2
  refine runG ?_
  (apply s_alloc; exact rfl; exact rfl; exact rfl)
  intro r h3 v3 e3 b3
  (try dsimp only [Value.cells, List.toList_toArray] at v3)
  refine clsI ?_
  have v1'' := v1'.ext e3
  have v2' := v2.ext e3
  have npr := v1'.ne_new b3 (Nat.le_refl _)
  have nqr := v2.ne_new b3 (Nat.le_refl _)
  have E3 := (e1.trans e2).trans e3
  have ha3 := ha.ext E3
  have hb3 := hb.ext E3
  have eh2 := e1.1
  have eh3 := e2.1
  have eh4 := e3.1
  have hr3 : h2.size < h3.size := by
    obtain ⟨k, hk, hlt⟩ := v3.blk
    rw [b3] at hk; cases hk; exact hlt
  refine runGN ?_
  (apply (r_drawnO (pblk r)); exact rfl; exact mixed; kernel_rfl)
  refine runG ?_
  apply (s_call Tryz_ent141 rfl rfl rfl)
  refine (rmul_spec va vb xs ys h3 ha3 hb3 hx hy (by omega) (by omega)).mono ?_
  rintro v4 h4 ⟨e4, o4⟩
  refine ⟨e4.only _, ?_⟩
  have hl4 := dg_len_mul hx hy
  refine runG ?_
  apply (s_call Tryz_ent136 rfl rfl rfl)
  refine (rwhole_spec (decide (n1 ≠ n2)) v4 _ h4 o4.sl (al_dg (by omega) _) (by omega)).mono ?_
  rintro _ h5 ⟨v5, rfl, e5, o5⟩
  refine ⟨(e4.trans e5).only _, ?_⟩
  rw [vl_dg (by omega)] at o5
  rw [vl_dg (by omega)]
  have e35 := e4.trans e5
  have hs4 := e4.1
  have v3' := v3.ext e35
  refine runG ?_
  (apply s_storeV; exact rfl; exact rfl; exact rfl; (repeat (first | exact OneAll.nil | (apply OneAll.cons; (first | exact rfl | exact SlF.one (by assumption) | exact SlF.one (OwnF.sl (by assumption)) | exact Var.one (by assumption))))); exact rfl; exact rfl; exact v3'; exact rfl)
  intro h6 v6 k6
  (try dsimp only [Value.cells, List.toList_toArray] at v6)
  refine ⟨(by first | exact trivial | exact Ext.refl _ | assumption | exact Ext.only (by assumption) _ | exact Only.trans (Ext.only (by assumption) _) (by assumption)), ?_⟩
  have e6 := k6.oldV (E3.trans e35) b3 (by omega)
  have o6 := (o5.only k6 (o5.neV b3 (by have := e4.1; omega))).base (B' := h.size) (by omega)
  refine runG ?_
  exact finC rfl rfl v6 rfl rfl ⟨e6, by rw [← iv_mul]; exact IntOf.of o6⟩


def IntSl (h : Hp) (v : Value) (z : Int) : Prop := ∃ a, v = .agg #[.bool (decide (z < 0)), a] ∧ SlF h U a (dg 18446744073709551616 z.natAbs)
theorem IntOf.sl {h : Hp} {B : Nat} {v : Value} {z : Int} (s : IntOf h B v z) : IntSl h v z := by obtain ⟨a, h1, h2⟩ := s; exact ⟨a, h1, h2.sl⟩
theorem IntSl.ext {h h' : Hp} {v : Value} {z : Int} (s : IntSl h v z) (e : Ext h h') : IntSl h' v z := by obtain ⟨a, h1, h2⟩ := s; exact ⟨a, h1, h2.ext e⟩

theorem Tryz_ent173 : Ent Tryz.prog 173 := ent_of Tryz.func173 (by kernel_rfl) rfl
theorem index_spec (v : Value) (xs : List Nat) (x : Nat) (h : Hp) (s : SlF h U v xs) (hl : xs.length < 4611686018427387904) :
    CallsH Tryz.prog 173 [v, U x] h fun v' h' => (∃ i : Int, v' = I i ∧ (0 ≤ i ↔ x ∈ xs)) ∧ h = h' := by
  (apply enter Tryz.func173 rfl Tryz.ntmps173 rfl)
  refine runJ ?_
  (first | (apply w_seqB; exact rfl; apply w_block; exact rfl) | skip)
  apply (w_loop (σ := Nat) rfl (fun j => [(0, v), (1, U x), (7, N xs.length), (8, N j)])
    (fun j h' => h = h' ∧ j ≤ xs.length ∧ x ∉ xs.take j) (fun j => xs.length - j) 0)
  · exact subs
  · exact ⟨rfl, Nat.zero_le _, by simp⟩
  rintro j h' ⟨rfl, j1, j2⟩
  refine runJ ?_
  (apply w_condD; exact rfl; exact rfl) <;> intro hj
  · obtain ⟨y, hy⟩ := get_lt hj
    refine runJ ?_
    (apply w_condD; exact rfl; exact rfl) <;> intro hxy
    · refine runJ ?_
      exact fin1 rfl rfl ⟨⟨j, rfl, ⟨fun _ => hxy ▸ List.mem_of_getElem? hy, fun _ => by omega⟩⟩, rfl⟩
    · refine runJ ?_
      apply again_normal (j + 1)
      · exact subs
      · refine ⟨rfl, hj, ?_⟩
        rw [take_snoc hy]
        intro hm
        rcases List.mem_append.1 hm with hm | hm
        · exact j2 hm
        · simp only [List.mem_singleton] at hm; exact hxy hm
      · omega
  · rw [List.take_of_length_le (by omega)] at j2
    refine runJ ?_
    exact fin1 rfl rfl ⟨⟨-1, rfl, ⟨fun h => by omega, fun h => absurd h j2⟩⟩, rfl⟩
theorem Tryz_ent129 : Ent Tryz.prog 129 := ent_of Tryz.func129 (by kernel_rfl) rfl
theorem contains_spec (v : Value) (xs : List Nat) (x : Nat) (h : Hp) (s : SlF h U v xs) (hl : xs.length < 4611686018427387904) :
    CallsH Tryz.prog 129 [v, U x] h fun v' h' => v' = .bool (decide (x ∈ xs)) ∧ h = h' := by
  (apply enter Tryz.func129 rfl Tryz.ntmps129 rfl)
  refine runJ ?_
  apply (s_call Tryz_ent173 rfl rfl rfl)
  refine (index_spec v xs x h s hl).mono ?_
  rintro _ _ ⟨⟨i, rfl, hi⟩, rfl⟩
  refine ⟨trivial, ?_⟩
  refine runJ ?_
  exact fin1 rfl rfl ⟨dec_i hi, rfl⟩

def rightP (row : List Nat) : Prop := (∀ q ∈ row, 3 ≤ q ∧ q < 2305843009213693952 ∧ isB q = true) ∧ row.Nodup ∧ 0 < row.length ∧ row.length ≤ 24
instance (row : List Nat) : Decidable (rightP row) := by unfold rightP; exact inferInstance

theorem Tryz_ent119 : Ent Tryz.prog 119 := ent_of Tryz.func119 (by kernel_rfl) rfl
set_option maxHeartbeats 1000000 in
theorem right_spec (v : Value) (row : List Nat) (h : Hp) (T : TB h) (s : SlF h U v row) (hal : Al 18446744073709551616 row) (hl : row.length < 4611686018427387904) :
    CallsH Tryz.prog 119 [v] h fun v' h' => v' = .bool (decide (rightP row)) ∧ Ext h h' := by
  (apply enter Tryz.func119 rfl Tryz.ntmps119 rfl)
  refine runJ ?_
  (first | (apply w_seqB; exact rfl; apply w_block; exact rfl) | skip)
  apply (w_loop (σ := Nat) rfl (fun j => [(0, v), (5, v), (6, N row.length), (7, N j)])
    (fun j h' => Ext h h' ∧ j ≤ row.length ∧ (∀ q ∈ row.take j, 3 ≤ q ∧ q < 2305843009213693952 ∧ isB q = true) ∧ (row.take j).Nodup) (fun j => row.length - j) 0)
  · exact subs
  · exact ⟨Ext.refl _, Nat.zero_le _, by simp, by simp⟩
  rintro j h2 ⟨e2, j1, j2, j3⟩
  have s2 := s.ext e2
  refine runJ ?_
  (apply w_condD; exact rfl; exact rfl) <;> intro hj
  · obtain ⟨q, hq⟩ := get_lt hj
    have hqm := List.mem_of_getElem? hq
    have hq64 := hal q hqm
    have c1 := s2.cut (lo := 0) (hi := j) (Nat.zero_le _) j1
    rw [List.drop_zero, Nat.sub_zero] at c1
    refine runJ ?_
    (apply s_splitG; exact rfl; exact rfl; exact rfl; exact rfl) <;> intro h3
    · refine runJ ?_
      exact fin1 rfl rfl ⟨dec_f fun k => by have := k.1 q hqm; omega, e2⟩
    refine runJ ?_
    (apply s_splitG; exact rfl; exact rfl; exact rfl; exact rfl) <;> intro h61
    · refine runJ ?_
      exact fin1 rfl rfl ⟨dec_f fun k => by have := k.1 q hqm; omega, e2⟩
    refine runJ ?_
    apply (s_call Tryz_ent161 rfl rfl rfl)
    refine (is_spec q h2 (T.ext e2) hq64).mono ?_
    rintro _ h3' ⟨rfl, e3⟩
    refine ⟨trivial, ?_⟩
    have e23 := e2.trans e3
    have s3 := s.ext e23
    have c3 := c1.ext e3
    refine runJ ?_
    (apply s_splitGB; exact rfl; exact rfl; exact rfl; exact rfl) <;> intro hB
    · have hB : isB q = false := by simpa using hB
      refine runJ ?_
      exact fin1 rfl rfl ⟨dec_f (fun k => by have := (k.1 q hqm).2.2; rw [hB] at this; cases this), e23⟩
    have hB : isB q = true := by simpa using hB
    refine runJ ?_
    apply (s_call Tryz_ent129 rfl rfl rfl)
    refine (contains_spec _ (row.take j) q h3' c3 (by simp; omega)).mono ?_
    rintro _ _ ⟨rfl, rfl⟩
    refine clsI ?_
    refine runJ ?_
    (apply w_condD; exact rfl; exact rfl) <;> intro hin
    · refine runJ ?_
      exact fin1 rfl rfl ⟨dec_f fun k => not_nodup_at hq hin k.2.1, e23⟩
    · refine runJ ?_
      apply again_normal (j + 1)
      · exact subs
      · refine ⟨e23, hj, ?_, ?_⟩
        · rw [take_snoc hq]
          intro y hy
          rcases List.mem_append.1 hy with hy | hy
          · exact j2 y hy
          · simp only [List.mem_singleton] at hy; subst hy; exact ⟨by omega, by omega, hB⟩
        · rw [take_snoc hq]; exact nodup_snoc j3 hin
      · omega
  · rw [List.take_of_length_le (by omega)] at j2 j3
    refine runJ ?_
    (apply s_splitG; exact rfl; exact rfl; exact rfl; exact rfl) <;> intro h0
    · refine runJ ?_
      exact fin1 rfl rfl ⟨dec_i ⟨fun h24 => ⟨j2, j3, h0, h24⟩, fun k => k.2.2.2⟩, e2⟩
    · refine runJ ?_
      exact fin1 rfl rfl ⟨dec_f fun k => h0 k.2.2.1, e2⟩

theorem resid_eq (neg : Bool) (X q : Nat) : (if neg then subm 0 (if q = 0 then 0 else X % q) q else (if q = 0 then 0 else X % q)) = liftm (IV neg X) q := by
  rcases Nat.eq_zero_or_pos q with rfl | hq
  · cases neg <;> simp [subm, liftm]
  · have hq0 : ¬ q = 0 := by omega
    simp only [hq0, if_false]
    cases neg with
    | false =>
      simp only [IV, Bool.false_eq_true, if_false]
      rw [lift_pos (by omega) (by omega), Int.toNat_natCast]
    | true =>
      simp only [IV, if_true]
      rcases Nat.eq_zero_or_pos X with rfl | hX
      · simp [liftm, subm]
      · rw [lift_neg (by omega) (by omega), Int.neg_neg, Int.toNat_natCast]
        unfold subm
        rw [Nat.mod_mod]

theorem Tryz_ent159 : Ent Tryz.prog 159 := ent_of Tryz.func159 (by kernel_rfl) rfl
theorem residue_spec (neg : Bool) (va : Value) (xs : List Nat) (q : Nat) (h : Hp) (s : SlF h U va xs) (hx : Al 18446744073709551616 xs) (hl : xs.length < 1099511627776) (hq : q < 18446744073709551616) :
    CallsH Tryz.prog 159 [.agg #[.bool neg, va], U q] h fun v' h' => v' = U (liftm (IV neg (vl 18446744073709551616 xs)) q) ∧ Ext h h' := by
  have hr := resid_eq neg (vl 18446744073709551616 xs) q
  have hlt : (if q = 0 then 0 else vl 18446744073709551616 xs % q) < 18446744073709551616 := by
    split
    · omega
    · exact Nat.lt_trans (Nat.mod_lt _ (by omega)) hq
  (apply enter Tryz.func159 rfl Tryz.ntmps159 rfl)
  refine runJ ?_
  (apply s_box; exact rfl; exact rfl; exact rfl; exact rfl)
  intro p h1 x1 e1 b1
  (try dsimp only [Value.cells, List.toList_toArray] at x1)
  refine clsI ?_
  refine runJ ?_
  apply (s_call Tryz_ent65 rfl rfl rfl)
  refine (mod_spec va xs q h1 (s.ext e1) hx hl hq).mono ?_
  rintro _ h2 ⟨rfl, e2⟩
  refine ⟨trivial, ?_⟩
  have x2 := x1.ext e2
  generalize (if q = 0 then 0 else vl 18446744073709551616 xs % q) = r at hr hlt
  refine runJ ?_
  (apply w_cond; exact rfl; exact rfl) <;> intro hn
  · rw [hn] at hr
    simp only [if_true] at hr
    refine runJ ?_
    apply (s_call Tryz_ent66 rfl rfl rfl)
    refine (sub_spec 0 r q h2 (by omega) hlt hq).mono ?_
    rintro _ _ ⟨rfl, rfl⟩
    refine clsI ?_
    refine runJ ?_
    exact fin1 rfl rfl ⟨by rw [hn, hr], e1.trans e2⟩
  · rw [hn] at hr
    simp only [Bool.false_eq_true, if_false] at hr
    refine runJ ?_
    exact fin1 rfl rfl ⟨by rw [hn, hr], e1.trans e2⟩

def prodL (row : List Nat) : Nat := row.foldl (· * ·) 1
theorem prodL_snoc (row : List Nat) (q : Nat) : prodL (row ++ [q]) = prodL row * q := by unfold prodL; rw [List.foldl_append]; rfl
theorem prodL_lt {row : List Nat} (h : Al 18446744073709551616 row) : prodL row < 18446744073709551616 ^ (row.length + 1) := by
  have key : ∀ (n : Nat), n ≤ row.length → prodL (row.take n) < 18446744073709551616 ^ (n + 1) := by
    intro n
    induction n with
    | zero => intro _; simp [prodL]
    | succ n ih =>
      intro hn
      obtain ⟨q, hq⟩ := get_lt (l := row) (j := n) (by omega)
      have hq64 := h q (List.mem_of_getElem? hq)
      rw [take_snoc hq, prodL_snoc, Nat.pow_succ]
      exact Nat.mul_lt_mul_of_lt_of_lt (ih (by omega)) hq64
  have := key row.length (Nat.le_refl _)
  rwa [List.take_of_length_le (Nat.le_refl _)] at this

theorem Tryz_ent61 : Ent Tryz.prog 61 := ent_of Tryz.func61 (by kernel_rfl) rfl
theorem product_spec (v : Value) (row : List Nat) (h : Hp) (s : SlF h U v row) (hal : Al 18446744073709551616 row) (hl : row.length < 1000000) :
    CallsH Tryz.prog 61 [v] h fun v' h' => Ext h h' ∧ OwnF h' h.size 26 U v' (if row = [] then [1] else dg 18446744073709551616 (prodL row)) := by
  (apply enter Tryz.func61 rfl Tryz.ntmps61 rfl)
  refine runJ ?_
  (apply (s_litF (f := U) [1] (fun _ => rfl)); exact rfl; exact rfl; exact rfl; exact rfl; exact rfl; exact rfl; exact rfl; exact rfl; omega)
  intro w h1 o1 e1 b1
  refine clsI ?_
  have s1 := s.ext e1
  refine runJ ?_
  (first | (apply w_seqB; exact rfl; apply w_block; exact rfl) | skip)
  apply (w_loop (σ := Nat × Value) rfl (fun j => [(3, j.2), (7, v), (8, N row.length), (9, N j.1)])
    (fun j h' => Ext h h' ∧ OwnF h' h.size 26 U j.2 (if j.1 = 0 then [1] else dg 18446744073709551616 (prodL (row.take j.1))) ∧ j.1 ≤ row.length) (fun j => row.length - j.1) (0, w))
  · exact subs
  · exact ⟨e1, o1, Nat.zero_le _⟩
  rintro ⟨j, u⟩ h3 ⟨e3, o3, j1⟩
  dsimp only at e3 o3 j1 ⊢
  have s3 := s.ext e3
  refine runJ ?_
  (apply w_condD; exact rfl; exact rfl) <;> intro hj
  · obtain ⟨q, hq⟩ := get_lt hj
    have hq64 := hal q (List.mem_of_getElem? hq)
    have hv : vl 18446744073709551616 (if j = 0 then [1] else dg 18446744073709551616 (prodL (row.take j))) = prodL (row.take j) := by
      split
      · rename_i h0; subst h0; rfl
      · rw [vl_dg (by decide)]
    have ha : Al 18446744073709551616 (if j = 0 then [1] else dg 18446744073709551616 (prodL (row.take j))) := by
      split
      · intro x hx; simp at hx; omega
      · exact al_dg (by decide) _
    have hln : (if j = 0 then [1] else dg 18446744073709551616 (prodL (row.take j))).length < 1099511627776 := by
      split
      · decide
      · have := dg_len (b := 18446744073709551616) (by decide) (prodL_lt (fun x hx => hal x (List.mem_of_mem_take hx) : Al 18446744073709551616 (row.take j)))
        have h2 : (row.take j).length ≤ row.length := by simp; omega
        omega
    refine runJ ?_
    (apply (s_litF (f := U) [q] (fun _ => rfl)); exact rfl; exact rfl; exact rfl; exact rfl; exact rfl; exact rfl; exact rfl; exact rfl; omega)
    intro w2 h4 o4 e4 b4
    refine clsI ?_
    have hqa : Al 18446744073709551616 [q] := fun x hx => by simp only [List.mem_singleton] at hx; subst hx; exact hq64
    refine runJ ?_
    apply (s_call Tryz_ent122 rfl rfl rfl)
    refine (nmul_spec u w2 _ [q] h4 (o3.sl.ext e4) o4.sl ha hqa hln (by simp)).mono ?_
    rintro u' h5 ⟨e5, o5⟩
    refine ⟨trivial, ?_⟩
    have e35 := (e3.trans e4).trans e5
    rw [hv] at o5
    have hq1 : vl 18446744073709551616 [q] = q := by simp [vl]
    rw [hq1, ← prodL_snoc, ← take_snoc hq] at o5
    refine runJ ?_
    apply again_normal (j + 1, u')
    · exact subs
    · refine ⟨e35, ?_, hj⟩
      rw [if_neg (by omega)]
      exact o5.base (Nat.le_trans e3.1 e4.1)
    · dsimp only; omega
  · have hjl : j = row.length := by omega
    subst hjl
    rw [List.take_of_length_le (Nat.le_refl _)] at o3
    refine runJ ?_
    refine fin1 rfl rfl ⟨e3, ?_⟩
    simpa [List.length_eq_zero_iff] using o3
end Go.Proofs.YtfcmdefigldpnaaGreatDoor


namespace Go.Den
set_option linter.unusedVariables false
set_option maxRecDepth 8000
open Go Go.RowKit

section rules
variable {P : Program} {n : Nat} {Q : Post} {l : Fr} {h : Hp} {ops : List Oper} {Ch : Hp → Prop} {E : Nat → Bool} {i : Nat}
variable {d : Nat} {t : TypeId} {x y z : Operand}
end rules

section rules
variable {P : Program} {n : Nat} {Q : Post} {l : Fr} {h : Hp} {ops : List Oper} {Ch : Hp → Prop} {E : Nat → Bool} {i d : Nat} {x y : Operand} {ts : Array TypeId}
theorem s_minU {a b : Nat} (hx : IsK (ev l x) .u64 a) (hy : IsK (ev l y) .u64 b) (hb : Nat.blt d n = true)
    (k : S P n ops Ch E Q (i + 1) ((d, U (min a b)) :: l) h) : O P n ops Ch E Q i d (.call ⟨.builtin .min, #[x, y], ts⟩) l h :=
  s_pure hb (fun A w' hf => by
    have e : (if b < a then (b : Int) else (a : Int)) = ((min a b : Nat) : Int) := by
      split <;> omega
    simp [execOp, resolve, invoke, builtin, hf.ev hx.h, hf.ev hy.h, Builtin.min_, Builtin.min2, e]) k
end rules
end Go.Den


/- Naturals: comparison, sum and difference of the program and of its reference, by contracts. No condition. -/
import Derived.Test.YtajgcmgkhmkmbaaDoorNatA
namespace Go.Proofs.YtajgcmgkhmkmbaaDoor
set_option linter.unusedVariables false
set_option maxRecDepth 8000
open Go Go.Den Go.RowKit Go.Dig

def cmpI (m n : Nat) : Int := if m < n then -1 else if n < m then 1 else 0
theorem cmpI_lt {m n : Nat} (h : m < n) : cmpI m n = -1 := by simp [cmpI, h]
theorem cmpI_gt {m n : Nat} (h : n < m) : cmpI m n = 1 := by simp [cmpI, h, Nat.lt_asymm h]
theorem cmpI_eq {m n : Nat} (h : m = n) : cmpI m n = 0 := by simp [cmpI, h]

theorem len_cmp {b : Nat} (hb : 1 < b) {xs ys : List Nat} (hx : Al b xs) (hxn : nrm xs = xs) (hy : Al b ys) (hyn : nrm ys = ys) (h : xs.length < ys.length) : vl b xs < vl b ys := by
  have h1 := nrm_eq hb hx
  have h2 := nrm_eq hb hy
  refine dg_len_lt hb ?_
  rw [← h1, ← h2, hxn, hyn]; exact h

theorem Tryd_ent76 : Ent Tryd.prog 76 := ent_of Tryd.func76 (by kernel_rfl) rfl
theorem at_spec (v : Value) (xs : List Nat) (i : Nat) (h : Hp) (hs : SlF h N v xs) (hl : xs.length < 4611686018427387904) :
    CallsH Tryd.prog 76 [v, N i] h fun v' h' => v' = N (xs.getD i 0) ∧ h = h' := by
  (apply enter Tryd.func76 rfl Tryd.ntmps76 rfl)
  refine runM ?_
  (apply w_condD; exact rfl; exact rfl) <;> intro hi
  · refine runM ?_
    exact fin1 rfl rfl ⟨rfl, rfl⟩
  · refine runM ?_
    exact fin1 rfl rfl ⟨by rw [getD_none (by omega)], rfl⟩

theorem Tryd_ent62 : Ent Tryd.prog 62 := ent_of Tryd.func62 (by kernel_rfl) rfl
theorem compare_spec (va vb : Value) (xs ys : List Nat) (h : Hp) (ha : SlF h N va xs) (hb : SlF h N vb ys) (hx : Al 65536 xs) (hxn : nrm xs = xs) (hy : Al 65536 ys) (hyn : nrm ys = ys) (hl : xs.length < 4611686018427387904) (hl2 : ys.length < 4611686018427387904) :
    CallsH Tryd.prog 62 [va, vb] h fun v' h' => v' = I (cmpI (vl 65536 xs) (vl 65536 ys)) ∧ h = h' := by
  (apply enter Tryd.func62 rfl Tryd.ntmps62 rfl)
  refine runM ?_
  (apply w_condD; exact rfl; exact rfl) <;> intro hne
  · refine runM ?_
    (apply w_condD; exact rfl; exact rfl) <;> intro hlt
    · refine runM ?_
      exact fin1 rfl rfl ⟨by rw [cmpI_lt (len_cmp (by omega) hx hxn hy hyn hlt)], rfl⟩
    · refine runM ?_
      exact fin1 rfl rfl ⟨by rw [cmpI_gt (len_cmp (by omega) hy hyn hx hxn (by omega))]; rfl, rfl⟩
  · refine runM ?_
    (first | (apply w_seqB; exact rfl; apply w_block; exact rfl) | skip)
    apply (w_loop (σ := Nat) rfl (fun k => [(0, va), (1, vb), (5, I ((k : Int) - 1))])
      (fun k h' => h = h' ∧ k ≤ xs.length ∧ xs.drop k = ys.drop k) (fun k => k) xs.length)
    · exact (Sub.cons rfl (Sub.cons rfl (Sub.cons rfl (Sub.nil _))))
    · exact ⟨rfl, Nat.le_refl _, by rw [List.drop_of_length_le (Nat.le_refl _), List.drop_of_length_le (by omega)]⟩
    · rintro k h' ⟨rfl, i1, i2⟩
      refine runM ?_
      (apply w_condD; exact rfl; exact rfl) <;> intro hk
      · obtain ⟨j, rfl⟩ : ∃ j, k = j + 1 := ⟨k - 1, by omega⟩
        (apply w_know (t := 5) (u := N (j)) rfl (congrArg I (by omega)))
        refine runM ?_
        (apply w_condD; exact rfl; exact rfl) <;> intro hd
        · refine runM ?_
          exact fin1 rfl rfl ⟨by rw [cmpI_lt (vl_cmp hx (by omega) i2 hd)], rfl⟩
        · refine runM ?_
          (apply w_condD; exact rfl; exact rfl) <;> intro hd2
          · refine runM ?_
            exact fin1 rfl rfl ⟨by rw [cmpI_gt (vl_cmp hy (by omega) i2.symm hd2)]; rfl, rfl⟩
          · refine runM ?_
            apply again_normal j
            · exact (Sub.cons rfl (Sub.cons rfl (Sub.cons rfl (Sub.nil _))))
            · exact ⟨rfl, by omega, drop_step (by omega) (by omega) i2 (by omega)⟩
            · exact Nat.lt_succ_self j
      · have hk0 : k = 0 := by omega
        subst hk0
        simp only [List.drop_zero] at i2
        refine runM ?_
        exact fin1 rfl rfl ⟨by rw [cmpI_eq (by rw [i2])]; rfl, rfl⟩

theorem Tryd_ent63 : Ent Tryd.prog 63 := ent_of Tryd.func63 (by kernel_rfl) rfl
theorem cmp_spec (va vb : Value) (xs0 ys0 : List Nat) (h : Hp) (ha0 : SlF h U va xs0) (hb0 : SlF h U vb ys0) (hx0 : Al 18446744073709551616 xs0) (hy0 : Al 18446744073709551616 ys0) (hl : xs0.length < 4611686018427387904) (hl2 : ys0.length < 4611686018427387904) :
    CallsH Tryd.prog 63 [va, vb] h fun v' h' => v' = I (cmpI (vl 18446744073709551616 xs0) (vl 18446744073709551616 ys0)) ∧ h = h' := by
  (apply enter Tryd.func63 rfl Tryd.ntmps63 rfl)
  refine runM ?_
  apply (s_call Tryd_ent70 rfl rfl rfl)
  refine (norm_spec va xs0 h ha0 hl).mono ?_
  rintro v1 _ ⟨rfl, ha, -⟩
  refine ⟨(by first | exact trivial | exact Ext.refl _ | assumption | exact Ext.trans (by assumption) (by assumption)), ?_⟩
  refine runM ?_
  apply (s_call Tryd_ent70 rfl rfl rfl)
  refine (norm_spec vb ys0 h hb0 hl2).mono ?_
  rintro v2 _ ⟨rfl, hb, -⟩
  refine ⟨(by first | exact trivial | exact Ext.refl _ | assumption | exact Ext.trans (by assumption) (by assumption)), ?_⟩
  rw [← vl_nrm xs0, ← vl_nrm ys0]
  have hx : Al 18446744073709551616 (nrm xs0) := by rw [nrm_pre]; exact hx0.take _
  have hy : Al 18446744073709551616 (nrm ys0) := by rw [nrm_pre]; exact hy0.take _
  have hxn := nrm_nrm xs0
  have hyn := nrm_nrm ys0
  have hlx := nrm_len xs0
  have hly := nrm_len ys0
  generalize nrm xs0 = xs at *
  generalize nrm ys0 = ys at *
  refine runM ?_
  (apply w_condD; exact rfl; exact rfl) <;> intro hlt
  · refine runM ?_
    exact fin1 rfl rfl ⟨by rw [cmpI_lt (len_cmp (by omega) hx hxn hy hyn hlt)], rfl⟩
  · refine runM ?_
    (apply w_condD; exact rfl; exact rfl) <;> intro hgt
    · refine runM ?_
      exact fin1 rfl rfl ⟨by rw [cmpI_gt (len_cmp (by omega) hy hyn hx hxn (by omega))]; rfl, rfl⟩
    · refine runM ?_
      (first | (apply w_seqB; exact rfl; apply w_block; exact rfl) | skip)
      apply (w_loop (σ := Nat) rfl (fun k => [(0, v1), (1, v2), (5, I ((k : Int) - 1))])
        (fun k h' => h = h' ∧ k ≤ xs.length ∧ xs.drop k = ys.drop k) (fun k => k) xs.length)
      · exact (Sub.cons rfl (Sub.cons rfl (Sub.cons rfl (Sub.nil _))))
      · exact ⟨rfl, Nat.le_refl _, by rw [List.drop_of_length_le (Nat.le_refl _), List.drop_of_length_le (by omega)]⟩
      · rintro k h' ⟨rfl, i1, i2⟩
        refine runM ?_
        (apply w_condD; exact rfl; exact rfl) <;> intro hk
        · obtain ⟨j, rfl⟩ : ∃ j, k = j + 1 := ⟨k - 1, by omega⟩
          (apply w_know (t := 5) (u := N (j)) rfl (congrArg I (by omega)))
          refine runM ?_
          (apply w_condD; exact rfl; exact rfl) <;> intro hd
          · refine runM ?_
            exact fin1 rfl rfl ⟨by rw [cmpI_lt (vl_cmp hx (by omega) i2 hd)], rfl⟩
          · refine runM ?_
            (apply w_condD; exact rfl; exact rfl) <;> intro hd2
            · refine runM ?_
              exact fin1 rfl rfl ⟨by rw [cmpI_gt (vl_cmp hy (by omega) i2.symm hd2)]; rfl, rfl⟩
            · refine runM ?_
              apply again_normal j
              · exact (Sub.cons rfl (Sub.cons rfl (Sub.cons rfl (Sub.nil _))))
              · exact ⟨rfl, by omega, drop_step (by omega) (by omega) i2 (by omega)⟩
              · exact Nat.lt_succ_self j
        · have hk0 : k = 0 := by omega
          subst hk0
          simp only [List.drop_zero] at i2
          refine runM ?_
          exact fin1 rfl rfl ⟨by rw [cmpI_eq (by rw [i2])]; rfl, rfl⟩
end Go.Proofs.YtajgcmgkhmkmbaaDoor

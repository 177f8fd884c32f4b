/- Naturals: a word, a number of bits, long division and the rest by a word of package nat, by contracts. No condition. -/
import Derived.Test.YtajgcmgkhmkmbaaDoorNatI
namespace Go.Proofs.YtajgcmgkhmkmbaaDoor
set_option linter.unusedVariables false
set_option maxRecDepth 8000
open Go Go.Den Go.RowKit Go.Dig

theorem Tryd_ent43 : Ent Tryd.prog 43 := ent_of Tryd.func43 (by kernel_rfl) rfl
theorem of_spec (w : Nat) (h : Hp) (hw : w < 18446744073709551616) :
    CallsH Tryd.prog 43 [U w] h fun v' h' => Ext h h' ∧ OwnF h' h.size 31 U v' (dg 18446744073709551616 w) := by
  (apply enter Tryd.func43 rfl Tryd.ntmps43 rfl)
  refine runM ?_
  (apply (s_litF (f := U) [w] (fun _ => rfl)); exact rfl; exact rfl; exact rfl; exact rfl; exact rfl; exact rfl; exact rfl; exact rfl; omega)
  intro v1 h1 o1 e1 b1
  refine ⟨(by first | exact trivial | exact Ext.refl _ | assumption | exact Ext.trans (by assumption) (by assumption)), ?_⟩
  refine runM ?_
  apply (s_call Tryd_ent70 rfl rfl rfl)
  refine (norm_spec v1 [w] h1 o1.sl (by simp)).mono ?_
  rintro v3 _ ⟨rfl, s3, o3⟩
  refine ⟨(by first | exact trivial | exact Ext.refl _ | assumption | exact Ext.trans (by assumption) (by assumption)), ?_⟩
  refine runM ?_
  refine fin1 rfl rfl ⟨e1, ?_⟩
  have := o3 _ _ o1
  rw [nrm_eq (b := 18446744073709551616) (by omega) (Al.cons hw Al.nil)] at this
  simpa [vl] using this

theorem Tryd_ent44 : Ent Tryd.prog 44 := ent_of Tryd.func44 (by kernel_rfl) rfl
theorem mod_spec (va : Value) (xs : List Nat) (w : Nat) (h : Hp) (ha : SlF h U va xs) (hx : Al 18446744073709551616 xs) (hl : xs.length < 1099511627776) (hw : w < 18446744073709551616) :
    CallsH Tryd.prog 44 [va, U w] h fun v' h' => v' = U (if w = 0 then 0 else vl 18446744073709551616 xs % w) ∧ Ext h h' := by
  (apply enter Tryd.func44 rfl Tryd.ntmps44 rfl)
  refine runM ?_
  (apply w_condD; exact rfl; exact rfl) <;> intro h0
  · refine runM ?_
    exact fin1 rfl rfl ⟨by rw [if_pos h0], Ext.refl h⟩
  · refine runM ?_
    apply (s_call Tryd_ent71 rfl rfl rfl)
    refine (byWord_spec va xs w h ha hx hl (by omega) hw).mono ?_
    rintro _ h1 ⟨q, rfl, e1, o1⟩
    refine ⟨(by first | exact trivial | exact Ext.refl _ | assumption | exact Ext.trans (by assumption) (by assumption)), ?_⟩
    refine runM ?_
    exact fin1 rfl rfl ⟨by rw [if_neg h0], e1⟩

theorem Tryd_ent87 : Ent Tryd.prog 87 := ent_of Tryd.func87 (by kernel_rfl) rfl
theorem len64_spec (x : Nat) (h : Hp) (hx : x < 18446744073709551616) :
    CallsH Tryd.prog 87 [U x] h fun v h' => v = N (Lib.bitLen x) ∧ h = h' :=
  callsH_same fun w => Tryd.bits_Len64 x w (by omega) (by omega)

theorem Tryd_ent78 : Ent Tryd.prog 78 := ent_of Tryd.func78 (by kernel_rfl) rfl
theorem bits_spec (va : Value) (xs0 : List Nat) (h : Hp) (ha0 : SlF h U va xs0) (hx0 : Al 18446744073709551616 xs0) (hl0 : xs0.length < 1099511627776) :
    CallsH Tryd.prog 78 [va] h fun v' h' => v' = N (nb (vl 18446744073709551616 xs0)) ∧ h = h' := by
  (apply enter Tryd.func78 rfl Tryd.ntmps78 rfl)
  refine runM ?_
  apply (s_call Tryd_ent70 rfl rfl rfl)
  refine (norm_spec va xs0 h ha0 (by omega)).mono ?_
  rintro v1 _ ⟨rfl, ha, -⟩
  refine ⟨(by first | exact trivial | exact Ext.refl _ | assumption | exact Ext.trans (by assumption) (by assumption)), ?_⟩
  rw [← vl_nrm xs0]
  have hx : Al 18446744073709551616 (nrm xs0) := by rw [nrm_pre]; exact hx0.take _
  have hxn := nrm_nrm xs0
  have hlx := nrm_len xs0
  have hl : (nrm xs0).length < 1099511627776 := by omega
  clear hlx
  generalize nrm xs0 = xs at *
  refine runM ?_
  (apply w_condD; exact rfl; exact rfl) <;> intro h0
  · refine runM ?_
    have : xs = [] := List.eq_nil_of_length_eq_zero h0
    subst this
    exact fin1 rfl rfl ⟨rfl, rfl⟩
  · obtain ⟨m, hm⟩ : ∃ m, xs.length = m + 1 := ⟨xs.length - 1, by omega⟩
    have htop : xs.getD m 0 ≠ 0 := by
      have h1 := nrm_eq (b := 18446744073709551616) (by omega) hx
      rw [hxn] at h1
      intro hz
      have h2 : vl 18446744073709551616 xs = pv 18446744073709551616 xs m := by
        rw [← pv_full (k := m + 1) (xs := xs) (by omega), pv, hz, Nat.mul_zero, Nat.add_zero]
      have h3 := pv_lt hx (by omega) m
      rw [← h2] at h3
      have h4 := dg_len (b := 18446744073709551616) (by omega) h3
      rw [← h1] at h4
      omega
    have htw := hx.getD (by omega) m
    obtain ⟨g1, g2, g3, g4⟩ := bitLen_spec 64 _ htw (by omega) htop
    have hnb := nb_top (k := 64) (by rfl) hx hm (j := Lib.bitLen (xs.getD m 0) - 1) g3 (by rw [Nat.sub_add_cancel g1]; exact g4)
    rw [hnb]
    refine runM ?_
    rw [hm, Nat.add_sub_cancel]
    apply (s_call Tryd_ent87 rfl rfl rfl)
    refine (len64_spec (xs.getD m 0) h htw).mono ?_
    rintro _ _ ⟨rfl, rfl⟩
    refine ⟨(by first | exact trivial | exact Ext.refl _ | assumption | exact Ext.trans (by assumption) (by assumption)), ?_⟩
    generalize Lib.bitLen (xs.getD m 0) = bl at *
    refine runM ?_
    exact fin1 rfl rfl ⟨congrArg I (by omega), rfl⟩
end Go.Proofs.YtajgcmgkhmkmbaaDoor

/- Naturals: the reference's digits, by contract. No condition. -/
import Derived.Test.YtajgcmgkhmkmbaaDoorNatE
namespace Go.Proofs.YtajgcmgkhmkmbaaDoor
set_option linter.unusedVariables false
set_option maxRecDepth 8000
open Go Go.Den Go.RowKit Go.Dig

theorem pow16 (k : Nat) : 2 ^ (16 * k) = 65536 ^ k := by rw [Nat.pow_mul]
theorem pow64 (i : Nat) : 65536 ^ (4 * i) = 18446744073709551616 ^ i := by rw [Nat.pow_mul]
theorem dig_step (p B w k : Nat) : p + B * (w % 65536 ^ k) + B * 65536 ^ k * (w / 2 ^ (16 * k) % 65536) = p + B * (w % 65536 ^ (k + 1)) := by
  rw [pow16, Nat.mod_pow_succ, Nat.mul_add, Nat.mul_assoc, Nat.add_assoc]

theorem Tryd_ent47 : Ent Tryd.prog 47 := ent_of Tryd.func47 (by kernel_rfl) rfl
set_option maxHeartbeats 800000 in
theorem digits_spec (va : Value) (xs : List Nat) (h : Hp) (ha : SlF h U va xs) (hx : Al 18446744073709551616 xs) (hl : xs.length < 1099511627776) :
    CallsH Tryd.prog 47 [va] h fun v' h' => Ext h h' ∧ OwnF h' h.size 3 N v' (dg 65536 (vl 18446744073709551616 xs)) := by
  (apply enter Tryd.func47 rfl Tryd.ntmps47 rfl)
  refine runM ?_
  (first | (apply w_seqB; exact rfl; apply w_block; exact rfl) | skip)
  apply (w_loop (σ := Nat × Value × List Nat) rfl (fun p => [(7, va), (8, N xs.length), (9, N p.1), (3, p.2.1)])
    (fun p h' => Ext h h' ∧ OwnF h' h.size 3 N p.2.1 p.2.2 ∧ p.2.2.length = 4 * p.1 ∧ p.1 ≤ xs.length ∧ Al 65536 p.2.2 ∧ vl 65536 p.2.2 = pv 18446744073709551616 xs p.1) (fun p => xs.length - p.1) (0, .slice none 0 0, []))
  · exact (Sub.cons rfl (Sub.cons rfl (Sub.cons rfl (Sub.cons rfl (Sub.nil _)))))
  · exact ⟨Ext.refl h, OwnF.nil _ _ _ _, rfl, Nat.zero_le _, Al.nil, rfl⟩
  · rintro ⟨i, out, os0⟩ h' ⟨e, o, i1, i2, i3, i4⟩
    dsimp only at e o i1 i2 i3 i4 ⊢
    have ha' := ha.ext e
    refine runM ?_
    (apply w_condD; exact rfl; exact rfl) <;> intro hi
    · refine runM ?_
      have hw := hx.getD (by omega) i
      generalize hwd : xs.getD i 0 = w at *
      (first | (apply w_seqB; exact rfl; apply w_block; exact rfl) | skip)
      apply (w_loop (σ := Nat × Value × List Nat) rfl (fun p => [(7, va), (8, N xs.length), (9, N i), (5, U w), (6, N p.1), (3, p.2.1)])
        (fun p h' => Ext h h' ∧ OwnF h' h.size 3 N p.2.1 p.2.2 ∧ p.2.2.length = 4 * i + p.1 ∧ p.1 ≤ 4 ∧ Al 65536 p.2.2 ∧ vl 65536 p.2.2 = pv 18446744073709551616 xs i + 65536 ^ (4 * i) * (w % 65536 ^ p.1)) (fun p => 4 - p.1) (0, out, os0))
      · exact (Sub.cons rfl (Sub.cons rfl (Sub.cons rfl (Sub.cons rfl (Sub.cons rfl (Sub.cons rfl (Sub.nil _)))))))
      · exact ⟨e, o, i1, by simp only []; omega, i3, by simp [i4, Nat.mod_one]⟩
      · rintro ⟨k, out, os⟩ h2 ⟨e', o', j1, j2, j3, j4⟩
        dsimp only at e' o' j1 j2 j3 j4 ⊢
        refine runM ?_
        (apply w_condD; exact rfl; exact rfl) <;> intro hk
        · have hm : w / 2 ^ (16 * k) % 65536 < 65536 := Nat.mod_lt _ (by omega)
          have hd : w / 2 ^ (16 * k) < 18446744073709551616 := Nat.lt_of_le_of_lt (Nat.div_le_self _ _) hw
          have hst := dig_step (pv 18446744073709551616 xs i) (65536 ^ (4 * i)) w k
          refine runM ?_
          generalize hdd : w / 2 ^ (16 * k) % 65536 = d at *
          (refine s_app1 (bytes := 8) (d) o' e' rfl rfl rfl rfl rfl rfl rfl rfl rfl (by first | exact rfl | exact congrArg some (congrArg I (by omega))) (fun _ => rfl) rfl rfl (fun _ _ => trivial) (by omega) (by simp only [maxLen]; omega) ?_)
          intro v3 h3 o3 e3 k3 b3
          refine runM ?_
          apply again_normal (k + 1, v3, os ++ [d])
          · exact (Sub.cons rfl (Sub.cons rfl (Sub.cons rfl (Sub.cons rfl (Sub.cons rfl (Sub.cons rfl (Sub.nil _)))))))
          · refine ⟨e3, o3, by simp [j1]; omega, hk, j3.snoc hm, ?_⟩
            simp only []
            rw [vl_snoc, j4, j1, Nat.pow_add]
            exact hst
          · simp only []; omega
        · have hke : k = 4 := by omega
          subst hke
          refine runM ?_
          apply again_normal (i + 1, out, os)
          · exact (Sub.cons rfl (Sub.cons rfl (Sub.cons rfl (Sub.cons rfl (Sub.nil _)))))
          · refine ⟨e', o', by simp only []; omega, hi, j3, ?_⟩
            simp only []
            rw [j4, pow64, pv, hwd, Nat.mod_eq_of_lt (by omega : w < 65536 ^ 4)]
          · simp only []; omega
    · refine runM ?_
      have hie : i = xs.length := by omega
      subst hie
      rw [pv_full (Nat.le_refl _)] at i4
      apply (s_call Tryd_ent75 rfl rfl rfl)
      refine (trim_spec out _ h' o.sl (by omega)).mono ?_
      rintro v3 _ ⟨rfl, s3, o3⟩
      refine ⟨(by first | exact trivial | exact Ext.refl _ | assumption | exact Ext.trans (by assumption) (by assumption)), ?_⟩
      refine runM ?_
      refine fin1 rfl rfl ⟨e, ?_⟩
      have := o3 _ _ o
      rw [nrm_eq (by omega) i3, i4] at this
      exact this
end Go.Proofs.YtajgcmgkhmkmbaaDoor

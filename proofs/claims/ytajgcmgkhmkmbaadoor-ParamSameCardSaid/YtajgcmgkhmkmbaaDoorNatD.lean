/- Naturals: the difference of package nat, by contract. No condition. -/
import Derived.Test.YtajgcmgkhmkmbaaDoorNatC
namespace Go.Proofs.YtajgcmgkhmkmbaaDoor
set_option linter.unusedVariables false
set_option maxRecDepth 8000
open Go Go.Den Go.RowKit Go.Dig

theorem sub_step {b x y c p q v B : Nat} (hx : x < b) (hy : y < b) (hc : c ≤ 1) (h : p + B * c = q + v) : (p + B * x) + B * b * (if x < y + c then 1 else 0) = (q + B * y) + (v + B * ((x + b - y - c) % b)) := by
  by_cases hlt : x < y + c
  · rw [if_pos hlt]
    have e : (x + b - y - c) % b = x + b - y - c := Nat.mod_eq_of_lt (by omega)
    have e2 : B * (x + b - y - c) + B * (y + c) = B * x + B * b := by rw [← Nat.mul_add, ← Nat.mul_add]; congr 1; omega
    rw [e]
    rw [Nat.mul_add] at e2
    omega
  · rw [if_neg hlt]
    have e : (x + b - y - c) % b = x - y - c := by
      rw [show x + b - y - c = (x - y - c) + b by omega, Nat.add_mod_right, Nat.mod_eq_of_lt (by omega)]
    have e2 : B * (x - y - c) + B * (y + c) = B * x := by rw [← Nat.mul_add]; congr 1; omega
    rw [e]
    rw [Nat.mul_add] at e2
    omega

theorem Tryd_ent91 : Ent Tryd.prog 91 := ent_of Tryd.func91 (by kernel_rfl) rfl
set_option maxHeartbeats 400000 in
theorem nsub_spec (va vb : Value) (xs ys0 : List Nat) (h : Hp) (ha : SlF h U va xs) (hb0 : SlF h U vb ys0) (hx : Al 18446744073709551616 xs) (hy0 : Al 18446744073709551616 ys0) (hl : xs.length < 1099511627776) (hl2 : ys0.length < 1099511627776) :
    CallsH Tryd.prog 91 [va, vb] h fun v' h' => Ext h h' ∧
      (vl 18446744073709551616 xs < vl 18446744073709551616 ys0 → v' = .tuple [.slice none 0 0, N 5].toArray) ∧
      (vl 18446744073709551616 ys0 ≤ vl 18446744073709551616 xs → ∃ v1, v' = .tuple [v1, N 0].toArray ∧ OwnF h' h.size 31 U v1 (dg 18446744073709551616 (vl 18446744073709551616 xs - vl 18446744073709551616 ys0))) := by
  (apply enter Tryd.func91 rfl Tryd.ntmps91 rfl)
  refine runM ?_
  apply (s_call Tryd_ent63 rfl rfl rfl)
  refine (cmp_spec va vb xs ys0 h ha hb0 hx hy0 (by omega) (by omega)).mono ?_
  rintro _ _ ⟨rfl, rfl⟩
  refine ⟨(by first | exact trivial | exact Ext.refl _ | assumption | exact Ext.trans (by assumption) (by assumption)), ?_⟩
  refine runM ?_
  (apply w_condD; exact rfl; exact rfl) <;> intro hlt
  · refine runM ?_
    have hlt' : vl 18446744073709551616 xs < vl 18446744073709551616 ys0 := by
      simp only [cmpI] at hlt
      split at hlt
      · assumption
      · split at hlt <;> omega
    exact fin2 rfl rfl rfl ⟨Ext.refl _, fun _ => rfl, fun hge => by omega⟩
  · have hge : vl 18446744073709551616 ys0 ≤ vl 18446744073709551616 xs := by
      simp only [cmpI] at hlt
      split at hlt
      · omega
      · omega
    refine runM ?_
    apply (s_call Tryd_ent70 rfl rfl rfl)
    refine (norm_spec vb ys0 h hb0 (by omega)).mono ?_
    rintro v1 _ ⟨rfl, hb, -⟩
    refine ⟨(by first | exact trivial | exact Ext.refl _ | assumption | exact Ext.trans (by assumption) (by assumption)), ?_⟩
    rw [← vl_nrm ys0] at hge ⊢
    have hy : Al 18446744073709551616 (nrm ys0) := by rw [nrm_pre]; exact hy0.take _
    have hyn := nrm_nrm ys0
    have hly := nrm_len ys0
    clear hlt
    generalize nrm ys0 = ys at *
    have hle : ys.length ≤ xs.length := by
      have h1 := nrm_eq (by omega) hy
      rw [hyn] at h1
      rw [h1]
      exact dg_len (by omega) (Nat.lt_of_le_of_lt hge (vl_lt hx))
    refine runM ?_
    (apply (s_make (f := U) (bytes := 8) (0)); (first | exact isK_c | exact isK_t rfl); (first | exact isK_c | exact isK_t rfl); exact rfl; exact rfl; exact rfl; exact rfl; exact rfl; exact rfl; omega; omega; omega)
    intro v2 h1 o1 e1 b1
    refine ⟨(by first | exact trivial | exact Ext.refl _ | assumption | exact Ext.trans (by assumption) (by assumption)), ?_⟩
    refine runM ?_
    (first | (apply w_seqB; exact rfl; apply w_block; exact rfl) | skip)
    apply (w_loop (σ := Nat × Value × Nat × List Nat) rfl (fun p => [(1, v1), (20, va), (21, N xs.length), (22, N p.1), (6, p.2.1), (7, U p.2.2.1)])
      (fun p h' => Ext h h' ∧ OwnF h' h.size 31 U p.2.1 p.2.2.2 ∧ p.2.2.2.length = p.1 ∧ p.1 ≤ xs.length ∧ Al 18446744073709551616 p.2.2.2 ∧ p.2.2.1 ≤ 1 ∧
        pv 18446744073709551616 xs p.1 + 18446744073709551616 ^ p.1 * p.2.2.1 = pv 18446744073709551616 ys p.1 + vl 18446744073709551616 p.2.2.2) (fun p => xs.length - p.1) (0, v2, 0, []))
    · exact (Sub.cons rfl (Sub.cons rfl (Sub.cons rfl (Sub.cons rfl (Sub.cons rfl (Sub.cons rfl (Sub.nil _)))))))
    · exact ⟨e1, o1, rfl, Nat.zero_le _, Al.nil, Nat.zero_le _, rfl⟩
    · rintro ⟨i, out, c, os⟩ h' ⟨e, o, i1, i2, i3, i4, i5⟩
      dsimp only at e o i1 i2 i3 i4 i5 ⊢
      have ha' := ha.ext e
      have hb' := hb.ext e
      refine runM ?_
      (apply w_condD; exact rfl; exact rfl) <;> intro hi
      · refine runM ?_
        apply (w_tcut (σ := Unit) (fun _ => [(1, v1), (20, va), (21, N xs.length), (22, N i), (6, out), (7, U c), (9, U (xs.getD i 0)), (10, U (ys.getD i 0))]) (fun _ h2 => h' = h2))
        · (apply w_condD; exact rfl; exact rfl) <;> intro hj
          · refine runM ?_
            apply cut_normal ()
            · exact (Sub.cons rfl (Sub.cons rfl (Sub.cons rfl (Sub.cons rfl (Sub.cons rfl (Sub.cons rfl (Sub.cons rfl (Sub.cons rfl (Sub.nil _)))))))))
            · rfl
          · refine runM ?_
            apply cut_normal ()
            · rw [getD_none (by omega : ys.length ≤ i)]
              exact (Sub.cons rfl (Sub.cons rfl (Sub.cons rfl (Sub.cons rfl (Sub.cons rfl (Sub.cons rfl (Sub.cons rfl (Sub.cons rfl (Sub.nil _)))))))))
            · rfl
        · rintro ⟨⟩ _ rfl
          have hxi := hx.getD (by omega) i
          have hyi := hy.getD (by omega) i
          have hst := sub_step hxi hyi i4 i5
          have hc2 : (if xs.getD i 0 < ys.getD i 0 + c then 1 else 0 : Nat) ≤ 1 := by split <;> omega
          have hm2 : (xs.getD i 0 + 18446744073709551616 - ys.getD i 0 - c) % 18446744073709551616 < 18446744073709551616 := Nat.mod_lt _ (by omega)
          refine runM ?_
          apply (s_extern (sub64_run _ _ c i4) rfl rfl)
          generalize (xs.getD i 0 + 18446744073709551616 - ys.getD i 0 - c) % 18446744073709551616 = w1 at *
          generalize (if xs.getD i 0 < ys.getD i 0 + c then 1 else 0 : Nat) = c1 at *
          refine runM ?_
          (refine s_app1 (bytes := 8) (w1) o e rfl rfl rfl rfl rfl rfl rfl rfl rfl (by first | exact rfl | exact congrArg some (congrArg I (by omega))) (fun _ => rfl) rfl rfl (fun _ _ => trivial) (by omega) (by simp only [maxLen]; omega) ?_)
          intro v3 h2 o2 e2 k2 b2
          refine runM ?_
          apply again_normal (i + 1, v3, c1, os ++ [w1])
          · exact (Sub.cons rfl (Sub.cons rfl (Sub.cons rfl (Sub.cons rfl (Sub.cons rfl (Sub.cons rfl (Sub.nil _)))))))
          · exact ⟨e2, o2, by simp [i1], hi, i3.snoc hm2, hc2, by simp only [pv, vl_snoc, i1, Nat.pow_succ]; exact hst⟩
          · simp only []; omega
      · refine runM ?_
        have hie : i = xs.length := by omega
        subst hie
        rw [pv_full (Nat.le_refl _), pv_full hle] at i5
        have hc0 : c = 0 := by
          rcases (by omega : c = 0 ∨ c = 1) with hc | hc
          · exact hc
          · subst hc
            have := vl_lt i3
            rw [i1] at this
            omega
        subst hc0
        apply (s_call Tryd_ent70 rfl rfl rfl)
        refine (norm_spec out _ h' o.sl (by omega)).mono ?_
        rintro v3 _ ⟨rfl, s3, o3⟩
        refine ⟨(by first | exact trivial | exact Ext.refl _ | assumption | exact Ext.trans (by assumption) (by assumption)), ?_⟩
        refine runM ?_
        refine fin2 rfl rfl rfl ⟨e, fun hlt => by omega, fun _ => ⟨v3, rfl, ?_⟩⟩
        have := o3 _ _ o
        rw [nrm_eq (by omega) i3, show vl 18446744073709551616 os = vl 18446744073709551616 xs - vl 18446744073709551616 ys by omega] at this
        exact this
end Go.Proofs.YtajgcmgkhmkmbaaDoor

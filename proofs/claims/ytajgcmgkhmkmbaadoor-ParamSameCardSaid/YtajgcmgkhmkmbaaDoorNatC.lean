/- Naturals: sum and difference of package nat, by contracts. No condition. -/
import Derived.Test.YtajgcmgkhmkmbaaDoorNatB
import Derived.Shelf.Spec.BitsCarry
namespace Go.Proofs.YtajgcmgkhmkmbaaDoor
set_option linter.unusedVariables false
set_option maxRecDepth 8000
open Go Go.Den Go.RowKit Go.Dig

theorem sub64_run (x y c : Nat) (hc : c ≤ 1) (w : World) :
    (callFunc 88 #[U x, U y, U c]).run Tryd.prog w =
      .ok (.value (.tuple [U ((x + 18446744073709551616 - y - c) % 18446744073709551616), U (if x < y + c then 1 else 0)].toArray)) w := by
  rw [run_callFunc_extern Tryd.func88 (by kernel_rfl) (by kernel_rfl) (by kernel_rfl) (e := Go.Proofs.sub64Entry) (by kernel_rfl), Go.Proofs.run_sub64 x y c hc]
  rfl

theorem add_step {b x y c p q v B : Nat} (h : v + B * c = p + q) : v + B * ((x + y + c) % b) + B * b * ((x + y + c) / b) = (p + B * x) + (q + B * y) := by
  have := Nat.mod_add_div (x + y + c) b
  have e : B * ((x + y + c) % b) + B * b * ((x + y + c) / b) = B * (x + y + c) := by rw [Nat.mul_assoc, ← Nat.mul_add, this]
  rw [Nat.mul_add, Nat.mul_add] at e
  omega

theorem Tryd_ent58 : Ent Tryd.prog 58 := ent_of Tryd.func58 (by kernel_rfl) rfl
set_option maxHeartbeats 400000 in
theorem nadd_spec (va vb : Value) (xs0 ys0 : List Nat) (h : Hp) (ha0 : SlF h U va xs0) (hb0 : SlF h U vb ys0) (hx0 : Al 18446744073709551616 xs0) (hy0 : Al 18446744073709551616 ys0) (hl : xs0.length < 1099511627776) (hl2 : ys0.length < 1099511627776) :
    CallsH Tryd.prog 58 [va, vb] h fun v' h' => Ext h h' ∧ OwnF h' h.size 31 U v' (dg 18446744073709551616 (vl 18446744073709551616 xs0 + vl 18446744073709551616 ys0)) := by
  (apply enter Tryd.func58 rfl Tryd.ntmps58 rfl)
  refine runM ?_
  apply (w_tcut (σ := Value × List Nat × Value × List Nat) (fun p => [(0, p.1), (1, p.2.2.1)])
    (fun p h' => h = h' ∧ SlF h U p.1 p.2.1 ∧ SlF h U p.2.2.1 p.2.2.2 ∧ Al 18446744073709551616 p.2.1 ∧ Al 18446744073709551616 p.2.2.2 ∧ p.2.1.length < 1099511627776 ∧ p.2.2.2.length ≤ p.2.1.length ∧ vl 18446744073709551616 p.2.1 + vl 18446744073709551616 p.2.2.2 = vl 18446744073709551616 xs0 + vl 18446744073709551616 ys0))
  · (apply w_condD; exact rfl; exact rfl) <;> intro hlt
    · refine runM ?_
      apply cut_normal (vb, ys0, va, xs0)
      · exact (Sub.cons rfl (Sub.cons rfl (Sub.nil _)))
      · exact ⟨rfl, hb0, ha0, hy0, hx0, hl2, by simp only []; omega, by simp only []; rw [Nat.add_comm]⟩
    · refine runM ?_
      apply cut_normal (va, xs0, vb, ys0)
      · exact (Sub.cons rfl (Sub.cons rfl (Sub.nil _)))
      · exact ⟨rfl, ha0, hb0, hx0, hy0, hl, by simp only []; omega, rfl⟩
  · rintro ⟨va, xs, vb, ys⟩ h' ⟨rfl, ha, hb, hx, hy, hl, hle, hv⟩
    dsimp only at ha hb hx hy hl hle hv ⊢
    rw [← hv]
    clear hv hl2 ha0 hb0 hx0 hy0
    refine runM ?_
    (apply (s_make (f := U) (bytes := 8) (0)); (first | exact isK_c | exact isK_t rfl); (first | exact isK_c | exact isK_t rfl); exact rfl; exact rfl; exact rfl; exact rfl; exact rfl; exact rfl; omega; omega; omega)
    intro v1 h1 o1 e1 b1
    refine ⟨(by first | exact trivial | exact Ext.refl _ | assumption | exact Ext.trans (by assumption) (by assumption)), ?_⟩
    refine runM ?_
    (first | (apply w_seqB; exact rfl; apply w_block; exact rfl) | skip)
    apply (w_loop (σ := Nat × Value × Nat × List Nat) rfl (fun p => [(1, vb), (21, va), (22, N xs.length), (23, N p.1), (5, p.2.1), (6, U p.2.2.1)])
      (fun p h' => Ext h h' ∧ OwnF h' h.size 31 U p.2.1 p.2.2.2 ∧ p.2.2.2.length = p.1 ∧ p.1 ≤ xs.length ∧ Al 18446744073709551616 p.2.2.2 ∧ p.2.2.1 ≤ 1 ∧
        vl 18446744073709551616 p.2.2.2 + 18446744073709551616 ^ p.1 * p.2.2.1 = pv 18446744073709551616 xs p.1 + pv 18446744073709551616 ys p.1) (fun p => xs.length - p.1) (0, v1, 0, []))
    · exact (Sub.cons rfl (Sub.cons rfl (Sub.cons rfl (Sub.cons rfl (Sub.cons rfl (Sub.cons rfl (Sub.nil _)))))))
    · exact ⟨e1, o1, rfl, Nat.zero_le _, Al.nil, Nat.zero_le _, rfl⟩
    · rintro ⟨i, out, c, os⟩ h' ⟨e, o, i1, i2, i3, i4, i5⟩
      dsimp only at e o i1 i2 i3 i4 i5 ⊢
      have ha' := ha.ext e
      have hb' := hb.ext e
      refine runM ?_
      (apply w_condD; exact rfl; exact rfl) <;> intro hi
      · refine runM ?_
        apply (w_tcut (σ := Unit) (fun _ => [(1, vb), (21, va), (22, N xs.length), (23, N i), (5, out), (6, U c), (8, U (xs.getD i 0)), (9, U (ys.getD i 0))]) (fun _ h2 => h' = h2))
        · (apply w_condD; exact rfl; exact rfl) <;> intro hj
          · refine runM ?_
            apply cut_normal ()
            · exact (Sub.cons rfl (Sub.cons rfl (Sub.cons rfl (Sub.cons rfl (Sub.cons rfl (Sub.cons rfl (Sub.cons rfl (Sub.cons rfl (Sub.nil _)))))))))
            · rfl
          · refine runM ?_
            apply cut_normal ()
            · rw [getD_none (by omega : ys.length ≤ i)]
              exact (Sub.cons rfl (Sub.cons rfl (Sub.cons rfl (Sub.cons rfl (Sub.cons rfl (Sub.cons rfl (Sub.cons rfl (Sub.cons rfl (Sub.nil _)))))))))
            · rfl
        · rintro ⟨⟩ _ rfl
          have hxi := hx.getD (by omega) i
          have hyi := hy.getD (by omega) i
          have hst := add_step (b := 18446744073709551616) (x := xs.getD i 0) (y := ys.getD i 0) i5
          have hc2 : (xs.getD i 0 + ys.getD i 0 + c) / 18446744073709551616 ≤ 1 := by omega
          have hm2 : (xs.getD i 0 + ys.getD i 0 + c) % 18446744073709551616 < 18446744073709551616 := Nat.mod_lt _ (by omega)
          refine runM ?_
          apply (s_extern (add64_run _ _ c i4 hxi hyi) rfl rfl)
          generalize (xs.getD i 0 + ys.getD i 0 + c) % 18446744073709551616 = w1 at *
          generalize (xs.getD i 0 + ys.getD i 0 + c) / 18446744073709551616 = c1 at *
          refine runM ?_
          (refine s_app1 (bytes := 8) (w1) o e rfl rfl rfl rfl rfl rfl rfl rfl rfl (by first | exact rfl | exact congrArg some (congrArg I (by omega))) (fun _ => rfl) rfl rfl (fun _ _ => trivial) (by omega) (by simp only [maxLen]; omega) ?_)
          intro v2 h2 o2 e2 k2 b2
          refine runM ?_
          apply again_normal (i + 1, v2, c1, os ++ [w1])
          · exact (Sub.cons rfl (Sub.cons rfl (Sub.cons rfl (Sub.cons rfl (Sub.cons rfl (Sub.cons rfl (Sub.nil _)))))))
          · exact ⟨e2, o2, by simp [i1], hi, i3.snoc hm2, hc2, by simp only [pv, vl_snoc, i1, Nat.pow_succ]; exact hst⟩
          · simp only []; omega
      · refine runM ?_
        have hie : i = xs.length := by omega
        subst hie
        rw [pv_full (Nat.le_refl _), pv_full hle] at i5
        refine runM ?_
        (refine s_app1 (bytes := 8) (c) o e rfl rfl rfl rfl rfl rfl rfl rfl rfl (by first | exact rfl | exact congrArg some (congrArg I (by omega))) (fun _ => rfl) rfl rfl (fun _ _ => trivial) (by omega) (by simp only [maxLen]; omega) ?_)
        intro v2 h2 o2 e2 k2 b2
        refine runM ?_
        apply (s_call Tryd_ent70 rfl rfl rfl)
        refine (norm_spec v2 _ h2 o2.sl (by simp; omega)).mono ?_
        rintro v3 _ ⟨rfl, s3, o3⟩
        refine ⟨(by first | exact trivial | exact Ext.refl _ | assumption | exact Ext.trans (by assumption) (by assumption)), ?_⟩
        refine runM ?_
        refine fin1 rfl rfl ⟨e2, ?_⟩
        have := o3 _ _ o2
        rw [nrm_eq (by omega) (i3.snoc (by omega)), vl_snoc, i1, i5] at this
        exact this
end Go.Proofs.YtajgcmgkhmkmbaaDoor

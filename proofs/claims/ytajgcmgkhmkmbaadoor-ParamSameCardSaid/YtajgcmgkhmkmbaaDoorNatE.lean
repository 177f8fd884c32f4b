/- Naturals: the product of package nat, by contract. No condition. -/
import Derived.Test.YtajgcmgkhmkmbaaDoorNatD
namespace Go.Proofs.YtajgcmgkhmkmbaaDoor
set_option linter.unusedVariables false
set_option maxRecDepth 8000
open Go Go.Den Go.RowKit Go.Dig

theorem mul_word {x y c o : Nat} (hx : x < 18446744073709551616) (hy : y < 18446744073709551616) (hc : c < 18446744073709551616) (ho : o < 18446744073709551616) :
    o + x * y + c < 18446744073709551616 * 18446744073709551616 := by
  have : x * y ≤ 18446744073709551615 * 18446744073709551615 := Nat.mul_le_mul (by omega) (by omega)
  omega
theorem mul_carry {q c o : Nat} (hq : o + q + c < 18446744073709551616 * 18446744073709551616) (hc : c < 18446744073709551616) (ho : o < 18446744073709551616) :
    q / 18446744073709551616 + (q % 18446744073709551616 + c) / 18446744073709551616 < 18446744073709551616 ∧
    q / 18446744073709551616 + (q % 18446744073709551616 + c) / 18446744073709551616 + (o + (q % 18446744073709551616 + c) % 18446744073709551616) / 18446744073709551616 = (o + q + c) / 18446744073709551616 ∧
    (o + (q % 18446744073709551616 + c) % 18446744073709551616) % 18446744073709551616 = (o + q + c) % 18446744073709551616 ∧ (o + q + c) / 18446744073709551616 < 18446744073709551616 := by omega
theorem mul_step {B W x y c o p q v p0 : Nat} (h : v + B * c = p0 + q * (x * p)) (hB : B = q * W) (n : Nat) (hn : n = o + x * y + c) {b : Nat} :
    v + B * (n % b) + B * b * (n / b) = (p0 + B * o) + q * (x * (p + W * y)) := by
  have := Nat.mod_add_div n b
  have e : B * (n % b) + B * b * (n / b) = B * n := by rw [Nat.mul_assoc, ← Nat.mul_add, this]
  have e2 : q * (x * (p + W * y)) = q * (x * p) + B * (x * y) := by
    subst hB
    rw [Nat.mul_add, Nat.mul_add, Nat.mul_assoc q W]
    congr 2
    rw [← Nat.mul_assoc, ← Nat.mul_assoc, Nat.mul_comm x W]
  rw [e2, Nat.add_assoc, e, hn, Nat.mul_add, Nat.mul_add]
  omega

theorem Tryd_ent65 : Ent Tryd.prog 65 := ent_of Tryd.func65 (by kernel_rfl) rfl
set_option maxHeartbeats 800000 in
theorem nmul_spec (va vb : Value) (xs ys : List Nat) (h : Hp) (ha : SlF h U va xs) (hb : SlF h U vb ys) (hx : Al 18446744073709551616 xs) (hy : Al 18446744073709551616 ys) (hl : xs.length < 1099511627776) (hl2 : ys.length < 1099511627776) :
    CallsH Tryd.prog 65 [va, vb] h fun v' h' => Ext h h' ∧ OwnF h' h.size 31 U v' (dg 18446744073709551616 (vl 18446744073709551616 xs * vl 18446744073709551616 ys)) := by
  (apply enter Tryd.func65 rfl Tryd.ntmps65 rfl)
  refine runM ?_
  (apply (s_make (f := U) (bytes := 8) (0)); (first | exact isK_c | exact isK_t rfl); (first | exact isK_c | exact isK_t rfl); exact rfl; exact rfl; exact rfl; exact rfl; exact rfl; exact rfl; omega; omega; omega)
  intro out h1 o1 e1 b1
  refine ⟨(by first | exact trivial | exact Ext.refl _ | assumption | exact Ext.trans (by assumption) (by assumption)), ?_⟩
  refine runM ?_
  (first | (apply w_seqB; exact rfl; apply w_block; exact rfl) | skip)
  apply (w_loop (σ := Nat × List Nat) rfl (fun p => [(1, vb), (20, va), (21, N xs.length), (22, N p.1), (5, out)])
    (fun p h' => Ext h h' ∧ OwnF h' h.size 31 U out p.2 ∧ p.2.length = xs.length + ys.length ∧ p.1 ≤ xs.length ∧ Al 18446744073709551616 p.2 ∧
      pv 18446744073709551616 p.2 (p.1 + ys.length) = pv 18446744073709551616 xs p.1 * vl 18446744073709551616 ys) (fun p => xs.length - p.1) (0, List.replicate (xs.length + ys.length) 0))
  · exact (Sub.cons rfl (Sub.cons rfl (Sub.cons rfl (Sub.cons rfl (Sub.cons rfl (Sub.nil _))))))
  · refine ⟨e1, o1, by simp, Nat.zero_le _, Al.replicate (by omega) _, ?_⟩
    simp only [pv_eq, List.take_replicate, vl_zeros, List.take_zero, vl, Nat.zero_mul]
  · rintro ⟨i, os0⟩ h' ⟨e, o, i1, i2, i3, i4⟩
    dsimp only at e o i1 i2 i3 i4 ⊢
    have ha' := ha.ext e
    have hb' := hb.ext e
    refine runM ?_
    (apply w_condD; exact rfl; exact rfl) <;> intro hi
    · refine runM ?_
      have hxi := hx.getD (by omega) i
      generalize hxd : xs.getD i 0 = x at *
      (first | (apply w_seqB; exact rfl; apply w_block; exact rfl) | skip)
      apply (w_loop (σ := Nat × Nat × List Nat) rfl (fun p => [(1, vb), (20, va), (21, N xs.length), (22, N i), (5, out), (6, N i), (7, U x), (27, vb), (28, N ys.length), (29, N p.1), (8, U p.2.1)])
        (fun p h' => Ext h h' ∧ OwnF h' h.size 31 U out p.2.2 ∧ p.2.2.length = xs.length + ys.length ∧ p.1 ≤ ys.length ∧ Al 18446744073709551616 p.2.2 ∧ p.2.1 < 18446744073709551616 ∧
          pv 18446744073709551616 p.2.2 (i + p.1) + 18446744073709551616 ^ (i + p.1) * p.2.1 = pv 18446744073709551616 os0 (i + p.1) + 18446744073709551616 ^ i * (x * pv 18446744073709551616 ys p.1) ∧
          ∀ j, i + p.1 ≤ j → p.2.2.getD j 0 = os0.getD j 0) (fun p => ys.length - p.1) (0, 0, os0))
      · exact (Sub.cons rfl (Sub.cons rfl (Sub.cons rfl (Sub.cons rfl (Sub.cons rfl (Sub.cons rfl (Sub.cons rfl (Sub.cons rfl (Sub.cons rfl (Sub.cons rfl (Sub.cons rfl (Sub.nil _))))))))))))
      · exact ⟨e, o, i1, Nat.zero_le _, i3, by simp only []; omega, by simp [pv], fun _ _ => rfl⟩
      · rintro ⟨k, c, os⟩ h2 ⟨e', o', j1, j2, j3, j4, j5, j6⟩
        dsimp only at e' o' j1 j2 j3 j4 j5 j6 ⊢
        have hb2 := hb.ext e'
        refine runM ?_
        (apply w_condD; exact rfl; exact rfl) <;> intro hk
        · refine runM ?_
          have hyk := hy.getD (by omega) k
          have hok := j3.getD (by omega) (i + k)
          have hoe := j6 (i + k) (Nat.le_refl _)
          have hst := mul_step (b := 18446744073709551616) (y := ys.getD k 0) (o := os.getD (i + k) 0) j5 (Nat.pow_add _ _ _) _ rfl
          generalize hyd : ys.getD k 0 = y at *
          have hw := mul_word hxi hyk j4 hok
          apply (s_call Tryd_ent82 rfl rfl rfl)
          refine (mul64_spec x y h2 hxi hyk).mono ?_
          rintro _ _ ⟨rfl, rfl⟩
          refine ⟨(by first | exact trivial | exact Ext.refl _ | assumption | exact Ext.trans (by assumption) (by assumption)), ?_⟩
          generalize hq : x * y = q at *
          have hcar := mul_carry hw j4 hok
          refine runM ?_
          apply (s_extern (add64_run _ _ 0 (by omega) (Nat.mod_lt _ (by omega)) j4) rfl rfl)
          simp only [Nat.add_zero]
          obtain ⟨hc1, hc2, hc3, hc4⟩ := hcar
          have hc5 : q / 18446744073709551616 + (q % 18446744073709551616 + c) / 18446744073709551616 + (os.getD (i + k) 0 + (q % 18446744073709551616 + c) % 18446744073709551616) / 18446744073709551616 < 18446744073709551616 := by rw [hc2]; exact hc4
          refine runM ?_
          apply (s_extern (add64_run _ _ 0 (by omega) hok (Nat.mod_lt _ (by omega))) rfl rfl)
          simp only [Nat.add_zero]
          rw [hc3]
          have hm : (os.getD (i + k) 0 + q + c) % 18446744073709551616 < 18446744073709551616 := Nat.mod_lt _ (by omega)
          generalize hw1 : (os.getD (i + k) 0 + q + c) % 18446744073709551616 = w1 at *
          refine runM ?_
          (apply (s_storeF (w1)); exact rfl; exact rfl; exact rfl; exact rfl; exact rfl; exact o'; exact rfl; (first | assumption | omega))
          intro h3 o3 k3
          refine ⟨(by first | exact trivial | exact Ext.refl _ | assumption | exact Ext.trans (by assumption) (by assumption)), ?_⟩
          have e3 := o'.old k3 e' (Nat.le_refl _)
          refine runM ?_
          rw [hc2]
          apply again_normal (k + 1, (os.getD (i + k) 0 + q + c) / 18446744073709551616, os.set (i + k) w1)
          · exact (Sub.cons rfl (Sub.cons rfl (Sub.cons rfl (Sub.cons rfl (Sub.cons rfl (Sub.cons rfl (Sub.cons rfl (Sub.cons rfl (Sub.cons rfl (Sub.cons rfl (Sub.cons rfl (Sub.nil _))))))))))))
          · refine ⟨e3, o3, by simp [j1], hk, j3.set hm _, hc4, ?_, fun j hj => ?_⟩
            · simp only []
              rw [← Nat.add_assoc, pv, pv_set (Nat.le_refl _), getD_set_self (by omega), Nat.pow_succ]
              simp only [pv]
              rw [hyd, ← hoe]
              exact hst
            · simp only [] at hj ⊢
              rw [getD_set_other (by omega)]; exact j6 j (by omega)
          · simp only []; omega
        · have hke : k = ys.length := by omega
          subst hke
          rw [pv_full (Nat.le_refl _), i4] at j5
          refine runM ?_
          (apply (s_storeF (c)); exact rfl; exact rfl; exact rfl; exact rfl; exact rfl; exact o'; exact rfl; (first | assumption | omega))
          intro h3 o3 k3
          refine ⟨(by first | exact trivial | exact Ext.refl _ | assumption | exact Ext.trans (by assumption) (by assumption)), ?_⟩
          have e3 := o'.old k3 e' (Nat.le_refl _)
          refine runM ?_
          apply again_normal (i + 1, os.set (i + ys.length) c)
          · exact (Sub.cons rfl (Sub.cons rfl (Sub.cons rfl (Sub.cons rfl (Sub.cons rfl (Sub.nil _))))))
          · refine ⟨e3, o3, by simp [j1], hi, j3.set j4 _, ?_⟩
            simp only []
            rw [show i + 1 + ys.length = i + ys.length + 1 by omega, pv, pv_set (Nat.le_refl _), getD_set_self (by omega), j5, pv, hxd, Nat.add_mul, Nat.mul_assoc]
          · simp only []; omega
    · refine runM ?_
      have hie : i = xs.length := by omega
      subst hie
      apply (s_call Tryd_ent70 rfl rfl rfl)
      refine (norm_spec out _ h' o.sl (by omega)).mono ?_
      rintro v3 _ ⟨rfl, s3, o3⟩
      refine ⟨(by first | exact trivial | exact Ext.refl _ | assumption | exact Ext.trans (by assumption) (by assumption)), ?_⟩
      refine runM ?_
      refine fin1 rfl rfl ⟨e, ?_⟩
      have := o3 _ _ o
      rw [pv_full (by omega), pv_full (Nat.le_refl _)] at i4
      rw [nrm_eq (by omega) i3, i4] at this
      exact this
end Go.Proofs.YtajgcmgkhmkmbaaDoor

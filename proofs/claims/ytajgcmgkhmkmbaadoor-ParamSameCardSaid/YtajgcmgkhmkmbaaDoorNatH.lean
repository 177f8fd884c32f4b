/- Naturals: long division of package nat, by contracts: shifted, byWord, digit. No condition. -/
import Derived.Test.YtajgcmgkhmkmbaaDoorNatG
import Derived.Test.YtajgcmgkhmkmbaaDoorKnu
namespace Go.Proofs.YtajgcmgkhmkmbaaDoor
set_option linter.unusedVariables false
set_option maxRecDepth 8000
open Go Go.Den Go.RowKit Go.Dig

theorem shl_word {w s : Nat} (hw : w < 18446744073709551616) (hs : s ≤ 64) : w * 2 ^ s / 18446744073709551616 = w / 2 ^ (64 - s) := by
  have e : (18446744073709551616 : Nat) = 2 ^ (64 - s) * 2 ^ s := by rw [← Nat.pow_add, show 64 - s + s = 64 by omega]
  rw [e, Nat.mul_div_mul_right _ _ (Nat.pow_pos (by omega))]
theorem shl_low {w s : Nat} (hs : s ≤ 64) : w * 2 ^ s % 18446744073709551616 = w % 2 ^ (64 - s) * 2 ^ s := by
  have e : (18446744073709551616 : Nat) = 2 ^ (64 - s) * 2 ^ s := by rw [← Nat.pow_add, show 64 - s + s = 64 by omega]
  rw [e, Nat.mul_mod_mul_right]
theorem shl_or {w s o : Nat} (hs : s ≤ 64) (ho : o < 2 ^ s) : o ||| w * 2 ^ s % 18446744073709551616 = o + w * 2 ^ s % 18446744073709551616 := by
  rw [shl_low hs, Nat.or_comm, Num.or_add ho, Nat.add_comm]
theorem shl_hi {w s : Nat} (hw : w < 18446744073709551616) (hs : s ≤ 64) : w / 2 ^ (64 - s) < 2 ^ s := by
  rw [Nat.div_lt_iff_lt_mul (Nat.pow_pos (by omega)), ← Nat.pow_add, show s + (64 - s) = 64 by omega]; exact hw
theorem shl_sum {w s o : Nat} (hs : s ≤ 64) (ho : o < 2 ^ s) : o + w * 2 ^ s % 18446744073709551616 < 18446744073709551616 := by
  have e : (18446744073709551616 : Nat) = 2 ^ (64 - s) * 2 ^ s := by rw [← Nat.pow_add, show 64 - s + s = 64 by omega]
  have h1 : w % 2 ^ (64 - s) < 2 ^ (64 - s) := Nat.mod_lt _ (Nat.pow_pos (by omega))
  have h2 : (w % 2 ^ (64 - s) + 1) * 2 ^ s ≤ 2 ^ (64 - s) * 2 ^ s := Nat.mul_le_mul_right _ h1
  rw [shl_low hs]
  rw [← e, Nat.add_mul, Nat.one_mul] at h2
  omega
theorem shr_or {x y s : Nat} (hx : x < 18446744073709551616) (hs : s ≤ 64) : x / 2 ^ s ||| y * 2 ^ (64 - s) % 18446744073709551616 = x / 2 ^ s + y % 2 ^ s * 2 ^ (64 - s) ∧ x / 2 ^ s + y % 2 ^ s * 2 ^ (64 - s) < 18446744073709551616 := by
  have h1 : x / 2 ^ s < 2 ^ (64 - s) := by
    rw [Nat.div_lt_iff_lt_mul (Nat.pow_pos (by omega)), ← Nat.pow_add, show 64 - s + s = 64 by omega]; exact hx
  have h2 := shl_or (w := y) (s := 64 - s) (by omega) h1
  have h3 := shl_sum (w := y) (s := 64 - s) (by omega) h1
  have h4 := shl_low (w := y) (s := 64 - s) (by omega)
  rw [show 64 - (64 - s) = s by omega] at h4
  rw [h4] at h2 h3 ⊢
  exact ⟨h2, h3⟩

theorem Tryd_ent73 : Ent Tryd.prog 73 := ent_of Tryd.func73 (by kernel_rfl) rfl
set_option maxHeartbeats 800000 in
theorem shifted_spec (va : Value) (xs : List Nat) (s : Nat) (h : Hp) (ha : SlF h U va xs) (hx : Al 18446744073709551616 xs) (hl : xs.length < 1099511627776) (hs : s < 64) :
    CallsH Tryd.prog 73 [va, U s] h fun v' h' => ∃ os, Ext h h' ∧ OwnF h' h.size 31 U v' os ∧ os.length = xs.length + 1 ∧ Al 18446744073709551616 os ∧ vl 18446744073709551616 os = vl 18446744073709551616 xs * 2 ^ s ∧ os.getD xs.length 0 < 2 ^ s := by
  have hp0 : 0 < 2 ^ s := Nat.pow_pos (by omega)
  (apply enter Tryd.func73 rfl Tryd.ntmps73 rfl)
  refine runM ?_
  (apply (s_make (f := U) (bytes := 8) (0)); (first | exact isK_c | exact isK_t rfl); (first | exact isK_c | exact isK_t rfl); exact rfl; exact rfl; exact rfl; exact rfl; exact rfl; exact rfl; omega; omega; omega)
  intro out h1 o1 e1 b1
  refine ⟨(by first | exact trivial | exact Ext.refl _ | assumption | exact Ext.trans (by assumption) (by assumption)), ?_⟩
  refine runM ?_
  (first | (apply w_seqB; exact rfl; apply w_block; exact rfl) | skip)
  apply (w_loop (σ := Nat × List Nat) rfl (fun p => [(1, U s), (12, va), (13, N xs.length), (14, N p.1), (5, out)])
    (fun p h' => Ext h h' ∧ OwnF h' h.size 31 U out p.2 ∧ p.2.length = xs.length + 1 ∧ p.1 ≤ xs.length ∧ Al 18446744073709551616 p.2 ∧
      pv 18446744073709551616 p.2 p.1 + 18446744073709551616 ^ p.1 * p.2.getD p.1 0 = pv 18446744073709551616 xs p.1 * 2 ^ s ∧ p.2.getD p.1 0 < 2 ^ s) (fun p => xs.length - p.1) (0, List.replicate (xs.length + 1) 0))
  · exact (Sub.cons rfl (Sub.cons rfl (Sub.cons rfl (Sub.cons rfl (Sub.cons rfl (Sub.nil _))))))
  · refine ⟨e1, o1, by simp, Nat.zero_le _, Al.replicate (by omega) _, ?_, ?_⟩
    · simp [pv, List.replicate_succ]
    · simpa [List.replicate_succ] using hp0
  · rintro ⟨i, os⟩ h' ⟨e, o, i1, i2, i3, i4, i5⟩
    dsimp only at e o i1 i2 i3 i4 i5 ⊢
    have ha' := ha.ext e
    refine runM ?_
    (apply w_condD; exact rfl; exact rfl) <;> intro hi
    · have hw := hx.getD (by omega) i
      have ho := i3.getD (by omega) i
      have hor := shl_or (w := xs.getD i 0) (s := s) (by omega) i5
      have hsum := shl_sum (w := xs.getD i 0) (s := s) (by omega) i5
      have hhi := shl_hi hw (s := s) (by omega)
      have hdv := shl_word hw (s := s) (by omega)
      have hmd := Num.modW (xs.getD i 0 * 2 ^ s)
      have hst := shl_step (b := 18446744073709551616) (w := xs.getD i 0) i4 rfl (Nat.mod_add_div _ _).symm
      have hlw : xs.getD i 0 / 2 ^ (64 - s) < 18446744073709551616 := Nat.lt_of_le_of_lt (Nat.div_le_self _ _) hw
      refine runM ?_
      rw [hor]
      rw [hdv] at hst
      generalize hw1 : os.getD i 0 + xs.getD i 0 * 2 ^ s % 18446744073709551616 = w1 at *
      generalize hw2 : xs.getD i 0 / 2 ^ (64 - s) = w2 at *
      (apply (s_storeF (w1)); exact rfl; exact rfl; exact rfl; exact rfl; exact rfl; exact o; exact rfl; (first | assumption | omega))
      intro h2 o2 k2
      refine ⟨(by first | exact trivial | exact Ext.refl _ | assumption | exact Ext.trans (by assumption) (by assumption)), ?_⟩
      have e2 := o.old k2 e (Nat.le_refl _)
      have hl2 : (os.set i w1).length = xs.length + 1 := by simp [i1]
      refine runM ?_
      rw [hw2]
      (apply (s_storeF (w2)); exact rfl; exact rfl; exact rfl; exact rfl; exact rfl; exact o2; exact rfl; (first | assumption | omega))
      intro h3 o3 k3
      refine ⟨(by first | exact trivial | exact Ext.refl _ | assumption | exact Ext.trans (by assumption) (by assumption)), ?_⟩
      have e3 := o2.old k3 e2 (Nat.le_refl _)
      refine runM ?_
      apply again_normal (i + 1, (os.set i w1).set (i + 1) w2)
      · exact (Sub.cons rfl (Sub.cons rfl (Sub.cons rfl (Sub.cons rfl (Sub.cons rfl (Sub.nil _))))))
      · refine ⟨e3, o3, by simp [i1], hi, (i3.set hsum _).set hlw _, ?_, ?_⟩
        · simp only []
          rw [getD_set_self (by simp; omega)]
          simp only [pv]
          rw [pv_set (by omega), pv_set (Nat.le_refl _), getD_set_other (by omega), getD_set_self (by omega), Nat.pow_succ]
          exact hst
        · simp only []
          rw [getD_set_self (by simp; omega)]; exact hhi
      · simp only []; omega
    · have hie : i = xs.length := by omega
      subst hie
      refine runM ?_
      refine fin1 rfl rfl ⟨os, e, o, i1, i3, ?_, i5⟩
      rw [← pv_full (xs := os) (k := xs.length + 1) (by omega), pv, i4, pv_full (Nat.le_refl _)]

theorem Tryd_ent71 : Ent Tryd.prog 71 := ent_of Tryd.func71 (by kernel_rfl) rfl
set_option maxHeartbeats 800000 in
theorem byWord_spec (va : Value) (xs : List Nat) (w : Nat) (h : Hp) (ha : SlF h U va xs) (hx : Al 18446744073709551616 xs) (hl : xs.length < 1099511627776) (hw0 : 0 < w) (hw : w < 18446744073709551616) :
    CallsH Tryd.prog 71 [va, U w] h fun v' h' => ∃ q, v' = .tuple #[q, U (vl 18446744073709551616 xs % w)] ∧ Ext h h' ∧ OwnF h' h.size 31 U q (dg 18446744073709551616 (vl 18446744073709551616 xs / w)) := by
  (apply enter Tryd.func71 rfl Tryd.ntmps71 rfl)
  refine runM ?_
  (apply (s_make (f := U) (bytes := 8) (0)); (first | exact isK_c | exact isK_t rfl); (first | exact isK_c | exact isK_t rfl); exact rfl; exact rfl; exact rfl; exact rfl; exact rfl; exact rfl; omega; omega; omega)
  intro out h1 o1 e1 b1
  refine ⟨(by first | exact trivial | exact Ext.refl _ | assumption | exact Ext.trans (by assumption) (by assumption)), ?_⟩
  refine runM ?_
  (first | (apply w_seqB; exact rfl; apply w_block; exact rfl) | skip)
  apply (w_loop (σ := Nat × Nat × List Nat) rfl (fun p => [(0, va), (1, U w), (6, out), (7, U p.2.1), (8, I ((p.1 : Int) - 1))])
    (fun p h' => Ext h h' ∧ OwnF h' h.size 31 U out p.2.2 ∧ p.2.2.length = xs.length ∧ p.1 ≤ xs.length ∧ Al 18446744073709551616 p.2.2 ∧ p.2.1 < w ∧
      vl 18446744073709551616 (xs.drop p.1) = vl 18446744073709551616 (p.2.2.drop p.1) * w + p.2.1) (fun p => p.1) (xs.length, 0, List.replicate xs.length 0))
  · exact (Sub.cons rfl (Sub.cons rfl (Sub.cons rfl (Sub.cons rfl (Sub.cons rfl (Sub.nil _))))))
  · refine ⟨e1, o1, by simp, Nat.le_refl _, Al.replicate (by omega) _, hw0, ?_⟩
    simp [List.drop_of_length_le, vl]
  · rintro ⟨k, r, os⟩ h' ⟨e, o, i1, i2, i3, i4, i5⟩
    dsimp only at e o i1 i2 i3 i4 i5 ⊢
    have ha' := ha.ext e
    refine runM ?_
    (apply w_condD; exact rfl; exact rfl) <;> intro hk
    · obtain ⟨i, rfl⟩ : ∃ i, k = i + 1 := ⟨k - 1, by omega⟩
      (apply w_know (t := 8) (u := N (i)) rfl (congrArg I (by omega)))
      have hxi := hx.getD (by omega) i
      refine runM ?_
      generalize hxd : xs.getD i 0 = x at *
      apply (s_call Tryd_ent86 rfl rfl rfl)
      refine (div64_spec r x w h' i4 hxi hw).mono ?_
      rintro _ _ ⟨rfl, rfl⟩
      refine ⟨(by first | exact trivial | exact Ext.refl _ | assumption | exact Ext.trans (by assumption) (by assumption)), ?_⟩
      have hdm := Nat.div_add_mod (r * 18446744073709551616 + x) w
      have hml : (r * 18446744073709551616 + x) % w < w := Nat.mod_lt _ hw0
      have hql : (r * 18446744073709551616 + x) / w < 18446744073709551616 := Num.digit_lt hxi i4
      generalize (r * 18446744073709551616 + x) / w = q at *
      generalize (r * 18446744073709551616 + x) % w = r' at *
      refine runM ?_
      (apply (s_storeF (q)); exact rfl; exact rfl; exact rfl; exact rfl; exact rfl; exact o; exact rfl; (first | assumption | omega))
      intro h2 o2 k2
      refine ⟨(by first | exact trivial | exact Ext.refl _ | assumption | exact Ext.trans (by assumption) (by assumption)), ?_⟩
      have e2 := o.old k2 e (Nat.le_refl _)
      refine runM ?_
      apply again_normal (i, r', os.set i q)
      · exact (Sub.cons rfl (Sub.cons rfl (Sub.cons rfl (Sub.cons rfl (Sub.cons rfl (Sub.nil _))))))
      · refine ⟨e2, o2, by simp [i1], by simp only []; omega, i3.set hql _, hml, ?_⟩
        simp only []
        rw [List.drop_eq_getElem_cons (by omega : i < xs.length), List.drop_eq_getElem_cons (by simp; omega : i < (os.set i q).length)]
        simp only [vl, List.getElem_set_self, i5]
        rw [List.drop_set_of_lt (by omega)]
        have hx' : xs[i] = x := by rw [← hxd]; simp [show i < xs.length by omega]
        rw [hx', Nat.add_mul, Nat.mul_add, Nat.mul_comm q w, Nat.mul_assoc]
        omega
      · exact Nat.lt_succ_self i
    · have hk0 : k = 0 := by omega
      subst hk0
      simp only [List.drop_zero] at i5
      refine runM ?_
      apply (s_call Tryd_ent70 rfl rfl rfl)
      refine (norm_spec out _ h' o.sl (by omega)).mono ?_
      rintro v3 _ ⟨rfl, s3, o3⟩
      refine ⟨(by first | exact trivial | exact Ext.refl _ | assumption | exact Ext.trans (by assumption) (by assumption)), ?_⟩
      have hq : vl 18446744073709551616 os = vl 18446744073709551616 xs / w := by
        rw [i5, Nat.mul_comm, Nat.mul_add_div hw0, Nat.div_eq_of_lt i4, Nat.add_zero]
      have hr : r = vl 18446744073709551616 xs % w := by
        rw [i5, Nat.mul_comm, Nat.mul_add_mod, Nat.mod_eq_of_lt i4]
      refine runM ?_
      refine fin2 rfl rfl rfl ⟨v3, by rw [hr], e, ?_⟩
      have := o3 _ _ o
      rw [nrm_eq (by omega) i3, hq] at this
      exact this
end Go.Proofs.YtajgcmgkhmkmbaaDoor

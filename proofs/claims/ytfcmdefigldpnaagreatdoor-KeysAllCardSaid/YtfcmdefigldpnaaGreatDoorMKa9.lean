/- Texts NatL to DenP of this work, joined, without what the law does not lean on. -/
import Derived.Test.YtfcmdefigldpnaaGreatDoorMKa8
import Derived.ChangeKeysEq
import Derived.Laws.StructEq
namespace Go.Proofs.YtfcmdefigldpnaaGreatDoor
set_option linter.unusedVariables false
set_option maxRecDepth 8000
open Go Go.Den Go.RowKit Go.Dig

theorem Tryz_ent183 : Ent Tryz.prog 183 := ent_of Tryz.func183 (by kernel_rfl) rfl
set_option maxHeartbeats 1600000 in
theorem times_spec (va vb : Value) (xs ys : List Nat) (h : Hp) (ha : SlF h N va xs) (hb : SlF h N vb ys) (hx : Al 65536 xs) (hy : Al 65536 ys) (hl : xs.length < 1099511627776) (hl2 : ys.length < 1099511627776) :
    CallsH Tryz.prog 183 [va, vb] h fun v' h' => Ext h h' ∧ OwnF h' h.size 3 N v' (dg 65536 (vl 65536 xs * vl 65536 ys)) := by
  (apply enter Tryz.func183 rfl Tryz.ntmps183 rfl)
  refine runM ?_
  (apply (s_make (f := N) (bytes := 8) (0)); (first | exact isK_c | exact isK_t rfl); (first | exact isK_c | exact isK_t rfl); exact rfl; exact rfl; exact rfl; exact rfl; exact rfl; exact rfl; omega; omega; omega)
  intro out h1 o1 e1 b1
  refine ⟨(by first | exact trivial | exact Ext.refl _ | assumption | exact Ext.trans (by assumption) (by assumption)), ?_⟩
  refine runM ?_
  (first | (apply w_seqB; exact rfl; apply w_block; exact rfl) | skip)
  apply (w_loop (σ := Nat × List Nat) rfl (fun p => [(0, va), (1, vb), (16, va), (17, N xs.length), (18, N p.1), (5, out)])
    (fun p h' => Ext h h' ∧ OwnF h' h.size 3 N out p.2 ∧ p.2.length = xs.length + ys.length + 1 ∧ p.1 ≤ xs.length ∧ Al 65536 p.2 ∧
      vl 65536 p.2 = pv 65536 xs p.1 * vl 65536 ys) (fun p => xs.length - p.1) (0, List.replicate (xs.length + ys.length + 1) 0))
  · exact (Sub.cons rfl (Sub.cons rfl (Sub.cons rfl (Sub.cons rfl (Sub.cons rfl (Sub.cons rfl (Sub.nil _)))))))
  · refine ⟨e1, o1, by simp, Nat.zero_le _, Al.replicate (by omega) _, ?_⟩
    simp only [vl_zeros, pv, Nat.zero_mul]
  · rintro ⟨i, os0⟩ h' ⟨e, o, i1, i2, i3, i4⟩
    dsimp only at e o i1 i2 i3 i4 ⊢
    have ha' := ha.ext e
    have hb' := hb.ext e
    refine runM ?_
    (apply w_condD; exact rfl; exact rfl) <;> intro hi
    · have hxi := hx.getD (by omega) i
      have hbd : vl 65536 os0 < 65536 ^ (i + ys.length) := by
        have h1 := pv_lt hx (by omega) i
        have h2 := vl_lt hy
        rw [i4, Nat.pow_add]
        exact Nat.mul_lt_mul'' h1 h2
      have hz := getD_of_lt (xs := os0) (j := i + ys.length) (by omega) hbd (Nat.le_refl _)
      refine runM ?_
      generalize hxd : xs.getD i 0 = x at *
      (first | (apply w_seqB; exact rfl; apply w_block; exact rfl) | skip)
      apply (w_loop (σ := Nat × Nat × List Nat) rfl (fun p => [(0, va), (1, vb), (16, va), (17, N xs.length), (18, N i), (5, out), (6, N i), (7, N p.2.1), (8, N p.1)])
        (fun p h' => Ext h h' ∧ OwnF h' h.size 3 N out p.2.2 ∧ p.2.2.length = xs.length + ys.length + 1 ∧ Al 65536 p.2.2 ∧ p.2.1 < 65536 ∧ (p.1 ≤ ys.length ∨ p.1 = ys.length + 1 ∧ p.2.1 = 0) ∧
          vl 65536 p.2.2 + 65536 ^ (i + p.1) * p.2.1 = vl 65536 os0 + 65536 ^ i * (x * pv 65536 ys p.1) ∧
          ∀ j, i + p.1 ≤ j → p.2.2.getD j 0 = os0.getD j 0) (fun p => ys.length + 1 - p.1) (0, 0, os0))
      · exact (Sub.cons rfl (Sub.cons rfl (Sub.cons rfl (Sub.cons rfl (Sub.cons rfl (Sub.cons rfl (Sub.cons rfl (Sub.cons rfl (Sub.cons rfl (Sub.nil _))))))))))
      · exact ⟨e, o, i1, i3, by simp only []; omega, .inl (Nat.zero_le _), by simp [pv], fun _ _ => rfl⟩
      · rintro ⟨k, c, os⟩ h2 ⟨e', o', j1, j2, j3, j4, j5, j6⟩
        dsimp only at e' o' j1 j2 j3 j4 j5 j6 ⊢
        have ha2 := ha.ext e'
        have hb2 := hb.ext e'
        have hso := o'.sl
        repeat (apply w_seq; exact rfl)
        apply (w_tcut (σ := Unit) (fun _ => [(0, va), (1, vb), (16, va), (17, N xs.length), (18, N i), (5, out), (6, N i), (7, N c), (8, N k), (28, .bool (decide (k < ys.length ∨ 0 < c)))]) (fun _ h' => h2 = h'))
        · refine runM ?_
          (apply s_splitG; exact rfl; exact rfl; exact rfl; exact rfl) <;> intro c1
          · refine runM ?_
            apply cut_normal ()
            · exact (Sub.consE rfl (by first | rfl | (refine congrArg I ?_; (try dsimp only); omega) | (refine congrArg Value.bool ?_; simp [*])) (Sub.consE rfl (by first | rfl | (refine congrArg I ?_; (try dsimp only); omega) | (refine congrArg Value.bool ?_; simp [*])) (Sub.consE rfl (by first | rfl | (refine congrArg I ?_; (try dsimp only); omega) | (refine congrArg Value.bool ?_; simp [*])) (Sub.consE rfl (by first | rfl | (refine congrArg I ?_; (try dsimp only); omega) | (refine congrArg Value.bool ?_; simp [*])) (Sub.consE rfl (by first | rfl | (refine congrArg I ?_; (try dsimp only); omega) | (refine congrArg Value.bool ?_; simp [*])) (Sub.consE rfl (by first | rfl | (refine congrArg I ?_; (try dsimp only); omega) | (refine congrArg Value.bool ?_; simp [*])) (Sub.consE rfl (by first | rfl | (refine congrArg I ?_; (try dsimp only); omega) | (refine congrArg Value.bool ?_; simp [*])) (Sub.consE rfl (by first | rfl | (refine congrArg I ?_; (try dsimp only); omega) | (refine congrArg Value.bool ?_; simp [*])) (Sub.consE rfl (by first | rfl | (refine congrArg I ?_; (try dsimp only); omega) | (refine congrArg Value.bool ?_; simp [*])) (Sub.consE rfl (by first | rfl | (refine congrArg I ?_; (try dsimp only); omega) | (refine congrArg Value.bool ?_; simp [*])) (Sub.nil _)))))))))))
            · rfl
          · refine runM ?_
            apply cut_normal ()
            · exact (Sub.consE rfl (by first | rfl | (refine congrArg I ?_; (try dsimp only); omega) | (refine congrArg Value.bool ?_; simp [*])) (Sub.consE rfl (by first | rfl | (refine congrArg I ?_; (try dsimp only); omega) | (refine congrArg Value.bool ?_; simp [*])) (Sub.consE rfl (by first | rfl | (refine congrArg I ?_; (try dsimp only); omega) | (refine congrArg Value.bool ?_; simp [*])) (Sub.consE rfl (by first | rfl | (refine congrArg I ?_; (try dsimp only); omega) | (refine congrArg Value.bool ?_; simp [*])) (Sub.consE rfl (by first | rfl | (refine congrArg I ?_; (try dsimp only); omega) | (refine congrArg Value.bool ?_; simp [*])) (Sub.consE rfl (by first | rfl | (refine congrArg I ?_; (try dsimp only); omega) | (refine congrArg Value.bool ?_; simp [*])) (Sub.consE rfl (by first | rfl | (refine congrArg I ?_; (try dsimp only); omega) | (refine congrArg Value.bool ?_; simp [*])) (Sub.consE rfl (by first | rfl | (refine congrArg I ?_; (try dsimp only); omega) | (refine congrArg Value.bool ?_; simp [*])) (Sub.consE rfl (by first | rfl | (refine congrArg I ?_; (try dsimp only); omega) | (refine congrArg Value.bool ?_; simp [*])) (Sub.consE rfl (by first | rfl | (refine congrArg I ?_; (try dsimp only); omega) | (refine congrArg Value.bool ?_; simp [*])) (Sub.nil _)))))))))))
            · rfl
        · rintro _ _ rfl
          refine runM ?_
          (apply w_condD; exact rfl; exact rfl) <;> intro hc
          · have hkl : k ≤ ys.length := by omega
            have hyk := hy.getD (by omega) k
            have hok := j2.getD (by omega) (i + k)
            have hoe := j6 (i + k) (Nat.le_refl _)
            have hik : i + k < os.length := by omega
            have hy0 : ys.length ≤ k → ys.getD k 0 = 0 := getD_none
            have hst := times_step (b := 65536) (v' := vl 65536 (os.set (i + k) ((c + os.getD (i + k) 0 + x * ys.getD k 0) % 65536))) (y := ys.getD k 0) j5 (vl_set hik) (Nat.pow_add _ _ _) rfl
            refine runM ?_
            rw [hxd]
            apply (s_call Tryz_ent201 rfl rfl rfl)
            refine (at_spec vb ys k h2 hb2 (by omega)).mono ?_
            rintro _ _ ⟨rfl, rfl⟩
            refine ⟨(by first | exact trivial | exact Ext.refl _ | assumption | exact Ext.trans (by assumption) (by assumption)), ?_⟩
            generalize hyd : ys.getD k 0 = y at *
            generalize hod : os.getD (i + k) 0 = ov at *
            have hxy : x * y ≤ 65535 * 65535 := Nat.mul_le_mul (by omega) (by omega)
            have hxy0 : ys.length ≤ k → x * y = 0 := fun hh => by rw [hy0 hh, Nat.mul_zero]
            have hm : (c + ov + x * y) % 65536 < 65536 := Nat.mod_lt _ (by omega)
            refine runM ?_
            generalize x * y = p at *
            generalize hw1 : (c + ov + p) % 65536 = w1 at *
            (apply (s_storeF (w1)); exact rfl; exact rfl; exact rfl; exact rfl; exact rfl; exact o'; exact rfl; (first | assumption | omega))
            intro h3 o3 k3
            refine ⟨(by first | exact trivial | exact Ext.refl _ | assumption | exact Ext.trans (by assumption) (by assumption)), ?_⟩
            have e3 := o'.old k3 e' (Nat.le_refl _)
            refine runM ?_
            apply again_normal (k + 1, (c + ov + p) / 65536, os.set (i + k) w1)
            · exact (Sub.cons rfl (Sub.cons rfl (Sub.cons rfl (Sub.cons rfl (Sub.cons rfl (Sub.cons rfl (Sub.cons rfl (Sub.cons rfl (Sub.cons rfl (Sub.nil _))))))))))
            · refine ⟨e3, o3, by simp [j1], j2.set hm _, by simp only []; omega, ?_, ?_, fun j hj => ?_⟩
              · simp only []
                rcases Nat.lt_or_ge k ys.length with hlt | hge
                · exact .inl hlt
                · have h5 : k = ys.length := by omega
                  have h6 : ov = 0 := by rw [hoe, h5]; exact hz
                  have h7 := hxy0 hge
                  exact .inr ⟨by omega, by omega⟩
              · simp only [pv]
                rw [← Nat.add_assoc, Nat.pow_succ, hyd]
                exact hst
              · simp only [] at hj ⊢
                rw [getD_set_other (by omega)]; exact j6 j (by omega)
            · simp only []; omega
          · have hc0 : c = 0 := by omega
            subst hc0
            rw [Nat.mul_zero, Nat.add_zero, pv_full (by omega)] at j5
            refine runM ?_
            apply again_normal (i + 1, os)
            · exact (Sub.cons rfl (Sub.cons rfl (Sub.cons rfl (Sub.cons rfl (Sub.cons rfl (Sub.cons rfl (Sub.nil _)))))))
            · refine ⟨e', o', j1, hi, j2, ?_⟩
              simp only [pv]
              rw [j5, i4, hxd, Nat.add_mul, Nat.mul_assoc]
            · simp only []; omega
    · refine runM ?_
      have hie : i = xs.length := by omega
      subst hie
      rw [pv_full (Nat.le_refl _)] at i4
      apply (s_call Tryz_ent131 rfl rfl rfl)
      refine (trim_spec out _ h' o.sl (by omega)).mono ?_
      rintro v3 _ ⟨rfl, s3, o3⟩
      refine ⟨(by first | exact trivial | exact Ext.refl _ | assumption | exact Ext.trans (by assumption) (by assumption)), ?_⟩
      refine runM ?_
      refine fin1 rfl rfl ⟨e, ?_⟩
      have := o3 _ _ o
      rw [nrm_eq (by omega) i3, i4] at this
      exact this
end Go.Proofs.YtfcmdefigldpnaaGreatDoor


namespace Go.Proofs.YtfcmdefigldpnaaGreatDoor
set_option linter.unusedVariables false
set_option maxRecDepth 8000
open Go Go.Den Go.RowKit Go.Dig

/-- What a row of a whole number says. -/
def IV (neg : Bool) (X : Nat) : Int := if neg then -(X : Int) else X
/-- v is a whole number in memory, of the value z, as it is told: its size in own words. -/
def IntOf (h : Hp) (B : Nat) (v : Value) (z : Int) : Prop := ∃ a, v = .agg #[.bool (decide (z < 0)), a] ∧ OwnF h B 26 U a (dg 18446744073709551616 z.natAbs)
theorem IntOf.ext {h h' : Hp} {B : Nat} {v : Value} {z : Int} (s : IntOf h B v z) (e : Ext h h') : IntOf h' B v z := by obtain ⟨a, h1, h2⟩ := s; exact ⟨a, h1, h2.ext e⟩
theorem IntOf.base {h : Hp} {B B' : Nat} {v : Value} {z : Int} (s : IntOf h B v z) (hB : B' ≤ B) : IntOf h B' v z := by obtain ⟨a, h1, h2⟩ := s; exact ⟨a, h1, h2.base hB⟩
theorem iv_abs (neg : Bool) (X : Nat) : (IV neg X).natAbs = X ∧ decide (IV neg X < 0) = (neg && decide (X ≠ 0)) := by
  unfold IV
  cases neg with
  | true => simp only [if_true, Int.natAbs_neg, Int.natAbs_natCast, Bool.true_and, true_and, decide_eq_decide]; omega
  | false => simp only [Bool.false_eq_true, if_false, Int.natAbs_natCast, Bool.false_and, true_and, decide_eq_false_iff_not]; omega
theorem IntOf.of {h : Hp} {B : Nat} {neg : Bool} {Z : Nat} {v : Value} (o : OwnF h B 26 U v (dg 18446744073709551616 Z)) : IntOf h B (.agg #[.bool (neg && decide (Z ≠ 0)), v]) (IV neg Z) := by
  obtain ⟨h1, h2⟩ := iv_abs neg Z
  exact ⟨v, by rw [h2], by rw [h1]; exact o⟩
end Go.Proofs.YtfcmdefigldpnaaGreatDoor


namespace Go.Proofs.YtfcmdefigldpnaaGreatDoor
set_option linter.unusedVariables false
set_option maxRecDepth 8000
open Go Go.Den Go.RowKit Go.Dig

theorem vlt {xs : List Nat} (hx : Al 18446744073709551616 xs) : vl 18446744073709551616 xs < 65536 ^ (4 * xs.length) := by rw [pow64]; exact vl_lt hx
theorem d16_len {X n : Nat} (h : X < 65536 ^ (4 * n)) : (dg 65536 X).length ≤ 4 * n := dg_len (by omega) h
theorem d16_mul {X Y m n : Nat} (h : X < 65536 ^ (4 * m)) (k : Y < 65536 ^ (4 * n)) : X * Y < 65536 ^ (4 * (m + n)) := by
  rw [show 4 * (m + n) = 4 * m + 4 * n by omega, Nat.pow_add]; exact Nat.mul_lt_mul'' h k

theorem nb_half {v : Nat} (h : v ≠ 0) : nb v = nb (v / 2) + 1 := by
  by_cases h1 : v / 2 = 0
  · have : v = 1 := by omega
    subst this; rfl
  · have h2 := (Nat.le_log2 h1).1 (Nat.le_refl _)
    have h3 := (Nat.log2_lt h1).1 (Nat.lt_succ_self _)
    rw [show nb (v / 2) = (v / 2).log2 + 1 by rw [nb, if_neg h1]]
    apply nb_of
    · rw [Nat.pow_succ]; omega
    · rw [Nat.pow_succ]; simp only [Nat.succ_eq_add_one] at h3; omega

theorem Tryz_ent88 : Ent Tryz.prog 88 := ent_of Tryz.func88 (by kernel_rfl) rfl
set_option maxHeartbeats 800000 in
theorem rbits_spec (va : Value) (xs0 : List Nat) (h : Hp) (ha0 : SlF h U va xs0) (hx0 : Al 18446744073709551616 xs0) (hl0 : xs0.length < 68719476736) :
    CallsH Tryz.prog 88 [va] h fun v' h' => v' = N (nb (vl 18446744073709551616 xs0)) ∧ Ext h h' := by
  (apply enter Tryz.func88 rfl Tryz.ntmps88 rfl)
  have lx := d16_len (vlt hx0)
  refine runG ?_
  apply (s_call Tryz_ent73 rfl rfl rfl)
  refine (digits_spec va xs0 h ha0 hx0 (by omega)).mono ?_
  rintro v1 h1 ⟨e1, o1⟩
  refine ⟨(by first | exact trivial | exact Ext.refl _ | assumption | exact Ext.trans (by assumption) (by assumption)), ?_⟩
  have hz : (dg 65536 (vl 18446744073709551616 xs0)).length = 0 ↔ vl 18446744073709551616 xs0 = 0 := dg_len0 (by omega)
  have hv := vl_dg (b := 65536) (by omega) (vl 18446744073709551616 xs0)
  have hdl : ∀ k, vl 18446744073709551616 xs0 < 65536 ^ k → (dg 65536 (vl 18446744073709551616 xs0)).length ≤ k := fun k hk => dg_len (by omega) hk
  have hx := al_dg (b := 65536) (by omega) (vl 18446744073709551616 xs0)
  generalize vl 18446744073709551616 xs0 = X at *
  generalize dg 65536 X = xs at *
  have ha := o1.sl
  refine runG ?_
  (apply w_condD; exact rfl; exact rfl) <;> intro h0
  · refine runG ?_
    exact fin1 rfl rfl ⟨by rw [hz.1 h0]; rfl, e1⟩
  · obtain ⟨m, hm⟩ : ∃ m, xs.length = m + 1 := ⟨xs.length - 1, by omega⟩
    have hsp : X = pv 65536 xs m + 65536 ^ m * xs.getD m 0 := by rw [← hv, ← pv_full (k := m + 1) (by omega)]; rfl
    have htop : xs.getD m 0 ≠ 0 := by
      intro hz'
      rw [hz', Nat.mul_zero, Nat.add_zero] at hsp
      have h3 := pv_lt hx (by omega) m
      rw [← hsp] at h3
      have := hdl m h3
      omega
    have htw := hx.getD (by omega) m
    have hnb : nb X = 16 * m + nb (xs.getD m 0) := by
      have h1 : nb (xs.getD m 0) = (xs.getD m 0).log2 + 1 := by rw [nb, if_neg htop]
      have h2 := (Nat.le_log2 htop).1 (Nat.le_refl _)
      have h3 := (Nat.log2_lt htop).1 (Nat.lt_succ_self _)
      rw [← hv, nb_top (k := 16) (by rfl) hx hm h2 h3, h1, Nat.add_assoc]
    have hnl : nb (xs.getD m 0) ≤ 16 := by
      rw [nb, if_neg htop]
      have := (Nat.log2_lt htop).2 (show xs.getD m 0 < 2 ^ 16 by omega)
      omega
    refine runG ?_
    rw [hm, Nat.add_sub_cancel]
    refine runG ?_
    rw [hnb]
    generalize xs.getD m 0 = tp at *
    (first | (apply w_seqB; exact rfl; apply w_block; exact rfl) | skip)
    apply (w_loop (σ := Nat × Nat) rfl (fun p => [(4, N p.1), (5, N p.2)]) (fun p h' => h1 = h' ∧ p.1 + nb p.2 = 16 * m + nb tp ∧ p.2 < 65536) (fun p => p.2) (16 * m, tp))
    · exact (Sub.cons rfl (Sub.cons rfl (Sub.nil _)))
    · exact ⟨rfl, rfl, htw⟩
    · rintro ⟨n, v⟩ _ ⟨rfl, j1, j2⟩
      dsimp only at j1 j2 ⊢
      refine runG ?_
      (apply w_condD; exact rfl; exact rfl) <;> intro hc
      · have hs := nb_half (v := v) (by omega)
        refine runG ?_
        apply again_normal (n + 1, v / 2)
        · exact (Sub.cons rfl (Sub.cons rfl (Sub.nil _)))
        · exact ⟨rfl, by simp only []; omega, by simp only []; omega⟩
        · simp only []; omega
      · have hv0 : v = 0 := by omega
        subst hv0
        refine runG ?_
        refine fin1 rfl rfl ⟨congrArg I ?_, e1⟩
        rw [← j1]; rfl

theorem Tryz_ent141 : Ent Tryz.prog 141 := ent_of Tryz.func141 (by kernel_rfl) rfl
theorem rmul_spec (va vb : Value) (xs ys : List Nat) (h : Hp) (ha : SlF h U va xs) (hb : SlF h U vb ys) (hx : Al 18446744073709551616 xs) (hy : Al 18446744073709551616 ys) (hl : xs.length < 68719476736) (hl2 : ys.length < 68719476736) :
    CallsH Tryz.prog 141 [va, vb] h fun v' h' => Ext h h' ∧ OwnF h' h.size 26 U v' (dg 18446744073709551616 (vl 18446744073709551616 xs * vl 18446744073709551616 ys)) := by
  (apply enter Tryz.func141 rfl Tryz.ntmps141 rfl)
  have lx := d16_len (vlt hx)
  have ly := d16_len (vlt hy)
  have lz := d16_len (d16_mul (vlt hx) (vlt hy))
  refine runG ?_
  apply (s_call Tryz_ent73 rfl rfl rfl)
  refine (digits_spec va xs h ha hx (by omega)).mono ?_
  rintro v1 h1 ⟨e1, o1⟩
  refine ⟨(by first | exact trivial | exact Ext.refl _ | assumption | exact Ext.trans (by assumption) (by assumption)), ?_⟩
  have hb1 := hb.ext e1
  refine runG ?_
  apply (s_call Tryz_ent73 rfl rfl rfl)
  refine (digits_spec vb ys h1 hb1 hy (by omega)).mono ?_
  rintro v2 h2 ⟨e2, o2⟩
  refine ⟨(by first | exact trivial | exact Ext.refl _ | assumption | exact Ext.trans (by assumption) (by assumption)), ?_⟩
  have o1' := o1.ext e2
  refine runG ?_
  apply (s_call Tryz_ent183 rfl rfl rfl)
  refine (times_spec v1 v2 _ _ h2 o1'.sl o2.sl (al_dg (by omega) _) (al_dg (by omega) _) (by omega) (by omega)).mono ?_
  rintro v3 h3 ⟨e3, o3⟩
  refine ⟨(by first | exact trivial | exact Ext.refl _ | assumption | exact Ext.trans (by assumption) (by assumption)), ?_⟩
  rw [vl_dg (by omega), vl_dg (by omega)] at o3
  refine runG ?_
  apply (s_call Tryz_ent72 rfl rfl rfl)
  refine (from_spec v3 _ h3 o3.sl (al_dg (by omega) _) (by omega)).mono ?_
  rintro v4 h4 ⟨e4, o4⟩
  refine ⟨(by first | exact trivial | exact Ext.refl _ | assumption | exact Ext.trans (by assumption) (by assumption)), ?_⟩
  rw [vl_dg (by omega)] at o4
  refine runG ?_
  have e := (e1.trans e2).trans e3
  exact fin1 rfl rfl ⟨e.trans e4, o4.base e.1⟩

end Go.Proofs.YtfcmdefigldpnaaGreatDoor


namespace Go.Proofs.YtfcmdefigldpnaaGreatDoor
set_option linter.unusedVariables false
set_option maxRecDepth 8000
open Go Go.Den Go.RowKit Go.Dig

/-- v is a whole number, of the value z, as it is told, wherever it lies. -/
def IntSl (h : Hp) (v : Value) (z : Int) : Prop := ∃ a, v = .agg #[.bool (decide (z < 0)), a] ∧ SlF h U a (dg 18446744073709551616 z.natAbs)
theorem IntOf.sl {h : Hp} {B : Nat} {v : Value} {z : Int} (s : IntOf h B v z) : IntSl h v z := by obtain ⟨a, h1, h2⟩ := s; exact ⟨a, h1, h2.sl⟩
theorem IntSl.ext {h h' : Hp} {v : Value} {z : Int} (s : IntSl h v z) (e : Ext h h') : IntSl h' v z := by obtain ⟨a, h1, h2⟩ := s; exact ⟨a, h1, h2.ext e⟩
end Go.Proofs.YtfcmdefigldpnaaGreatDoor


namespace Go.Proofs.YtfcmdefigldpnaaGreatDoor
set_option linter.unusedVariables false
set_option maxRecDepth 8000
open Go Go.Den Go.RowKit Go.Dig

theorem Tryz_ent173 : Ent Tryz.prog 173 := ent_of Tryz.func173 (by kernel_rfl) rfl
theorem index_spec (v : Value) (xs : List Nat) (x : Nat) (h : Hp) (s : SlF h U v xs) (hl : xs.length < 4611686018427387904) :
    CallsH Tryz.prog 173 [v, U x] h fun v' h' => (∃ i : Int, v' = I i ∧ (0 ≤ i ↔ x ∈ xs)) ∧ h = h' := by
  (apply enter Tryz.func173 rfl Tryz.ntmps173 rfl)
  refine runJ ?_
  (first | (apply w_seqB; exact rfl; apply w_block; exact rfl) | skip)
  apply (w_loop (σ := Nat) rfl (fun j => [(0, v), (1, U x), (7, N xs.length), (8, N j)])
    (fun j h' => h = h' ∧ j ≤ xs.length ∧ x ∉ xs.take j) (fun j => xs.length - j) 0)
  · exact (Sub.cons rfl (Sub.cons rfl (Sub.cons rfl (Sub.cons rfl (Sub.nil _)))))
  · exact ⟨rfl, Nat.zero_le _, by simp⟩
  rintro j h' ⟨rfl, j1, j2⟩
  refine runJ ?_
  (apply w_condD; exact rfl; exact rfl) <;> intro hj
  · obtain ⟨y, hy⟩ := get_lt hj
    refine runJ ?_
    (apply w_condD; exact rfl; exact rfl) <;> intro hxy
    · refine runJ ?_
      exact fin1 rfl rfl ⟨⟨j, rfl, ⟨fun _ => hxy ▸ List.mem_of_getElem? hy, fun _ => by omega⟩⟩, rfl⟩
    · refine runJ ?_
      apply again_normal (j + 1)
      · exact (Sub.cons rfl (Sub.cons rfl (Sub.cons rfl (Sub.cons rfl (Sub.nil _)))))
      · refine ⟨rfl, hj, ?_⟩
        rw [take_snoc hy]
        intro hm
        rcases List.mem_append.1 hm with hm | hm
        · exact j2 hm
        · simp only [List.mem_singleton] at hm; exact hxy hm
      · omega
  · rw [List.take_of_length_le (by omega)] at j2
    refine runJ ?_
    exact fin1 rfl rfl ⟨⟨-1, rfl, ⟨fun h => by omega, fun h => absurd h j2⟩⟩, rfl⟩
theorem Tryz_ent129 : Ent Tryz.prog 129 := ent_of Tryz.func129 (by kernel_rfl) rfl
theorem contains_spec (v : Value) (xs : List Nat) (x : Nat) (h : Hp) (s : SlF h U v xs) (hl : xs.length < 4611686018427387904) :
    CallsH Tryz.prog 129 [v, U x] h fun v' h' => v' = .bool (decide (x ∈ xs)) ∧ h = h' := by
  (apply enter Tryz.func129 rfl Tryz.ntmps129 rfl)
  refine runJ ?_
  apply (s_call Tryz_ent173 rfl rfl rfl)
  refine (index_spec v xs x h s hl).mono ?_
  rintro _ _ ⟨⟨i, rfl, hi⟩, rfl⟩
  refine ⟨(by first | exact trivial | exact trivial), ?_⟩
  refine runJ ?_
  exact fin1 rfl rfl ⟨dec_i hi, rfl⟩

/-- May a row of primes be? -/
def rightP (row : List Nat) : Prop := (∀ q ∈ row, 3 ≤ q ∧ q < 2305843009213693952 ∧ isB q = true) ∧ row.Nodup ∧ 0 < row.length ∧ row.length ≤ 24
instance (row : List Nat) : Decidable (rightP row) := by unfold rightP; exact inferInstance

def prodL (row : List Nat) : Nat := row.foldl (· * ·) 1
theorem prodL_snoc (row : List Nat) (q : Nat) : prodL (row ++ [q]) = prodL row * q := by unfold prodL; rw [List.foldl_append]; rfl
theorem prodL_lt {row : List Nat} (h : Al 18446744073709551616 row) : prodL row < 18446744073709551616 ^ (row.length + 1) := by
  have key : ∀ (n : Nat), n ≤ row.length → prodL (row.take n) < 18446744073709551616 ^ (n + 1) := by
    intro n
    induction n with
    | zero => intro _; simp [prodL]
    | succ n ih =>
      intro hn
      obtain ⟨q, hq⟩ := get_lt (l := row) (j := n) (by omega)
      have hq64 := h q (List.mem_of_getElem? hq)
      rw [take_snoc hq, prodL_snoc, Nat.pow_succ]
      exact Nat.mul_lt_mul_of_lt_of_lt (ih (by omega)) hq64
  have := key row.length (Nat.le_refl _)
  rwa [List.take_of_length_le (Nat.le_refl _)] at this

theorem Tryz_ent61 : Ent Tryz.prog 61 := ent_of Tryz.func61 (by kernel_rfl) rfl
theorem product_spec (v : Value) (row : List Nat) (h : Hp) (s : SlF h U v row) (hal : Al 18446744073709551616 row) (hl : row.length < 1000000) :
    CallsH Tryz.prog 61 [v] h fun v' h' => Ext h h' ∧ OwnF h' h.size 26 U v' (if row = [] then [1] else dg 18446744073709551616 (prodL row)) := by
  (apply enter Tryz.func61 rfl Tryz.ntmps61 rfl)
  refine runJ ?_
  (apply (s_litF (f := U) [1] (fun _ => rfl)); exact rfl; exact rfl; exact rfl; exact rfl; exact rfl; exact rfl; exact rfl; exact rfl; omega)
  intro w h1 o1 e1 b1
  refine ⟨(by first | exact trivial | exact Ext.refl _ | assumption | exact Ext.trans (by assumption) (by assumption)), ?_⟩
  have s1 := s.ext e1
  refine runJ ?_
  (first | (apply w_seqB; exact rfl; apply w_block; exact rfl) | skip)
  apply (w_loop (σ := Nat × Value) rfl (fun j => [(3, j.2), (7, v), (8, N row.length), (9, N j.1)])
    (fun j h' => Ext h h' ∧ OwnF h' h.size 26 U j.2 (if j.1 = 0 then [1] else dg 18446744073709551616 (prodL (row.take j.1))) ∧ j.1 ≤ row.length) (fun j => row.length - j.1) (0, w))
  · exact (Sub.cons rfl (Sub.cons rfl (Sub.cons rfl (Sub.cons rfl (Sub.nil _)))))
  · exact ⟨e1, o1, Nat.zero_le _⟩
  rintro ⟨j, u⟩ h3 ⟨e3, o3, j1⟩
  dsimp only at e3 o3 j1 ⊢
  have s3 := s.ext e3
  refine runJ ?_
  (apply w_condD; exact rfl; exact rfl) <;> intro hj
  · obtain ⟨q, hq⟩ := get_lt hj
    have hq64 := hal q (List.mem_of_getElem? hq)
    have hv : vl 18446744073709551616 (if j = 0 then [1] else dg 18446744073709551616 (prodL (row.take j))) = prodL (row.take j) := by
      split
      · rename_i h0; subst h0; rfl
      · rw [vl_dg (by decide)]
    have ha : Al 18446744073709551616 (if j = 0 then [1] else dg 18446744073709551616 (prodL (row.take j))) := by
      split
      · intro x hx; simp at hx; omega
      · exact al_dg (by decide) _
    have hln : (if j = 0 then [1] else dg 18446744073709551616 (prodL (row.take j))).length < 1099511627776 := by
      split
      · decide
      · have := dg_len (b := 18446744073709551616) (by decide) (prodL_lt (fun x hx => hal x (List.mem_of_mem_take hx) : Al 18446744073709551616 (row.take j)))
        have h2 : (row.take j).length ≤ row.length := by simp; omega
        omega
    refine runJ ?_
    (apply (s_litF (f := U) [q] (fun _ => rfl)); exact rfl; exact rfl; exact rfl; exact rfl; exact rfl; exact rfl; exact rfl; exact rfl; omega)
    intro w2 h4 o4 e4 b4
    refine ⟨(by first | exact trivial | exact Ext.refl _ | assumption | exact Ext.trans (by assumption) (by assumption)), ?_⟩
    have hqa : Al 18446744073709551616 [q] := fun x hx => by simp only [List.mem_singleton] at hx; subst hx; exact hq64
    refine runJ ?_
    apply (s_call Tryz_ent122 rfl rfl rfl)
    refine (nmul_spec u w2 _ [q] h4 (o3.sl.ext e4) o4.sl ha hqa hln (by simp)).mono ?_
    rintro u' h5 ⟨e5, o5⟩
    refine ⟨(by first | exact trivial | exact trivial), ?_⟩
    have e35 := (e3.trans e4).trans e5
    rw [hv] at o5
    have hq1 : vl 18446744073709551616 [q] = q := by simp [vl]
    rw [hq1, ← prodL_snoc, ← take_snoc hq] at o5
    refine runJ ?_
    apply again_normal (j + 1, u')
    · exact (Sub.cons rfl (Sub.cons rfl (Sub.cons rfl (Sub.cons rfl (Sub.nil _)))))
    · refine ⟨e35, ?_, hj⟩
      rw [if_neg (by omega)]
      exact o5.base (Nat.le_trans e3.1 e4.1)
    · dsimp only; omega
  · have hjl : j = row.length := by omega
    subst hjl
    rw [List.take_of_length_le (Nat.le_refl _)] at o3
    refine runJ ?_
    refine fin1 rfl rfl ⟨e3, ?_⟩
    simpa [List.length_eq_zero_iff] using o3
end Go.Proofs.YtfcmdefigldpnaaGreatDoor


namespace Go.Den
set_option linter.unusedVariables false
set_option maxRecDepth 8000
open Go Go.RowKit

section rules
variable {P : Program} {n : Nat} {Q : Post} {l : Fr} {h : Hp} {ops : List Oper} {Ch : Hp → Prop} {E : Nat → Bool} {i : Nat}
variable {d : Nat} {t : TypeId} {x y z : Operand}
theorem s_buildArr {m s : Nat} {e : TypeId} {parts : Array (Nat × Operand)} {vs : List Value} {css : List (List Value)} (cs : List Value) (he : evs l (parts.toList.map (·.2)) = some vs) (ht : P.underlying t = some (.array m e)) (hs : (P.info? e).map (·.size) = some s) {zs : List Value} (hi : (P.info? t).bind (fun i => i.zero.map fun z => z.cells.toList) = some zs)
    (hc : CellsAll vs css) (hcs : fillP (fun i => some (i * s, s)) zs ((parts.toList.map (·.1)).zip css) = some cs) (hb : Nat.blt d n = true)
    (k : S P n ops Ch E Q (i + 1) ((d, .agg cs.toArray) :: l) h) : O P n ops Ch E Q i d (.build t parts) l h :=
  s_pure hb (fun a w' hf => by
    cases hq : P.info? t with
    | none => rw [hq] at hi; cases hi
    | some inf =>
      rw [hq] at hi
      simp only [Option.bind_some] at hi
      cases hz : inf.zero with
      | none => rw [hz] at hi; cases hi
      | some z =>
        rw [hz] at hi
        simp only [Option.map_some, Option.some.injEq] at hi
        cases hq2 : P.info? e with
        | none => rw [hq2] at hs; cases hs
        | some inf2 =>
          rw [hq2] at hs
          simp only [Option.map_some, Option.some.injEq] at hs
          have hpa : (parts.map fun (i, x) => (i, a.eval x)) = ((parts.toList.map (·.1)).zip vs).toArray := by
            apply Array.ext'
            rw [← hf.evs he, Array.toList_map, List.map_map, List.zip_map']; rfl
          have hzip : ((parts.toList.map (·.1)).zip vs).map (fun x => (x.1, x.2.cells.toList)) = (parts.toList.map (·.1)).zip css := by
            rw [← hc.eq, List.zip_map_right]
            first | done | rfl
          have hfl := fill_fillP (place := fun i => some (i * s, s)) ((parts.toList.map (·.1)).zip vs) zs cs (hzip ▸ hcs)
          have e1 : z.cells = zs.toArray := by rw [← hi]
          have hr : (Instr.build t ((parts.toList.map (·.1)).zip vs).toArray).run P w' = .ok (.agg cs.toArray) w' := by
            simp [Instr.build, zeroValue, typeInfo, hq, hz, run_underlying ht, sizeOf, hq2, hs, e1, hfl]
          simp only [execOp, hpa, Sem.run_bind, hr]; rfl) k
end rules
end Go.Den


namespace Go.Den
set_option linter.unusedVariables false
set_option maxRecDepth 8000
open Go Go.RowKit

section rules
variable {P : Program} {n : Nat} {Q : Post} {l : Fr} {h : Hp} {ops : List Oper} {Ch : Hp → Prop} {E : Nat → Bool} {i d : Nat} {x y : Operand} {ts : Array TypeId}
theorem s_minU {a b : Nat} (hx : IsK (ev l x) .u64 a) (hy : IsK (ev l y) .u64 b) (hb : Nat.blt d n = true)
    (k : S P n ops Ch E Q (i + 1) ((d, U (min a b)) :: l) h) : O P n ops Ch E Q i d (.call ⟨.builtin .min, #[x, y], ts⟩) l h :=
  s_pure hb (fun A w' hf => by
    have e : (if b < a then (b : Int) else (a : Int)) = ((min a b : Nat) : Int) := by
      split <;> omega
    simp [execOp, resolve, invoke, builtin, hf.ev hx.h, hf.ev hy.h, Builtin.min_, Builtin.min2, e]) k
end rules
end Go.Den


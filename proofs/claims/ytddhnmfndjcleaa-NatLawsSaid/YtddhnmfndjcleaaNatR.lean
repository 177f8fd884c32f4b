/- Whole numbers: the nearest to a quotient, by the reference, by contract. No condition. -/
import Derived.Test.YtddhnmfndjcleaaNatP
namespace Go.Proofs.Ytddhnmfndjcleaa
set_option linter.unusedVariables false
open Go Go.Den Go.RowKit Go.Dig

theorem iv_of (z : Int) : IV (decide (z < 0)) z.natAbs = z := by
  unfold IV; by_cases h : z < 0 <;> simp [h] <;> omega
theorem iv_natAbs (n : Bool) (X : Nat) : (IV n X).natAbs = X := (iv_abs n X).1
def floorQ (z : Int) (D : Nat) : Nat := z.natAbs / D + if (decide (z < 0) && decide (z.natAbs % D ≠ 0)) = true then 1 else 0
theorem floor_eq {z : Int} {D : Nat} (hD : 0 < D) : IV (decide (z < 0)) (floorQ z D) = z / (D : Int) := by
  have h1 := Nat.div_add_mod z.natAbs D
  have h2 := Nat.mod_lt z.natAbs hD
  unfold floorQ
  generalize z.natAbs / D = q at *
  generalize z.natAbs % D = r at *
  symm
  apply ediv_of (by omega)
  all_goals
    have hp : (D : Int) * (q : Int) = ((D * q : Nat) : Int) := by simp
    unfold IV
    by_cases hz : z < 0
    · by_cases hr : r = 0
      · subst hr
        simp only [hz, decide_true, if_true, ne_eq, not_true_eq_false, decide_false, Bool.and_false, Bool.false_eq_true, if_false, Nat.add_zero, Int.mul_neg, hp]; omega
      · simp only [hz, hr, decide_true, if_true, ne_eq, not_false_eq_true, Bool.and_self, Int.natCast_add, Int.mul_neg, Int.mul_add, hp, Int.natCast_one, Int.mul_one]; omega
    · simp only [hz, decide_false, Bool.false_and, Bool.false_eq_true, if_false, Nat.add_zero, hp]; omega

theorem Try_ent28 : Ent Try.prog 28 := ent_of Try.func28 (by kernel_rfl) rfl
set_option maxHeartbeats 1600000 in
theorem rnear_spec (n1 : Bool) (va vb : Value) (xs ys : List Nat) (h : Hp) (ha : SlF h U va xs) (hb : SlF h U vb ys) (hx : Al 18446744073709551616 xs) (hy : Al 18446744073709551616 ys) (hl : xs.length < 1073741824) (hl2 : ys.length < 1073741824) :
    CallsH Try.prog 28 [.agg #[.bool n1, va], vb] h fun v' h' => Ext h h' ∧ ∃ w, v' = .tuple #[w, N (if vl 18446744073709551616 ys = 0 then 1 else 0)] ∧ IntOf h' h.size w (if vl 18446744073709551616 ys = 0 then 0 else nearZ (IV n1 (vl 18446744073709551616 xs)) (vl 18446744073709551616 ys)) := by
  (apply enter Try.func28 rfl Try.ntmps28 rfl)
  have ly := d16_len (vlt hy)
  have hz : (dg 65536 (vl 18446744073709551616 ys)).length = 0 ↔ vl 18446744073709551616 ys = 0 := dg_len0 (by omega)
  refine runG ?_
  (apply s_box; exact rfl; exact rfl; exact rfl; exact rfl)
  intro p h1 v1 e1 b1
  (try dsimp only [Value.cells, List.toList_toArray] at v1)
  refine ⟨(by first | exact trivial | exact Ext.refl _ | assumption | exact Ext.trans (by assumption) (by assumption)), ?_⟩
  refine runG ?_
  (apply s_alloc; exact rfl; exact rfl; exact rfl)
  intro r h2 v2 e2 b2
  (try dsimp only [Value.cells, List.toList_toArray] at v2)
  refine ⟨(by first | exact trivial | exact Ext.refl _ | assumption | exact Ext.trans (by assumption) (by assumption)), ?_⟩
  have v1' := v1.ext e2
  have npr := v1.ne_new b2 (Nat.le_refl _)
  have E2 := e1.trans e2
  have hb2 := hb.ext E2
  have hs1 := e1.1
  have hs2 := e2.1
  have hr2 : h1.size < h2.size := by
    obtain ⟨k, hk, hlt⟩ := v2.blk
    rw [b2] at hk; cases hk; exact hlt
  refine runG ?_
  apply (s_call Try_ent38 rfl rfl rfl)
  refine (digits_spec vb ys h2 hb2 hy (by omega)).mono ?_
  rintro vd h3 ⟨e3, o3⟩
  refine ⟨(by first | exact trivial | exact Ext.refl _ | assumption | exact Ext.trans (by assumption) (by assumption)), ?_⟩
  have v1a := v1'.ext e3
  have v2a := v2.ext e3
  have E3 := E2.trans e3
  have hs3 := e3.1
  refine runG ?_
  (apply w_condD; exact rfl; exact rfl) <;> intro h0
  · rw [hz] at h0
    rw [if_pos h0, if_pos h0]
    refine runG ?_
    (apply (s_build ([.bool false, .slice none 0 0])); exact rfl; exact rfl; exact rfl; (repeat (first | exact CellsAll.nil | (apply CellsAll.cons; (first | exact oneL (SlF.one (by assumption)) | exact oneL (SlF.one (OwnF.sl (by assumption))) | exact oneL (Var.one (by assumption)) | exact rfl)))); exact rfl; exact rfl)
    refine runG ?_
    (apply s_storeV; exact rfl; exact rfl; exact rfl; (repeat (first | exact OneAll.nil | (apply OneAll.cons; (first | exact rfl | exact SlF.one (by assumption) | exact SlF.one (OwnF.sl (by assumption)) | exact Var.one (by assumption))))); exact rfl; exact rfl; exact v2a; exact rfl)
    intro h4 v4 k4
    (try dsimp only [Value.cells, List.toList_toArray] at v4)
    refine ⟨(by first | exact trivial | exact Ext.refl _ | assumption | exact Ext.only (by assumption) _ | exact Only.trans (Ext.only (by assumption) _) (by assumption)), ?_⟩
    have e4 := k4.oldV E3 b2 (by omega)
    refine runG ?_
    exact finCT rfl rfl rfl v4 rfl rfl ⟨e4, _, rfl, ⟨_, rfl, OwnF.nil _ _ _ _⟩⟩
  · rw [hz] at h0
    rw [if_neg h0, if_neg h0]
    have ha3 := ha.ext E3
    refine runG ?_
    (apply (s_litF (f := U) [2] (fun _ => rfl)); exact rfl; exact rfl; exact rfl; exact rfl; exact rfl; exact rfl; exact rfl; exact rfl; omega)
    intro vt h4 ot et bt
    refine ⟨(by first | exact trivial | exact Ext.refl _ | assumption | exact Ext.trans (by assumption) (by assumption)), ?_⟩
    have ha4 := ha3.ext et
    refine runG ?_
    (apply (s_build ([.bool false, vt])); exact rfl; exact rfl; exact rfl; (repeat (first | exact CellsAll.nil | (apply CellsAll.cons; (first | exact oneL (SlF.one (by assumption)) | exact oneL (SlF.one (OwnF.sl (by assumption))) | exact oneL (Var.one (by assumption)) | exact rfl)))); exact rfl; exact rfl)
    refine runG ?_
    apply (s_call Try_ent33 rfl rfl rfl)
    refine (rtimes_spec n1 false va vt xs [2] h4 ha4 ot.sl hx (Al.cons (by omega) Al.nil) (by omega) (by simp)).mono ?_
    rintro _ h5 ⟨e5, w5, rfl, o5⟩
    refine ⟨(by first | exact trivial | exact Ext.refl _ | assumption | exact Ext.trans (by assumption) (by assumption)), ?_⟩
    rw [show vl 18446744073709551616 [2] = 2 by simp [vl]] at o5
    rw [show vl 18446744073709551616 [2] = 2 by simp [vl]]
    have hz1 : (IV n1 (vl 18446744073709551616 xs) * IV false 2).natAbs = vl 18446744073709551616 xs * 2 := by rw [Int.natAbs_mul, iv_natAbs, iv_natAbs]
    have hl5 := dg_len_mul hx (show Al 18446744073709551616 [2] from Al.cons (by omega) Al.nil)
    rw [show vl 18446744073709551616 [2] = 2 by simp [vl], ← hz1] at hl5
    simp only [List.length_singleton] at hl5
    generalize hzd : IV n1 (vl 18446744073709551616 xs) * IV false 2 = z1 at *
    have hb5 := (hb2.ext e3).ext (et.trans e5)
    have E5 := E3.trans (et.trans e5)
    refine runG ?_
    (apply (s_build ([.bool false, vb])); exact rfl; exact rfl; exact rfl; (repeat (first | exact CellsAll.nil | (apply CellsAll.cons; (first | exact oneL (SlF.one (by assumption)) | exact oneL (SlF.one (OwnF.sl (by assumption))) | exact oneL (Var.one (by assumption)) | exact rfl)))); exact rfl; exact rfl)
    refine runG ?_
    apply (s_call Try_ent31 rfl rfl rfl)
    refine (rsum_spec (decide (z1 < 0)) false w5 vb _ ys h5 o5.sl hb5 (al_dg (by omega) _) hy (by omega) (by omega)).mono ?_
    rintro _ h6 ⟨e6, w6, rfl, o6⟩
    refine ⟨(by first | exact trivial | exact Ext.refl _ | assumption | exact Ext.trans (by assumption) (by assumption)), ?_⟩
    rw [vl_dg (by omega), iv_of] at o6
    rw [vl_dg (by omega), iv_of]
    have hza : (z1 + IV false (vl 18446744073709551616 ys)).natAbs ≤ vl 18446744073709551616 xs * 2 + vl 18446744073709551616 ys := by
      have := Int.natAbs_add_le z1 (IV false (vl 18446744073709551616 ys))
      rw [iv_natAbs, hz1] at this; exact this
    have hl6 : (dg 18446744073709551616 (z1 + IV false (vl 18446744073709551616 ys)).natAbs).length ≤ max xs.length ys.length + 1 := by
      apply dg_len (by omega)
      have a1 := vl_lt hx
      have a2 := vl_lt hy
      have a3 : 18446744073709551616 ^ xs.length ≤ 18446744073709551616 ^ max xs.length ys.length := Nat.pow_le_pow_right (by omega) (by omega)
      have a4 : 18446744073709551616 ^ ys.length ≤ 18446744073709551616 ^ max xs.length ys.length := Nat.pow_le_pow_right (by omega) (by omega)
      rw [Nat.pow_succ]; omega
    have hnear : nearZ (IV n1 (vl 18446744073709551616 xs)) (vl 18446744073709551616 ys) = (z1 + IV false (vl 18446744073709551616 ys)) / ((vl 18446744073709551616 ys * 2 : Nat) : Int) := by
      unfold nearZ
      have e : IV false (vl 18446744073709551616 ys) = (vl 18446744073709551616 ys : Int) := rfl
      have e2 : IV false 2 = (2 : Int) := rfl
      rw [e, ← hzd, e2]
      congr 1
      · omega
      · omega
    rw [hnear, ← floor_eq (by omega)]
    generalize z1 + IV false (vl 18446744073709551616 ys) = z at *
    have E6 := E5.trans e6
    have v2b := v2a.ext (et.trans (e5.trans e6))
    refine runG ?_
    (apply s_alloc; exact rfl; exact rfl; exact rfl)
    intro q h7 v7 e7 b7
    (try dsimp only [Value.cells, List.toList_toArray] at v7)
    refine ⟨(by first | exact trivial | exact Ext.refl _ | assumption | exact Ext.trans (by assumption) (by assumption)), ?_⟩
    have o67 := o6.ext e7
    have v2c := v2b.ext e7
    have E7 := E6.trans e7
    have nrq := v2b.ne_new b7 (Nat.le_refl _)
    have hs6 : h2.size ≤ h6.size := by have := e3.1; have := et.1; have := e5.1; have := e6.1; omega
    have hs7 : h6.size < h7.size := by
      obtain ⟨k, hk, hlt⟩ := v7.blk
      rw [b7] at hk; cases hk; exact hlt
    refine runG ?_
    (apply s_storeV; exact rfl; exact rfl; exact rfl; (repeat (first | exact OneAll.nil | (apply OneAll.cons; (first | exact rfl | exact SlF.one (by assumption) | exact SlF.one (OwnF.sl (by assumption)) | exact Var.one (by assumption))))); exact rfl; exact rfl; exact v7; exact rfl)
    intro h8 v8 k8
    (try dsimp only [Value.cells, List.toList_toArray] at v8)
    refine ⟨(by first | exact trivial | exact Ext.refl _ | assumption | exact Ext.only (by assumption) _ | exact Only.trans (Ext.only (by assumption) _) (by assumption)), ?_⟩
    have o68 := o67.only k8 (by
      cases hv : w6.ownBlock with
      | none => exact .inl rfl
      | some j => exact .inr fun e => by have := (o6.blk j hv).2; rw [b7] at e; cases e; omega)
    have v2d := v2c.only k8 nrq
    have E8 := k8.oldV E7 b7 (by omega)
    have hb8 := hb.ext E8
    have hs8 := k8.1
    have hd := d16_len (d16_mul (vlt hy) (vlt (show Al 18446744073709551616 [2] from Al.cons (by omega) Al.nil)))
    have hld := dg_len_mul hy (show Al 18446744073709551616 [2] from Al.cons (by omega) Al.nil)
    rw [show vl 18446744073709551616 [2] = 2 by simp [vl]] at hd hld
    simp only [List.length_singleton] at hd hld
    refine runG ?_
    (apply (s_litF (f := U) [2] (fun _ => rfl)); exact rfl; exact rfl; exact rfl; exact rfl; exact rfl; exact rfl; exact rfl; exact rfl; omega)
    intro vm h9 om em bm
    refine ⟨(by first | exact trivial | exact Ext.refl _ | assumption | exact Ext.trans (by assumption) (by assumption)), ?_⟩
    have hb9 := hb8.ext em
    refine runG ?_
    apply (s_call Try_ent20 rfl rfl rfl)
    refine (rmul_spec vb vm ys [2] h9 hb9 om.sl hy (Al.cons (by omega) Al.nil) (by omega) (by simp)).mono ?_
    rintro v10 h10 ⟨e10, o10⟩
    refine ⟨(em.trans e10), ?_⟩
    rw [show vl 18446744073709551616 [2] = 2 by simp [vl]] at o10
    have E10 := em.trans e10
    have o6b := o68.ext E10
    have v8b := v8.ext E10
    have v2e := v2d.ext E10
    refine runG ?_
    apply (s_call Try_ent18 rfl rfl rfl)
    refine (rdiv_spec w6 v10 _ _ h10 o6b.sl o10.sl (al_dg (by omega) _) (al_dg (by omega) _) (by omega) (by omega)).mono ?_
    rintro _ h11 ⟨q1, r1, rfl, e11, o11, o11'⟩
    refine ⟨(E10.trans e11), ?_⟩
    rw [vl_dg (by omega), vl_dg (by omega)] at o11 o11'
    rw [if_neg (by omega)] at o11'
    have hz11 : (dg 18446744073709551616 (z.natAbs % (vl 18446744073709551616 ys * 2))).length = 0 ↔ z.natAbs % (vl 18446744073709551616 ys * 2) = 0 := dg_len0 (by omega)
    have hlr := dg_len_le (Y := z.natAbs % (vl 18446744073709551616 ys * 2)) (al_dg (b := 18446744073709551616) (by omega) z.natAbs) (vl_dg (by omega) _) (Nat.mod_le _ _)
    have hlq := dg_len_le (Y := z.natAbs / (vl 18446744073709551616 ys * 2)) (al_dg (b := 18446744073709551616) (by omega) z.natAbs) (vl_dg (by omega) _) (Nat.div_le_self _ _)
    generalize hDd : vl 18446744073709551616 ys * 2 = D at *
    have v8c := v8b.ext e11
    have v2f := v2e.ext e11
    have E11 := E8.trans (E10.trans e11)
    have hs11 : h8.size ≤ h11.size := (E10.trans e11).1
    have hs9 : h9.size ≤ h10.size := e10.1
    have hs89 := em.1
    have ro := o11'.sl
    have hs10 := E10.1
    refine runGN ?_
    apply (s_tcut2 (σ := Value) (fun v => [(4, r), (6, q), (7, v)]) (fun v h' => Ext h11 h' ∧ OwnF h' h8.size 32 U v (dg 18446744073709551616 (floorQ z D))))
    · have noinc : ¬ (decide (z < 0) && decide (z.natAbs % D ≠ 0)) = true → floorQ z D = z.natAbs / D := fun hh => by unfold floorQ; rw [if_neg hh, Nat.add_zero]
      (apply s_splitG; exact rfl; exact rfl; exact rfl; exact rfl) <;> intro c1
      · refine runG ?_
        (apply w_condD; exact rfl; exact rfl) <;> intro c2
        · have hq : floorQ z D = z.natAbs / D + 1 := by
            unfold floorQ
            have : z.natAbs % D ≠ 0 := fun e => by rw [← hz11] at e; omega
            rw [if_pos (by simp [c1, this])]
          rw [hq]
          refine runG ?_
          (apply (s_litF (f := U) [1] (fun _ => rfl)); exact rfl; exact rfl; exact rfl; exact rfl; exact rfl; exact rfl; exact rfl; exact rfl; omega)
          intro vo h12 oo eo bo
          refine ⟨(by first | exact trivial | exact Ext.refl _ | assumption | exact Ext.trans (by assumption) (by assumption)), ?_⟩
          have o12 := o11.ext eo
          refine runG ?_
          apply (s_call Try_ent14 rfl rfl rfl)
          refine (radd_spec q1 vo _ [1] h12 o12.sl oo.sl (al_dg (by omega) _) (Al.cons (by omega) Al.nil) (by omega) (by simp)).mono ?_
          rintro v13 h13 ⟨e13, o13⟩
          refine ⟨(by first | exact trivial | exact Ext.refl _ | assumption | exact Ext.trans (by assumption) (by assumption)), ?_⟩
          rw [vl_dg (by omega), show vl 18446744073709551616 [1] = 1 by simp [vl]] at o13
          refine runG ?_
          apply cut_normal v13
          · exact (Sub.cons rfl (Sub.cons rfl (Sub.cons rfl (Sub.nil _))))
          · exact ⟨eo.trans e13, o13.base (by have := eo.1; omega)⟩
        · rw [noinc (by simp only [Bool.and_eq_true, decide_eq_true_eq, not_and]; intro _ hh; exact hh (by rw [← hz11]; omega))]
          refine runG ?_
          apply cut_normal q1
          · exact (Sub.cons rfl (Sub.cons rfl (Sub.cons rfl (Sub.nil _))))
          · exact ⟨Ext.refl _, o11.base (by omega)⟩
      · rw [noinc (by simp [c1])]
        refine runG ?_
        apply cut_normal q1
        · exact (Sub.cons rfl (Sub.cons rfl (Sub.cons rfl (Sub.nil _))))
        · exact ⟨Ext.refl _, o11.base (by omega)⟩
    · rintro v12 h12 ⟨e12, o12⟩
      have v8d := v8c.ext e12
      have v2g := v2f.ext e12
      have E12 := E11.trans e12
      have hs12 := e12.1
      have hlf : (dg 18446744073709551616 (floorQ z D)).length ≤ max xs.length ys.length + 2 := by
        apply dg_len (by omega)
        have a0 := dg_lt (b := 18446744073709551616) (by omega) z.natAbs
        have a1 : 18446744073709551616 ^ (dg 18446744073709551616 z.natAbs).length ≤ 18446744073709551616 ^ (max xs.length ys.length + 1) := Nat.pow_le_pow_right (by omega) hl6
        have a2 : floorQ z D ≤ z.natAbs + 1 := by
          have := Nat.div_le_self z.natAbs D
          unfold floorQ; split <;> omega
        rw [Nat.pow_succ]; omega
      refine runG ?_
      apply (s_call Try_ent51 rfl rfl rfl)
      refine (rwhole_spec (decide (z < 0)) v12 _ h12 o12.sl (al_dg (by omega) _) (by omega)).mono ?_
      rintro _ h13 ⟨v13, rfl, e13, o13⟩
      refine ⟨(by first | exact trivial | exact Ext.refl _ | assumption | exact Ext.trans (by assumption) (by assumption)), ?_⟩
      rw [vl_dg (by omega)] at o13
      rw [vl_dg (by omega)]
      have v2h := v2g.ext e13
      refine runG ?_
      (apply s_storeV; exact rfl; exact rfl; exact rfl; (repeat (first | exact OneAll.nil | (apply OneAll.cons; (first | exact rfl | exact SlF.one (by assumption) | exact SlF.one (OwnF.sl (by assumption)) | exact Var.one (by assumption))))); exact rfl; exact rfl; exact v2h; exact rfl)
      intro h14 v14 k14
      (try dsimp only [Value.cells, List.toList_toArray] at v14)
      refine ⟨(by first | exact trivial | exact Ext.refl _ | assumption | exact Ext.only (by assumption) _ | exact Only.trans (Ext.only (by assumption) _) (by assumption)), ?_⟩
      have e14 := k14.oldV (E12.trans e13) b2 (by omega)
      have hsz := E12.1
      have o14 := (o13.only k14 (o13.neV b2 (by omega))).base (B' := h.size) (by omega)
      refine runG ?_
      exact finCT rfl rfl rfl v14 rfl rfl ⟨e14, _, rfl, IntOf.of o14⟩
end Go.Proofs.Ytddhnmfndjcleaa

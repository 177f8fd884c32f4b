/- The fixed facts of the statements of layer 2 hold. No condition. -/
import Derived.Test.YtddhnmfndjcleaaNatR
namespace Go.Proofs.Ytddhnmfndjcleaa
set_option linter.unusedVariables false
open Go Go.Den Go.RowKit Go.Dig

theorem al1 {x : Nat} (h : x < 18446744073709551616) : Al 18446744073709551616 [x] := Al.cons h Al.nil
theorem al2 {x y : Nat} (h : x < 18446744073709551616) (k : y < 18446744073709551616) : Al 18446744073709551616 [x, y] := Al.cons h (al1 k)
theorem dg1 {x : Nat} (h : x < 18446744073709551616) (h0 : x ≠ 0) : dg 18446744073709551616 x = [x] := by
  have := nrm_eq (b := 18446744073709551616) (by omega) (al1 h)
  rw [show vl 18446744073709551616 [x] = x by simp [vl]] at this
  rw [← this]; simp [nrm, h0]
theorem dg2 {x y : Nat} (h : x < 18446744073709551616) (k : y < 18446744073709551616) (h0 : y ≠ 0) : dg 18446744073709551616 (x + 18446744073709551616 * y) = [x, y] := by
  have := nrm_eq (b := 18446744073709551616) (by omega) (al2 h k)
  rw [show vl 18446744073709551616 [x, y] = x + 18446744073709551616 * y by simp [vl]] at this
  rw [← this]; simp [nrm, h0]
theorem IntSl.one {h : Hp} {v : Value} {x : Nat} (n : Bool) (hx : x < 18446744073709551616) (h0 : x ≠ 0) (s : SlF h U v [x]) : IntSl h (.agg #[.bool n, v]) (IV n x) := by
  obtain ⟨h1, h2⟩ := iv_abs n x
  exact ⟨v, by rw [h2]; simp [h0], by rw [h1, dg1 hx h0]; exact s⟩
theorem dg_small {n : Nat} (h : n < 18446744073709551616) : (dg 18446744073709551616 n).length < 4611686018427387904 := by
  have : (dg 18446744073709551616 n).length ≤ 1 := dg_len (by omega) (by omega)
  omega

theorem Try_ent8 : Ent Try.prog 8 := ent_of Try.func8 (by kernel_rfl) rfl
set_option maxHeartbeats 4000000 in
theorem fixed_spec (h : Hp) : CallsH Try.prog 8 [] h fun v' h' => v' = .bool true ∧ Ext h h' := by
  (apply enter Try.func8 rfl Try.ntmps8 rfl)
  refine runG ?_
  (apply (s_litF (f := U) [18446744073709551615] (fun _ => rfl)); exact rfl; exact rfl; exact rfl; exact rfl; exact rfl; exact rfl; exact rfl; exact rfl; omega)
  intro a1 h1 o1 e1 b1
  refine ⟨(by first | exact trivial | exact Ext.refl _ | assumption | exact Ext.trans (by assumption) (by assumption)), ?_⟩
  refine runG ?_
  (apply (s_litF (f := U) [1] (fun _ => rfl)); exact rfl; exact rfl; exact rfl; exact rfl; exact rfl; exact rfl; exact rfl; exact rfl; omega)
  intro a2 h2 o2 e2 b2
  refine ⟨(by first | exact trivial | exact Ext.refl _ | assumption | exact Ext.trans (by assumption) (by assumption)), ?_⟩
  have s1 := o1.sl.ext e2
  refine runG ?_
  apply (s_call Try_ent13 rfl rfl rfl)
  refine (nadd_spec a1 a2 _ _ h2 s1 o2.sl (al1 (by omega)) (al1 (by omega)) (by simp) (by simp)).mono ?_
  rintro va h3 ⟨e3, oa⟩
  refine ⟨(by first | exact trivial | exact Ext.refl _ | assumption | exact Ext.trans (by assumption) (by assumption)), ?_⟩
  rw [show vl 18446744073709551616 [18446744073709551615] + vl 18446744073709551616 [1] = 0 + 18446744073709551616 * 1 by simp [vl], dg2 (by omega) (by omega) (by omega)] at oa
  refine runG ?_
  (apply (s_litF (f := U) [0, 1] (fun _ => rfl)); exact rfl; exact rfl; exact rfl; exact rfl; exact rfl; exact rfl; exact rfl; exact rfl; omega)
  intro a3 h4 o4 e4 b4
  refine ⟨(by first | exact trivial | exact Ext.refl _ | assumption | exact Ext.trans (by assumption) (by assumption)), ?_⟩
  refine runG ?_
  (apply (s_litF (f := U) [10] (fun _ => rfl)); exact rfl; exact rfl; exact rfl; exact rfl; exact rfl; exact rfl; exact rfl; exact rfl; omega)
  intro a4 h5 o5 e5 b5
  refine ⟨(by first | exact trivial | exact Ext.refl _ | assumption | exact Ext.trans (by assumption) (by assumption)), ?_⟩
  have s4 := o4.sl.ext e5
  refine runG ?_
  apply (s_call Try_ent17 rfl rfl rfl)
  refine (ndiv_spec a3 a4 _ _ h5 s4 o5.sl (al2 (by omega) (by omega)) (al1 (by omega)) (by simp) (by simp)).mono ?_
  rintro _ h6 ⟨vq, vr, rfl, e6, oq, or⟩
  refine ⟨(by first | exact trivial | exact Ext.refl _ | assumption | exact Ext.trans (by assumption) (by assumption)), ?_⟩
  rw [show vl 18446744073709551616 [0, 1] / vl 18446744073709551616 [10] = 1844674407370955161 by simp [vl], dg1 (by omega) (by omega)] at oq
  rw [show (if vl 18446744073709551616 [10] = 0 then 0 else vl 18446744073709551616 [0, 1] % vl 18446744073709551616 [10]) = 6 by simp [vl], dg1 (by omega) (by omega)] at or
  rw [show (if vl 18446744073709551616 [10] = 0 then 1 else 0) = 0 by simp [vl]]
  refine runG ?_
  (apply (s_litF (f := U) [3] (fun _ => rfl)); exact rfl; exact rfl; exact rfl; exact rfl; exact rfl; exact rfl; exact rfl; exact rfl; omega)
  intro a5 h7 o7 e7 b7
  refine ⟨(by first | exact trivial | exact Ext.refl _ | assumption | exact Ext.trans (by assumption) (by assumption)), ?_⟩
  refine runG ?_
  (apply (s_build ([.bool true, a5])); exact rfl; exact rfl; exact rfl; (repeat (first | exact CellsAll.nil | (apply CellsAll.cons; (first | exact oneL (SlF.one (by assumption)) | exact oneL (SlF.one (OwnF.sl (by assumption))) | exact oneL (Var.one (by assumption)) | exact rfl)))); exact rfl; exact rfl)
  refine runG ?_
  (apply (s_litF (f := U) [2] (fun _ => rfl)); exact rfl; exact rfl; exact rfl; exact rfl; exact rfl; exact rfl; exact rfl; exact rfl; omega)
  intro a6 h8 o8 e8 b8
  refine ⟨(by first | exact trivial | exact Ext.refl _ | assumption | exact Ext.trans (by assumption) (by assumption)), ?_⟩
  have s7 := o7.sl.ext e8
  refine runG ?_
  apply (s_call Try_ent27 rfl rfl rfl)
  refine (nnear_spec true a5 a6 _ _ h8 s7 o8.sl (al1 (by omega)) (al1 (by omega)) (by simp) (by simp)).mono ?_
  rintro _ h9 ⟨e9, x, rfl, ox⟩
  refine ⟨(by first | exact trivial | exact Ext.refl _ | assumption | exact Ext.trans (by assumption) (by assumption)), ?_⟩
  rw [show (if vl 18446744073709551616 [2] = 0 then (0 : Int) else nearZ (IV true (vl 18446744073709551616 [3])) (vl 18446744073709551616 [2])) = IV true 1 by simp [vl]; rfl] at ox
  rw [show (if vl 18446744073709551616 [2] = 0 then 1 else 0) = 0 by simp [vl]]
  obtain ⟨xa, rfl, oxa⟩ := ox
  rw [(iv_abs true 1).1, (iv_abs true 1).2, dg1 (by omega) (by omega)] at *
  refine runG ?_
  (apply s_alloc; exact rfl; exact rfl; exact rfl)
  intro p h10 v10 e10 b10
  (try dsimp only [Value.cells, List.toList_toArray] at v10)
  refine ⟨(by first | exact trivial | exact Ext.refl _ | assumption | exact Ext.trans (by assumption) (by assumption)), ?_⟩
  refine runG ?_
  (apply s_storeV; exact rfl; exact rfl; exact rfl; (repeat (first | exact OneAll.nil | (apply OneAll.cons; (first | exact rfl | exact SlF.one (by assumption) | exact SlF.one (OwnF.sl (by assumption)) | exact Var.one (by assumption))))); exact rfl; exact rfl; exact v10; exact rfl)
  intro h11 v11 k11
  (try dsimp only [Value.cells, List.toList_toArray] at v11)
  refine ⟨(by first | exact trivial | exact Ext.refl _ | assumption | exact Ext.only (by assumption) _ | exact Only.trans (Ext.only (by assumption) _) (by assumption)), ?_⟩
  have E11 : Ext h9 h11 := k11.oldV e10 b10 (Nat.le_refl _)
  have A11 : Ext h3 h11 := ((((e4.trans e5).trans e6).trans (e7.trans e8)).trans e9).trans E11
  have B11 : Ext h6 h11 := ((e7.trans e8).trans e9).trans E11
  have x11 := oxa.sl.ext E11
  refine runG ?_
  (apply (s_litF (f := U) [3] (fun _ => rfl)); exact rfl; exact rfl; exact rfl; exact rfl; exact rfl; exact rfl; exact rfl; exact rfl; omega)
  intro a7 h12 o12 e12 b12
  refine ⟨(by first | exact trivial | exact Ext.refl _ | assumption | exact Ext.trans (by assumption) (by assumption)), ?_⟩
  refine runG ?_
  (apply (s_build ([.bool false, a7])); exact rfl; exact rfl; exact rfl; (repeat (first | exact CellsAll.nil | (apply CellsAll.cons; (first | exact oneL (SlF.one (by assumption)) | exact oneL (SlF.one (OwnF.sl (by assumption))) | exact oneL (Var.one (by assumption)) | exact rfl)))); exact rfl; exact rfl)
  refine runG ?_
  (apply (s_litF (f := U) [2] (fun _ => rfl)); exact rfl; exact rfl; exact rfl; exact rfl; exact rfl; exact rfl; exact rfl; exact rfl; omega)
  intro a8 h13 o13 e13 b13
  refine ⟨(by first | exact trivial | exact Ext.refl _ | assumption | exact Ext.trans (by assumption) (by assumption)), ?_⟩
  have s12 := o12.sl.ext e13
  refine runG ?_
  apply (s_call Try_ent27 rfl rfl rfl)
  refine (nnear_spec false a7 a8 _ _ h13 s12 o13.sl (al1 (by omega)) (al1 (by omega)) (by simp) (by simp)).mono ?_
  rintro _ h14 ⟨e14, y, rfl, oy⟩
  refine ⟨(by first | exact trivial | exact Ext.refl _ | assumption | exact Ext.trans (by assumption) (by assumption)), ?_⟩
  rw [show (if vl 18446744073709551616 [2] = 0 then (0 : Int) else nearZ (IV false (vl 18446744073709551616 [3])) (vl 18446744073709551616 [2])) = IV false 2 by simp [vl]; rfl] at oy
  rw [show (if vl 18446744073709551616 [2] = 0 then 1 else 0) = 0 by simp [vl]]
  obtain ⟨ya, rfl, oya⟩ := oy
  rw [(iv_abs false 2).1, (iv_abs false 2).2, dg1 (by omega) (by omega)] at *
  refine runG ?_
  (apply s_alloc; exact rfl; exact rfl; exact rfl)
  intro q h15 v15 e15 b15
  (try dsimp only [Value.cells, List.toList_toArray] at v15)
  refine ⟨(by first | exact trivial | exact Ext.refl _ | assumption | exact Ext.trans (by assumption) (by assumption)), ?_⟩
  refine runG ?_
  (apply s_storeV; exact rfl; exact rfl; exact rfl; (repeat (first | exact OneAll.nil | (apply OneAll.cons; (first | exact rfl | exact SlF.one (by assumption) | exact SlF.one (OwnF.sl (by assumption)) | exact Var.one (by assumption))))); exact rfl; exact rfl; exact v15; exact rfl)
  intro h16 v16 k16
  (try dsimp only [Value.cells, List.toList_toArray] at v16)
  refine ⟨(by first | exact trivial | exact Ext.refl _ | assumption | exact Ext.only (by assumption) _ | exact Only.trans (Ext.only (by assumption) _) (by assumption)), ?_⟩
  have E16 : Ext h14 h16 := k16.oldV e15 b15 (Nat.le_refl _)
  have C16 : Ext h11 h16 := ((e12.trans e13).trans e14).trans E16
  have x16 := x11.ext C16
  have y16 := oya.sl.ext E16
  have v11' := v11.ext C16
  have sa := oa.sl.ext (A11.trans C16)
  have sq := oq.sl.ext (B11.trans C16)
  have sr := or.sl.ext (B11.trans C16)
  refine runG ?_
  (apply (s_litF (f := U) [0, 1] (fun _ => rfl)); exact rfl; exact rfl; exact rfl; exact rfl; exact rfl; exact rfl; exact rfl; exact rfl; omega)
  intro c1 h17 p17 f17 d17
  refine ⟨(by first | exact trivial | exact Ext.refl _ | assumption | exact Ext.trans (by assumption) (by assumption)), ?_⟩
  have sa17 := sa.ext f17
  have sc17 := p17.sl
  refine runG ?_
  apply (s_call Try_ent12 rfl rfl rfl)
  refine (same_spec va c1 _ _ h17 sa17 sc17 (by simp)).mono ?_
  rintro _ _ ⟨rfl, rfl⟩
  refine ⟨(by first | exact trivial | exact Ext.refl _ | assumption | exact Ext.trans (by assumption) (by assumption)), ?_⟩
  rw [decide_eq_true rfl]
  refine runG ?_
  (apply (s_litF (f := U) [1844674407370955161] (fun _ => rfl)); exact rfl; exact rfl; exact rfl; exact rfl; exact rfl; exact rfl; exact rfl; exact rfl; omega)
  intro c2 h18 p18 f18 d18
  refine ⟨(by first | exact trivial | exact Ext.refl _ | assumption | exact Ext.trans (by assumption) (by assumption)), ?_⟩
  have sq18 := (sq.ext f17).ext f18
  refine runG ?_
  apply (s_call Try_ent12 rfl rfl rfl)
  refine (same_spec vq c2 _ _ h18 sq18 p18.sl (by simp)).mono ?_
  rintro _ _ ⟨rfl, rfl⟩
  refine ⟨(by first | exact trivial | exact Ext.refl _ | assumption | exact Ext.trans (by assumption) (by assumption)), ?_⟩
  rw [decide_eq_true rfl]
  refine runG ?_
  (apply (s_litF (f := U) [6] (fun _ => rfl)); exact rfl; exact rfl; exact rfl; exact rfl; exact rfl; exact rfl; exact rfl; exact rfl; omega)
  intro c3 h19 p19 f19 d19
  refine ⟨(by first | exact trivial | exact Ext.refl _ | assumption | exact Ext.trans (by assumption) (by assumption)), ?_⟩
  have F19 := (f17.trans f18).trans f19
  have sr19 := sr.ext F19
  refine runG ?_
  apply (s_call Try_ent12 rfl rfl rfl)
  refine (same_spec vr c3 _ _ h19 sr19 p19.sl (by simp)).mono ?_
  rintro _ _ ⟨rfl, rfl⟩
  refine ⟨(by first | exact trivial | exact Ext.refl _ | assumption | exact Ext.trans (by assumption) (by assumption)), ?_⟩
  rw [decide_eq_true rfl]
  have v11'' := v11'.ext F19
  refine runG ?_
  (apply (s_litF (f := U) [1] (fun _ => rfl)); exact rfl; exact rfl; exact rfl; exact rfl; exact rfl; exact rfl; exact rfl; exact rfl; omega)
  intro c4 h20 p20 f20 d20
  refine ⟨(by first | exact trivial | exact Ext.refl _ | assumption | exact Ext.trans (by assumption) (by assumption)), ?_⟩
  have x20 := (x16.ext F19).ext f20
  refine runG ?_
  (apply (s_build ([.bool true, c4])); exact rfl; exact rfl; exact rfl; (repeat (first | exact CellsAll.nil | (apply CellsAll.cons; (first | exact oneL (SlF.one (by assumption)) | exact oneL (SlF.one (OwnF.sl (by assumption))) | exact oneL (Var.one (by assumption)) | exact rfl)))); exact rfl; exact rfl)
  refine runG ?_
  apply (s_call Try_ent29 rfl rfl rfl)
  refine (sameInt_spec _ _ _ _ h20 (IntSl.one true (by omega) (by omega) x20) (IntSl.one true (by omega) (by omega) p20.sl) (dg_small (by rw [iv_natAbs]; omega))).mono ?_
  rintro _ h21 ⟨rfl, f21⟩
  refine ⟨trivial, ?_⟩
  rw [decide_eq_true rfl]
  have F21 := (F19.trans f20).trans f21
  have v16' := v16.ext F21
  refine runG ?_
  (apply (s_litF (f := U) [2] (fun _ => rfl)); exact rfl; exact rfl; exact rfl; exact rfl; exact rfl; exact rfl; exact rfl; exact rfl; omega)
  intro c5 h22 p22 f22 d22
  refine ⟨(by first | exact trivial | exact Ext.refl _ | assumption | exact Ext.trans (by assumption) (by assumption)), ?_⟩
  have y22 := (y16.ext F21).ext f22
  refine runG ?_
  (apply (s_build ([.bool false, c5])); exact rfl; exact rfl; exact rfl; (repeat (first | exact CellsAll.nil | (apply CellsAll.cons; (first | exact oneL (SlF.one (by assumption)) | exact oneL (SlF.one (OwnF.sl (by assumption))) | exact oneL (Var.one (by assumption)) | exact rfl)))); exact rfl; exact rfl)
  refine runG ?_
  apply (s_call Try_ent29 rfl rfl rfl)
  refine (sameInt_spec _ _ _ _ h22 (IntSl.one false (by omega) (by omega) y22) (IntSl.one false (by omega) (by omega) p22.sl) (dg_small (by rw [iv_natAbs]; omega))).mono ?_
  rintro _ h23 ⟨rfl, f23⟩
  refine ⟨trivial, ?_⟩
  rw [decide_eq_true rfl]
  refine runG ?_
  exact fin1 rfl rfl ⟨rfl, ((((e1.trans e2).trans e3).trans A11).trans C16).trans ((F21.trans f22).trans f23)⟩
end Go.Proofs.Ytddhnmfndjcleaa

/- The statements of layer 2 on naturals: whatever the input, they return true, and change nothing that was there. No condition. -/
import Derived.Test.YtddhnmfndjcleaaNatT
namespace Go.Proofs.Ytddhnmfndjcleaa
set_option linter.unusedVariables false
open Go Go.Den Go.RowKit Go.Dig

theorem Try_ent4 : Ent Try.prog 4 := ent_of Try.func4 (by kernel_rfl) rfl
set_option maxHeartbeats 4000000 in
theorem natProducts_law (va vb : Value) (w : Nat) (xs ys : List Nat) (h : Hp) (ha : SlF h U va xs) (hb : SlF h U vb ys) (hx : Al 18446744073709551616 xs) (hy : Al 18446744073709551616 ys) (hw : w < 18446744073709551616) :
    CallsH Try.prog 4 [va, vb, U w] h fun v' h' => v' = .bool true ∧ Ext h h' := by
  (apply enter Try.func4 rfl Try.ntmps4 rfl)
  refine runG ?_
  apply (s_call Try_ent8 rfl rfl rfl)
  refine (fixed_spec h).mono ?_
  rintro _ h1 ⟨rfl, e1⟩
  refine ⟨(by first | exact trivial | exact Ext.refl _ | assumption | exact Ext.trans (by assumption) (by assumption)), ?_⟩
  have ha1 := ha.ext e1
  have hb1 := hb.ext e1
  refine runG ?_
  (apply (s_lit (f := Prod.fst) (vs := [va, vb]) [(va, xs), (vb, ys)]); exact rfl; exact rfl; exact rfl; exact rfl; exact rfl; exact rfl; exact OneAll.all (.cons ha1.one (.cons hb1.one .nil)); exact rfl; exact rfl; exact rfl; omega)
  intro vf h2 of e2 bf
  refine ⟨(by first | exact trivial | exact Ext.refl _ | assumption | exact Ext.trans (by assumption) (by assumption)), ?_⟩
  have ha2 := ha1.ext e2
  have hb2 := hb1.ext e2
  have hfew : ∀ p ∈ [(va, xs), (vb, ys)], SlF h2 U p.1 p.2 := by
    intro p hp
    simp only [List.mem_cons, List.not_mem_nil, or_false] at hp
    rcases hp with rfl | rfl
    · exact ha2
    · exact hb2
  refine runG ?_
  apply (s_call Try_ent9 rfl rfl rfl)
  refine (few_spec vf _ h2 of.sl hfew (by simp)).mono ?_
  rintro _ _ ⟨rfl, rfl⟩
  refine ⟨(by first | exact trivial | exact Ext.refl _ | assumption | exact Ext.trans (by assumption) (by assumption)), ?_⟩
  rw [few2]
  refine runG ?_
  (apply w_cond; exact rfl; exact rfl) <;> intro hf
  · refine runG ?_
    exact fin1 rfl rfl ⟨rfl, e1.trans e2⟩
  · simp only [Bool.not_eq_eq_eq_not, Bool.not_false, Bool.and_eq_true, decide_eq_true_eq] at hf
    obtain ⟨hf1, hf2⟩ := hf
    refine runG ?_
    (apply (s_litF (f := U) [] (fun _ => rfl)); exact rfl; exact rfl; exact rfl; exact rfl; exact rfl; exact rfl; exact rfl; exact rfl; omega)
    intro vn h3 o3 e3 b3
    refine ⟨(by first | exact trivial | exact Ext.refl _ | assumption | exact Ext.trans (by assumption) (by assumption)), ?_⟩
    have ha3 := ha2.ext e3
    refine runG ?_
    (apply (s_appendF (bytes := 8)); exact rfl; exact rfl; exact rfl; exact rfl; exact rfl; exact rfl; exact rfl; exact o3; exact ha3; exact fun _ => rfl; (first | exact Nat.le_refl _ | exact ext_size (by assumption) | omega); (simp only [maxLen, List.length_nil, List.length_append]; omega); (simp only [List.length_nil, List.length_append]; omega))
    intro vx h4 o4 k4 b4
    refine ⟨(by first | exact trivial | exact Ext.refl _ | assumption | exact Ext.trans (by assumption) (by assumption)), ?_⟩
    have e4 := o3.old k4 e3 (Nat.le_refl _)
    rw [List.nil_append] at o4
    have hb4 := hb2.ext e4
    refine runG ?_
    (apply (s_litF (f := U) [] (fun _ => rfl)); exact rfl; exact rfl; exact rfl; exact rfl; exact rfl; exact rfl; exact rfl; exact rfl; omega)
    intro vm h5 o5 e5 b5
    refine ⟨(by first | exact trivial | exact Ext.refl _ | assumption | exact Ext.trans (by assumption) (by assumption)), ?_⟩
    have hb5 := hb4.ext e5
    refine runG ?_
    (apply (s_appendF (bytes := 8)); exact rfl; exact rfl; exact rfl; exact rfl; exact rfl; exact rfl; exact rfl; exact o5; exact hb5; exact fun _ => rfl; (first | exact Nat.le_refl _ | exact ext_size (by assumption) | omega); (simp only [maxLen, List.length_nil, List.length_append]; omega); (simp only [List.length_nil, List.length_append]; omega))
    intro vy h6 o6 k6 b6
    refine ⟨(by first | exact trivial | exact Ext.refl _ | assumption | exact Ext.trans (by assumption) (by assumption)), ?_⟩
    have e6 := o5.old k6 e5 (Nat.le_refl _)
    rw [List.nil_append] at o6
    have sx := o4.sl.ext e6
    have sy := o6.sl
    have E6 := (e1.trans e2).trans (e4.trans e6)
    have hM := dg_len_mul hx hy
    have hQ := dg_len_le (Y := vl 18446744073709551616 xs / vl 18446744073709551616 ys) hx rfl (Nat.div_le_self _ _)
    have hR : (dg 18446744073709551616 (if vl 18446744073709551616 ys = 0 then 0 else vl 18446744073709551616 xs % vl 18446744073709551616 ys)).length ≤ xs.length := by
      apply dg_len_le hx rfl
      split
      · omega
      · exact Nat.mod_le _ _
    have hO : (dg 18446744073709551616 w).length ≤ 1 := dg_len (by omega) (by omega)
    refine runG ?_
    apply (s_call Try_ent17 rfl rfl rfl)
    refine (ndiv_spec vx vy xs ys h6 sx sy hx hy (by omega) (by omega)).mono ?_
    rintro _ h7 ⟨vq, vr, rfl, e7, oq, or⟩
    refine ⟨(by first | exact trivial | exact Ext.refl _ | assumption | exact Ext.trans (by assumption) (by assumption)), ?_⟩
    have ha7 := ha.ext (E6.trans e7)
    have hb7 := hb.ext (E6.trans e7)
    refine runG ?_
    apply (s_call Try_ent18 rfl rfl rfl)
    refine (rdiv_spec va vb xs ys h7 ha7 hb7 hx hy (by omega) (by omega)).mono ?_
    rintro _ h8 ⟨wq, wr, rfl, e8, pq, pr⟩
    refine ⟨(by first | exact trivial | exact Ext.refl _ | assumption | exact Ext.trans (by assumption) (by assumption)), ?_⟩
    have sx8 := sx.ext (e7.trans e8)
    have sy8 := sy.ext (e7.trans e8)
    refine runG ?_
    apply (s_call Try_ent19 rfl rfl rfl)
    refine (nmul_spec vx vy xs ys h8 sx8 sy8 hx hy (by omega) (by omega)).mono ?_
    rintro vs h9 ⟨e9, os⟩
    refine ⟨(by first | exact trivial | exact Ext.refl _ | assumption | exact Ext.trans (by assumption) (by assumption)), ?_⟩
    have E9 := (E6.trans e7).trans (e8.trans e9)
    have ha9 := ha.ext E9
    have hb9 := hb.ext E9
    refine runG ?_
    apply (s_call Try_ent20 rfl rfl rfl)
    refine (rmul_spec va vb xs ys h9 ha9 hb9 hx hy (by omega) (by omega)).mono ?_
    rintro vt h10 ⟨e10, ot⟩
    refine ⟨(by first | exact trivial | exact Ext.refl _ | assumption | exact Ext.trans (by assumption) (by assumption)), ?_⟩
    have os10 := os.sl.ext e10
    refine runG ?_
    apply (s_call Try_ent12 rfl rfl rfl)
    refine (same_spec vs vt _ _ h10 os10 ot.sl (by omega)).mono ?_
    rintro _ _ ⟨rfl, rfl⟩
    refine ⟨(by first | exact trivial | exact Ext.refl _ | assumption | exact Ext.trans (by assumption) (by assumption)), ?_⟩
    rw [decide_eq_true rfl]
    have oq10 := oq.sl.ext ((e8.trans e9).trans e10)
    have or10 := or.sl.ext ((e8.trans e9).trans e10)
    have pq10 := pq.sl.ext (e9.trans e10)
    have pr10 := pr.sl.ext (e9.trans e10)
    refine runG ?_
    rw [decide_eq_true rfl]
    refine runG ?_
    apply (s_call Try_ent12 rfl rfl rfl)
    refine (same_spec vq wq _ _ h10 oq10 pq10 (by omega)).mono ?_
    rintro _ _ ⟨rfl, rfl⟩
    refine ⟨(by first | exact trivial | exact Ext.refl _ | assumption | exact Ext.trans (by assumption) (by assumption)), ?_⟩
    rw [decide_eq_true rfl]
    refine runG ?_
    apply (s_call Try_ent12 rfl rfl rfl)
    refine (same_spec vr wr _ _ h10 or10 pr10 (by omega)).mono ?_
    rintro _ _ ⟨rfl, rfl⟩
    refine ⟨(by first | exact trivial | exact Ext.refl _ | assumption | exact Ext.trans (by assumption) (by assumption)), ?_⟩
    rw [decide_eq_true rfl]
    have sx10 := sx8.ext (e9.trans e10)
    have sy10 := sy8.ext (e9.trans e10)
    have ha10 := ha9.ext e10
    have hb10 := hb9.ext e10
    refine runG ?_
    apply (s_call Try_ent21 rfl rfl rfl)
    refine (bits_spec vx xs h10 sx10 hx (by omega)).mono ?_
    rintro _ _ ⟨rfl, rfl⟩
    refine ⟨(by first | exact trivial | exact Ext.refl _ | assumption | exact Ext.trans (by assumption) (by assumption)), ?_⟩
    refine runG ?_
    apply (s_call Try_ent22 rfl rfl rfl)
    refine (rbits_spec va xs h10 ha10 hx (by omega)).mono ?_
    rintro _ h11 ⟨rfl, e11⟩
    refine ⟨(by first | exact trivial | exact Ext.refl _ | assumption | exact Ext.trans (by assumption) (by assumption)), ?_⟩
    have sx11 := sx10.ext e11
    have sy11 := sy10.ext e11
    have ha11 := ha10.ext e11
    have hb11 := hb10.ext e11
    refine runG ?_
    rw [decide_eq_true rfl]
    refine runG ?_
    apply (s_call Try_ent23 rfl rfl rfl)
    refine (mod_spec vx xs w h11 sx11 hx (by omega) hw).mono ?_
    rintro _ h12 ⟨rfl, e12⟩
    refine ⟨(by first | exact trivial | exact Ext.refl _ | assumption | exact Ext.trans (by assumption) (by assumption)), ?_⟩
    have ha12 := ha11.ext e12
    refine runG ?_
    apply (s_call Try_ent24 rfl rfl rfl)
    refine (rmod_spec va xs w h12 ha12 hx (by omega) hw).mono ?_
    rintro _ h13 ⟨rfl, e13⟩
    refine ⟨(by first | exact trivial | exact Ext.refl _ | assumption | exact Ext.trans (by assumption) (by assumption)), ?_⟩
    refine runG ?_
    rw [decide_eq_true rfl]
    refine runG ?_
    apply (s_call Try_ent25 rfl rfl rfl)
    refine (of_spec w h13 hw).mono ?_
    rintro vo h14 ⟨e14, oo⟩
    refine ⟨(by first | exact trivial | exact Ext.refl _ | assumption | exact Ext.trans (by assumption) (by assumption)), ?_⟩
    refine runG ?_
    apply (s_call Try_ent26 rfl rfl rfl)
    refine (rof_spec w h14 hw).mono ?_
    rintro vp h15 ⟨e15, op⟩
    refine ⟨(by first | exact trivial | exact Ext.refl _ | assumption | exact Ext.trans (by assumption) (by assumption)), ?_⟩
    have oo15 := oo.sl.ext e15
    refine runG ?_
    apply (s_call Try_ent12 rfl rfl rfl)
    refine (same_spec vo vp _ _ h15 oo15 op.sl (by omega)).mono ?_
    rintro _ _ ⟨rfl, rfl⟩
    refine ⟨(by first | exact trivial | exact Ext.refl _ | assumption | exact Ext.trans (by assumption) (by assumption)), ?_⟩
    rw [decide_eq_true rfl]
    have F15 := (e12.trans e13).trans (e14.trans e15)
    have sx15 := sx11.ext F15
    have sy15 := sy11.ext F15
    have ha15 := ha11.ext F15
    have hb15 := hb11.ext F15
    refine runG ?_
    apply (s_call Try_ent12 rfl rfl rfl)
    refine (same_spec vx va _ _ h15 sx15 ha15 (by omega)).mono ?_
    rintro _ _ ⟨rfl, rfl⟩
    refine ⟨(by first | exact trivial | exact Ext.refl _ | assumption | exact Ext.trans (by assumption) (by assumption)), ?_⟩
    rw [decide_eq_true rfl]
    refine runG ?_
    apply (s_call Try_ent12 rfl rfl rfl)
    refine (same_spec vy vb _ _ h15 sy15 hb15 (by omega)).mono ?_
    rintro _ _ ⟨rfl, rfl⟩
    refine ⟨(by first | exact trivial | exact Ext.refl _ | assumption | exact Ext.trans (by assumption) (by assumption)), ?_⟩
    rw [decide_eq_true rfl]
    refine runG ?_
    exact fin1 rfl rfl ⟨rfl, ((E9.trans e10).trans e11).trans F15⟩

theorem Try_ent5 : Ent Try.prog 5 := ent_of Try.func5 (by kernel_rfl) rfl
set_option maxHeartbeats 4000000 in
theorem natBack_law (va vb : Value) (xs ys : List Nat) (h : Hp) (ha : SlF h U va xs) (hb : SlF h U vb ys) (hx : Al 18446744073709551616 xs) (hy : Al 18446744073709551616 ys) :
    CallsH Try.prog 5 [va, vb] h fun v' h' => v' = .bool true ∧ Ext h h' := by
  (apply enter Try.func5 rfl Try.ntmps5 rfl)
  refine runG ?_
  apply (s_call Try_ent8 rfl rfl rfl)
  refine (fixed_spec h).mono ?_
  rintro _ h1 ⟨rfl, e1⟩
  refine ⟨(by first | exact trivial | exact Ext.refl _ | assumption | exact Ext.trans (by assumption) (by assumption)), ?_⟩
  have ha1 := ha.ext e1
  have hb1 := hb.ext e1
  refine runG ?_
  (apply (s_lit (f := Prod.fst) (vs := [va, vb]) [(va, xs), (vb, ys)]); exact rfl; exact rfl; exact rfl; exact rfl; exact rfl; exact rfl; exact OneAll.all (.cons ha1.one (.cons hb1.one .nil)); exact rfl; exact rfl; exact rfl; omega)
  intro vf h2 of e2 bf
  refine ⟨(by first | exact trivial | exact Ext.refl _ | assumption | exact Ext.trans (by assumption) (by assumption)), ?_⟩
  have ha2 := ha1.ext e2
  have hb2 := hb1.ext e2
  have hfew : ∀ p ∈ [(va, xs), (vb, ys)], SlF h2 U p.1 p.2 := by
    intro p hp
    simp only [List.mem_cons, List.not_mem_nil, or_false] at hp
    rcases hp with rfl | rfl
    · exact ha2
    · exact hb2
  refine runG ?_
  apply (s_call Try_ent9 rfl rfl rfl)
  refine (few_spec vf _ h2 of.sl hfew (by simp)).mono ?_
  rintro _ _ ⟨rfl, rfl⟩
  refine ⟨(by first | exact trivial | exact Ext.refl _ | assumption | exact Ext.trans (by assumption) (by assumption)), ?_⟩
  rw [few2]
  refine runG ?_
  (apply w_cond; exact rfl; exact rfl) <;> intro hf
  · refine runG ?_
    exact fin1 rfl rfl ⟨rfl, e1.trans e2⟩
  · simp only [Bool.not_eq_eq_eq_not, Bool.not_false, Bool.and_eq_true, decide_eq_true_eq] at hf
    obtain ⟨hf1, hf2⟩ := hf
    have E2 := e1.trans e2
    refine runG ?_
    apply (s_call Try_ent17 rfl rfl rfl)
    refine (ndiv_spec va vb xs ys h2 ha2 hb2 hx hy (by omega) (by omega)).mono ?_
    rintro _ h3 ⟨vq, vr, rfl, e3, oq, or⟩
    refine ⟨(by first | exact trivial | exact Ext.refl _ | assumption | exact Ext.trans (by assumption) (by assumption)), ?_⟩
    have ha3 := ha2.ext e3
    have hb3 := hb2.ext e3
    refine runG ?_
    apply (s_call Try_ent21 rfl rfl rfl)
    refine (bits_spec vb ys h3 hb3 hy (by omega)).mono ?_
    rintro _ _ ⟨rfl, rfl⟩
    refine ⟨(by first | exact trivial | exact Ext.refl _ | assumption | exact Ext.trans (by assumption) (by assumption)), ?_⟩
    have hnb : nb (vl 18446744073709551616 ys) = 0 ↔ vl 18446744073709551616 ys = 0 := by
      unfold nb; by_cases h0 : vl 18446744073709551616 ys = 0 <;> simp [h0]
    refine runG ?_
    (apply w_condD; exact rfl; exact rfl) <;> intro h0
    · rw [hnb] at h0
      rw [if_pos h0] at or
      rw [h0, Nat.div_zero] at oq
      rw [if_pos h0]
      have hd0 : (dg 18446744073709551616 0).length = 0 := rfl
      refine runG ?_
      exact fin1 rfl rfl ⟨rfl, E2.trans e3⟩
    · rw [hnb] at h0
      rw [if_neg h0] at or
      rw [if_neg h0]
      have hlt := Nat.mod_lt (vl 18446744073709551616 xs) (Nat.pos_of_ne_zero h0)
      have hdm := Nat.div_add_mod (vl 18446744073709551616 xs) (vl 18446744073709551616 ys)
      have hQ := dg_len_le (Y := vl 18446744073709551616 xs / vl 18446744073709551616 ys) hx rfl (Nat.div_le_self _ _)
      have hR := dg_len_le (Y := vl 18446744073709551616 xs % vl 18446744073709551616 ys) hx rfl (Nat.mod_le _ _)
      have hS := dg_len_add hx hy rfl rfl hf1 hf2
      refine runG ?_
      apply (s_call Try_ent13 rfl rfl rfl)
      refine (nadd_spec va vb xs ys h3 ha3 hb3 hx hy (by omega) (by omega)).mono ?_
      rintro vs h4 ⟨e4, os⟩
      refine ⟨(by first | exact trivial | exact Ext.refl _ | assumption | exact Ext.trans (by assumption) (by assumption)), ?_⟩
      have hb4 := hb3.ext e4
      refine runG ?_
      apply (s_call Try_ent10 rfl rfl rfl)
      refine (nsub_spec2 vs vb _ ys h4 os.sl hb4 (al_dg (by omega) _) hy (by omega) (by omega)).mono ?_
      rintro _ h5 ⟨vd, rfl, e5, od⟩
      refine ⟨(by first | exact trivial | exact Ext.refl _ | assumption | exact Ext.trans (by assumption) (by assumption)), ?_⟩
      rw [vl_dg (by omega)] at od
      rw [vl_dg (by omega)]
      unfold subE
      unfold subD at od
      rw [if_neg (by omega), Nat.add_sub_cancel] at od
      rw [if_neg (by omega)]
      have or5 := or.sl.ext (e4.trans e5)
      have oq5 := oq.sl.ext (e4.trans e5)
      have hb5 := hb4.ext e5
      have ha5 := ha3.ext (e4.trans e5)
      refine runG ?_
      apply (s_call Try_ent15 rfl rfl rfl)
      refine (cmp_spec vr vb _ ys h5 or5 hb5 (al_dg (by omega) _) hy (by omega) (by omega)).mono ?_
      rintro _ _ ⟨rfl, rfl⟩
      refine ⟨(by first | exact trivial | exact Ext.refl _ | assumption | exact Ext.trans (by assumption) (by assumption)), ?_⟩
      rw [vl_dg (by omega), cmpI_lt hlt]
      refine runG ?_
      apply (s_call Try_ent19 rfl rfl rfl)
      refine (nmul_spec vq vb _ ys h5 oq5 hb5 (al_dg (by omega) _) hy (by omega) (by omega)).mono ?_
      rintro vm h6 ⟨e6, om⟩
      refine ⟨(by first | exact trivial | exact Ext.refl _ | assumption | exact Ext.trans (by assumption) (by assumption)), ?_⟩
      rw [vl_dg (by omega)] at om
      have or6 := or5.ext e6
      have hM : (dg 18446744073709551616 (vl 18446744073709551616 xs / vl 18446744073709551616 ys * vl 18446744073709551616 ys)).length ≤ xs.length := dg_len_le hx rfl (Nat.div_mul_le_self _ _)
      refine runG ?_
      apply (s_call Try_ent13 rfl rfl rfl)
      refine (nadd_spec vm vr _ _ h6 om.sl or6 (al_dg (by omega) _) (al_dg (by omega) _) (by omega) (by omega)).mono ?_
      rintro vn h7 ⟨e7, on⟩
      refine ⟨(by first | exact trivial | exact Ext.refl _ | assumption | exact Ext.trans (by assumption) (by assumption)), ?_⟩
      rw [vl_dg (by omega), vl_dg (by omega), Nat.mul_comm, hdm] at on
      have ha7 := ha5.ext (e6.trans e7)
      have hA := dg_len_le (Y := vl 18446744073709551616 xs) hx rfl (Nat.le_refl _)
      refine runG ?_
      apply (s_call Try_ent15 rfl rfl rfl)
      refine (cmp_spec vn va _ xs h7 on.sl ha7 (al_dg (by omega) _) hx (by omega) (by omega)).mono ?_
      rintro _ _ ⟨rfl, rfl⟩
      refine ⟨(by first | exact trivial | exact Ext.refl _ | assumption | exact Ext.trans (by assumption) (by assumption)), ?_⟩
      rw [vl_dg (by omega), cmpI_eq rfl]
      have od7 := od.sl.ext (e6.trans e7)
      refine runG ?_
      apply (s_call Try_ent15 rfl rfl rfl)
      refine (cmp_spec vd va _ xs h7 od7 ha7 (al_dg (by omega) _) hx (by omega) (by omega)).mono ?_
      rintro _ _ ⟨rfl, rfl⟩
      refine ⟨(by first | exact trivial | exact Ext.refl _ | assumption | exact Ext.trans (by assumption) (by assumption)), ?_⟩
      rw [vl_dg (by omega), cmpI_eq rfl]
      refine runG ?_
      exact fin1 rfl rfl ⟨rfl, ((E2.trans e3).trans (e4.trans e5)).trans (e6.trans e7)⟩

end Go.Proofs.Ytddhnmfndjcleaa

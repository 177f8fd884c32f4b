/- The statements of layer 2 on naturals: whatever the input, they return true, and change nothing that was there. No condition. -/
import Derived.Test.YtddhnmfndjcleaaNatS
namespace Go.Proofs.Ytddhnmfndjcleaa
set_option linter.unusedVariables false
open Go Go.Den Go.RowKit Go.Dig

theorem few2 {va vb : Value} {xs ys : List Nat} : ([(va, xs), (vb, ys)].all fun p => decide (p.2.length ≤ 30)) = (decide (xs.length ≤ 30) && decide (ys.length ≤ 30)) := by simp
theorem few3 {va vb vc : Value} {xs ys zs : List Nat} : ([(va, xs), (vb, ys), (vc, zs)].all fun p => decide (p.2.length ≤ 30)) = (decide (xs.length ≤ 30) && (decide (ys.length ≤ 30) && decide (zs.length ≤ 30))) := by simp

def subE (X Y : Nat) : Nat := if X < Y then 5 else 0
def subD (X Y : Nat) : List Nat := if X < Y then [] else dg 18446744073709551616 (X - Y)
theorem subD_len (X Y : Nat) (xs : List Nat) (hx : Al 18446744073709551616 xs) (hX : vl 18446744073709551616 xs = X) : (subD X Y).length ≤ xs.length := by
  unfold subD; split
  · simp
  · exact dg_len_le hx hX (Nat.sub_le _ _)
theorem nsub_spec2 (va vb : Value) (xs ys : List Nat) (h : Hp) (ha : SlF h U va xs) (hb : SlF h U vb ys) (hx : Al 18446744073709551616 xs) (hy : Al 18446744073709551616 ys) (hl : xs.length < 1099511627776) (hl2 : ys.length < 1099511627776) :
    CallsH Try.prog 10 [va, vb] h fun v' h' => ∃ v1, v' = .tuple #[v1, N (subE (vl 18446744073709551616 xs) (vl 18446744073709551616 ys))] ∧ Ext h h' ∧ OwnF h' h.size 32 U v1 (subD (vl 18446744073709551616 xs) (vl 18446744073709551616 ys)) :=
  (nsub_spec va vb xs ys h ha hb hx hy hl hl2).mono fun v' h' ⟨e, g1, g2⟩ => by
    unfold subE subD
    by_cases hc : vl 18446744073709551616 xs < vl 18446744073709551616 ys
    · rw [if_pos hc, if_pos hc]; exact ⟨_, g1 hc, e, OwnF.nil _ _ _ _⟩
    · rw [if_neg hc, if_neg hc]; obtain ⟨v1, rfl, o⟩ := g2 (by omega); exact ⟨v1, rfl, e, o⟩
theorem rsub_spec2 (va vb : Value) (xs ys : List Nat) (h : Hp) (ha : SlF h U va xs) (hb : SlF h U vb ys) (hx : Al 18446744073709551616 xs) (hy : Al 18446744073709551616 ys) (hl : xs.length < 68719476736) (hl2 : ys.length < 68719476736) :
    CallsH Try.prog 11 [va, vb] h fun v' h' => ∃ v1, v' = .tuple #[v1, N (subE (vl 18446744073709551616 xs) (vl 18446744073709551616 ys))] ∧ Ext h h' ∧ OwnF h' h.size 32 U v1 (subD (vl 18446744073709551616 xs) (vl 18446744073709551616 ys)) :=
  (rsub_spec va vb xs ys h ha hb hx hy hl hl2).mono fun v' h' ⟨e, g1, g2⟩ => by
    unfold subE subD
    by_cases hc : vl 18446744073709551616 xs < vl 18446744073709551616 ys
    · rw [if_pos hc, if_pos hc]; exact ⟨_, g1 hc, e, OwnF.nil _ _ _ _⟩
    · rw [if_neg hc, if_neg hc]; obtain ⟨v1, rfl, o⟩ := g2 (by omega); exact ⟨v1, rfl, e, o⟩

theorem Try_ent3 : Ent Try.prog 3 := ent_of Try.func3 (by kernel_rfl) rfl
set_option maxHeartbeats 4000000 in
theorem natSums_law (va vb : Value) (xs ys : List Nat) (h : Hp) (ha : SlF h U va xs) (hb : SlF h U vb ys) (hx : Al 18446744073709551616 xs) (hy : Al 18446744073709551616 ys) :
    CallsH Try.prog 3 [va, vb] h fun v' h' => v' = .bool true ∧ Ext h h' := by
  (apply enter Try.func3 rfl Try.ntmps3 rfl)
  refine runG ?_
  apply (s_call Try_ent8 rfl rfl rfl)
  refine (fixed_spec h).mono ?_
  rintro _ h1 ⟨rfl, e1⟩
  refine ⟨(by first | exact trivial | exact Ext.refl _ | assumption | exact Ext.trans (by assumption) (by assumption)), ?_⟩
  have ha1 := ha.ext e1
  have hb1 := hb.ext e1
  refine runG ?_
  (apply (s_lit (f := Prod.fst) (vs := [va, vb]) [(va, xs), (vb, ys)]); exact rfl; exact rfl; exact rfl; exact rfl; exact rfl; exact rfl; exact OneAll.all (.cons ha1.one (.cons hb1.one .nil)); exact rfl; exact rfl; exact rfl; omega)
  intro vf h2 of e2 bf
  refine ⟨(by first | exact trivial | exact Ext.refl _ | assumption | exact Ext.trans (by assumption) (by assumption)), ?_⟩
  have ha2 := ha1.ext e2
  have hb2 := hb1.ext e2
  have hfew : ∀ p ∈ [(va, xs), (vb, ys)], SlF h2 U p.1 p.2 := by
    intro p hp
    simp only [List.mem_cons, List.not_mem_nil, or_false] at hp
    rcases hp with rfl | rfl
    · exact ha2
    · exact hb2
  refine runG ?_
  apply (s_call Try_ent9 rfl rfl rfl)
  refine (few_spec vf _ h2 of.sl hfew (by simp)).mono ?_
  rintro _ _ ⟨rfl, rfl⟩
  refine ⟨(by first | exact trivial | exact Ext.refl _ | assumption | exact Ext.trans (by assumption) (by assumption)), ?_⟩
  rw [few2]
  refine runG ?_
  (apply w_cond; exact rfl; exact rfl) <;> intro hf
  · refine runG ?_
    exact fin1 rfl rfl ⟨rfl, e1.trans e2⟩
  · simp only [Bool.not_eq_eq_eq_not, Bool.not_false, Bool.and_eq_true, decide_eq_true_eq] at hf
    obtain ⟨hf1, hf2⟩ := hf
    refine runG ?_
    (apply (s_litF (f := U) [] (fun _ => rfl)); exact rfl; exact rfl; exact rfl; exact rfl; exact rfl; exact rfl; exact rfl; exact rfl; omega)
    intro vn h3 o3 e3 b3
    refine ⟨(by first | exact trivial | exact Ext.refl _ | assumption | exact Ext.trans (by assumption) (by assumption)), ?_⟩
    have ha3 := ha2.ext e3
    refine runG ?_
    (apply (s_appendF (bytes := 8)); exact rfl; exact rfl; exact rfl; exact rfl; exact rfl; exact rfl; exact rfl; exact o3; exact ha3; exact fun _ => rfl; (first | exact Nat.le_refl _ | exact ext_size (by assumption) | omega); (simp only [maxLen, List.length_nil, List.length_append]; omega); (simp only [List.length_nil, List.length_append]; omega))
    intro vx h4 o4 k4 b4
    refine ⟨(by first | exact trivial | exact Ext.refl _ | assumption | exact Ext.trans (by assumption) (by assumption)), ?_⟩
    have e4 := o3.old k4 e3 (Nat.le_refl _)
    rw [List.nil_append] at o4
    have hb4 := hb2.ext e4
    refine runG ?_
    (apply (s_litF (f := U) [] (fun _ => rfl)); exact rfl; exact rfl; exact rfl; exact rfl; exact rfl; exact rfl; exact rfl; exact rfl; omega)
    intro vm h5 o5 e5 b5
    refine ⟨(by first | exact trivial | exact Ext.refl _ | assumption | exact Ext.trans (by assumption) (by assumption)), ?_⟩
    have hb5 := hb4.ext e5
    refine runG ?_
    (apply (s_appendF (bytes := 8)); exact rfl; exact rfl; exact rfl; exact rfl; exact rfl; exact rfl; exact rfl; exact o5; exact hb5; exact fun _ => rfl; (first | exact Nat.le_refl _ | exact ext_size (by assumption) | omega); (simp only [maxLen, List.length_nil, List.length_append]; omega); (simp only [List.length_nil, List.length_append]; omega))
    intro vy h6 o6 k6 b6
    refine ⟨(by first | exact trivial | exact Ext.refl _ | assumption | exact Ext.trans (by assumption) (by assumption)), ?_⟩
    have e6 := o5.old k6 e5 (Nat.le_refl _)
    rw [List.nil_append] at o6
    have sx := o4.sl.ext e6
    have sy := o6.sl
    have E6 := (e1.trans e2).trans (e4.trans e6)
    have hD := subD_len (vl 18446744073709551616 xs) (vl 18446744073709551616 ys) xs hx rfl
    have hS := dg_len_add hx hy rfl rfl hf1 hf2
    refine runG ?_
    apply (s_call Try_ent10 rfl rfl rfl)
    refine (nsub_spec2 vx vy xs ys h6 sx sy hx hy (by omega) (by omega)).mono ?_
    rintro _ h7 ⟨vd, rfl, e7, od⟩
    refine ⟨(by first | exact trivial | exact Ext.refl _ | assumption | exact Ext.trans (by assumption) (by assumption)), ?_⟩
    have ha7 := ha.ext (E6.trans e7)
    have hb7 := hb.ext (E6.trans e7)
    refine runG ?_
    apply (s_call Try_ent11 rfl rfl rfl)
    refine (rsub_spec2 va vb xs ys h7 ha7 hb7 hx hy (by omega) (by omega)).mono ?_
    rintro _ h8 ⟨vw, rfl, e8, ow⟩
    refine ⟨(by first | exact trivial | exact Ext.refl _ | assumption | exact Ext.trans (by assumption) (by assumption)), ?_⟩
    have sx8 := sx.ext (e7.trans e8)
    have sy8 := sy.ext (e7.trans e8)
    refine runG ?_
    apply (s_call Try_ent13 rfl rfl rfl)
    refine (nadd_spec vx vy xs ys h8 sx8 sy8 hx hy (by omega) (by omega)).mono ?_
    rintro vs h9 ⟨e9, os⟩
    refine ⟨(by first | exact trivial | exact Ext.refl _ | assumption | exact Ext.trans (by assumption) (by assumption)), ?_⟩
    have E9 := (E6.trans e7).trans (e8.trans e9)
    have ha9 := ha.ext E9
    have hb9 := hb.ext E9
    refine runG ?_
    apply (s_call Try_ent14 rfl rfl rfl)
    refine (radd_spec va vb xs ys h9 ha9 hb9 hx hy (by omega) (by omega)).mono ?_
    rintro vt h10 ⟨e10, ot⟩
    refine ⟨(by first | exact trivial | exact Ext.refl _ | assumption | exact Ext.trans (by assumption) (by assumption)), ?_⟩
    have os10 := os.sl.ext e10
    refine runG ?_
    apply (s_call Try_ent12 rfl rfl rfl)
    refine (same_spec vs vt _ _ h10 os10 ot.sl (by omega)).mono ?_
    rintro _ _ ⟨rfl, rfl⟩
    refine ⟨(by first | exact trivial | exact Ext.refl _ | assumption | exact Ext.trans (by assumption) (by assumption)), ?_⟩
    rw [decide_eq_true rfl]
    have od10 := od.sl.ext ((e8.trans e9).trans e10)
    have ow10 := ow.sl.ext (e9.trans e10)
    refine runG ?_
    rw [decide_eq_true rfl]
    refine runG ?_
    apply (s_call Try_ent12 rfl rfl rfl)
    refine (same_spec vd vw _ _ h10 od10 ow10 (by omega)).mono ?_
    rintro _ _ ⟨rfl, rfl⟩
    refine ⟨(by first | exact trivial | exact Ext.refl _ | assumption | exact Ext.trans (by assumption) (by assumption)), ?_⟩
    rw [decide_eq_true rfl]
    have sx10 := sx8.ext (e9.trans e10)
    have sy10 := sy8.ext (e9.trans e10)
    have ha10 := ha9.ext e10
    have hb10 := hb9.ext e10
    refine runG ?_
    apply (s_call Try_ent15 rfl rfl rfl)
    refine (cmp_spec vx vy xs ys h10 sx10 sy10 hx hy (by omega) (by omega)).mono ?_
    rintro _ _ ⟨rfl, rfl⟩
    refine ⟨(by first | exact trivial | exact Ext.refl _ | assumption | exact Ext.trans (by assumption) (by assumption)), ?_⟩
    refine runG ?_
    apply (s_call Try_ent16 rfl rfl rfl)
    refine (rcmp_spec va vb xs ys h10 ha10 hb10 hx hy (by omega) (by omega)).mono ?_
    rintro _ h11 ⟨rfl, e11⟩
    refine ⟨(by first | exact trivial | exact Ext.refl _ | assumption | exact Ext.trans (by assumption) (by assumption)), ?_⟩
    have sx11 := sx10.ext e11
    have sy11 := sy10.ext e11
    have ha11 := ha10.ext e11
    have hb11 := hb10.ext e11
    refine runG ?_
    rw [decide_eq_true rfl]
    refine runG ?_
    apply (s_call Try_ent12 rfl rfl rfl)
    refine (same_spec vx va _ _ h11 sx11 ha11 (by omega)).mono ?_
    rintro _ _ ⟨rfl, rfl⟩
    refine ⟨(by first | exact trivial | exact Ext.refl _ | assumption | exact Ext.trans (by assumption) (by assumption)), ?_⟩
    rw [decide_eq_true rfl]
    refine runG ?_
    apply (s_call Try_ent12 rfl rfl rfl)
    refine (same_spec vy vb _ _ h11 sy11 hb11 (by omega)).mono ?_
    rintro _ _ ⟨rfl, rfl⟩
    refine ⟨(by first | exact trivial | exact Ext.refl _ | assumption | exact Ext.trans (by assumption) (by assumption)), ?_⟩
    rw [decide_eq_true rfl]
    refine runG ?_
    exact fin1 rfl rfl ⟨rfl, (E9.trans e10).trans e11⟩
end Go.Proofs.Ytddhnmfndjcleaa

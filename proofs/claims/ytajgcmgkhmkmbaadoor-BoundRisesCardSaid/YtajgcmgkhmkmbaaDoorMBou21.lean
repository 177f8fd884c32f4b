/- Texts ParC to ParD of this work, joined: each says in its own head what it proves, and of which condition. -/
import Derived.Test.YtajgcmgkhmkmbaaDoorMBou20
/- Package param: the fixed calls, and the laws of steps and rows. Condition: the table of math/bits reads as it is laid. -/
namespace Go.Proofs.YtajgcmgkhmkmbaaDoor
set_option linter.unusedVariables false
set_option maxRecDepth 8000
open Go Go.Den Go.RowKit Go.Dig

/-- Parameters whose row may be as long as any. -/
structure ParA0 (h : Hp) (p : ParD) : Prop where mk ::
  row : SlF h U p.vq p.q
  al : Al 18446744073709551616 p.q
  t64 : p.t < 18446744073709551616
  ln : p.q.length < 9223372036854775808

theorem par97 (w : Value) : parP ⟨8, 17, w, [97, 193], 2⟩ := (by decide +kernel : parP ⟨8, 17, .bool false, [97, 193], 2⟩)
theorem par0 (w : Value) : ¬ parP ⟨0, 0, w, [], 0⟩ := (by decide +kernel : ¬ parP ⟨0, 0, .bool false, [], 0⟩)
theorem lev97 (w : Value) : levE ⟨8, 17, w, [97, 193], 2⟩ 1 = 0 := by unfold levE; rw [if_pos (par97 w)]; rfl
theorem levM97 (w : Value) : levM ⟨8, 17, w, [97, 193], 2⟩ 1 = 18721 := rfl

theorem Tryd_ent14 : Ent Tryd.prog 14 := ent_of Tryd.func14 (by kernel_rfl) rfl
set_option maxHeartbeats 1000000 in
theorem fixed08_spec (h : Hp) (T : TB h) : CallsH Tryd.prog 14 [] h fun v' h' => v' = .bool true ∧ Ext h h' := by
  have d1 : dg 18446744073709551616 18721 = [18721] := by decide
  have d2 : dg 18446744073709551616 (18721 / 17) = [1101] := by decide
  have d3 : 18721 % 17 = 4 := by decide
  (apply enter Tryd.func14 rfl Tryd.ntmps14 rfl)
  refine runJ ?_
  (apply (s_litF (f := U) [97, 193] (fun _ => rfl)); exact rfl; exact rfl; exact rfl; exact rfl; exact rfl; exact rfl; exact rfl; exact rfl; omega)
  intro w1 h1 o1 e1 b1
  refine ⟨(by first | exact trivial | exact Ext.refl _ | assumption | exact Ext.trans (by assumption) (by assumption)), ?_⟩
  refine runJ ?_
  (apply (s_build ([I 8, U 17, w1, I 2])); exact rfl; exact rfl; exact rfl; (repeat (first | exact CellsAll.nil | (apply CellsAll.cons; (first | exact oneL (by assumption) | exact oneL (SlF.one (by assumption)) | exact oneL (SlF.one (OwnF.sl (by assumption))) | exact oneL (Var.one (by assumption)) | exact rfl)))); exact rfl; exact rfl)
  refine runJ ?_
  (apply s_alloc; exact rfl; exact rfl; exact rfl)
  intro p2 h2 x2 e2 b2
  (try dsimp only [Value.cells, List.toList_toArray] at x2)
  refine ⟨(by first | exact trivial | exact Ext.refl _ | assumption | exact Ext.trans (by assumption) (by assumption)), ?_⟩
  have s1 := o1.sl
  refine runJ ?_
  (apply s_storeV; exact rfl; exact rfl; exact rfl; (repeat (first | exact OneAll.nil | (apply OneAll.cons; (first | exact rfl | exact SlF.one (by assumption) | exact SlF.one (OwnF.sl (by assumption)) | exact Var.one (by assumption))))); exact rfl; exact rfl; exact x2; exact rfl)
  intro h3 x3 k3
  (try dsimp only [Value.cells, List.toList_toArray] at x3)
  refine ⟨(by first | exact trivial | exact Ext.refl _ | assumption | exact Ext.only (by assumption) _ | exact Only.trans (Ext.only (by assumption) _) (by assumption)), ?_⟩
  have e3 : Ext h1 h3 := k3.oldV e2 b2 (Nat.le_refl _)
  have E3 := e1.trans e3
  have D : ParAt h3 ⟨8, 17, w1, [97, 193], 2⟩ := ⟨o1.sl.ext e3, by intro x hx; simp at hx; omega, (by decide : 17 < 18446744073709551616), (by decide : 2 ≤ 4611686018427387904)⟩
  have F1 := fun h T D => modulus_spec ⟨8, 17, w1, [97, 193], 2⟩ 1 h T D (by decide) (by decide)
  have F2 := fun h T D => step_spec ⟨8, 17, w1, [97, 193], 2⟩ 1 h T D (by decide) (by decide)
  have F3 := fun h T D => check_spec ⟨8, 17, w1, [97, 193], 2⟩ h T D
  have F4 := fun h T D => check_spec ⟨0, 0, .slice none 0 0, [], 0⟩ h T D
  simp only [lev97, levM97, if_true, d1, d2, d3, ParD.cells] at F1 F2
  simp only [par97, if_true, ParD.cells] at F3
  simp only [par0, if_false, ParD.cells] at F4
  refine runJ ?_
  apply (s_call Tryd_ent15 rfl rfl rfl)
  refine (F1 h3 (T.ext E3) D).mono ?_
  rintro _ h4 ⟨e4, q4, rfl, o4⟩
  refine ⟨(by first | exact trivial | exact trivial), ?_⟩
  have x4 := x3.ext e4
  have E4 := E3.trans e4
  refine runJ ?_
  apply (s_call Tryd_ent16 rfl rfl rfl)
  refine (F2 h4 (T.ext E4) (D.ext e4)).mono ?_
  rintro _ h5 ⟨e5, q5, rfl, o5⟩
  refine ⟨(by first | exact trivial | exact trivial), ?_⟩
  have x5 := x4.ext e5
  have E5 := E4.trans e5
  refine runJ ?_
  apply (s_call Tryd_ent21 rfl rfl rfl)
  refine (F3 h5 (T.ext E5) ((D.ext e4).ext e5)).mono ?_
  rintro _ h6 ⟨rfl, e6⟩
  refine ⟨(by first | exact trivial | exact trivial), ?_⟩
  have E6 := E5.trans e6
  refine runJ ?_
  (apply (s_build ([I 0, U 0, .slice none 0 0, I 0])); exact rfl; exact rfl; exact rfl; (repeat (first | exact CellsAll.nil | (apply CellsAll.cons; (first | exact oneL (by assumption) | exact oneL (SlF.one (by assumption)) | exact oneL (SlF.one (OwnF.sl (by assumption))) | exact oneL (Var.one (by assumption)) | exact rfl)))); exact rfl; exact rfl)
  refine runJ ?_
  apply (s_call Tryd_ent21 rfl rfl rfl)
  refine (F4 h6 (T.ext E6) ⟨SlF.nil _ _, by intro x hx; simp at hx, by decide, by decide⟩).mono ?_
  rintro _ h7 ⟨rfl, e7⟩
  refine ⟨(by first | exact trivial | exact trivial), ?_⟩
  have E7 := E6.trans e7
  refine runJ ?_
  (apply (s_litF (f := U) [18721] (fun _ => rfl)); exact rfl; exact rfl; exact rfl; exact rfl; exact rfl; exact rfl; exact rfl; exact rfl; omega)
  intro w8 h8 o8 e8 b8
  refine ⟨(by first | exact trivial | exact Ext.refl _ | assumption | exact Ext.trans (by assumption) (by assumption)), ?_⟩
  refine runJ ?_
  apply (s_call Tryd_ent17 rfl rfl rfl)
  refine (same_spec q4 w8 [18721] [18721] h8 ((((o4.sl.ext e5).ext e6).ext e7).ext e8) o8.sl (by decide)).mono ?_
  rintro _ _ ⟨rfl, rfl⟩
  refine ⟨(by first | exact trivial | exact Ext.refl _ | assumption | exact Ext.trans (by assumption) (by assumption)), ?_⟩
  refine runJ ?_
  (apply (s_litF (f := U) [1101] (fun _ => rfl)); exact rfl; exact rfl; exact rfl; exact rfl; exact rfl; exact rfl; exact rfl; exact rfl; omega)
  intro w9 h9 o9 e9 b9
  refine ⟨(by first | exact trivial | exact Ext.refl _ | assumption | exact Ext.trans (by assumption) (by assumption)), ?_⟩
  refine runJ ?_
  apply (s_call Tryd_ent17 rfl rfl rfl)
  refine (same_spec q5 w9 [1101] [1101] h9 ((((o5.sl.ext e6).ext e7).ext e8).ext e9) o9.sl (by decide)).mono ?_
  rintro _ _ ⟨rfl, rfl⟩
  refine ⟨(by first | exact trivial | exact Ext.refl _ | assumption | exact Ext.trans (by assumption) (by assumption)), ?_⟩
  refine runJ ?_
  apply (s_call Tryd_ent24 rfl rfl rfl)
  refine (row_spec 8 h9).mono ?_
  rintro _ _ ⟨rfl, rfl⟩
  refine ⟨(by first | exact trivial | exact trivial), ?_⟩
  refine runJ ?_
  exact fin1 rfl rfl ⟨rfl, (E7.trans e8).trans e9⟩

theorem levE_par {p : ParD} {l : Int} (h : levE p l = 0) : parP p ∧ 0 ≤ l ∧ l < p.q.length := by
  unfold levE at h
  by_cases hp : parP p
  · rw [if_pos hp] at h
    by_cases hl : l < 0 ∨ (p.q.length : Int) ≤ l
    · rw [if_pos hl] at h; omega
    · exact ⟨hp, by omega, by omega⟩
  · rw [if_neg hp] at h; omega
theorem par_t {p : ParD} (hp : parP p) : 0 < p.t := by
  have := hp.2.1.2.1
  by_cases e : p.t = 0
  · rw [e, Nat.zero_mod] at this; omega
  · omega
theorem levM_len {p : ParD} {l : Int} (hp : parP p) (A : Al 18446744073709551616 p.q) : (dg 18446744073709551616 (levM p l)).length ≤ 9 := by
  have h1 := dg_len (b := 18446744073709551616) (n := levM p l) (k := (p.q.take (l.toNat + 1)).length + 1) (by decide) (prodL_lt (al_take A _))
  have h2 := hp.2.2.1.2.2.2
  rw [List.length_take] at h1
  omega

theorem Tryd_ent4 : Ent Tryd.prog 4 := ent_of Tryd.func4 (by kernel_rfl) rfl
set_option maxHeartbeats 1000000 in
theorem paramSteps_law (p : ParD) (l : Int) (h : Hp) (T : TB h) (A0 : ParA0 h p) (hlo : -9223372036854775808 ≤ l) (hhi : l < 9223372036854775808) :
    CallsH Tryd.prog 4 [.agg p.cells.toArray, I l] h fun v' h' => v' = .bool true ∧ Ext h h' := by
  have F := fun h T A => modulus_spec p l h T A hlo hhi
  have G := fun h T A => step_spec p l h T A hlo hhi
  have hln := A0.ln
  have ht := A0.t64
  have b64 : (1 : Nat) < 18446744073709551616 := by decide
  have b640 : (0 : Nat) < 18446744073709551616 := by decide
  unfold ParD.cells at F G ⊢
  (apply enter Tryd.func4 rfl Tryd.ntmps4 rfl)
  refine runJ ?_
  (apply s_box; exact rfl; exact rfl; exact rfl; exact rfl)
  intro p1 h1 x1 e1 b1
  (try dsimp only [Value.cells, List.toList_toArray] at x1)
  refine ⟨(by first | exact trivial | exact Ext.refl _ | assumption | exact Ext.trans (by assumption) (by assumption)), ?_⟩
  refine runJ ?_
  apply (s_call Tryd_ent14 rfl rfl rfl)
  refine (fixed08_spec h1 (T.ext e1)).mono ?_
  rintro _ h2 ⟨rfl, e2⟩
  refine ⟨(by first | exact trivial | exact trivial), ?_⟩
  have e12 := e1.trans e2
  have x2 := x1.ext e2
  have s2 := A0.row.ext e12
  refine runJ ?_
  (apply w_condD; exact rfl; exact rfl) <;> intro hl
  · refine runJ ?_
    exact fin1 rfl rfl ⟨rfl, e12⟩
  have A : ParAt h p := ⟨A0.row, A0.al, A0.t64, by omega⟩
  refine runJ ?_
  apply (s_call Tryd_ent15 rfl rfl rfl)
  refine (F h2 (T.ext e12) (A.ext e12)).mono ?_
  rintro _ h3 ⟨e3, q, rfl, oq⟩
  refine ⟨(by first | exact trivial | exact trivial), ?_⟩
  have x3 := x2.ext e3
  have e13 := e12.trans e3
  refine runJ ?_
  apply (s_call Tryd_ent16 rfl rfl rfl)
  refine (G h3 (T.ext e13) (A.ext e13)).mono ?_
  rintro _ h4 ⟨e4, s, rfl, os⟩
  refine ⟨(by first | exact trivial | exact trivial), ?_⟩
  have x4 := x3.ext e4
  have e14 := e13.trans e4
  have oq4 := oq.ext e4
  by_cases hE : levE p l = 0
  · rw [hE] at oq4 os ⊢
    rw [if_pos rfl] at oq4 os ⊢
    have hp := (levE_par hE).1
    have hML := levM_len (l := l) hp A.al
    have hlt := Nat.mod_lt (levM p l) (par_t hp)
    have hdt : (dg 18446744073709551616 (levM p l / p.t)).length ≤ 9 := by
      refine Nat.le_trans ?_ hML
      exact dg_len (by decide) (Nat.lt_of_le_of_lt (Nat.div_le_self _ _) (dg_lt b64 _))
    have hdm := Nat.div_add_mod (levM p l) p.t
    refine runJ ?_
    (apply s_splitG; exact rfl; exact rfl; exact rfl; exact rfl) <;> intro g
    · refine runJ ?_
      (apply (s_litF (f := U) [p.t] (fun _ => rfl)); exact rfl; exact rfl; exact rfl; exact rfl; exact rfl; exact rfl; exact rfl; exact rfl; omega)
      intro w5 h5 o5 e5 b5
      refine ⟨(by first | exact trivial | exact Ext.refl _ | assumption | exact Ext.trans (by assumption) (by assumption)), ?_⟩
      have M := rmul_spec s w5 _ [p.t] h5 (os.sl.ext e5) o5.sl (al_dg b640 _) (by intro x hx; simp at hx; omega) (by omega) (by simp)
      rw [vl_dg b64, show vl 18446744073709551616 [p.t] = p.t by simp [vl]] at M
      refine runJ ?_
      apply (s_call Tryd_ent19 rfl rfl rfl)
      refine (M).mono ?_
      rintro w6 h6 ⟨e6, o6⟩
      refine ⟨(by first | exact trivial | exact trivial), ?_⟩
      refine runJ ?_
      have RO := rof_spec (levM p l % p.t) h6 (by omega)
      apply (s_call Tryd_ent20 rfl rfl rfl)
      refine (RO).mono ?_
      rintro w7 h7 ⟨e7, o7⟩
      refine ⟨(by first | exact trivial | exact trivial), ?_⟩
      have hL6 : (dg 18446744073709551616 (levM p l / p.t * p.t)).length ≤ 9 := by
        refine Nat.le_trans ?_ hML
        exact dg_len (by decide) (Nat.lt_of_le_of_lt (Nat.div_mul_le_self _ _) (dg_lt b64 _))
      have hL7 : (dg 18446744073709551616 (levM p l % p.t)).length ≤ 1 := dg_len (by decide) (by omega)
      have D := radd_spec w6 w7 _ _ h7 (o6.sl.ext e7) o7.sl (al_dg b640 _) (al_dg b640 _) (by omega) (by omega)
      rw [vl_dg b64, vl_dg b64, show levM p l / p.t * p.t + levM p l % p.t = levM p l by rw [Nat.mul_comm]; exact hdm] at D
      refine runJ ?_
      apply (s_call Tryd_ent18 rfl rfl rfl)
      refine (D).mono ?_
      rintro w8 h8 ⟨e8, o8⟩
      refine ⟨(by first | exact trivial | exact trivial), ?_⟩
      refine runJ ?_
      apply (s_call Tryd_ent17 rfl rfl rfl)
      refine (same_spec w8 q _ _ h8 o8.sl ((((oq4.sl.ext e5).ext e6).ext e7).ext e8) (by omega)).mono ?_
      rintro _ _ ⟨rfl, rfl⟩
      refine ⟨(by first | exact trivial | exact Ext.refl _ | assumption | exact Ext.trans (by assumption) (by assumption)), ?_⟩
      refine runJ ?_
      exact fin1 rfl rfl ⟨(dec_t rfl).symm, (((e14.trans e5).trans e6).trans e7).trans e8⟩
    · exact absurd hlt g
  · refine runJ ?_
    (apply w_condT; exact rfl; exact rfl; exact hE)
    refine runJ ?_
    exact fin1 rfl rfl ⟨(dec_t rfl).symm, e14⟩

theorem levE_top {p : ParD} (hp : parP p) {m : Nat} (hm : m < p.q.length) : levE p (m : Int) = 0 := by
  unfold levE
  rw [if_pos hp, if_neg (by omega)]
theorem levM_all {p : ParD} {m : Nat} (hm : m + 1 = p.q.length) : levM p (m : Int) = prodL p.q := by
  unfold levM
  rw [Int.toNat_natCast, hm, List.take_length]
theorem levM_step {p : ParD} {m q : Nat} (hq : p.q[m + 1]? = some q) : levM p ((m + 1 : Nat) : Int) = levM p (m : Int) * q := by
  unfold levM
  rw [Int.toNat_natCast, Int.toNat_natCast, take_snoc hq, prodL_snoc]

theorem Tryd_ent5 : Ent Tryd.prog 5 := ent_of Tryd.func5 (by kernel_rfl) rfl
set_option maxHeartbeats 2000000 in
theorem paramRows_law (p : ParD) (h : Hp) (T : TB h) (A0 : ParA0 h p) :
    CallsH Tryd.prog 5 [.agg p.cells.toArray] h fun v' h' => v' = .bool true ∧ Ext h h' := by
  have hln := A0.ln
  have b64 : (1 : Nat) < 18446744073709551616 := by decide
  have b640 : (0 : Nat) < 18446744073709551616 := by decide
  have F := fun l hlo hhi h T A => modulus_spec p l h T A hlo hhi
  have C := fun h T A => check_spec p h T A
  have Tp := fun h A => top_spec p h A
  unfold ParD.cells at F C Tp ⊢
  (apply enter Tryd.func5 rfl Tryd.ntmps5 rfl)
  refine runJ ?_
  (apply s_box; exact rfl; exact rfl; exact rfl; exact rfl)
  intro p1 h1 x1 e1 b1
  (try dsimp only [Value.cells, List.toList_toArray] at x1)
  refine ⟨(by first | exact trivial | exact Ext.refl _ | assumption | exact Ext.trans (by assumption) (by assumption)), ?_⟩
  refine runJ ?_
  apply (s_call Tryd_ent14 rfl rfl rfl)
  refine (fixed08_spec h1 (T.ext e1)).mono ?_
  rintro _ h2 ⟨rfl, e2⟩
  refine ⟨(by first | exact trivial | exact trivial), ?_⟩
  have e12 := e1.trans e2
  have x2 := x1.ext e2
  have s2 := A0.row.ext e12
  refine runJ ?_
  (apply s_splitG; exact rfl; exact rfl; exact rfl; exact rfl) <;> intro hl
  · refine runJ ?_
    exact fin1 rfl rfl ⟨rfl, e12⟩
  have A : ParAt h p := ⟨A0.row, A0.al, A0.t64, by omega⟩
  refine runJ ?_
  apply (s_call Tryd_ent21 rfl rfl rfl)
  refine (C h2 (T.ext e12) (A.ext e12)).mono ?_
  rintro _ h3 ⟨rfl, e3⟩
  refine ⟨(by first | exact trivial | exact trivial), ?_⟩
  have x3 := x2.ext e3
  have e13 := e12.trans e3
  by_cases hp : parP p
  · rw [if_pos hp]
    have h0 := hp.2.2.1.2.2.1
    obtain ⟨m, hm⟩ : ∃ m, p.q.length = m + 1 := ⟨p.q.length - 1, by omega⟩
    have hT : ((p.q.length : Int) - 1) = (m : Int) := by omega
    rw [hT] at Tp
    have F1 := F m (by omega) (by omega)
    rw [levE_top hp (by omega), if_pos rfl, levM_all hm.symm] at F1
    refine runJ ?_
    apply (s_call Tryd_ent22 rfl rfl rfl)
    refine (Tp h3 (A.ext e13)).mono ?_
    rintro _ h4 ⟨rfl, e4⟩
    refine ⟨(by first | exact trivial | exact e4), ?_⟩
    have e14 := e13.trans e4
    have x4 := x3.ext e4
    refine runJ ?_
    apply (s_call Tryd_ent15 rfl rfl rfl)
    refine (F1 h4 (T.ext e14) (A.ext e14)).mono ?_
    rintro _ h5 ⟨e5, q, rfl, oq⟩
    refine ⟨(by first | exact trivial | exact (e4.trans e5)), ?_⟩
    have e15 := e14.trans e5
    have x5 := x4.ext e5
    have hML : (dg 18446744073709551616 (prodL p.q)).length ≤ 9 := by
      have := levM_len (l := (m : Int)) hp A.al
      rw [levM_all hm.symm] at this
      exact this
    have RB := rbits_spec q _ h5 oq.sl (al_dg b640 _) (by omega)
    rw [vl_dg b64] at RB
    refine runJ ?_
    apply (s_call Tryd_ent23 rfl rfl rfl)
    refine (RB).mono ?_
    rintro _ h6 ⟨rfl, e6⟩
    refine ⟨(by first | exact trivial | exact e6), ?_⟩
    have e16 := e15.trans e6
    have x6 := x5.ext e6
    refine runJ ?_
    apply (s_call Tryd_ent24 rfl rfl rfl)
    refine (row_spec p.n h6).mono ?_
    rintro _ _ ⟨rfl, rfl⟩
    refine ⟨(by first | exact trivial | exact e6), ?_⟩
    refine runJ ?_
    (apply w_condF; exact rfl; exact rfl; exact (show ¬ nb (prodL p.q) > rowF p.n from Nat.not_lt.2 hp.2.2.2))
    refine runJ ?_
    apply (s_call Tryd_ent22 rfl rfl rfl)
    refine (Tp h6 (A.ext e16)).mono ?_
    rintro _ h7 ⟨rfl, e7⟩
    refine ⟨(by first | exact trivial | exact trivial), ?_⟩
    have e17 := e16.trans e7
    have x7 := x6.ext e7
    refine runJ ?_
    (first | (apply w_seqB; exact rfl; apply w_block; exact rfl) | skip)
    apply (w_loop (σ := Nat) rfl (fun j => [(1, p1), (5, N j)])
      (fun j h' => Ext h7 h' ∧ j < p.q.length) (fun j => j) m)
    · exact (Sub.cons rfl (Sub.cons rfl (Sub.nil _)))
    · exact ⟨Ext.refl _, by omega⟩
    rintro j h8 ⟨e8, j1⟩
    have e18 := e17.trans e8
    have x8 := x7.ext e8
    have s8 := A.row.ext e18
    refine runJ ?_
    (apply w_condD; exact rfl; exact rfl) <;> intro hj
    · obtain ⟨i, rfl⟩ : ∃ i, j = i + 1 := ⟨j - 1, by omega⟩
      obtain ⟨y, hy⟩ := get_lt j1
      have hy64 := A.al y (List.mem_of_getElem? hy)
      have G1 := F ((i + 1 : Nat) : Int) (by omega) (by omega)
      have G2 := F (i : Int) (by omega) (by omega)
      rw [levE_top hp j1, if_pos rfl] at G1
      rw [levE_top hp (by omega), if_pos rfl] at G2
      have L1 := levM_len (l := ((i + 1 : Nat) : Int)) hp A.al
      have L2 := levM_len (l := (i : Int)) hp A.al
      have hst := levM_step hy
      refine runJ ?_
      apply (s_call Tryd_ent15 rfl rfl rfl)
      refine (G1 h8 (T.ext e18) (A.ext e18)).mono ?_
      rintro _ h9 ⟨e9, q1, rfl, o1⟩
      refine ⟨(by first | exact trivial | exact trivial), ?_⟩
      have e19 := e18.trans e9
      have x9 := x8.ext e9
      refine runJ ?_
      apply (s_call Tryd_ent15 rfl rfl rfl)
      refine (G2 h9 (T.ext e19) (A.ext e19)).mono ?_
      rintro _ h10 ⟨e10, q2, rfl, o2⟩
      refine ⟨(by first | exact trivial | exact trivial), ?_⟩
      have e20 := e19.trans e10
      have x10 := x9.ext e10
      have s10 := A.row.ext e20
      refine runJ ?_
      (apply (s_litF (f := U) [y] (fun _ => rfl)); exact rfl; exact rfl; exact rfl; exact rfl; exact rfl; exact rfl; exact rfl; exact rfl; omega)
      intro w11 h11 o11 e11 b11
      refine ⟨(by first | exact trivial | exact Ext.refl _ | assumption | exact Ext.trans (by assumption) (by assumption)), ?_⟩
      have M := rmul_spec q2 w11 _ [y] h11 (o2.sl.ext e11) o11.sl (al_dg b640 _) (by intro x hx; simp at hx; omega) (by omega) (by simp)
      rw [vl_dg b64, show vl 18446744073709551616 [y] = y by simp [vl], ← hst] at M
      refine runJ ?_
      apply (s_call Tryd_ent19 rfl rfl rfl)
      refine (M).mono ?_
      rintro w12 h12 ⟨e12', o12⟩
      refine ⟨(by first | exact trivial | exact trivial), ?_⟩
      refine runJ ?_
      apply (s_call Tryd_ent17 rfl rfl rfl)
      refine (same_spec q1 w12 _ _ h12 (((o1.sl.ext e10).ext e11).ext e12') o12.sl (by omega)).mono ?_
      rintro _ _ ⟨rfl, rfl⟩
      refine ⟨(by first | exact trivial | exact Ext.refl _ | assumption | exact Ext.trans (by assumption) (by assumption)), ?_⟩
      rw [decide_eq_true rfl]
      refine runJ ?_
      apply again_normal i
      · exact (Sub.consE rfl (by first | rfl | (refine congrArg I ?_; (try dsimp only); omega) | (refine congrArg Value.bool ?_; simp [*])) (Sub.consE rfl (by first | rfl | (refine congrArg I ?_; (try dsimp only); omega) | (refine congrArg Value.bool ?_; simp [*])) (Sub.nil _)))
      · exact ⟨e8.trans ((e9.trans e10).trans (e11.trans e12')), by omega⟩
      · omega
    · refine runJ ?_
      exact fin1 rfl rfl ⟨rfl, e18⟩
  · rw [if_neg hp]
    refine runJ ?_
    exact fin1 rfl rfl ⟨rfl, e13⟩
end Go.Proofs.YtajgcmgkhmkmbaaDoor

/- Package param: parameters compared, and the law of it. Condition of the fixed calls: the table of math/bits reads as it is laid. -/
namespace Go.Proofs.YtajgcmgkhmkmbaaDoor
set_option linter.unusedVariables false
set_option maxRecDepth 8000
open Go Go.Den Go.RowKit Go.Dig

/-- What the closure 'rest' makes of parameters. -/
def restL (p : ParD) : List Int := [p.n, IntKind.i64.wrap p.t, p.w]
def sameP (a b : ParD) : Prop := a.n = b.n ∧ a.t = b.t ∧ a.w = b.w ∧ a.q = b.q
instance (a b : ParD) : Decidable (sameP a b) := by unfold sameP; exact inferInstance
theorem wrap_inj {a b : Nat} (ha : a < 18446744073709551616) (hb : b < 18446744073709551616) (h : IntKind.i64.wrap a = IntKind.i64.wrap b) : a = b := by
  rw [IntKind.wrap_i64, IntKind.wrap_i64] at h
  omega
theorem restL_eq {a b : ParD} (ha : a.t < 18446744073709551616) (hb : b.t < 18446744073709551616) : restL a = restL b ↔ (a.n = b.n ∧ a.t = b.t ∧ a.w = b.w) := by
  unfold restL
  constructor
  · intro h
    simp only [List.cons.injEq, and_true] at h
    exact ⟨h.1, wrap_inj ha hb h.2.1, h.2.2⟩
  · rintro ⟨h1, h2, h3⟩
    rw [h1, h2, h3]

theorem Tryd_ent53 : Ent Tryd.prog 53 := ent_of Tryd.func53 (by kernel_rfl) rfl
theorem rest_spec (p : ParD) (h : Hp) (s : SlF h U p.vq p.q) :
    CallsH Tryd.prog 53 [.agg p.cells.toArray] h fun v' h' => v' = .agg ((restL p).map I).toArray ∧ Ext h h' := by
  unfold ParD.cells restL
  (apply enter Tryd.func53 rfl Tryd.ntmps53 rfl)
  refine runJ ?_
  (apply s_box; exact rfl; exact rfl; exact rfl; exact rfl)
  intro p1 h1 x1 e1 b1
  (try dsimp only [Value.cells, List.toList_toArray] at x1)
  refine ⟨(by first | exact trivial | exact Ext.refl _ | assumption | exact Ext.trans (by assumption) (by assumption)), ?_⟩
  refine runJ ?_
  (apply s_alloc; exact rfl; exact rfl; exact rfl)
  intro p2 h2 x2 e2 b2
  (try dsimp only [Value.cells, List.toList_toArray] at x2)
  refine ⟨(by first | exact trivial | exact Ext.refl _ | assumption | exact Ext.trans (by assumption) (by assumption)), ?_⟩
  have x1' := x1.ext e2
  refine runJ ?_
  refine s_conv rfl rfl rfl rfl ?_
  refine runJ ?_
  refine s_buildArr [I p.n, I (IntKind.i64.wrap p.t), I p.w] rfl rfl rfl rfl (.cons rfl (.cons rfl (.cons rfl .nil))) rfl rfl ?_
  refine runJ ?_
  (apply s_storeV; exact rfl; exact rfl; exact rfl; (repeat (first | exact OneAll.nil | (apply OneAll.cons; (first | exact rfl | exact SlF.one (by assumption) | exact SlF.one (OwnF.sl (by assumption)) | exact Var.one (by assumption))))); exact rfl; exact rfl; exact x2; exact rfl)
  intro h3 x3 k3
  (try dsimp only [Value.cells, List.toList_toArray] at x3)
  refine ⟨(by first | exact trivial | exact Ext.refl _ | assumption | exact Ext.only (by assumption) _ | exact Only.trans (Ext.only (by assumption) _) (by assumption)), ?_⟩
  have e3 : Ext h1 h3 := k3.oldV e2 b2 (Nat.le_refl _)
  refine runJ ?_
  exact finC rfl rfl x3 rfl rfl ⟨rfl, e1.trans e3⟩

theorem Tryd_ent54 : Ent Tryd.prog 54 := ent_of Tryd.func54 (by kernel_rfl) rfl
theorem eqs_spec (va vb : Value) (xs ys : List Nat) (h : Hp) (ha : SlF h U va xs) (hb : SlF h U vb ys) (hl : xs.length < 9223372036854775808) (hl2 : ys.length < 9223372036854775808) :
    CallsH Tryd.prog 54 [va, vb] h fun v' h' => v' = .bool (decide (xs = ys)) ∧ h = h' := by
  (apply enter Tryd.func54 rfl Tryd.ntmps54 rfl)
  refine runJ ?_
  (apply w_condD; exact rfl; exact rfl) <;> intro hne
  · refine runJ ?_
    exact fin1 rfl rfl ⟨dec_f (fun e => hne (by rw [e])), rfl⟩
  have hle : xs.length = ys.length := by omega
  refine runJ ?_
  (first | (apply w_seqB; exact rfl; apply w_block; exact rfl) | skip)
  apply (w_loop (σ := Nat) rfl (fun j => [(0, va), (1, vb), (12, N xs.length), (13, N j)])
    (fun j h' => h = h' ∧ j ≤ xs.length ∧ ∀ (i : Nat) (x y : Nat), i < j → xs[i]? = some x → ys[i]? = some y → x = y) (fun j => xs.length - j) 0)
  · exact (Sub.cons rfl (Sub.cons rfl (Sub.cons rfl (Sub.cons rfl (Sub.nil _)))))
  · exact ⟨rfl, Nat.zero_le _, fun i x y hi => by omega⟩
  rintro j h' ⟨rfl, j1, j2⟩
  refine runJ ?_
  (apply w_condD; exact rfl; exact rfl) <;> intro hj
  · obtain ⟨x, hx⟩ := get_lt hj
    obtain ⟨y, hy⟩ := get_lt (l := ys) (j := j) (by omega)
    refine runJ ?_
    (apply w_condD; exact rfl; exact rfl) <;> intro hd
    · refine runJ ?_
      exact fin1 rfl rfl ⟨dec_f (list_ne hx hy hd), rfl⟩
    · refine runJ ?_
      apply again_normal (j + 1)
      · exact (Sub.cons rfl (Sub.cons rfl (Sub.cons rfl (Sub.cons rfl (Sub.nil _)))))
      · refine ⟨rfl, hj, fun i x' y' hi hx' hy' => ?_⟩
        rcases Nat.lt_succ_iff_lt_or_eq.1 hi with hi | rfl
        · exact j2 i x' y' hi hx' hy'
        · rw [hx] at hx'; rw [hy] at hy'; cases hx'; cases hy'; exact Decidable.of_not_not hd
      · omega
  · refine runJ ?_
    exact fin1 rfl rfl ⟨dec_t (list_eq hle fun i x y hx hy => j2 i x y (by have := (List.getElem?_eq_some_iff.1 hx).1; omega) hx hy), rfl⟩

theorem sameU9_spec (va vb : Value) (xs ys : List Nat) (h : Hp) (ha : SlF h U va xs) (hb : SlF h U vb ys) (hl : xs.length < 9223372036854775808) (hl2 : ys.length < 9223372036854775808) :
    CallsH Tryd.prog 36 [va, vb] h fun v' h' => v' = .bool (decide (xs = ys)) ∧ h = h' := by
  (apply enter Tryd.func36 rfl Tryd.ntmps36 rfl)
  refine runJ ?_
  (apply w_condD; exact rfl; exact rfl) <;> intro hne
  · refine runJ ?_
    exact fin1 rfl rfl ⟨dec_f (fun e => hne (by rw [e])), rfl⟩
  have hle : xs.length = ys.length := by omega
  refine runJ ?_
  (first | (apply w_seqB; exact rfl; apply w_block; exact rfl) | skip)
  apply (w_loop (σ := Nat) rfl (fun j => [(0, va), (1, vb), (12, N xs.length), (13, N j)])
    (fun j h' => h = h' ∧ j ≤ xs.length ∧ ∀ (i : Nat) (x y : Nat), i < j → xs[i]? = some x → ys[i]? = some y → x = y) (fun j => xs.length - j) 0)
  · exact (Sub.cons rfl (Sub.cons rfl (Sub.cons rfl (Sub.cons rfl (Sub.nil _)))))
  · exact ⟨rfl, Nat.zero_le _, fun i x y hi => by omega⟩
  rintro j h' ⟨rfl, j1, j2⟩
  refine runJ ?_
  (apply w_condD; exact rfl; exact rfl) <;> intro hj
  · obtain ⟨x, hx⟩ := get_lt hj
    obtain ⟨y, hy⟩ := get_lt (l := ys) (j := j) (by omega)
    refine runJ ?_
    (apply w_condD; exact rfl; exact rfl) <;> intro hd
    · refine runJ ?_
      exact fin1 rfl rfl ⟨dec_f (list_ne hx hy hd), rfl⟩
    · refine runJ ?_
      apply again_normal (j + 1)
      · exact (Sub.cons rfl (Sub.cons rfl (Sub.cons rfl (Sub.cons rfl (Sub.nil _)))))
      · refine ⟨rfl, hj, fun i x' y' hi hx' hy' => ?_⟩
        rcases Nat.lt_succ_iff_lt_or_eq.1 hi with hi | rfl
        · exact j2 i x' y' hi hx' hy'
        · rw [hx] at hx'; rw [hy] at hy'; cases hx'; cases hy'; exact Decidable.of_not_not hd
      · omega
  · refine runJ ?_
    exact fin1 rfl rfl ⟨dec_t (list_eq hle fun i x y hx hy => j2 i x y (by have := (List.getElem?_eq_some_iff.1 hx).1; omega) hx hy), rfl⟩

theorem Tryd_ent26 : Ent Tryd.prog 26 := ent_of Tryd.func26 (by kernel_rfl) rfl
set_option maxHeartbeats 1000000 in
theorem rsame08_spec (a b : ParD) (h : Hp) (A : ParA0 h a) (B : ParA0 h b) :
    CallsH Tryd.prog 26 [.agg a.cells.toArray, .agg b.cells.toArray] h fun v' h' => v' = .bool (decide (sameP a b)) ∧ Ext h h' := by
  have la := A.ln
  have lb := B.ln
  have ta := A.t64
  have tb := B.t64
  unfold ParD.cells
  (apply enter Tryd.func26 rfl Tryd.ntmps26 rfl)
  refine runJ ?_
  (apply s_box; exact rfl; exact rfl; exact rfl; exact rfl)
  intro p1 h1 x1 e1 b1
  (try dsimp only [Value.cells, List.toList_toArray] at x1)
  refine ⟨(by first | exact trivial | exact Ext.refl _ | assumption | exact Ext.trans (by assumption) (by assumption)), ?_⟩
  refine runJ ?_
  (apply s_box; exact rfl; exact rfl; exact rfl; exact rfl)
  intro p2 h2 x2 e2 b2
  (try dsimp only [Value.cells, List.toList_toArray] at x2)
  refine ⟨(by first | exact trivial | exact Ext.refl _ | assumption | exact Ext.trans (by assumption) (by assumption)), ?_⟩
  have y1 := x1.ext e2
  have e12 := e1.trans e2
  have sa := A.row.ext e12
  have sb := B.row.ext e12
  refine runJ ?_
  (apply s_splitG; exact rfl; exact rfl; exact rfl; exact rfl) <;> intro g1
  · refine runJ ?_
    (apply s_splitG; exact rfl; exact rfl; exact rfl; exact rfl) <;> intro g2
    · refine runJ ?_
      (apply s_splitG; exact rfl; exact rfl; exact rfl; exact rfl) <;> intro g3
      · refine runJ ?_
        apply (s_call Tryd_ent36 rfl rfl rfl)
        refine (sameU9_spec a.vq b.vq a.q b.q h2 sa sb la lb).mono ?_
        rintro _ _ ⟨rfl, rfl⟩
        refine ⟨(by first | exact trivial | exact trivial), ?_⟩
        refine runJ ?_
        exact fin1 rfl rfl ⟨dec_i ⟨fun k => ⟨g1, g2, g3, k⟩, fun k => k.2.2.2⟩, e12⟩
      · refine runJ ?_
        exact fin1 rfl rfl ⟨dec_f fun k => g3 k.2.2.1, e12⟩
    · refine runJ ?_
      exact fin1 rfl rfl ⟨dec_f fun k => g2 k.2.1, e12⟩
  · refine runJ ?_
    exact fin1 rfl rfl ⟨dec_f fun k => g1 k.1, e12⟩

theorem Tryd_ent25 : Ent Tryd.prog 25 := ent_of Tryd.func25 (by kernel_rfl) rfl
set_option maxHeartbeats 1000000 in
theorem psame_spec (a b : ParD) (h : Hp) (A : ParA0 h a) (B : ParA0 h b) :
    CallsH Tryd.prog 25 [.agg a.cells.toArray, .agg b.cells.toArray] h fun v' h' => v' = .bool (decide (sameP a b)) ∧ Ext h h' := by
  have la := A.ln
  have lb := B.ln
  have hR := restL_eq A.t64 B.t64
  have Fa := fun h s => rest_spec a h s
  have Fb := fun h s => rest_spec b h s
  unfold ParD.cells at Fa Fb ⊢
  (apply enter Tryd.func25 rfl Tryd.ntmps25 rfl)
  refine runJ ?_
  (apply s_box; exact rfl; exact rfl; exact rfl; exact rfl)
  intro p1 h1 x1 e1 b1
  (try dsimp only [Value.cells, List.toList_toArray] at x1)
  refine ⟨(by first | exact trivial | exact Ext.refl _ | assumption | exact Ext.trans (by assumption) (by assumption)), ?_⟩
  refine runJ ?_
  (apply s_box; exact rfl; exact rfl; exact rfl; exact rfl)
  intro p2 h2 x2 e2 b2
  (try dsimp only [Value.cells, List.toList_toArray] at x2)
  refine ⟨(by first | exact trivial | exact Ext.refl _ | assumption | exact Ext.trans (by assumption) (by assumption)), ?_⟩
  have y1 := x1.ext e2
  have e12 := e1.trans e2
  have sa := A.row.ext e12
  have sb := B.row.ext e12
  refine runJ ?_
  refine s_callV rfl Tryd_ent53 rfl rfl rfl ?_
  refine (Fa h2 sa).mono ?_
  rintro _ h3 ⟨rfl, e3⟩
  refine ⟨(by first | exact trivial | exact e3), ?_⟩
  have y3 := y1.ext e3
  have x3 := x2.ext e3
  refine runJ ?_
  refine s_callV rfl Tryd_ent53 rfl rfl rfl ?_
  refine (Fb h3 (sb.ext e3)).mono ?_
  rintro _ h4 ⟨rfl, e4⟩
  refine ⟨(by first | exact trivial | exact (e3.trans e4)), ?_⟩
  have y4 := y3.ext e4
  have x4 := x3.ext e4
  have e34 := e3.trans e4
  have e14 := e12.trans e34
  have sa4 := sa.ext e34
  have sb4 := sb.ext e34
  refine runJ ?_
  refine s_eqArr (restL a) (restL b) rfl rfl rfl rfl rfl rfl rfl rfl rfl rfl ?_
  refine runJ ?_
  (apply s_splitG; exact rfl; exact rfl; exact rfl; exact rfl) <;> intro g
  · have g' := hR.1 g
    refine runJ ?_
    apply (s_call Tryd_ent54 rfl rfl rfl)
    refine (eqs_spec a.vq b.vq a.q b.q h4 sa4 sb4 la lb).mono ?_
    rintro _ _ ⟨rfl, rfl⟩
    refine ⟨(by first | exact trivial | exact e34), ?_⟩
    refine runJ ?_
    exact fin1 rfl rfl ⟨dec_i ⟨fun k => ⟨g'.1, g'.2.1, g'.2.2, k⟩, fun k => k.2.2.2⟩, e14⟩
  · refine runJ ?_
    exact fin1 rfl rfl ⟨dec_f fun k => g (hR.2 ⟨k.1, k.2.1, k.2.2.1⟩), e14⟩

theorem sameP_comm (a b : ParD) : decide (sameP b a) = decide (sameP a b) := by
  rw [decide_eq_decide]
  unfold sameP
  constructor <;> rintro ⟨h1, h2, h3, h4⟩ <;> exact ⟨h1.symm, h2.symm, h3.symm, h4.symm⟩
theorem ParA0.ext {h h' : Hp} {p : ParD} (s : ParA0 h p) (e : Ext h h') : ParA0 h' p := ⟨s.row.ext e, s.al, s.t64, s.ln⟩

theorem Tryd_ent6 : Ent Tryd.prog 6 := ent_of Tryd.func6 (by kernel_rfl) rfl
set_option maxHeartbeats 1000000 in
theorem paramSame_law (a b : ParD) (h : Hp) (T : TB h) (A : ParA0 h a) (B : ParA0 h b) :
    CallsH Tryd.prog 6 [.agg a.cells.toArray, .agg b.cells.toArray] h fun v' h' => v' = .bool true ∧ Ext h h' := by
  have Saa := fun h A B => psame_spec a a h A B
  have Sab := fun h A B => psame_spec a b h A B
  have Sba := fun h A B => psame_spec b a h A B
  have Rab := fun h A B => rsame08_spec a b h A B
  have hra : sameP a a := ⟨rfl, rfl, rfl, rfl⟩
  simp only [decide_eq_true hra] at Saa
  simp only [sameP_comm a b] at Sba
  have A1 := A.row
  have B1 := B.row
  unfold ParD.cells at Saa Sab Sba Rab ⊢
  (apply enter Tryd.func6 rfl Tryd.ntmps6 rfl)
  refine runJ ?_
  (apply s_box; exact rfl; exact rfl; exact rfl; exact rfl)
  intro p1 h1 x1 e1 b1
  (try dsimp only [Value.cells, List.toList_toArray] at x1)
  refine ⟨(by first | exact trivial | exact Ext.refl _ | assumption | exact Ext.trans (by assumption) (by assumption)), ?_⟩
  refine runJ ?_
  (apply s_box; exact rfl; exact rfl; exact rfl; exact rfl)
  intro p2 h2 x2 e2 b2
  (try dsimp only [Value.cells, List.toList_toArray] at x2)
  refine ⟨(by first | exact trivial | exact Ext.refl _ | assumption | exact Ext.trans (by assumption) (by assumption)), ?_⟩
  have y1 := x1.ext e2
  have e12 := e1.trans e2
  refine runJ ?_
  apply (s_call Tryd_ent14 rfl rfl rfl)
  refine (fixed08_spec h2 (T.ext e12)).mono ?_
  rintro _ h3 ⟨rfl, e3⟩
  refine ⟨(by first | exact trivial | exact trivial), ?_⟩
  have e13 := e12.trans e3
  have y3 := y1.ext e3
  have x3 := x2.ext e3
  refine runJ ?_
  apply (s_call Tryd_ent25 rfl rfl rfl)
  refine (Saa h3 (A.ext e13) (A.ext e13)).mono ?_
  rintro _ h4 ⟨rfl, e4⟩
  refine ⟨(by first | exact trivial | exact e4), ?_⟩
  have e14 := e13.trans e4
  have y4 := y3.ext e4
  have x4 := x3.ext e4
  refine runJ ?_
  apply (s_call Tryd_ent25 rfl rfl rfl)
  refine (Sab h4 (A.ext e14) (B.ext e14)).mono ?_
  rintro _ h5 ⟨rfl, e5⟩
  refine ⟨(by first | exact trivial | exact (e4.trans e5)), ?_⟩
  have e15 := e14.trans e5
  have y5 := y4.ext e5
  have x5 := x4.ext e5
  have f5 := e4.trans e5
  refine runJ ?_
  apply (s_call Tryd_ent26 rfl rfl rfl)
  refine (Rab h5 (A.ext e15) (B.ext e15)).mono ?_
  rintro _ h6 ⟨rfl, e6⟩
  refine ⟨(by first | exact trivial | exact (f5.trans e6)), ?_⟩
  have e16 := e15.trans e6
  have y6 := y5.ext e6
  have x6 := x5.ext e6
  have f6 := f5.trans e6
  refine runJ ?_
  (apply s_splitG; exact rfl; exact rfl; exact rfl; exact rfl) <;> intro g
  · refine runJ ?_
    apply (s_call Tryd_ent25 rfl rfl rfl)
    refine (Sab h6 (A.ext e16) (B.ext e16)).mono ?_
    rintro _ h7 ⟨rfl, e7⟩
    refine ⟨(by first | exact trivial | exact (f6.trans e7)), ?_⟩
    have e17 := e16.trans e7
    have y7 := y6.ext e7
    have x7 := x6.ext e7
    have f7 := f6.trans e7
    refine runJ ?_
    apply (s_call Tryd_ent25 rfl rfl rfl)
    refine (Sba h7 (B.ext e17) (A.ext e17)).mono ?_
    rintro _ h8 ⟨rfl, e8⟩
    refine ⟨(by first | exact trivial | exact (f7.trans e8)), ?_⟩
    refine runJ ?_
    exact fin1 rfl rfl ⟨(dec_t rfl).symm, e17.trans e8⟩
  · exact absurd rfl g
end Go.Proofs.YtajgcmgkhmkmbaaDoor

/- Texts BouH to OpenP of this work, joined: each says in its own head what it proves, and of which condition. -/
import Derived.Test.YtajgcmgkhmkmbaaDoorMBou25
import Derived.ProofKit
import Derived.OpenShut
import Derived.ShutString
import Derived.ChangeOld
import Derived.Below
import Derived.Test.YtajgcmgkhmkmbaaDoorRows
import Derived.LaidMore
import Derived.LaidLaws
import Derived.MakeChecks
/- Package bound: the fixed calls, and the law BoundRises. Condition: the table of math/bits reads as it is laid. -/
namespace Go.Proofs.YtajgcmgkhmkmbaaDoor
set_option linter.unusedVariables false
set_option maxRecDepth 8000
open Go Go.Den Go.RowKit Go.Dig

theorem mulS_mono {p : ParD} {l : Int} {A A' B : Nat} (h : A ≤ A') : mulS p l A B ≤ mulS p l A' B := by
  unfold mulS mulS2
  have h1 : A + B ≤ A' + B := by omega
  have h2 := Nat.mul_le_mul_left (p.n.toNat / 2 * p.t) h1
  have h3 := Nat.mul_le_mul_left (p.n.toNat * p.t * (p.n.toNat / 2 + 1)) h1
  have h4 : p.n.toNat * p.t * A * B ≤ p.n.toNat * p.t * A' * B := Nat.mul_le_mul_right _ (Nat.mul_le_mul_left _ h)
  have h5 : (p.n.toNat * p.t * A * B + levM p l - 1) / levM p l ≤ (p.n.toNat * p.t * A' * B + levM p l - 1) / levM p l := Nat.div_le_div_right (by omega)
  omega
theorem swS_mono {p : ParD} {l : Int} {A A' : Nat} (h : A ≤ A') : swS p l A ≤ swS p l A' := by unfold swS; omega
theorem lowS_mono {p : ParD} {l : Int} {A A' : Nat} (h : A ≤ A') : lowS p l A ≤ lowS p l A' := by
  unfold lowS
  have h5 : (A + lowQ p l - 1) / lowQ p l ≤ (A' + lowQ p l - 1) / lowQ p l := Nat.div_le_div_right (by omega)
  omega
theorem fitP_mono {p : ParD} {l : Int} {A A' : Nat} (h : A ≤ A') (k : fitP p l A') : fitP p l A := by
  refine ⟨k.1, Nat.lt_of_le_of_lt ?_ k.2⟩
  unfold fitS
  have := Nat.mul_le_mul_left (2 * p.t) h
  omega
theorem cmpI_le {a b : Nat} (h : a ≤ b) : cmpI a b ≤ 0 := by
  unfold cmpI
  split
  · omega
  · split <;> omega
theorem vl_if {c : Prop} [Decidable c] {x : Nat} : vl 18446744073709551616 (if c then dg 18446744073709551616 x else []) = if c then x else 0 := by
  by_cases h : c
  · rw [if_pos h, if_pos h, vl_of]
  · rw [if_neg h, if_neg h]; rfl
theorem al_if {c : Prop} [Decidable c] {x : Nat} : Al 18446744073709551616 (if c then dg 18446744073709551616 x else []) := by
  by_cases h : c
  · rw [if_pos h]; exact al_dg (by decide) _
  · rw [if_neg h]; intro y hy; simp at hy
theorem if_mono {c : Prop} [Decidable c] {x y : Nat} (h : x ≤ y) : (if c then x else 0) ≤ (if c then y else 0) := by
  by_cases hc : c
  · rw [if_pos hc, if_pos hc]; exact h
  · rw [if_neg hc, if_neg hc]; exact Nat.le_refl _

theorem fit97 (w : Value) : fitP ⟨8, 17, w, [97, 193], 2⟩ 1 34 := ⟨lev97 w, by unfold fitS; rw [levM97]; dsimp only; decide⟩
theorem fit97' (w : Value) : ¬ fitP ⟨8, 17, w, [97, 193], 2⟩ 1 1000 := fun k => absurd k.2 (by unfold fitS; rw [levM97]; dsimp only; decide)

theorem Tryd_ent27 : Ent Tryd.prog 27 := ent_of Tryd.func27 (by kernel_rfl) rfl
set_option maxHeartbeats 1000000 in
theorem fixed14_spec (h : Hp) (T : TB h) : CallsH Tryd.prog 27 [] h fun v' h' => v' = .bool true ∧ Ext h h' := by
  have d1 : dg 18446744073709551616 34 = [34] := by decide
  have d2 : dg 18446744073709551616 11 = [11] := by decide
  (apply enter Tryd.func27 rfl Tryd.ntmps27 rfl)
  refine runJ ?_
  (apply (s_litF (f := U) [97, 193] (fun _ => rfl)); exact rfl; exact rfl; exact rfl; exact rfl; exact rfl; exact rfl; exact rfl; exact rfl; omega)
  intro w1 h1 o1 e1 b1
  refine ⟨(by first | exact trivial | exact Ext.refl _ | assumption | exact Ext.trans (by assumption) (by assumption)), ?_⟩
  refine runJ ?_
  (apply (s_build ([I 8, U 17, w1, I 2])); exact rfl; exact rfl; exact rfl; (repeat (first | exact CellsAll.nil | (apply CellsAll.cons; (first | exact oneL (by assumption) | exact oneL (SlF.one (by assumption)) | exact oneL (SlF.one (OwnF.sl (by assumption))) | exact oneL (Var.one (by assumption)) | exact rfl)))); exact rfl; exact rfl)
  refine runJ ?_
  (apply s_alloc; exact rfl; exact rfl; exact rfl)
  intro p2 h2 x2 e2 b2
  (try dsimp only [Value.cells, List.toList_toArray] at x2)
  refine ⟨(by first | exact trivial | exact Ext.refl _ | assumption | exact Ext.trans (by assumption) (by assumption)), ?_⟩
  have s1 := o1.sl
  refine runJ ?_
  (apply s_storeV; exact rfl; exact rfl; exact rfl; (repeat (first | exact OneAll.nil | (apply OneAll.cons; (first | exact rfl | exact SlF.one (by assumption) | exact SlF.one (OwnF.sl (by assumption)) | exact Var.one (by assumption))))); exact rfl; exact rfl; exact x2; exact rfl)
  intro h3 x3 k3
  (try dsimp only [Value.cells, List.toList_toArray] at x3)
  refine ⟨(by first | exact trivial | exact Ext.refl _ | assumption | exact Ext.only (by assumption) _ | exact Only.trans (Ext.only (by assumption) _) (by assumption)), ?_⟩
  have e3 : Ext h1 h3 := k3.oldV e2 b2 (Nat.le_refl _)
  have E3 := e1.trans e3
  have D : ParAt h3 ⟨8, 17, w1, [97, 193], 2⟩ := ⟨o1.sl.ext e3, by intro x hx; simp at hx; omega, (by decide : 17 < 18446744073709551616), (by decide : 2 ≤ 4611686018427387904)⟩
  have F1 := fun h T D => fresh_spec ⟨8, 17, w1, [97, 193], 2⟩ h T D (par97 w1)
  have F2 := fun va vb xs ys h T D s1 s2 a1 a2 l1 l2 => badd_spec ⟨8, 17, w1, [97, 193], 2⟩ 1 va vb xs ys h T D s1 s2 a1 a2 l1 l2 (by decide) (by decide) (lev97 w1)
  have F3 := fun va xs h T D s1 a1 l1 => fits14_spec ⟨8, 17, w1, [97, 193], 2⟩ 1 va xs h T D s1 a1 l1 (by decide) (by decide)
  simp only [levM97, ParD.cells] at F1 F2 F3
  refine runJ ?_
  apply (s_call Tryd_ent55 rfl rfl rfl)
  refine (F1 h3 (T.ext E3) D).mono ?_
  rintro _ h4 ⟨e4, r4, rfl, o4⟩
  refine ⟨(by first | exact trivial | exact trivial), ?_⟩
  have o4 : OwnF h4 h3.size 31 U r4 (dg 18446744073709551616 34) := o4
  rw [d1] at o4
  have x4 := x3.ext e4
  have E4 := E3.trans e4
  have D4 := D.ext e4
  refine runJ ?_
  (apply (s_litF (f := U) [3] (fun _ => rfl)); exact rfl; exact rfl; exact rfl; exact rfl; exact rfl; exact rfl; exact rfl; exact rfl; omega)
  intro w5 h5 o5 e5 b5
  refine ⟨(by first | exact trivial | exact Ext.refl _ | assumption | exact Ext.trans (by assumption) (by assumption)), ?_⟩
  refine runJ ?_
  (apply (s_litF (f := U) [4] (fun _ => rfl)); exact rfl; exact rfl; exact rfl; exact rfl; exact rfl; exact rfl; exact rfl; exact rfl; omega)
  intro w6 h6 o6 e6 b6
  refine ⟨(by first | exact trivial | exact Ext.refl _ | assumption | exact Ext.trans (by assumption) (by assumption)), ?_⟩
  have D6 := (D4.ext e5).ext e6
  have E6 := (E4.trans e5).trans e6
  have x6 := (x4.ext e5).ext e6
  refine runJ ?_
  apply (s_call Tryd_ent56 rfl rfl rfl)
  refine (F2 w5 w6 [3] [4] h6 (T.ext E6) D6 (o5.sl.ext e6) o6.sl (by intro x hx; simp at hx; omega) (by intro x hx; simp at hx; omega) (by decide) (by decide)).mono ?_
  rintro _ h7 ⟨e7, r7, rfl, o7⟩
  refine ⟨(by first | exact trivial | exact trivial), ?_⟩
  have o7 : OwnF h7 h6.size 31 U r7 (dg 18446744073709551616 11) := o7
  rw [d2] at o7
  have x7 := x6.ext e7
  have D7 := D6.ext e7
  have E7 := E6.trans e7
  refine runJ ?_
  (apply (s_litF (f := U) [34] (fun _ => rfl)); exact rfl; exact rfl; exact rfl; exact rfl; exact rfl; exact rfl; exact rfl; exact rfl; omega)
  intro w8 h8 o8 e8 b8
  refine ⟨(by first | exact trivial | exact Ext.refl _ | assumption | exact Ext.trans (by assumption) (by assumption)), ?_⟩
  have s48 := (((o4.sl.ext e5).ext e6).ext e7).ext e8
  have x8 := x7.ext e8
  refine runJ ?_
  apply (s_call Tryd_ent17 rfl rfl rfl)
  refine (same_spec r4 w8 [34] [34] h8 s48 o8.sl (by decide)).mono ?_
  rintro _ _ ⟨rfl, rfl⟩
  refine ⟨(by first | exact trivial | exact Ext.refl _ | assumption | exact Ext.trans (by assumption) (by assumption)), ?_⟩
  refine runJ ?_
  (apply (s_litF (f := U) [11] (fun _ => rfl)); exact rfl; exact rfl; exact rfl; exact rfl; exact rfl; exact rfl; exact rfl; exact rfl; omega)
  intro w9 h9 o9 e9 b9
  refine ⟨(by first | exact trivial | exact Ext.refl _ | assumption | exact Ext.trans (by assumption) (by assumption)), ?_⟩
  have x9 := x8.ext e9
  refine runJ ?_
  apply (s_call Tryd_ent17 rfl rfl rfl)
  refine (same_spec r7 w9 [11] [11] h9 ((o7.sl.ext e8).ext e9) o9.sl (by decide)).mono ?_
  rintro _ _ ⟨rfl, rfl⟩
  refine ⟨(by first | exact trivial | exact Ext.refl _ | assumption | exact Ext.trans (by assumption) (by assumption)), ?_⟩
  refine runJ ?_
  (apply (s_litF (f := U) [34] (fun _ => rfl)); exact rfl; exact rfl; exact rfl; exact rfl; exact rfl; exact rfl; exact rfl; exact rfl; omega)
  intro w10 h10 o10 e10 b10
  refine ⟨(by first | exact trivial | exact Ext.refl _ | assumption | exact Ext.trans (by assumption) (by assumption)), ?_⟩
  have x10 := x9.ext e10
  have D10 := ((D7.ext e8).ext e9).ext e10
  have E10 := ((E7.trans e8).trans e9).trans e10
  have F4 := F3 w10 [34] h10 (T.ext E10) D10 o10.sl (by intro x hx; simp at hx; omega) (by decide)
  rw [show vl 18446744073709551616 [34] = 34 by decide, decide_eq_true (fit97 w1)] at F4
  refine runJ ?_
  apply (s_call Tryd_ent33 rfl rfl rfl)
  refine (F4).mono ?_
  rintro _ h11 ⟨e11, rfl⟩
  refine ⟨(by first | exact trivial | exact trivial), ?_⟩
  have x11 := x10.ext e11
  have D11 := D10.ext e11
  have E11 := E10.trans e11
  refine runJ ?_
  (apply (s_litF (f := U) [1000] (fun _ => rfl)); exact rfl; exact rfl; exact rfl; exact rfl; exact rfl; exact rfl; exact rfl; exact rfl; omega)
  intro w12 h12 o12 e12 b12
  refine ⟨(by first | exact trivial | exact Ext.refl _ | assumption | exact Ext.trans (by assumption) (by assumption)), ?_⟩
  have F5 := F3 w12 [1000] h12 (T.ext (E11.trans e12)) (D11.ext e12) o12.sl (by intro x hx; simp at hx; omega) (by decide)
  rw [show vl 18446744073709551616 [1000] = 1000 by decide, decide_eq_false (fit97' w1)] at F5
  have x12 := x11.ext e12
  refine runJ ?_
  apply (s_call Tryd_ent33 rfl rfl rfl)
  refine (F5).mono ?_
  rintro _ h13 ⟨e13, rfl⟩
  refine ⟨(by first | exact trivial | exact trivial), ?_⟩
  refine runJ ?_
  exact fin1 rfl rfl ⟨rfl, (E11.trans e12).trans e13⟩

theorem Tryd_ent7 : Ent Tryd.prog 7 := ent_of Tryd.func7 (by kernel_rfl) rfl
set_option maxHeartbeats 4000000 in
theorem boundRises_law (p : ParD) (l : Int) (va vm vb : Value) (xs ms ys : List Nat) (h : Hp) (T : TB h) (A0 : ParA0 h p) (sa : SlF h U va xs) (sm : SlF h U vm ms) (sb : SlF h U vb ys) (ha : Al 18446744073709551616 xs) (hm : Al 18446744073709551616 ms) (hb : Al 18446744073709551616 ys) (hlo : -9223372036854775808 ≤ l) (hhi : l < 9223372036854775808) :
    CallsH Tryd.prog 7 [.agg p.cells.toArray, I l, va, vm, vb] h fun v' h' => v' = .bool true ∧ Ext h h' := by
  have F0 := fun v rows h A R hr hl => few14_spec p v rows h A R hr hl
  have F1 := fun va vb xs ys h T A s1 s2 a1 a2 l1 l2 => bmul_spec p l va vb xs ys h T A s1 s2 a1 a2 l1 l2 hlo hhi
  have F2 := fun va xs h T A s1 a1 l1 => switch14_spec p l va xs h T A s1 a1 l1 hlo hhi
  have F3 := fun va xs h T A s1 a1 l1 => lower14_spec p l va xs h T A s1 a1 l1 hlo hhi
  have F4 := fun va xs h T A s1 a1 l1 => fits14_spec p l va xs h T A s1 a1 l1 hlo hhi
  unfold ParD.cells at F0 F1 F2 F3 F4 ⊢
  (apply enter Tryd.func7 rfl Tryd.ntmps7 rfl)
  refine runJ ?_
  (apply s_box; exact rfl; exact rfl; exact rfl; exact rfl)
  intro p1 h1 x1 e1 b1
  (try dsimp only [Value.cells, List.toList_toArray] at x1)
  refine ⟨(by first | exact trivial | exact Ext.refl _ | assumption | exact Ext.trans (by assumption) (by assumption)), ?_⟩
  refine runJ ?_
  apply (s_call Tryd_ent27 rfl rfl rfl)
  refine (fixed14_spec h1 (T.ext e1)).mono ?_
  rintro _ h2 ⟨rfl, e2⟩
  refine ⟨(by first | exact trivial | exact trivial), ?_⟩
  have x2 := x1.ext e2
  have e12 := e1.trans e2
  refine runJ ?_
  have sa2 := sa.ext e12
  have sm2 := sm.ext e12
  have sb2 := sb.ext e12
  (apply (s_lit (f := Prod.fst) (vs := [va, vb, vm]) [(va, xs), (vb, ys), (vm, ms)]); exact rfl; exact rfl; exact rfl; exact rfl; exact rfl; exact rfl; exact OneAll.all (OneAll.cons sa.one (OneAll.cons sb.one (OneAll.cons sm.one OneAll.nil))); exact rfl; exact rfl; exact rfl; omega)
  intro v3 h3 o3 e3 b3
  refine ⟨(by first | exact trivial | exact Ext.refl _ | assumption | exact Ext.trans (by assumption) (by assumption)), ?_⟩
  have e13 := e12.trans e3
  have x3 := x2.ext e3
  have FW := F0 v3 _ h3 (A0.ext e13) o3.sl (fun x hx => by
    simp only [List.mem_cons, List.not_mem_nil, or_false] at hx
    rcases hx with rfl | rfl | rfl
    · exact sa2.ext e3
    · exact sb2.ext e3
    · exact sm2.ext e3) (by simp)
  refine runJ ?_
  apply (s_call Tryd_ent28 rfl rfl rfl)
  refine (FW).mono ?_
  rintro _ h4 ⟨rfl, e4⟩
  refine ⟨(by first | exact trivial | exact trivial), ?_⟩
  have e14 := e13.trans e4
  have x4 := x3.ext e4
  by_cases hfw : (∀ x ∈ [(va, xs), (vb, ys), (vm, ms)], x.2.length ≤ 30) ∧ p.q.length ≤ 12
  case neg =>
    rw [decide_eq_false hfw]
    refine runJ ?_
    exact fin1 rfl rfl ⟨rfl, e14⟩
  rw [decide_eq_true hfw]
  have la : xs.length ≤ 30 := hfw.1 (va, xs) (by simp)
  have lb : ys.length ≤ 30 := hfw.1 (vb, ys) (by simp)
  have lm : ms.length ≤ 30 := hfw.1 (vm, ms) (by simp)
  have A : ParAt h p := ⟨A0.row, A0.al, A0.t64, Nat.le_trans hfw.2 (by decide)⟩
  clear FW F0 hfw
  have sa4 := sa.ext e14
  have sm4 := sm.ext e14
  have sb4 := sb.ext e14
  have AD := radd_spec va vm xs ms h4 sa4 sm4 ha hm (by omega) (by omega)
  have lc : (dg 18446744073709551616 (vl 18446744073709551616 xs + vl 18446744073709551616 ms)).length ≤ 31 :=
    dg_len (k := 30 + 1) (by decide) (two_sum (k := 30) (by decide) (vl_bound (k := 30) ha la) (vl_bound (k := 30) hm lm) (Nat.le_refl _) (Nat.le_refl _))
  have hle : vl 18446744073709551616 xs ≤ vl 18446744073709551616 xs + vl 18446744073709551616 ms := Nat.le_add_right _ _
  have alc := al_dg (b := 18446744073709551616) (by decide) (vl 18446744073709551616 xs + vl 18446744073709551616 ms)
  refine runJ ?_
  apply (s_call Tryd_ent18 rfl rfl rfl)
  refine (AD).mono ?_
  rintro vc h5 ⟨e5, o5⟩
  refine ⟨(by first | exact trivial | exact trivial), ?_⟩
  have e15 := e14.trans e5
  have x5 := x4.ext e5
  clear AD
  have G1 := fun h T A s1 s2 => F1 va vb xs ys h T A s1 s2 ha hb (by omega) (by omega)
  have G2 := fun h T A s1 s2 => F1 vc vb _ ys h T A s1 s2 alc hb (Nat.lt_of_le_of_lt lc (by decide)) (by omega)
  have G3 := fun h T A s1 => F2 va xs h T A s1 ha (by omega)
  have G4 := fun h T A s1 => F2 vc _ h T A s1 alc (Nat.lt_of_le_of_lt lc (by decide))
  have G5 := fun h T A s1 => F3 va xs h T A s1 ha (by omega)
  have G6 := fun h T A s1 => F3 vc _ h T A s1 alc (Nat.lt_of_le_of_lt lc (by decide))
  have G7 := fun h T A s1 => F4 va xs h T A s1 ha (by omega)
  have G8 := fun h T A s1 => F4 vc _ h T A s1 alc (Nat.lt_of_le_of_lt lc (by decide))
  clear F1 F2 F3 F4
  rw [vl_of] at G2 G4 G6 G8
  have m1 := mulS_mono (p := p) (l := l) (B := vl 18446744073709551616 ys) hle
  have m2 := swS_mono (p := p) (l := l) hle
  have m3 := lowS_mono (p := p) (l := l) hle
  have m4 := fitP_mono (p := p) (l := l) hle
  generalize vl 18446744073709551616 xs + vl 18446744073709551616 ms = C at *
  generalize vl 18446744073709551616 xs = X at *
  generalize vl 18446744073709551616 ys = Y at *
  refine runJ ?_
  apply (s_call Tryd_ent29 rfl rfl rfl)
  refine (G1 h5 (T.ext e15) (A.ext e15) (sa4.ext e5) (sb4.ext e5)).mono ?_
  rintro _ h6 ⟨e6, r6, rfl, o6, l6⟩
  refine ⟨(by first | exact trivial | exact trivial), ?_⟩
  have e16 := e15.trans e6
  have x6 := x5.ext e6
  refine runJ ?_
  apply (s_call Tryd_ent29 rfl rfl rfl)
  refine (G2 h6 (T.ext e16) (A.ext e16) (o5.sl.ext e6) ((sb4.ext e5).ext e6)).mono ?_
  rintro _ h7 ⟨e7, r7, rfl, o7, l7⟩
  refine ⟨(by first | exact trivial | exact trivial), ?_⟩
  have e17 := e16.trans e7
  have e57 := e6.trans e7
  have x7 := x6.ext e7
  refine runJ ?_
  apply (s_call Tryd_ent30 rfl rfl rfl)
  refine (G3 h7 (T.ext e17) (A.ext e17) (sa.ext e17)).mono ?_
  rintro _ h8 ⟨e8, r8, rfl, o8, l8⟩
  refine ⟨(by first | exact trivial | exact trivial), ?_⟩
  have e18 := e17.trans e8
  have e58 := e57.trans e8
  have x8 := x7.ext e8
  refine runJ ?_
  apply (s_call Tryd_ent30 rfl rfl rfl)
  refine (G4 h8 (T.ext e18) (A.ext e18) (o5.sl.ext e58)).mono ?_
  rintro _ h9 ⟨e9, r9, rfl, o9, l9⟩
  refine ⟨(by first | exact trivial | exact trivial), ?_⟩
  have e19 := e18.trans e9
  have e59 := e58.trans e9
  have x9 := x8.ext e9
  refine runJ ?_
  apply (s_call Tryd_ent31 rfl rfl rfl)
  refine (G5 h9 (T.ext e19) (A.ext e19) (sa.ext e19)).mono ?_
  rintro _ h10 ⟨e10, r10, rfl, o10, l10⟩
  refine ⟨(by first | exact trivial | exact trivial), ?_⟩
  have e20 := e19.trans e10
  have e60 := e59.trans e10
  have x10 := x9.ext e10
  refine runJ ?_
  apply (s_call Tryd_ent31 rfl rfl rfl)
  refine (G6 h10 (T.ext e20) (A.ext e20) (o5.sl.ext e60)).mono ?_
  rintro _ h11 ⟨e11, r11, rfl, o11, l11⟩
  refine ⟨(by first | exact trivial | exact trivial), ?_⟩
  have e21 := e20.trans e11
  have e61 := e60.trans e11
  have x11 := x10.ext e11
  have s6 := ((((o6.sl.ext e7).ext e8).ext e9).ext e10).ext e11
  have s7 := (((o7.sl.ext e8).ext e9).ext e10).ext e11
  have s8 := ((o8.sl.ext e9).ext e10).ext e11
  have s9 := (o9.sl.ext e10).ext e11
  have s10 := o10.sl.ext e11
  have s11 := o11.sl
  have C1 := fun h s s' => rcmp_spec r6 r7 _ _ h s s' al_if al_if (Nat.lt_trans l6 (by decide)) (Nat.lt_trans l7 (by decide))
  have C2 := fun h s s' => rcmp_spec r8 r9 _ _ h s s' al_if al_if (Nat.lt_trans l8 (by decide)) (Nat.lt_trans l9 (by decide))
  have C3 := fun h s s' => rcmp_spec r10 r11 _ _ h s s' al_if al_if (Nat.lt_trans l10 (by decide)) (Nat.lt_trans l11 (by decide))
  simp only [vl_if] at C1 C2 C3
  have q1 := cmpI_le (if_mono (c := levE p l = 0) m1)
  have q2 := cmpI_le (if_mono (c := levE p l = 0) m2)
  have q3 := cmpI_le (if_mono (c := lowE p l = 0) m3)
  clear m1 m2 m3 G1 G2 G3 G4 G5 G6 l6 l7 l8 l9 l10 l11
  refine runJ ?_
  (apply s_splitG; exact rfl; exact rfl; exact rfl; exact rfl) <;> intro g1
  case hf => exact absurd rfl g1
  refine runJ ?_
  (apply s_splitG; exact rfl; exact rfl; exact rfl; exact rfl) <;> intro g2
  case hf => exact absurd rfl g2
  refine runJ ?_
  (apply s_splitG; exact rfl; exact rfl; exact rfl; exact rfl) <;> intro g3
  case hf => exact absurd rfl g3
  refine runJ ?_
  apply (s_call Tryd_ent32 rfl rfl rfl)
  refine (C1 h11 s6 s7).mono ?_
  rintro _ h12 ⟨rfl, e12'⟩
  refine ⟨(by first | exact trivial | exact trivial), ?_⟩
  refine runJ ?_
  (apply s_splitG; exact rfl; exact rfl; exact rfl; exact rfl) <;> intro g4
  case hf => exact absurd q1 g4
  refine runJ ?_
  apply (s_call Tryd_ent32 rfl rfl rfl)
  refine (C2 h12 (s8.ext e12') (s9.ext e12')).mono ?_
  rintro _ h13 ⟨rfl, e13'⟩
  refine ⟨(by first | exact trivial | exact trivial), ?_⟩
  refine runJ ?_
  (apply s_splitG; exact rfl; exact rfl; exact rfl; exact rfl) <;> intro g5
  case hf => exact absurd q2 g5
  have e1213 := e12'.trans e13'
  refine runJ ?_
  apply (s_call Tryd_ent32 rfl rfl rfl)
  refine (C3 h13 (s10.ext e1213) (s11.ext e1213)).mono ?_
  rintro _ h14 ⟨rfl, e14'⟩
  refine ⟨(by first | exact trivial | exact trivial), ?_⟩
  refine runJ ?_
  (apply s_splitG; exact rfl; exact rfl; exact rfl; exact rfl) <;> intro g6
  case hf => exact absurd q3 g6
  have e1114 := e1213.trans e14'
  have x14 := x11.ext e1114
  have E14 := e21.trans e1114
  refine runJ ?_
  apply (s_call Tryd_ent33 rfl rfl rfl)
  refine (G8 h14 (T.ext E14) (A.ext E14) ((o5.sl.ext e61).ext e1114)).mono ?_
  rintro _ h15 ⟨e15', rfl⟩
  refine ⟨(by first | exact trivial | exact trivial), ?_⟩
  have x15 := x14.ext e15'
  have E15 := E14.trans e15'
  by_cases hfit : fitP p l C
  · rw [decide_eq_true hfit]
    refine runJ ?_
    have G9 := G7 h15 (T.ext E15) (A.ext E15) (sa.ext E15)
    rw [decide_eq_true (m4 hfit)] at G9
    apply (s_call Tryd_ent33 rfl rfl rfl)
    refine (G9).mono ?_
    rintro _ h16 ⟨e16', rfl⟩
    refine ⟨(by first | exact trivial | exact trivial), ?_⟩
    refine runJ ?_
    exact fin1 rfl rfl ⟨rfl, E15.trans e16'⟩
  · rw [decide_eq_false hfit]
    refine runJ ?_
    exact fin1 rfl rfl ⟨rfl, E15⟩
end Go.Proofs.YtajgcmgkhmkmbaaDoor

/- What an argument that came in reads as: from the kit's reading of data to rows and variables of the own calculus. No condition. -/
namespace Go.Den
set_option linter.unusedVariables false
set_option maxRecDepth 8000
open Go Go.RowKit Go.ChangeShapes Go.WideShapes

/-- The cells read as data of the type. -/
def Opn (P : Program) (w : World) (t : TypeId) (cs : List Value) : Prop := ∃ (H : Type) (enc : TypeId × Value → H) (fuel : Nat) (x : DataW H × List MemPlace), DataW.trod enc P w 0 (fun _ => true) true fuel t cs = some x

theorem opn_of {P : Program} {w : World} {t : TypeId} {v : Value} {H : Type} {enc : TypeId × Value → H} {d : DataW H} {ps : List MemPlace} (h : DataW.Trod enc P w 0 (fun _ => true) true t v d ps) : Opn P w t v.cells.toList := by
  obtain ⟨fuel, hf⟩ := h
  exact ⟨H, enc, fuel, _, hf⟩

section
variable {P : Program} {w : World} {t : TypeId} {cs : List Value}

theorem Opn.bool (ht : P.underlying t = some .bool) (h : Opn P w t cs) : ∃ b, cs = [.bool b] := by
  obtain ⟨H, enc, fuel, x, h⟩ := h
  obtain ⟨b, h1, -⟩ := DataW.trod_bool ht h
  exact ⟨b, h1⟩
theorem Opn.int {k : IntKind} (ht : P.underlying t = some (.int k)) (h : Opn P w t cs) : ∃ n, cs = [.int k n] ∧ (Lit.int k n).wf = true := by
  obtain ⟨H, enc, fuel, x, h⟩ := h
  obtain ⟨n, h1, -, h2⟩ := DataW.trod_int ht h
  exact ⟨n, h1, h2⟩
theorem Opn.struct {fs : Array Field} (ht : P.underlying t = some (.struct fs)) (h : Opn P w t cs) : cs.length = P.cellsOf t ∧ ∀ (i : Nat) (f : Field), fs[i]? = some f → Opn P w f.type ((cs.drop f.offset).take (P.cellsOf f.type)) := by
  obtain ⟨H, enc, fuel, x, h⟩ := h
  obtain ⟨xs, n, -, -, h1, h2, h3⟩ := DataW.trod_struct ht h
  refine ⟨h1, fun i f hf => ?_⟩
  have hi : i < xs.length := by rw [h2]; exact (Array.getElem?_eq_some_iff.1 hf).1
  exact ⟨H, enc, n, xs[i], by rw [h3 i f hf]; simp [hi]⟩
/-- A slice: its cells, an element's worth at a time, read as data. -/
theorem Opn.slice {e : TypeId} {s : Nat} (ht : P.underlying t = some (.slice e)) (hs : P.cellsOf e = s) (hs0 : 0 < s) (h : Opn P w t cs) :
    ∃ v n es, cs = [v] ∧ Sl w.heap v n es ∧ es.length = n * s ∧ n ≤ maxLen ∧ ∀ i, i < n → Opn P w e ((es.drop (i * s)).take s) := by
  obtain ⟨H, enc, fuel, x, h⟩ := h
  rcases DataW.trod_slice ht h with ⟨rfl, -⟩ | ⟨a, len, cap, elems, rest, n, -, rfl, -, -, hl, hm, hlen, hel, -, -⟩
  · exact ⟨_, 0, [], rfl, Sl.nil _, by simp, Nat.zero_le _, fun i hi => by omega⟩
  · rw [hs] at hel
    have each : ∀ i, i < len → ∃ c, w.cells? 0 (a.add (i * s)) s = some c ∧ c.length = s ∧ Opn P w e c := fun i hi => by
      have h1 := hel i hi
      rw [List.getElem?_eq_getElem (by omega)] at h1
      cases hc : w.cells? 0 (a.add (i * s)) s with
      | none => rw [hc] at h1; cases h1
      | some c =>
        rw [hc] at h1
        refine ⟨c, rfl, (World.cells?_some hc).2.1, H, enc, n, _, h1⟩
    by_cases h0 : len = 0
    · subst h0
      exact ⟨_, 0, [], rfl, Sl.empty _ a cap, by simp, Nat.zero_le _, fun i hi => by omega⟩
    · have cellAt : ∀ i r, i < len → r < s → ∀ c, w.cells? 0 (a.add (i * s)) s = some c → w.cell? (a.add (i * s + r)) = c[r]? := fun i r hi hr c hc => by
        rw [← Addr.add_add]; exact (World.cells?_some hc).2.2 r hr
      have hspot : a.spot = none := by
        obtain ⟨c, hc, hcl, -⟩ := each 0 (by omega)
        have := cellAt 0 0 (by omega) hs0 c hc
        rw [List.getElem?_eq_getElem (by omega)] at this
        have e0 : a.add (0 * s + 0) = a := by simp [Addr.add]
        rw [e0] at this
        unfold World.cell? at this
        split at this
        · split at this
          · cases this
          · rename_i hsp; simpa using hsp
        · cases this
      obtain ⟨b, o, sp⟩ := a
      simp only at hspot
      subst hspot
      have total : ∀ j, j < len * s → ∃ u, w.cell? ((⟨b, o, none⟩ : Addr).add j) = some u := fun j hj => by
        have hi : j / s < len := (Nat.div_lt_iff_lt_mul hs0).2 hj
        have hr : j % s < s := Nat.mod_lt _ hs0
        obtain ⟨c, hc, hcl, -⟩ := each (j / s) hi
        have := cellAt (j / s) (j % s) hi hr c hc
        rw [List.getElem?_eq_getElem (by omega), Nat.mul_comm (j / s) s, Nat.div_add_mod] at this
        exact ⟨_, this⟩
      refine ⟨_, len, (List.range (len * s)).map (fun j => (w.cell? ((⟨b, o, none⟩ : Addr).add j)).getD undef), rfl, .inr ⟨b, o, cap, rfl, hl, fun j u hu => ?_⟩, by simp, Nat.le_trans hl hm, fun i hi => ?_⟩
      · rw [List.getElem?_map] at hu
        by_cases hj : j < len * s
        · rw [List.getElem?_range hj] at hu
          obtain ⟨u', hu'⟩ := total j hj
          rw [Option.map_some, hu', Option.getD_some] at hu
          cases hu
          rw [Addr.add_lit, cell?_cellH] at hu'
          exact hu'
        · rw [List.getElem?_eq_none (by simpa using hj)] at hu; cases hu
      · obtain ⟨c, hc, hcl, ho⟩ := each i hi
        have e : ((List.map (fun j => (w.cell? ((⟨b, o, none⟩ : Addr).add j)).getD undef) (List.range (len * s))).drop (i * s)).take s = c := by
          have hle : i * s + s ≤ len * s := by rw [← Nat.succ_mul]; exact Nat.mul_le_mul_right _ hi
          apply List.ext_getElem?
          intro r
          rw [List.getElem?_take]
          by_cases hr : r < s
          · rw [if_pos hr, List.getElem?_drop, List.getElem?_map, List.getElem?_range (by omega)]
            have := cellAt i r hi hr c hc
            rw [Option.map_some, this, List.getElem?_eq_getElem (by omega)]; rfl
          · rw [if_neg hr, List.getElem?_eq_none (by omega)]
        rw [e]; exact ho
end

/-! ### words -/
theorem nat_of_lit {n : Int} (h : (Lit.int .u64 n).wf = true) : ∃ m : Nat, n = (m : Int) ∧ m < 18446744073709551616 := by
  have := bounds_u64 h
  exact ⟨n.toNat, by omega, by omega⟩

def wordOf : Option Value → Nat
  | some (.int _ z) => z.toNat
  | _ => 0
theorem opn_words {P : Program} {w : World} {t e : TypeId} {cs : List Value} (ht : P.underlying t = some (.slice e)) (he : P.underlying e = some (.int .u64)) (hc : P.cellsOf e = 1) (h : Opn P w t cs) :
    ∃ v xs, cs = [v] ∧ SlF w.heap U v xs ∧ Dig.Al 18446744073709551616 xs ∧ xs.length ≤ maxLen := by
  obtain ⟨v, n, es, h1, h2, h3, h4, h5⟩ := h.slice ht hc Nat.zero_lt_one
  have key : ∀ i, i < n → ∃ m : Nat, es[i]? = some (U m) ∧ m < 18446744073709551616 := fun i hi => by
    obtain ⟨z, hz, hw⟩ := (h5 i hi).int he
    obtain ⟨m, rfl, hm⟩ := nat_of_lit hw
    refine ⟨m, ?_, hm⟩
    rw [Nat.mul_one] at hz
    have : (es.drop i)[0]? = some (U m) := by
      have h0 : ((es.drop i).take 1)[0]? = some (U m) := by rw [hz]; rfl
      rwa [List.getElem?_take, if_pos (by omega)] at h0
    rwa [List.getElem?_drop, Nat.add_zero] at this
  have hxs : es = ((List.range n).map fun i => wordOf es[i]?).map U := by
    apply List.ext_getElem?
    intro i
    by_cases hi : i < n
    · obtain ⟨m, hm, -⟩ := key i hi
      rw [List.getElem?_map, List.getElem?_map, List.getElem?_range hi]
      simp [hm, wordOf]
    · rw [List.getElem?_eq_none (by omega), List.getElem?_eq_none (by simp; omega)]
  refine ⟨v, (List.range n).map fun i => wordOf es[i]?, h1, ?_, ?_, by simpa using h4⟩
  · unfold SlF
    rw [← hxs]; simpa using h2
  · intro x hx
    obtain ⟨i, hi, rfl⟩ := List.mem_map.1 hx
    obtain ⟨m, hm, hlt⟩ := key i (List.mem_range.1 hi)
    rw [hm]
    simpa [wordOf] using hlt

/-- A struct of a bool and a row of words. -/
theorem opn_boolwords {P : Program} {w : World} {t tb tn e : TypeId} {cs : List Value} {f0 f1 : Field} (ht : P.underlying t = some (.struct #[f0, f1])) (h0 : (f0.type, f0.offset, P.cellsOf f0.type) = (tb, 0, 1)) (h1 : (f1.type, f1.offset, P.cellsOf f1.type) = (tn, 1, 1))
    (hb : P.underlying tb = some .bool) (hn : P.underlying tn = some (.slice e)) (he : P.underlying e = some (.int .u64)) (hc : P.cellsOf e = 1) (hz : P.cellsOf t = 2) (h : Opn P w t cs) :
    ∃ b v xs, cs = [.bool b, v] ∧ SlF w.heap U v xs ∧ Dig.Al 18446744073709551616 xs := by
  obtain ⟨g1, g2⟩ := h.struct ht
  simp only [Prod.mk.injEq] at h0 h1
  have o0 := g2 0 f0 (by simp)
  have o1 := g2 1 f1 (by simp)
  rw [h0.2.1, h0.2.2, h0.1] at o0
  rw [h1.2.1, h1.2.2, h1.1] at o1
  obtain ⟨b, e0⟩ := o0.bool hb
  obtain ⟨v, xs, e1, s, al, -⟩ := opn_words hn he hc o1
  refine ⟨b, v, xs, ?_, s, al⟩
  rw [hz] at g1
  match cs, g1 with
  | [c0, c1], _ =>
    simp at e0 e1
    rw [e0, e1]
theorem arg_words {P : Program} {w : World} {t e : TypeId} {v : Value} (ht : P.underlying t = some (.slice e)) (he : P.underlying e = some (.int .u64)) (hc : P.cellsOf e = 1) (hv : ∃ a len cap, v = .slice a len cap) (h : Opn P w t v.cells.toList) :
    ∃ xs, SlF w.heap U v xs ∧ Dig.Al 18446744073709551616 xs ∧ xs.length ≤ maxLen := by
  obtain ⟨a, len, cap, rfl⟩ := hv
  obtain ⟨v, xs, e1, h2⟩ := opn_words ht he hc h
  simp [Value.cells] at e1
  subst e1
  exact ⟨xs, h2⟩
theorem arg_boolwords {P : Program} {w : World} {t tb tn e : TypeId} {v : Value} {f0 f1 : Field} (ht : P.underlying t = some (.struct #[f0, f1])) (h0 : (f0.type, f0.offset, P.cellsOf f0.type) = (tb, 0, 1)) (h1 : (f1.type, f1.offset, P.cellsOf f1.type) = (tn, 1, 1))
    (hb : P.underlying tb = some .bool) (hn : P.underlying tn = some (.slice e)) (he : P.underlying e = some (.int .u64)) (hc : P.cellsOf e = 1) (hz : P.cellsOf t = 2) (hv : ∃ cs, v = .agg cs) (h : Opn P w t v.cells.toList) :
    ∃ b a xs, v = .agg #[.bool b, a] ∧ SlF w.heap U a xs ∧ Dig.Al 18446744073709551616 xs := by
  obtain ⟨cs, rfl⟩ := hv
  obtain ⟨b, a, xs, e1, h2, h3⟩ := opn_boolwords ht h0 h1 hb hn he hc hz h
  exact ⟨b, a, xs, by simp only [Value.cells] at e1; rw [show cs = #[.bool b, a] from Array.toList_inj.1 e1], h2, h3⟩
end Go.Den

/- What an argument that came in reads as: rows of ints, rows of rows, rows of structs. No condition. -/
namespace Go.Den
set_option linter.unusedVariables false
set_option maxRecDepth 8000
open Go Go.RowKit Go.ChangeShapes Go.WideShapes

theorem chunks {α : Type} {f : α → List Value} {R : α → Prop} {s : Nat} : ∀ (n : Nat) (es : List Value), es.length = n * s → (∀ i, i < n → ∃ x, (es.drop (i * s)).take s = f x ∧ R x) → ∃ xs : List α, xs.length = n ∧ es = xs.flatMap f ∧ ∀ x ∈ xs, R x
  | 0, es, hl, _ => ⟨[], rfl, by simpa using hl, by simp⟩
  | n + 1, es, hl, h => by
    obtain ⟨x, hx, hr⟩ := h 0 (by omega)
    rw [Nat.zero_mul, List.drop_zero] at hx
    have hl' : (es.drop s).length = n * s := by rw [List.length_drop, hl, Nat.succ_mul]; omega
    obtain ⟨xs, h1, h2, h3⟩ := chunks (f := f) (R := R) n (es.drop s) hl' (fun i hi => by
      obtain ⟨y, hy, hr⟩ := h (i + 1) (by omega)
      refine ⟨y, ?_, hr⟩
      rw [List.drop_drop, show s + i * s = (i + 1) * s by rw [Nat.succ_mul]; omega]
      exact hy)
    refine ⟨x :: xs, by simp [h1], ?_, ?_⟩
    · rw [List.flatMap_cons, ← h2, ← hx, List.take_append_drop]
    · intro y hy
      rcases List.mem_cons.1 hy with rfl | hy
      · exact hr
      · exact h3 y hy

def ib64 (z : Int) : Prop := -9223372036854775808 ≤ z ∧ z < 9223372036854775808
section
variable {P : Program} {w : World} {t e : TypeId} {cs : List Value}
theorem Opn.i64 (ht : P.underlying t = some (.int .i64)) (h : Opn P w t cs) : ∃ n, cs = [I n] ∧ ib64 n := by
  obtain ⟨n, h1, h2⟩ := h.int ht
  exact ⟨n, h1, by have := bounds_i64 h2; unfold ib64; omega⟩
theorem Opn.rowA {α : Type} {f : α → List Value} {R : α → Prop} {s : Nat} (ht : P.underlying t = some (.slice e)) (hs : P.cellsOf e = s) (hs0 : 0 < s) (hf : ∀ x, (f x).length = s) (h : Opn P w t cs) (he : ∀ c, Opn P w e c → ∃ x, c = f x ∧ R x) :
    ∃ v xs, cs = [v] ∧ SlA w.heap f s v xs ∧ (∀ x ∈ xs, R x) ∧ xs.length ≤ maxLen := by
  obtain ⟨v, n, es, h1, h2, h3, h4, h5⟩ := h.slice ht hs hs0
  obtain ⟨xs, g1, g2, g3⟩ := chunks (f := f) (R := R) n es h3 (fun i hi => he _ (h5 i hi))
  subst g1
  exact ⟨v, xs, h1, ⟨hf, by rw [← g2]; exact h2⟩, g3, h4⟩
theorem flat_one {α : Type} (f : α → Value) (xs : List α) : xs.flatMap (fun x => [f x]) = xs.map f := by
  induction xs with
  | nil => rfl
  | cons x xs ih => rw [List.flatMap_cons, ih]; rfl
theorem SlA.one' {α : Type} {f : α → Value} {h : Hp} {v : Value} {xs : List α} (s : SlA h (fun x => [f x]) 1 v xs) : SlF h f v xs := by
  have := s.2
  rw [flat_one] at this
  exact this
theorem Opn.ints (ht : P.underlying t = some (.slice e)) (he : P.underlying e = some (.int .i64)) (hc : P.cellsOf e = 1) (h : Opn P w t cs) :
    ∃ v xs, cs = [v] ∧ SlF w.heap I v xs ∧ (∀ x ∈ xs, ib64 x) ∧ xs.length ≤ maxLen := by
  obtain ⟨v, xs, h1, h2, h3, h4⟩ := h.rowA (f := fun x => [I x]) (R := ib64) ht hc Nat.zero_lt_one (fun _ => rfl) (fun c hc => Opn.i64 he hc)
  exact ⟨v, xs, h1, h2.one', h3, h4⟩
/-- A row of int, told with its front. -/
def RowI (h : Hp) (x : Value × List Int) : Prop := SlF h I x.1 x.2 ∧ (∀ z ∈ x.2, ib64 z) ∧ x.2.length ≤ maxLen
theorem Opn.introws {e2 : TypeId} (ht : P.underlying t = some (.slice e)) (he : P.underlying e = some (.slice e2)) (he2 : P.underlying e2 = some (.int .i64)) (hc : P.cellsOf e = 1) (hc2 : P.cellsOf e2 = 1) (h : Opn P w t cs) :
    ∃ v xs, cs = [v] ∧ SlF w.heap Prod.fst v xs ∧ (∀ x ∈ xs, RowI w.heap x) ∧ xs.length ≤ maxLen := by
  obtain ⟨v, xs, h1, h2, h3, h4⟩ := h.rowA (f := fun x : Value × List Int => [x.1]) (R := RowI w.heap) ht hc Nat.zero_lt_one (fun _ => rfl) (fun c hc => by
    obtain ⟨v, xs, g1, g2, g3, g4⟩ := Opn.ints he he2 hc2 hc
    exact ⟨(v, xs), g1, g2, g3, g4⟩)
  exact ⟨v, xs, h1, h2.one', h3, h4⟩
theorem arg_ints {v : Value} (ht : P.underlying t = some (.slice e)) (he : P.underlying e = some (.int .i64)) (hc : P.cellsOf e = 1) (hv : ∃ a len cap, v = .slice a len cap) (h : Opn P w t v.cells.toList) :
    ∃ xs, SlF w.heap I v xs ∧ (∀ x ∈ xs, ib64 x) ∧ xs.length ≤ maxLen := by
  obtain ⟨a, len, cap, rfl⟩ := hv
  obtain ⟨v, xs, e1, h2⟩ := h.ints ht he hc
  simp [Value.cells] at e1
  subst e1
  exact ⟨xs, h2⟩
theorem arg_introws {e2 : TypeId} {v : Value} (ht : P.underlying t = some (.slice e)) (he : P.underlying e = some (.slice e2)) (he2 : P.underlying e2 = some (.int .i64)) (hc : P.cellsOf e = 1) (hc2 : P.cellsOf e2 = 1) (hv : ∃ a len cap, v = .slice a len cap) (h : Opn P w t v.cells.toList) :
    ∃ xs, SlF w.heap Prod.fst v xs ∧ (∀ x ∈ xs, RowI w.heap x) ∧ xs.length ≤ maxLen := by
  obtain ⟨a, len, cap, rfl⟩ := hv
  obtain ⟨v, xs, e1, h2⟩ := h.introws ht he he2 hc hc2
  simp [Value.cells] at e1
  subst e1
  exact ⟨xs, h2⟩
/-- A part of a struct. -/
theorem Opn.part {fs : Array Field} {tt : TypeId} {off s : Nat} (ht : P.underlying t = some (.struct fs)) (i : Nat) (hi : (fs[i]?).map (fun f => (f.type, f.offset, P.cellsOf f.type)) = some (tt, off, s)) (h : Opn P w t cs) : Opn P w tt ((cs.drop off).take s) := by
  obtain ⟨-, g2⟩ := h.struct ht
  cases hf : fs[i]? with
  | none => rw [hf] at hi; cases hi
  | some f =>
    rw [hf] at hi
    simp only [Option.map_some, Option.some.injEq, Prod.mk.injEq] at hi
    obtain ⟨rfl, rfl, rfl⟩ := hi
    exact g2 i f hf
theorem Opn.width {fs : Array Field} {s : Nat} (ht : P.underlying t = some (.struct fs)) (hc : P.cellsOf t = s) (h : Opn P w t cs) : cs.length = s := by
  obtain ⟨g1, -⟩ := h.struct ht
  rw [g1, hc]
end
end Go.Den

/- What the listed table reads as when the call begins. No condition. -/
namespace Go.Proofs.YtajgcmgkhmkmbaaDoor
set_option linter.unusedVariables false
set_option maxRecDepth 8000
open Go Go.Den Go.RowKit Go.ChangeShapes Go.WideShapes

def laidL : List (String × DataW Unit) := [("math/bits.deBruijn64tab", Rows.laid_math_bits_deBruijn64tab)]
theorem laid_eq : (Rows.laid_math_bits_deBruijn64tab : DataW Unit) = .agg (tzT.map fun b => .lit (.int .u8 ((b : Nat) : Int))) := rfl
theorem gTab : Tryd.prog.globalNamed "math/bits.deBruijn64tab" = some 0 := by kernel_rfl
theorem tTab : (Tryd.prog.globals[0]?).map (·.type) = some 114 := by kernel_rfl
theorem tb_of_laid {W : World} (h : laidMetH Tryd.prog laidL W) : TB W.heap := by
  rw [MakeChecks.laidMetH_plain _ _ _ (by kernel_rfl)] at h
  obtain ⟨ps, ⟨g0, t0, cs0, f0, p0, q0, hg0, ht0, hv0, hd0, hrest⟩, hrest2⟩ := h
  obtain rfl := Option.some.inj (gTab.symm.trans hg0)
  obtain rfl := Option.some.inj (tTab.symm.trans ht0)
  rw [laid_eq] at hd0
  obtain ⟨xs, m1, -, hx1, hlen, hn, hel⟩ := DataW.trod_array Tryd.underlying114 hd0
  have c5 : Tryd.prog.cellsOf 5 = 1 := by kernel_rfl
  simp only [Prod.mk.injEq, DataW.agg.injEq] at hx1
  have key : ∀ j, j < 64 → cs0.toList[j]? = some (.int .u8 ((tzT.getD j 0 : Nat) : Int)) := fun j hj => by
    have hxj : xs[j]? = some xs[j] := List.getElem?_eq_getElem (by omega)
    have h1 := hel j hj
    rw [c5, Nat.mul_one, hxj] at h1
    obtain ⟨k, e1, e2, -⟩ := DataW.trod_int Tryd.underlying5 h1
    have h2 := congrArg (fun l => l[j]?) hx1.1
    simp only [List.getElem?_map, hxj, Option.map_some] at h2
    rw [List.getElem?_eq_getElem (show j < tzT.length from hj), Option.map_some, Option.some.injEq] at h2
    rw [e2] at h2
    simp only [DataW.lit.injEq, Lit.int.injEq, true_and] at h2
    have h3 : (List.drop j cs0.toList)[0]? = some (Value.int .u8 k) := by
      have : ((List.drop j cs0.toList).take 1)[0]? = some (Value.int .u8 k) := by rw [e1]; rfl
      rwa [List.getElem?_take, if_pos (by omega)] at this
    rw [List.getElem?_drop, Nat.add_zero] at h3
    rw [h3, List.getD_eq_getElem?_getD, List.getElem?_eq_getElem (show j < tzT.length from hj), Option.getD_some, h2]
  refine ⟨_, 0, rfl, fun j u hu => ?_⟩
  rw [List.getElem?_map, Option.map_eq_some_iff] at hu
  obtain ⟨b, hb, rfl⟩ := hu
  have hj : j < 64 := (List.getElem?_eq_some_iff.1 hb).1
  have h4 := World.var?_cell hg0 hv0 j
  rw [cell?_cellH] at h4
  rw [Nat.zero_add, h4]
  have h5 := key j hj
  rw [List.getD_eq_getElem?_getD, hb, Option.getD_some] at h5
  simpa using h5

/-- The heap that the program's own start leaves meets the condition. -/
theorem door_met (os : Os) (args : Array Value) : laidMetH Tryd.prog laidL ((World.doorLaid Tryd.prog 400 os).forCall (fun _ _ => 0) ⟨#[], args, []⟩).memory :=
  laidMetH_of_parts3 (fuel := 8) (laidMet_of_run' 8 (by kernel_rfl) (by kernel_rfl)) (by kernel_rfl) (by kernel_rfl)
end Go.Proofs.YtajgcmgkhmkmbaaDoor

/- What parameters that came in read as. No condition. -/
namespace Go.Proofs.YtajgcmgkhmkmbaaDoor
set_option linter.unusedVariables false
set_option maxRecDepth 8000
open Go Go.Den Go.RowKit Go.ChangeShapes Go.WideShapes

theorem opn_par {w : World} {v : Value} (hv : ∃ cs, v = .agg cs) (h : Opn Tryd.prog w 35 v.cells.toList) : ∃ p : ParD, v = .agg p.cells.toArray ∧ ParA0 w.heap p := by
  obtain ⟨cs, rfl⟩ := hv
  have hl := h.width (P := Tryd.prog) Tryd.underlying35 (s := 4) (by kernel_rfl)
  obtain ⟨a0, h0, -⟩ := (h.part (P := Tryd.prog) Tryd.underlying35 0 (tt := 3) (off := 0) (s := 1) (by kernel_rfl)).i64 (by kernel_rfl)
  obtain ⟨z1, h1, w1⟩ := (h.part (P := Tryd.prog) Tryd.underlying35 1 (tt := 31) (off := 1) (s := 1) (by kernel_rfl)).int (k := .u64) (by kernel_rfl)
  obtain ⟨v2, x2, h2, s2, b2, l2⟩ := opn_words (e := 31) (by kernel_rfl) (by kernel_rfl) (by kernel_rfl) (h.part (P := Tryd.prog) Tryd.underlying35 2 (tt := 22) (off := 2) (s := 1) (by kernel_rfl))
  obtain ⟨a3, h3, -⟩ := (h.part (P := Tryd.prog) Tryd.underlying35 3 (tt := 3) (off := 3) (s := 1) (by kernel_rfl)).i64 (by kernel_rfl)
  obtain ⟨n1, rfl, b1⟩ := nat_of_lit w1
  simp only [Value.cells] at hl h0 h1 h2 h3
  obtain ⟨cs, rfl⟩ : ∃ l : List Value, cs = l.toArray := ⟨cs.toList, by simp⟩
  simp only [] at hl h0 h1 h2 h3
  match cs, hl with
  | [c0, c1, c2, c3], _ =>
    simp at h0 h1 h2 h3
    subst h0 h1 h2 h3
    have hl2 : x2.length < 9223372036854775808 := Nat.lt_of_le_of_lt l2 (by decide)
    exact ⟨⟨a0, n1, c2, x2, a3⟩, rfl, ⟨s2, b2, b1, hl2⟩⟩
end Go.Proofs.YtajgcmgkhmkmbaaDoor

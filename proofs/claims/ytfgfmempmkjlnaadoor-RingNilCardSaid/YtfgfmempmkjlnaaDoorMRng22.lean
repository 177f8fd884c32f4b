/- Texts RngG to OpenR of this work, joined: each says in its own head what it proves, and of which condition. -/
import Derived.Test.YtfgfmempmkjlnaaDoorMRng21
import Derived.ProofKit
import Derived.OpenShut
import Derived.ShutString
import Derived.ChangeOld
import Derived.Below
import Derived.Test.YtfgfmempmkjlnaaDoorRows
import Derived.LaidMore
import Derived.LaidLaws
import Derived.MakeChecks
/- Package ring: the fixed calls. Condition: the table of math/bits reads as it is laid. -/
namespace Go.Proofs.YtfgfmempmkjlnaaDoor
set_option linter.unusedVariables false
set_option maxRecDepth 8000
open Go Go.Den Go.RowKit Go.Mth Go.Dig

theorem two_of {α : Type} {l : List α} (h : l.length = 2) : ∃ a b, l = [a, b] := by
  rcases l with _ | ⟨a, _ | ⟨b, _ | ⟨c, l⟩⟩⟩ <;> simp at h
  exact ⟨a, b, rfl⟩
theorem root13 {r : Nat} (h : RootR 13 4 r) : r = 5 := by
  obtain ⟨hr, w, hw, hp, ⟨j, hj, rfl⟩, hall⟩ := h
  have h0 := hall 0 (by decide)
  have h1 := hall 1 (by decide)
  have key : ∀ w, w < 13 → powm w (4 / 2) 13 = 13 - 1 → ∀ j, j < 4 / 2 → w ^ (2 * j + 1) % 13 ≤ w ^ (2 * 0 + 1) % 13 → w ^ (2 * j + 1) % 13 ≤ w ^ (2 * 1 + 1) % 13 → w ^ (2 * j + 1) % 13 = 5 := by decide
  exact key w hw hp j hj h0 h1
theorem isB13 : isB 13 = true := by decide +kernel
theorem qok5 : QOk 1 5 := ⟨by decide, by decide, by decide, isB5, 2, by decide, by decide, by decide⟩
theorem qok13 : QOk 1 13 := ⟨by decide, by decide, by decide, isB13, 2, by decide, by decide, by decide⟩
theorem mul5 {t : Tbl} {rs : List Nat} (K : TblOk t) (hL : t.L = 1) (hq : t.q = 5) (hR : RootR t.q 4 t.w) (P : Prd t [0, 1] [0, 1] rs) : rs = [4, 0] := by
  obtain ⟨L, q, w, u, p, vr, vu⟩ := t
  dsimp only at hL hq hR
  subst hL hq
  have hw := root5 hR
  subst hw
  exact prd_eq K P (by dsimp only; decide) (by
    intro k hk
    rcases (show k = 0 ∨ k = 1 by change k < 2 at hk; omega) with rfl | rfl <;> exact cgd (by dsimp only; decide))
theorem mul13 {t : Tbl} {rs : List Nat} (K : TblOk t) (hL : t.L = 1) (hq : t.q = 13) (hR : RootR t.q 4 t.w) (P : Prd t [0, 1] [0, 1] rs) : rs = [12, 0] := by
  obtain ⟨L, q, w, u, p, vr, vu⟩ := t
  dsimp only at hL hq hR
  subst hL hq
  have hw := root13 hR
  subst hw
  exact prd_eq K P (by dsimp only; decide) (by
    intro k hk
    rcases (show k = 0 ∨ k = 1 by change k < 2 at hk; omega) with rfl | rfl <;> exact cgd (by dsimp only; decide))

theorem same_two {u0 u1 v0 v1 : Value} {a b : List Nat} : ∀ (i : Nat) (x y : Value × List Nat), [(u0, a), (u1, b)][i]? = some x → [(v0, a), (v1, b)][i]? = some y → x.2 = y.2 := by
  intro i x y hx hy
  rcases i with _ | _ | i
  · cases hx; cases hy; rfl
  · cases hx; cases hy; rfl
  · cases hx
theorem short_two {u0 u1 : Value} {a b : List Nat} (ha : a.length < 1000000) (hb : b.length < 1000000) : ∀ x ∈ [(u0, a), (u1, b)], x.2.length < 1000000 := by
  intro x hx
  simp only [List.mem_cons, List.not_mem_nil, or_false] at hx
  rcases hx with rfl | rfl
  · exact ha
  · exact hb

theorem Tryd_ent35 : Ent Tryd.prog 35 := ent_of Tryd.func35 (by kernel_rfl) rfl
set_option maxHeartbeats 2000000 in
theorem fixed05_spec (h : Hp) (T : TB h) : CallsH Tryd.prog 35 [] h fun v' h' => v' = .bool true ∧ Ext h h' := by
  (apply enter Tryd.func35 rfl Tryd.ntmps35 rfl)
  refine runJ ?_
  (apply (s_litF (f := U) [5, 13] (fun _ => rfl)); exact rfl; exact rfl; exact rfl; exact rfl; exact rfl; exact rfl; exact rfl; exact rfl; omega)
  intro w1 h1 o1 e1 b1
  refine ⟨(by first | exact trivial | exact Ext.refl _ | assumption | exact Ext.trans (by assumption) (by assumption)), ?_⟩
  have NW := ringNew_spec 1 w1 [5, 13] h1 (T.ext e1) o1.sl (by decide) (by decide) (by intro q hq; simp only [List.mem_cons, List.not_mem_nil, or_false] at hq; rcases hq with rfl | rfl; exact qok5; exact qok13) (by decide) (by decide) (by decide)
  refine runJ ?_
  apply (s_call Tryd_ent57 rfl rfl rfl)
  refine (NW).mono ?_
  rintro _ h2 ⟨e2, g, R, rfl, A, K, hL, hqs⟩
  refine ⟨(by first | exact trivial | exact trivial), ?_⟩
  refine runJ ?_
  (apply (s_litF (f := I) [0, 1] (fun _ => rfl)); exact rfl; exact rfl; exact rfl; exact rfl; exact rfl; exact rfl; exact rfl; exact rfl; omega)
  intro w3 h3 o3 e3 b3
  refine ⟨(by first | exact trivial | exact Ext.refl _ | assumption | exact Ext.trans (by assumption) (by assumption)), ?_⟩
  have LF := ringLift_spec g w3 R [0, 1] 1 h3 K (A.ext e3) o3.sl (by intro x hx; simp only [List.mem_cons, List.not_mem_nil, or_false] at hx; omega) (by rw [hL]; rfl) (by rw [hqs]; decide)
  rw [hqs] at LF
  refine runJ ?_
  apply (s_call Tryd_ent43 rfl rfl rfl)
  refine (LF).mono ?_
  rintro _ h4 ⟨e4, vr, rows, p, rfl, S4, m4⟩
  refine ⟨(by first | exact trivial | exact trivial), ?_⟩
  obtain ⟨⟨v0, a0⟩, ⟨v1, a1⟩, rfl⟩ := two_of (l := rows) (by have := congrArg List.length m4; rw [List.length_map] at this; exact this)
  have m4 : [a0, a1] = [[0, 1], [0, 1]] := m4
  obtain rfl : a0 = [0, 1] := (List.cons.inj m4).1
  obtain rfl : a1 = [0, 1] := (List.cons.inj (List.cons.inj m4).2).1
  have S4 := S4.pol
  have A4 := (A.ext e3).ext e4
  have PO : PolOk R [(v0, [0, 1]), (v1, [0, 1])] := ⟨Nat.zero_lt_succ _, by rw [hqs]; exact Nat.le_refl 2, by
    intro i q x hx hq
    rw [hqs] at hq
    rw [hL]
    rcases i with _ | _ | i
    · cases hx; cases hq; exact (by decide : Fit (2 ^ 1) 5 [0, 1])
    · cases hx; cases hq; exact (by decide : Fit (2 ^ 1) 13 [0, 1])
    · cases hx⟩
  obtain ⟨⟨g0, t0⟩, ⟨g1, t1⟩, hts⟩ := two_of (l := R.ts) (by have := congrArg List.length K.map; rw [List.length_map, hqs] at this; exact this)
  have hmap := K.map
  rw [hts, hqs] at hmap
  have hmap : [t0.q, t1.q] = [5, 13] := hmap
  have hq0 : t0.q = 5 := (List.cons.inj hmap).1
  have hq1 : t1.q = 13 := (List.cons.inj (List.cons.inj hmap).2).1
  have k0 := K.ok (g0, t0) (by rw [hts]; simp)
  have k1 := K.ok (g1, t1) (by rw [hts]; simp)
  have i0 : R.ts[0]? = some (g0, t0) := by rw [hts]; rfl
  have i1 : R.ts[1]? = some (g1, t1) := by rw [hts]; rfl
  refine runJ ?_
  (apply s_alloc; exact rfl; exact rfl; exact rfl)
  intro p3 h5 x5 e5 b5
  (try dsimp only [Value.cells, List.toList_toArray] at x5)
  refine ⟨(by first | exact trivial | exact Ext.refl _ | assumption | exact Ext.trans (by assumption) (by assumption)), ?_⟩
  refine runJ ?_
  (apply s_storeV; exact rfl; exact rfl; exact rfl; exact (OneAll.cons (S4).row.one OneAll.nil : OneAll [vr]); exact rfl; exact rfl; exact x5; exact rfl)
  intro h6 x6 k6
  refine ⟨trivial, ?_⟩
  have x6 : Var h6 p3 54 [vr] := x6
  have e6 : Ext h4 h6 := k6.oldV e5 b5 (Nat.le_refl _)
  have A6 := A4.ext e6
  have S6 := S4.ext e6
  refine runJ ?_
  apply (s_call Tryd_ent40 rfl rfl rfl)
  refine (ringMul_spec g vr vr R _ _ h6 K A6 S6 S6 PO PO rfl).mono ?_
  rintro _ h7 ⟨e7, vm, mr, pm, rfl, S7, l7, P7⟩
  refine ⟨(by first | exact trivial | exact trivial), ?_⟩
  obtain ⟨⟨u0, a0⟩, ⟨u1, a1⟩, rfl⟩ := two_of (l := mr) l7
  obtain rfl : a0 = [4, 0] := mul5 k0.1 (k0.2.1.trans hL) hq0 (by have := k0.2.2; rw [hL] at this; exact this) (P7 0 _ _ _ _ rfl rfl i0 rfl)
  obtain rfl : a1 = [12, 0] := mul13 k1.1 (k1.2.1.trans hL) hq1 (by have := k1.2.2; rw [hL] at this; exact this) (P7 1 _ _ _ _ rfl rfl i1 rfl)
  have S7 := S7.pol
  have x7 := x6.ext e7
  refine runJ ?_
  (apply s_alloc; exact rfl; exact rfl; exact rfl)
  intro p5 h8 x8 e8 b8
  (try dsimp only [Value.cells, List.toList_toArray] at x8)
  refine ⟨(by first | exact trivial | exact Ext.refl _ | assumption | exact Ext.trans (by assumption) (by assumption)), ?_⟩
  refine runJ ?_
  (apply s_storeV; exact rfl; exact rfl; exact rfl; exact (OneAll.cons (S7).row.one OneAll.nil : OneAll [vm]); exact rfl; exact rfl; exact x8; exact rfl)
  intro h9 x9 k9
  refine ⟨trivial, ?_⟩
  have x9 : Var h9 p5 54 [vm] := x9
  have e9 : Ext h7 h9 := k9.oldV e8 b8 (Nat.le_refl _)
  have y9 := x7.ext e9
  have A9 := (A6.ext e7).ext e9
  have S9 := (S6.ext e7).ext e9
  refine runJ ?_
  apply (s_call Tryd_ent41 rfl rfl rfl)
  refine (turn_spec g vr R _ 3 h9 K A9 S9 PO (by decide) (by decide)).mono ?_
  rintro _ h10 ⟨e10, vt, tr, pt, rfl, S10, l10, P10⟩
  refine ⟨(by first | exact trivial | exact trivial), ?_⟩
  obtain ⟨⟨y0, c0⟩, ⟨y1, c1⟩, rfl⟩ := two_of (l := tr) l10
  obtain rfl : c0 = [0, 4] := (P10 0 5 _ _ rfl (by rw [hqs]; rfl) rfl).trans (by rw [hL]; exact (by decide : turnL (2 ^ 1) 5 3 [0, 1] = [0, 4]))
  obtain rfl : c1 = [0, 12] := (P10 1 13 _ _ rfl (by rw [hqs]; rfl) rfl).trans (by rw [hL]; exact (by decide : turnL (2 ^ 1) 13 3 [0, 1] = [0, 12]))
  have S10 := S10.pol
  have x10 := x9.ext e10
  refine runJ ?_
  (apply s_alloc; exact rfl; exact rfl; exact rfl)
  intro p7 h11 x11 e11 b11
  (try dsimp only [Value.cells, List.toList_toArray] at x11)
  refine ⟨(by first | exact trivial | exact Ext.refl _ | assumption | exact Ext.trans (by assumption) (by assumption)), ?_⟩
  refine runJ ?_
  (apply s_storeV; exact rfl; exact rfl; exact rfl; exact (OneAll.cons (S10).row.one OneAll.nil : OneAll [vt]); exact rfl; exact rfl; exact x11; exact rfl)
  intro h12 x12 k12
  refine ⟨trivial, ?_⟩
  have x12 : Var h12 p7 54 [vt] := x12
  have e12 : Ext h10 h12 := k12.oldV e11 b11 (Nat.le_refl _)
  have y12 := x10.ext e12
  refine runJ ?_
  (apply (s_litF (f := U) [4, 0] (fun _ => rfl)); exact rfl; exact rfl; exact rfl; exact rfl; exact rfl; exact rfl; exact rfl; exact rfl; omega)
  intro w13 h13 o13 e13 b13
  refine ⟨(by first | exact trivial | exact Ext.refl _ | assumption | exact Ext.trans (by assumption) (by assumption)), ?_⟩
  refine runJ ?_
  (apply (s_litF (f := U) [12, 0] (fun _ => rfl)); exact rfl; exact rfl; exact rfl; exact rfl; exact rfl; exact rfl; exact rfl; exact rfl; omega)
  intro w14 h14 o14 e14 b14
  refine ⟨(by first | exact trivial | exact Ext.refl _ | assumption | exact Ext.trans (by assumption) (by assumption)), ?_⟩
  have q13 := o13.sl.ext e14
  have o14s := o14.sl
  refine runJ ?_
  (apply (s_lit (f := Prod.fst) (vs := [w13, w14]) [(w13, [4, 0]), (w14, [12, 0])]); exact rfl; exact rfl; exact rfl; exact rfl; exact rfl; exact rfl; exact OneAll.all (OneAll.cons q13.one (OneAll.cons o14s.one OneAll.nil)); exact rfl; exact rfl; exact rfl; omega)
  intro w15 h15 o15 e15 b15
  refine ⟨(by first | exact trivial | exact Ext.refl _ | assumption | exact Ext.trans (by assumption) (by assumption)), ?_⟩
  have x15 := (y12.ext e13).ext (e14.trans e15)
  have z15 := (((x10.ext e12).ext e13).ext (e14.trans e15))
  have y15 := (((y12.ext e13).ext e14).ext e15)
  have p15 : PolAt h15 w15 [(w13, [4, 0]), (w14, [12, 0])] := ⟨o15.sl, by
    intro x hx
    simp only [List.mem_cons, List.not_mem_nil, or_false] at hx
    rcases hx with rfl | rfl
    · exact q13.ext e15
    · exact o14s.ext e15⟩
  have S7' := S7.ext (((((e9.trans e10).trans e12).trans e13).trans e14).trans e15)
  refine runJ ?_
  (apply (s_build ([w15])); exact rfl; exact rfl; exact rfl; (repeat (first | exact CellsAll.nil | (apply CellsAll.cons; (first | exact oneL (by assumption) | exact oneL (SlF.one (by assumption)) | exact oneL (SlF.one (OwnF.sl (by assumption))) | exact oneL (Var.one (by assumption)) | exact rfl)))); exact rfl; exact rfl)
  refine runJ ?_
  apply (s_call Tryd_ent58 rfl rfl rfl)
  refine (same5_spec vm w15 _ _ h15 S7' p15 rfl same_two (Nat.lt_of_lt_of_le (Nat.lt_succ_self 2) (by decide)) (short_two (by decide) (by decide))).mono ?_
  rintro _ h16 ⟨rfl, e16⟩
  refine ⟨(by first | exact trivial | exact trivial), ?_⟩
  have z16 := x12.ext (((e13.trans e14).trans e15).trans e16)
  refine runJ ?_
  (apply (s_litF (f := U) [0, 4] (fun _ => rfl)); exact rfl; exact rfl; exact rfl; exact rfl; exact rfl; exact rfl; exact rfl; exact rfl; omega)
  intro w17 h17 o17 e17 b17
  refine ⟨(by first | exact trivial | exact Ext.refl _ | assumption | exact Ext.trans (by assumption) (by assumption)), ?_⟩
  refine runJ ?_
  (apply (s_litF (f := U) [0, 12] (fun _ => rfl)); exact rfl; exact rfl; exact rfl; exact rfl; exact rfl; exact rfl; exact rfl; exact rfl; omega)
  intro w18 h18 o18 e18 b18
  refine ⟨(by first | exact trivial | exact Ext.refl _ | assumption | exact Ext.trans (by assumption) (by assumption)), ?_⟩
  have q17 := o17.sl.ext e18
  have o18s := o18.sl
  refine runJ ?_
  (apply (s_lit (f := Prod.fst) (vs := [w17, w18]) [(w17, [0, 4]), (w18, [0, 12])]); exact rfl; exact rfl; exact rfl; exact rfl; exact rfl; exact rfl; exact OneAll.all (OneAll.cons q17.one (OneAll.cons o18s.one OneAll.nil)); exact rfl; exact rfl; exact rfl; omega)
  intro w19 h19 o19 e19 b19
  refine ⟨(by first | exact trivial | exact Ext.refl _ | assumption | exact Ext.trans (by assumption) (by assumption)), ?_⟩
  have p19 : PolAt h19 w19 [(w17, [0, 4]), (w18, [0, 12])] := ⟨o19.sl, by
    intro x hx
    simp only [List.mem_cons, List.not_mem_nil, or_false] at hx
    rcases hx with rfl | rfl
    · exact q17.ext e19
    · exact o18s.ext e19⟩
  have E19 := ((((((e12.trans e13).trans e14).trans e15).trans e16).trans e17).trans e18).trans e19
  have S10' := S10.ext E19
  refine runJ ?_
  (apply (s_build ([w19])); exact rfl; exact rfl; exact rfl; (repeat (first | exact CellsAll.nil | (apply CellsAll.cons; (first | exact oneL (by assumption) | exact oneL (SlF.one (by assumption)) | exact oneL (SlF.one (OwnF.sl (by assumption))) | exact oneL (Var.one (by assumption)) | exact rfl)))); exact rfl; exact rfl)
  refine runJ ?_
  apply (s_call Tryd_ent58 rfl rfl rfl)
  refine (same5_spec vt w19 _ _ h19 S10' p19 rfl same_two (Nat.lt_of_lt_of_le (Nat.lt_succ_self 2) (by decide)) (short_two (by decide) (by decide))).mono ?_
  rintro _ h20 ⟨rfl, e20⟩
  refine ⟨(by first | exact trivial | exact trivial), ?_⟩
  refine runJ ?_
  exact fin1 rfl rfl ⟨rfl, (((((((e1.trans e2).trans e3).trans e4).trans e6).trans e7).trans e9).trans e10).trans (E19.trans e20)⟩
end Go.Proofs.YtfgfmempmkjlnaaDoor

/- Package ring: the law RingNil. Condition: the table of math/bits reads as it is laid. -/
namespace Go.Proofs.YtfgfmempmkjlnaaDoor
set_option linter.unusedVariables false
set_option maxRecDepth 8000
open Go Go.Den Go.RowKit Go.Mth Go.Dig

theorem Tryd_ent10 : Ent Tryd.prog 10 := ent_of Tryd.func10 (by kernel_rfl) rfl
set_option maxHeartbeats 2000000 in
theorem ringNil_law (va : Value) (k : Int) (h : Hp) (T : TB h) :
    CallsH Tryd.prog 10 [.agg #[va], I k] h fun v' h' => v' = .bool true ∧ Ext h h' := by
  (apply enter Tryd.func10 rfl Tryd.ntmps10 rfl)
  refine runJ ?_
  (apply s_box; exact rfl; exact rfl; exact rfl; exact rfl)
  intro p2 h1 x1 e1 b1
  (try dsimp only [Value.cells, List.toList_toArray] at x1)
  refine ⟨(by first | exact trivial | exact Ext.refl _ | assumption | exact Ext.trans (by assumption) (by assumption)), ?_⟩
  refine runJ ?_
  apply (s_call Tryd_ent35 rfl rfl rfl)
  refine (fixed05_spec h1 (T.ext e1)).mono ?_
  rintro _ h2 ⟨rfl, e2⟩
  refine ⟨(by first | exact trivial | exact trivial), ?_⟩
  have x2 := x1.ext e2
  have E2 := e1.trans e2
  refine runJ ?_
  apply (s_call Tryd_ent36 rfl rfl rfl)
  refine (level_nil va h2).mono ?_
  rintro _ h3 ⟨rfl, e3⟩
  refine ⟨(by first | exact trivial | exact trivial), ?_⟩
  have x3 := x2.ext e3
  have E3 := E2.trans e3
  refine runJ ?_
  apply (s_call Tryd_ent37 rfl rfl rfl)
  refine (radd_nil va va h3).mono ?_
  rintro _ h4 ⟨rfl, e4⟩
  refine ⟨(by first | exact trivial | exact trivial), ?_⟩
  have x4 := x3.ext e4
  have E4 := E3.trans e4
  refine runJ ?_
  (apply s_alloc; exact rfl; exact rfl; exact rfl)
  intro p5 h5 y5 e5 b5
  (try dsimp only [Value.cells, List.toList_toArray] at y5)
  refine ⟨(by first | exact trivial | exact Ext.refl _ | assumption | exact Ext.trans (by assumption) (by assumption)), ?_⟩
  refine runJ ?_
  (apply s_storeV; exact rfl; exact rfl; exact rfl; (repeat (first | exact OneAll.nil | (apply OneAll.cons; (first | exact rfl | exact SlF.one (by assumption) | exact SlF.one (OwnF.sl (by assumption)) | exact Var.one (by assumption))))); exact rfl; exact rfl; exact y5; exact rfl)
  intro h6 y6 k6
  (try dsimp only [Value.cells, List.toList_toArray] at y6)
  refine ⟨(by first | exact trivial | exact Ext.refl _ | assumption | exact Ext.only (by assumption) _ | exact Only.trans (Ext.only (by assumption) _) (by assumption)), ?_⟩
  have e6 : Ext h4 h6 := k6.oldV e5 b5 (Nat.le_refl _)
  have x6 := x4.ext e6
  have E6 := E4.trans e6
  clear y5 k6 e5 b5 y6
  refine runJ ?_
  apply (s_call Tryd_ent38 rfl rfl rfl)
  refine (rsub_nil va va h6).mono ?_
  rintro _ h7 ⟨rfl, e7⟩
  refine ⟨(by first | exact trivial | exact trivial), ?_⟩
  have x7 := x6.ext e7
  have E7 := E6.trans e7
  refine runJ ?_
  (apply s_alloc; exact rfl; exact rfl; exact rfl)
  intro p8 h8 y8 e8 b8
  (try dsimp only [Value.cells, List.toList_toArray] at y8)
  refine ⟨(by first | exact trivial | exact Ext.refl _ | assumption | exact Ext.trans (by assumption) (by assumption)), ?_⟩
  refine runJ ?_
  (apply s_storeV; exact rfl; exact rfl; exact rfl; (repeat (first | exact OneAll.nil | (apply OneAll.cons; (first | exact rfl | exact SlF.one (by assumption) | exact SlF.one (OwnF.sl (by assumption)) | exact Var.one (by assumption))))); exact rfl; exact rfl; exact y8; exact rfl)
  intro h9 y9 k9
  (try dsimp only [Value.cells, List.toList_toArray] at y9)
  refine ⟨(by first | exact trivial | exact Ext.refl _ | assumption | exact Ext.only (by assumption) _ | exact Only.trans (Ext.only (by assumption) _) (by assumption)), ?_⟩
  have e9 : Ext h7 h9 := k9.oldV e8 b8 (Nat.le_refl _)
  have x9 := x7.ext e9
  have E9 := E7.trans e9
  clear y8 k9 e8 b8 y9
  refine runJ ?_
  apply (s_call Tryd_ent39 rfl rfl rfl)
  refine (rneg_nil va h9).mono ?_
  rintro _ h10 ⟨rfl, e10⟩
  refine ⟨(by first | exact trivial | exact trivial), ?_⟩
  have x10 := x9.ext e10
  have E10 := E9.trans e10
  refine runJ ?_
  (apply s_alloc; exact rfl; exact rfl; exact rfl)
  intro p11 h11 y11 e11 b11
  (try dsimp only [Value.cells, List.toList_toArray] at y11)
  refine ⟨(by first | exact trivial | exact Ext.refl _ | assumption | exact Ext.trans (by assumption) (by assumption)), ?_⟩
  refine runJ ?_
  (apply s_storeV; exact rfl; exact rfl; exact rfl; (repeat (first | exact OneAll.nil | (apply OneAll.cons; (first | exact rfl | exact SlF.one (by assumption) | exact SlF.one (OwnF.sl (by assumption)) | exact Var.one (by assumption))))); exact rfl; exact rfl; exact y11; exact rfl)
  intro h12 y12 k12
  (try dsimp only [Value.cells, List.toList_toArray] at y12)
  refine ⟨(by first | exact trivial | exact Ext.refl _ | assumption | exact Ext.only (by assumption) _ | exact Only.trans (Ext.only (by assumption) _) (by assumption)), ?_⟩
  have e12 : Ext h10 h12 := k12.oldV e11 b11 (Nat.le_refl _)
  have x12 := x10.ext e12
  have E12 := E10.trans e12
  clear y11 k12 e11 b11 y12
  refine runJ ?_
  apply (s_call Tryd_ent40 rfl rfl rfl)
  refine (rmul_nil va va h12).mono ?_
  rintro _ h13 ⟨rfl, e13⟩
  refine ⟨(by first | exact trivial | exact trivial), ?_⟩
  have x13 := x12.ext e13
  have E13 := E12.trans e13
  refine runJ ?_
  (apply s_alloc; exact rfl; exact rfl; exact rfl)
  intro p14 h14 y14 e14 b14
  (try dsimp only [Value.cells, List.toList_toArray] at y14)
  refine ⟨(by first | exact trivial | exact Ext.refl _ | assumption | exact Ext.trans (by assumption) (by assumption)), ?_⟩
  refine runJ ?_
  (apply s_storeV; exact rfl; exact rfl; exact rfl; (repeat (first | exact OneAll.nil | (apply OneAll.cons; (first | exact rfl | exact SlF.one (by assumption) | exact SlF.one (OwnF.sl (by assumption)) | exact Var.one (by assumption))))); exact rfl; exact rfl; exact y14; exact rfl)
  intro h15 y15 k15
  (try dsimp only [Value.cells, List.toList_toArray] at y15)
  refine ⟨(by first | exact trivial | exact Ext.refl _ | assumption | exact Ext.only (by assumption) _ | exact Only.trans (Ext.only (by assumption) _) (by assumption)), ?_⟩
  have e15 : Ext h13 h15 := k15.oldV e14 b14 (Nat.le_refl _)
  have x15 := x13.ext e15
  have E15 := E13.trans e15
  clear y14 k15 e14 b14 y15
  refine runJ ?_
  apply (s_call Tryd_ent41 rfl rfl rfl)
  refine (turn_nil va k h15).mono ?_
  rintro _ h16 ⟨rfl, e16⟩
  refine ⟨(by first | exact trivial | exact trivial), ?_⟩
  have x16 := x15.ext e16
  have E16 := E15.trans e16
  refine runJ ?_
  (apply s_alloc; exact rfl; exact rfl; exact rfl)
  intro p17 h17 y17 e17 b17
  (try dsimp only [Value.cells, List.toList_toArray] at y17)
  refine ⟨(by first | exact trivial | exact Ext.refl _ | assumption | exact Ext.trans (by assumption) (by assumption)), ?_⟩
  refine runJ ?_
  (apply s_storeV; exact rfl; exact rfl; exact rfl; (repeat (first | exact OneAll.nil | (apply OneAll.cons; (first | exact rfl | exact SlF.one (by assumption) | exact SlF.one (OwnF.sl (by assumption)) | exact Var.one (by assumption))))); exact rfl; exact rfl; exact y17; exact rfl)
  intro h18 y18 k18
  (try dsimp only [Value.cells, List.toList_toArray] at y18)
  refine ⟨(by first | exact trivial | exact Ext.refl _ | assumption | exact Ext.only (by assumption) _ | exact Only.trans (Ext.only (by assumption) _) (by assumption)), ?_⟩
  have e18 : Ext h16 h18 := k18.oldV e17 b17 (Nat.le_refl _)
  have x18 := x16.ext e18
  have E18 := E16.trans e18
  clear y17 k18 e17 b17 y18
  refine runJ ?_
  apply (s_call Tryd_ent42 rfl rfl rfl)
  refine (drop_nil va k h18).mono ?_
  rintro _ h19 ⟨rfl, e19⟩
  refine ⟨(by first | exact trivial | exact trivial), ?_⟩
  have x19 := x18.ext e19
  have E19 := E18.trans e19
  refine runJ ?_
  (apply s_alloc; exact rfl; exact rfl; exact rfl)
  intro p20 h20 y20 e20 b20
  (try dsimp only [Value.cells, List.toList_toArray] at y20)
  refine ⟨(by first | exact trivial | exact Ext.refl _ | assumption | exact Ext.trans (by assumption) (by assumption)), ?_⟩
  refine runJ ?_
  (apply s_storeV; exact rfl; exact rfl; exact rfl; (repeat (first | exact OneAll.nil | (apply OneAll.cons; (first | exact rfl | exact SlF.one (by assumption) | exact SlF.one (OwnF.sl (by assumption)) | exact Var.one (by assumption))))); exact rfl; exact rfl; exact y20; exact rfl)
  intro h21 y21 k21
  (try dsimp only [Value.cells, List.toList_toArray] at y21)
  refine ⟨(by first | exact trivial | exact Ext.refl _ | assumption | exact Ext.only (by assumption) _ | exact Only.trans (Ext.only (by assumption) _) (by assumption)), ?_⟩
  have e21 : Ext h19 h21 := k21.oldV e20 b20 (Nat.le_refl _)
  have x21 := x19.ext e21
  have E21 := E19.trans e21
  clear y20 k21 e20 b20 y21
  refine runJ ?_
  apply (s_call Tryd_ent43 rfl rfl rfl)
  refine (rlift_nil k h21).mono ?_
  rintro _ h22 ⟨rfl, e22⟩
  refine ⟨(by first | exact trivial | exact trivial), ?_⟩
  have x22 := x21.ext e22
  have E22 := E21.trans e22
  refine runJ ?_
  (apply s_alloc; exact rfl; exact rfl; exact rfl)
  intro p23 h23 y23 e23 b23
  (try dsimp only [Value.cells, List.toList_toArray] at y23)
  refine ⟨(by first | exact trivial | exact Ext.refl _ | assumption | exact Ext.trans (by assumption) (by assumption)), ?_⟩
  refine runJ ?_
  (apply s_storeV; exact rfl; exact rfl; exact rfl; (repeat (first | exact OneAll.nil | (apply OneAll.cons; (first | exact rfl | exact SlF.one (by assumption) | exact SlF.one (OwnF.sl (by assumption)) | exact Var.one (by assumption))))); exact rfl; exact rfl; exact y23; exact rfl)
  intro h24 y24 k24
  (try dsimp only [Value.cells, List.toList_toArray] at y24)
  refine ⟨(by first | exact trivial | exact Ext.refl _ | assumption | exact Ext.only (by assumption) _ | exact Only.trans (Ext.only (by assumption) _) (by assumption)), ?_⟩
  have e24 : Ext h22 h24 := k24.oldV e23 b23 (Nat.le_refl _)
  have x24 := x22.ext e24
  have E24 := E22.trans e24
  clear y23 k24 e23 b23 y24
  refine runJ ?_
  exact fin1 rfl rfl ⟨rfl, E24⟩
end Go.Proofs.YtfgfmempmkjlnaaDoor

/- What an argument that came in reads as: from the kit's reading of data to rows and variables of the own calculus. No condition. -/
namespace Go.Den
set_option linter.unusedVariables false
set_option maxRecDepth 8000
open Go Go.RowKit Go.ChangeShapes Go.WideShapes

/-- The cells read as data of the type. -/
def Opn (P : Program) (w : World) (t : TypeId) (cs : List Value) : Prop := ∃ (H : Type) (enc : TypeId × Value → H) (fuel : Nat) (x : DataW H × List MemPlace), DataW.trod enc P w 0 (fun _ => true) true fuel t cs = some x

theorem opn_of {P : Program} {w : World} {t : TypeId} {v : Value} {H : Type} {enc : TypeId × Value → H} {d : DataW H} {ps : List MemPlace} (h : DataW.Trod enc P w 0 (fun _ => true) true t v d ps) : Opn P w t v.cells.toList := by
  obtain ⟨fuel, hf⟩ := h
  exact ⟨H, enc, fuel, _, hf⟩

section
variable {P : Program} {w : World} {t : TypeId} {cs : List Value}

theorem Opn.bool (ht : P.underlying t = some .bool) (h : Opn P w t cs) : ∃ b, cs = [.bool b] := by
  obtain ⟨H, enc, fuel, x, h⟩ := h
  obtain ⟨b, h1, -⟩ := DataW.trod_bool ht h
  exact ⟨b, h1⟩
theorem Opn.int {k : IntKind} (ht : P.underlying t = some (.int k)) (h : Opn P w t cs) : ∃ n, cs = [.int k n] ∧ (Lit.int k n).wf = true := by
  obtain ⟨H, enc, fuel, x, h⟩ := h
  obtain ⟨n, h1, -, h2⟩ := DataW.trod_int ht h
  exact ⟨n, h1, h2⟩
theorem Opn.struct {fs : Array Field} (ht : P.underlying t = some (.struct fs)) (h : Opn P w t cs) : cs.length = P.cellsOf t ∧ ∀ (i : Nat) (f : Field), fs[i]? = some f → Opn P w f.type ((cs.drop f.offset).take (P.cellsOf f.type)) := by
  obtain ⟨H, enc, fuel, x, h⟩ := h
  obtain ⟨xs, n, -, -, h1, h2, h3⟩ := DataW.trod_struct ht h
  refine ⟨h1, fun i f hf => ?_⟩
  have hi : i < xs.length := by rw [h2]; exact (Array.getElem?_eq_some_iff.1 hf).1
  exact ⟨H, enc, n, xs[i], by rw [h3 i f hf]; simp [hi]⟩
/-- A slice: its cells, an element's worth at a time, read as data. -/
theorem Opn.slice {e : TypeId} {s : Nat} (ht : P.underlying t = some (.slice e)) (hs : P.cellsOf e = s) (hs0 : 0 < s) (h : Opn P w t cs) :
    ∃ v n es, cs = [v] ∧ Sl w.heap v n es ∧ es.length = n * s ∧ n ≤ maxLen ∧ ∀ i, i < n → Opn P w e ((es.drop (i * s)).take s) := by
  obtain ⟨H, enc, fuel, x, h⟩ := h
  rcases DataW.trod_slice ht h with ⟨rfl, -⟩ | ⟨a, len, cap, elems, rest, n, -, rfl, -, -, hl, hm, hlen, hel, -, -⟩
  · exact ⟨_, 0, [], rfl, Sl.nil _, by simp, Nat.zero_le _, fun i hi => by omega⟩
  · rw [hs] at hel
    have each : ∀ i, i < len → ∃ c, w.cells? 0 (a.add (i * s)) s = some c ∧ c.length = s ∧ Opn P w e c := fun i hi => by
      have h1 := hel i hi
      rw [List.getElem?_eq_getElem (by omega)] at h1
      cases hc : w.cells? 0 (a.add (i * s)) s with
      | none => rw [hc] at h1; cases h1
      | some c =>
        rw [hc] at h1
        refine ⟨c, rfl, (World.cells?_some hc).2.1, H, enc, n, _, h1⟩
    by_cases h0 : len = 0
    · subst h0
      exact ⟨_, 0, [], rfl, Sl.empty _ a cap, by simp, Nat.zero_le _, fun i hi => by omega⟩
    · have cellAt : ∀ i r, i < len → r < s → ∀ c, w.cells? 0 (a.add (i * s)) s = some c → w.cell? (a.add (i * s + r)) = c[r]? := fun i r hi hr c hc => by
        rw [← Addr.add_add]; exact (World.cells?_some hc).2.2 r hr
      have hspot : a.spot = none := by
        obtain ⟨c, hc, hcl, -⟩ := each 0 (by omega)
        have := cellAt 0 0 (by omega) hs0 c hc
        rw [List.getElem?_eq_getElem (by omega)] at this
        have e0 : a.add (0 * s + 0) = a := by simp [Addr.add]
        rw [e0] at this
        unfold World.cell? at this
        split at this
        · split at this
          · cases this
          · rename_i hsp; simpa using hsp
        · cases this
      obtain ⟨b, o, sp⟩ := a
      simp only at hspot
      subst hspot
      have total : ∀ j, j < len * s → ∃ u, w.cell? ((⟨b, o, none⟩ : Addr).add j) = some u := fun j hj => by
        have hi : j / s < len := (Nat.div_lt_iff_lt_mul hs0).2 hj
        have hr : j % s < s := Nat.mod_lt _ hs0
        obtain ⟨c, hc, hcl, -⟩ := each (j / s) hi
        have := cellAt (j / s) (j % s) hi hr c hc
        rw [List.getElem?_eq_getElem (by omega), Nat.mul_comm (j / s) s, Nat.div_add_mod] at this
        exact ⟨_, this⟩
      refine ⟨_, len, (List.range (len * s)).map (fun j => (w.cell? ((⟨b, o, none⟩ : Addr).add j)).getD undef), rfl, .inr ⟨b, o, cap, rfl, hl, fun j u hu => ?_⟩, by simp, Nat.le_trans hl hm, fun i hi => ?_⟩
      · rw [List.getElem?_map] at hu
        by_cases hj : j < len * s
        · rw [List.getElem?_range hj] at hu
          obtain ⟨u', hu'⟩ := total j hj
          rw [Option.map_some, hu', Option.getD_some] at hu
          cases hu
          rw [Addr.add_lit, cell?_cellH] at hu'
          exact hu'
        · rw [List.getElem?_eq_none (by simpa using hj)] at hu; cases hu
      · obtain ⟨c, hc, hcl, ho⟩ := each i hi
        have e : ((List.map (fun j => (w.cell? ((⟨b, o, none⟩ : Addr).add j)).getD undef) (List.range (len * s))).drop (i * s)).take s = c := by
          have hle : i * s + s ≤ len * s := by rw [← Nat.succ_mul]; exact Nat.mul_le_mul_right _ hi
          apply List.ext_getElem?
          intro r
          rw [List.getElem?_take]
          by_cases hr : r < s
          · rw [if_pos hr, List.getElem?_drop, List.getElem?_map, List.getElem?_range (by omega)]
            have := cellAt i r hi hr c hc
            rw [Option.map_some, this, List.getElem?_eq_getElem (by omega)]; rfl
          · rw [if_neg hr, List.getElem?_eq_none (by omega)]
        rw [e]; exact ho
end

/-! ### words -/
theorem nat_of_lit {n : Int} (h : (Lit.int .u64 n).wf = true) : ∃ m : Nat, n = (m : Int) ∧ m < 18446744073709551616 := by
  have := bounds_u64 h
  exact ⟨n.toNat, by omega, by omega⟩

def wordOf : Option Value → Nat
  | some (.int _ z) => z.toNat
  | _ => 0
theorem opn_words {P : Program} {w : World} {t e : TypeId} {cs : List Value} (ht : P.underlying t = some (.slice e)) (he : P.underlying e = some (.int .u64)) (hc : P.cellsOf e = 1) (h : Opn P w t cs) :
    ∃ v xs, cs = [v] ∧ SlF w.heap U v xs ∧ Dig.Al 18446744073709551616 xs ∧ xs.length ≤ maxLen := by
  obtain ⟨v, n, es, h1, h2, h3, h4, h5⟩ := h.slice ht hc Nat.zero_lt_one
  have key : ∀ i, i < n → ∃ m : Nat, es[i]? = some (U m) ∧ m < 18446744073709551616 := fun i hi => by
    obtain ⟨z, hz, hw⟩ := (h5 i hi).int he
    obtain ⟨m, rfl, hm⟩ := nat_of_lit hw
    refine ⟨m, ?_, hm⟩
    rw [Nat.mul_one] at hz
    have : (es.drop i)[0]? = some (U m) := by
      have h0 : ((es.drop i).take 1)[0]? = some (U m) := by rw [hz]; rfl
      rwa [List.getElem?_take, if_pos (by omega)] at h0
    rwa [List.getElem?_drop, Nat.add_zero] at this
  have hxs : es = ((List.range n).map fun i => wordOf es[i]?).map U := by
    apply List.ext_getElem?
    intro i
    by_cases hi : i < n
    · obtain ⟨m, hm, -⟩ := key i hi
      rw [List.getElem?_map, List.getElem?_map, List.getElem?_range hi]
      simp [hm, wordOf]
    · rw [List.getElem?_eq_none (by omega), List.getElem?_eq_none (by simp; omega)]
  refine ⟨v, (List.range n).map fun i => wordOf es[i]?, h1, ?_, ?_, by simpa using h4⟩
  · unfold SlF
    rw [← hxs]; simpa using h2
  · intro x hx
    obtain ⟨i, hi, rfl⟩ := List.mem_map.1 hx
    obtain ⟨m, hm, hlt⟩ := key i (List.mem_range.1 hi)
    rw [hm]
    simpa [wordOf] using hlt

/-- A struct of a bool and a row of words. -/
theorem opn_boolwords {P : Program} {w : World} {t tb tn e : TypeId} {cs : List Value} {f0 f1 : Field} (ht : P.underlying t = some (.struct #[f0, f1])) (h0 : (f0.type, f0.offset, P.cellsOf f0.type) = (tb, 0, 1)) (h1 : (f1.type, f1.offset, P.cellsOf f1.type) = (tn, 1, 1))
    (hb : P.underlying tb = some .bool) (hn : P.underlying tn = some (.slice e)) (he : P.underlying e = some (.int .u64)) (hc : P.cellsOf e = 1) (hz : P.cellsOf t = 2) (h : Opn P w t cs) :
    ∃ b v xs, cs = [.bool b, v] ∧ SlF w.heap U v xs ∧ Dig.Al 18446744073709551616 xs := by
  obtain ⟨g1, g2⟩ := h.struct ht
  simp only [Prod.mk.injEq] at h0 h1
  have o0 := g2 0 f0 (by simp)
  have o1 := g2 1 f1 (by simp)
  rw [h0.2.1, h0.2.2, h0.1] at o0
  rw [h1.2.1, h1.2.2, h1.1] at o1
  obtain ⟨b, e0⟩ := o0.bool hb
  obtain ⟨v, xs, e1, s, al, -⟩ := opn_words hn he hc o1
  refine ⟨b, v, xs, ?_, s, al⟩
  rw [hz] at g1
  match cs, g1 with
  | [c0, c1], _ =>
    simp at e0 e1
    rw [e0, e1]
theorem arg_words {P : Program} {w : World} {t e : TypeId} {v : Value} (ht : P.underlying t = some (.slice e)) (he : P.underlying e = some (.int .u64)) (hc : P.cellsOf e = 1) (hv : ∃ a len cap, v = .slice a len cap) (h : Opn P w t v.cells.toList) :
    ∃ xs, SlF w.heap U v xs ∧ Dig.Al 18446744073709551616 xs ∧ xs.length ≤ maxLen := by
  obtain ⟨a, len, cap, rfl⟩ := hv
  obtain ⟨v, xs, e1, h2⟩ := opn_words ht he hc h
  simp [Value.cells] at e1
  subst e1
  exact ⟨xs, h2⟩
theorem arg_boolwords {P : Program} {w : World} {t tb tn e : TypeId} {v : Value} {f0 f1 : Field} (ht : P.underlying t = some (.struct #[f0, f1])) (h0 : (f0.type, f0.offset, P.cellsOf f0.type) = (tb, 0, 1)) (h1 : (f1.type, f1.offset, P.cellsOf f1.type) = (tn, 1, 1))
    (hb : P.underlying tb = some .bool) (hn : P.underlying tn = some (.slice e)) (he : P.underlying e = some (.int .u64)) (hc : P.cellsOf e = 1) (hz : P.cellsOf t = 2) (hv : ∃ cs, v = .agg cs) (h : Opn P w t v.cells.toList) :
    ∃ b a xs, v = .agg #[.bool b, a] ∧ SlF w.heap U a xs ∧ Dig.Al 18446744073709551616 xs := by
  obtain ⟨cs, rfl⟩ := hv
  obtain ⟨b, a, xs, e1, h2, h3⟩ := opn_boolwords ht h0 h1 hb hn he hc hz h
  exact ⟨b, a, xs, by simp only [Value.cells] at e1; rw [show cs = #[.bool b, a] from Array.toList_inj.1 e1], h2, h3⟩
end Go.Den

/- What an argument that came in reads as: rows of ints, rows of rows, rows of structs. No condition. -/
namespace Go.Den
set_option linter.unusedVariables false
set_option maxRecDepth 8000
open Go Go.RowKit Go.ChangeShapes Go.WideShapes

theorem chunks {α : Type} {f : α → List Value} {R : α → Prop} {s : Nat} : ∀ (n : Nat) (es : List Value), es.length = n * s → (∀ i, i < n → ∃ x, (es.drop (i * s)).take s = f x ∧ R x) → ∃ xs : List α, xs.length = n ∧ es = xs.flatMap f ∧ ∀ x ∈ xs, R x
  | 0, es, hl, _ => ⟨[], rfl, by simpa using hl, by simp⟩
  | n + 1, es, hl, h => by
    obtain ⟨x, hx, hr⟩ := h 0 (by omega)
    rw [Nat.zero_mul, List.drop_zero] at hx
    have hl' : (es.drop s).length = n * s := by rw [List.length_drop, hl, Nat.succ_mul]; omega
    obtain ⟨xs, h1, h2, h3⟩ := chunks (f := f) (R := R) n (es.drop s) hl' (fun i hi => by
      obtain ⟨y, hy, hr⟩ := h (i + 1) (by omega)
      refine ⟨y, ?_, hr⟩
      rw [List.drop_drop, show s + i * s = (i + 1) * s by rw [Nat.succ_mul]; omega]
      exact hy)
    refine ⟨x :: xs, by simp [h1], ?_, ?_⟩
    · rw [List.flatMap_cons, ← h2, ← hx, List.take_append_drop]
    · intro y hy
      rcases List.mem_cons.1 hy with rfl | hy
      · exact hr
      · exact h3 y hy

def ib64 (z : Int) : Prop := -9223372036854775808 ≤ z ∧ z < 9223372036854775808
section
variable {P : Program} {w : World} {t e : TypeId} {cs : List Value}
theorem Opn.i64 (ht : P.underlying t = some (.int .i64)) (h : Opn P w t cs) : ∃ n, cs = [I n] ∧ ib64 n := by
  obtain ⟨n, h1, h2⟩ := h.int ht
  exact ⟨n, h1, by have := bounds_i64 h2; unfold ib64; omega⟩
theorem Opn.rowA {α : Type} {f : α → List Value} {R : α → Prop} {s : Nat} (ht : P.underlying t = some (.slice e)) (hs : P.cellsOf e = s) (hs0 : 0 < s) (hf : ∀ x, (f x).length = s) (h : Opn P w t cs) (he : ∀ c, Opn P w e c → ∃ x, c = f x ∧ R x) :
    ∃ v xs, cs = [v] ∧ SlA w.heap f s v xs ∧ (∀ x ∈ xs, R x) ∧ xs.length ≤ maxLen := by
  obtain ⟨v, n, es, h1, h2, h3, h4, h5⟩ := h.slice ht hs hs0
  obtain ⟨xs, g1, g2, g3⟩ := chunks (f := f) (R := R) n es h3 (fun i hi => he _ (h5 i hi))
  subst g1
  exact ⟨v, xs, h1, ⟨hf, by rw [← g2]; exact h2⟩, g3, h4⟩
theorem flat_one {α : Type} (f : α → Value) (xs : List α) : xs.flatMap (fun x => [f x]) = xs.map f := by
  induction xs with
  | nil => rfl
  | cons x xs ih => rw [List.flatMap_cons, ih]; rfl
theorem SlA.one' {α : Type} {f : α → Value} {h : Hp} {v : Value} {xs : List α} (s : SlA h (fun x => [f x]) 1 v xs) : SlF h f v xs := by
  have := s.2
  rw [flat_one] at this
  exact this
theorem Opn.ints (ht : P.underlying t = some (.slice e)) (he : P.underlying e = some (.int .i64)) (hc : P.cellsOf e = 1) (h : Opn P w t cs) :
    ∃ v xs, cs = [v] ∧ SlF w.heap I v xs ∧ (∀ x ∈ xs, ib64 x) ∧ xs.length ≤ maxLen := by
  obtain ⟨v, xs, h1, h2, h3, h4⟩ := h.rowA (f := fun x => [I x]) (R := ib64) ht hc Nat.zero_lt_one (fun _ => rfl) (fun c hc => Opn.i64 he hc)
  exact ⟨v, xs, h1, h2.one', h3, h4⟩
/-- A row of int, told with its front. -/
def RowI (h : Hp) (x : Value × List Int) : Prop := SlF h I x.1 x.2 ∧ (∀ z ∈ x.2, ib64 z) ∧ x.2.length ≤ maxLen
theorem Opn.introws {e2 : TypeId} (ht : P.underlying t = some (.slice e)) (he : P.underlying e = some (.slice e2)) (he2 : P.underlying e2 = some (.int .i64)) (hc : P.cellsOf e = 1) (hc2 : P.cellsOf e2 = 1) (h : Opn P w t cs) :
    ∃ v xs, cs = [v] ∧ SlF w.heap Prod.fst v xs ∧ (∀ x ∈ xs, RowI w.heap x) ∧ xs.length ≤ maxLen := by
  obtain ⟨v, xs, h1, h2, h3, h4⟩ := h.rowA (f := fun x : Value × List Int => [x.1]) (R := RowI w.heap) ht hc Nat.zero_lt_one (fun _ => rfl) (fun c hc => by
    obtain ⟨v, xs, g1, g2, g3, g4⟩ := Opn.ints he he2 hc2 hc
    exact ⟨(v, xs), g1, g2, g3, g4⟩)
  exact ⟨v, xs, h1, h2.one', h3, h4⟩
theorem arg_ints {v : Value} (ht : P.underlying t = some (.slice e)) (he : P.underlying e = some (.int .i64)) (hc : P.cellsOf e = 1) (hv : ∃ a len cap, v = .slice a len cap) (h : Opn P w t v.cells.toList) :
    ∃ xs, SlF w.heap I v xs ∧ (∀ x ∈ xs, ib64 x) ∧ xs.length ≤ maxLen := by
  obtain ⟨a, len, cap, rfl⟩ := hv
  obtain ⟨v, xs, e1, h2⟩ := h.ints ht he hc
  simp [Value.cells] at e1
  subst e1
  exact ⟨xs, h2⟩
theorem arg_introws {e2 : TypeId} {v : Value} (ht : P.underlying t = some (.slice e)) (he : P.underlying e = some (.slice e2)) (he2 : P.underlying e2 = some (.int .i64)) (hc : P.cellsOf e = 1) (hc2 : P.cellsOf e2 = 1) (hv : ∃ a len cap, v = .slice a len cap) (h : Opn P w t v.cells.toList) :
    ∃ xs, SlF w.heap Prod.fst v xs ∧ (∀ x ∈ xs, RowI w.heap x) ∧ xs.length ≤ maxLen := by
  obtain ⟨a, len, cap, rfl⟩ := hv
  obtain ⟨v, xs, e1, h2⟩ := h.introws ht he he2 hc hc2
  simp [Value.cells] at e1
  subst e1
  exact ⟨xs, h2⟩
/-- A part of a struct. -/
theorem Opn.part {fs : Array Field} {tt : TypeId} {off s : Nat} (ht : P.underlying t = some (.struct fs)) (i : Nat) (hi : (fs[i]?).map (fun f => (f.type, f.offset, P.cellsOf f.type)) = some (tt, off, s)) (h : Opn P w t cs) : Opn P w tt ((cs.drop off).take s) := by
  obtain ⟨-, g2⟩ := h.struct ht
  cases hf : fs[i]? with
  | none => rw [hf] at hi; cases hi
  | some f =>
    rw [hf] at hi
    simp only [Option.map_some, Option.some.injEq, Prod.mk.injEq] at hi
    obtain ⟨rfl, rfl, rfl⟩ := hi
    exact g2 i f hf
theorem Opn.width {fs : Array Field} {s : Nat} (ht : P.underlying t = some (.struct fs)) (hc : P.cellsOf t = s) (h : Opn P w t cs) : cs.length = s := by
  obtain ⟨g1, -⟩ := h.struct ht
  rw [g1, hc]
end
end Go.Den

/- What the listed table reads as when the call begins. No condition. -/
namespace Go.Proofs.YtfgfmempmkjlnaaDoor
set_option linter.unusedVariables false
set_option maxRecDepth 8000
open Go Go.Den Go.RowKit Go.ChangeShapes Go.WideShapes

def laidL : List (String × DataW Unit) := [("math/bits.deBruijn64tab", Rows.laid_math_bits_deBruijn64tab)]
theorem laid_eq : (Rows.laid_math_bits_deBruijn64tab : DataW Unit) = .agg (tzT.map fun b => .lit (.int .u8 ((b : Nat) : Int))) := rfl
theorem gTab : Tryd.prog.globalNamed "math/bits.deBruijn64tab" = some 2 := by kernel_rfl
theorem tTab : (Tryd.prog.globals[2]?).map (·.type) = some 122 := by kernel_rfl
theorem tb_of_laid {W : World} (h : laidMetH Tryd.prog laidL W) : TB W.heap := by
  rw [MakeChecks.laidMetH_plain _ _ _ (by kernel_rfl)] at h
  obtain ⟨ps, ⟨g0, t0, cs0, f0, p0, q0, hg0, ht0, hv0, hd0, hrest⟩, hrest2⟩ := h
  obtain rfl := Option.some.inj (gTab.symm.trans hg0)
  obtain rfl := Option.some.inj (tTab.symm.trans ht0)
  rw [laid_eq] at hd0
  obtain ⟨xs, m1, -, hx1, hlen, hn, hel⟩ := DataW.trod_array Tryd.underlying122 hd0
  have c5 : Tryd.prog.cellsOf 5 = 1 := by kernel_rfl
  simp only [Prod.mk.injEq, DataW.agg.injEq] at hx1
  have key : ∀ j, j < 64 → cs0.toList[j]? = some (.int .u8 ((tzT.getD j 0 : Nat) : Int)) := fun j hj => by
    have hxj : xs[j]? = some xs[j] := List.getElem?_eq_getElem (by omega)
    have h1 := hel j hj
    rw [c5, Nat.mul_one, hxj] at h1
    obtain ⟨k, e1, e2, -⟩ := DataW.trod_int Tryd.underlying5 h1
    have h2 := congrArg (fun l => l[j]?) hx1.1
    simp only [List.getElem?_map, hxj, Option.map_some] at h2
    rw [List.getElem?_eq_getElem (show j < tzT.length from hj), Option.map_some, Option.some.injEq] at h2
    rw [e2] at h2
    simp only [DataW.lit.injEq, Lit.int.injEq, true_and] at h2
    have h3 : (List.drop j cs0.toList)[0]? = some (Value.int .u8 k) := by
      have : ((List.drop j cs0.toList).take 1)[0]? = some (Value.int .u8 k) := by rw [e1]; rfl
      rwa [List.getElem?_take, if_pos (by omega)] at this
    rw [List.getElem?_drop, Nat.add_zero] at h3
    rw [h3, List.getD_eq_getElem?_getD, List.getElem?_eq_getElem (show j < tzT.length from hj), Option.getD_some, h2]
  refine ⟨_, 0, rfl, fun j u hu => ?_⟩
  rw [List.getElem?_map, Option.map_eq_some_iff] at hu
  obtain ⟨b, hb, rfl⟩ := hu
  have hj : j < 64 := (List.getElem?_eq_some_iff.1 hb).1
  have h4 := World.var?_cell hg0 hv0 j
  rw [cell?_cellH] at h4
  rw [Nat.zero_add, h4]
  have h5 := key j hj
  rw [List.getD_eq_getElem?_getD, hb, Option.getD_some] at h5
  simpa using h5

/-- The heap that the program's own start leaves meets the condition. -/
theorem door_met (os : Os) (args : Array Value) : laidMetH Tryd.prog laidL ((World.doorLaid Tryd.prog 400 os).forCall (fun _ _ => 0) ⟨#[], args, []⟩).memory :=
  laidMetH_of_parts3 (fuel := 8) (laidMet_of_run' 8 (by kernel_rfl) (by kernel_rfl)) (by kernel_rfl) (by kernel_rfl)
end Go.Proofs.YtfgfmempmkjlnaaDoor

/- What an element of a ring that came in reads as, no deeper than its one cell. No condition. -/
namespace Go.Proofs.YtfgfmempmkjlnaaDoor
set_option linter.unusedVariables false
set_option maxRecDepth 8000
open Go Go.Den Go.RowKit Go.ChangeShapes Go.WideShapes

theorem opn_cell {w : World} {v : Value} (hv : ∃ cs, v = .agg cs) (h : Opn Tryd.prog w 54 v.cells.toList) : ∃ c : Value, v = .agg #[c] := by
  obtain ⟨cs, rfl⟩ := hv
  have hl := h.width (P := Tryd.prog) Tryd.underlying54 (s := 1) (by kernel_rfl)
  simp only [Value.cells] at hl
  obtain ⟨cs, rfl⟩ : ∃ l : List Value, cs = l.toArray := ⟨cs.toList, by simp⟩
  simp only [] at hl
  match cs, hl with
  | [c0], _ => exact ⟨c0, rfl⟩
end Go.Proofs.YtfgfmempmkjlnaaDoor

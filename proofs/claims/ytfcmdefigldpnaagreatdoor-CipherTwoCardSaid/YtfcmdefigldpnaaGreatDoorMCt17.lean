/- Texts RngD to RtpA of this work, joined, without what the law does not lean on. -/
import Derived.Test.YtfcmdefigldpnaaGreatDoorMCt16
namespace Go.Proofs.YtfcmdefigldpnaaGreatDoor
set_option linter.unusedVariables false
set_option maxRecDepth 8000
open Go Go.Den Go.RowKit Go.Mth Go.Dig

theorem Tryz_ent111 : Ent Tryz.prog 111 := ent_of Tryz.func111 (by kernel_rfl) rfl
theorem pair_spec (g va vb : Value) (R : RngD) (xs ys : List (Value × List Nat)) (h : Hp) (K : RngOk R) (A : RngAt h g R) (sa : PolAt h va xs) (sb : PolAt h vb ys) (Pa : PolOk R xs) (Pb : PolOk R ys) (hab : xs.length = ys.length) :
    CallsH Tryz.prog 111 [g, .agg #[va], .agg #[vb]] h fun v' h' => v' = N 0 ∧ Ext h h' := by
  (apply enter Tryz.func111 rfl Tryz.ntmps111 rfl)
  refine runJ ?_
  (apply s_box; exact rfl; exact rfl; exact rfl; exact rfl)
  intro p4 h1 x1 e1 b1
  (try dsimp only [Value.cells, List.toList_toArray] at x1)
  refine ⟨(by first | exact trivial | exact Ext.refl _ | assumption | exact Ext.trans (by assumption) (by assumption)), ?_⟩
  refine runJ ?_
  (apply s_box; exact rfl; exact rfl; exact rfl; exact rfl)
  intro p5 h2 x2 e2 b2
  (try dsimp only [Value.cells, List.toList_toArray] at x2)
  refine ⟨(by first | exact trivial | exact Ext.refl _ | assumption | exact Ext.trans (by assumption) (by assumption)), ?_⟩
  have y1 := x1.ext e2
  have e12 := e1.trans e2
  refine runJ ?_
  apply (s_call Tryz_ent51 rfl rfl rfl)
  refine (level_spec g va R xs h2 K (A.ext e12) (sa.ext e12) Pa).mono ?_
  rintro _ h3 ⟨rfl, e3⟩
  refine ⟨(by first | exact trivial | exact trivial), ?_⟩
  have x3 := x2.ext e3
  refine runJ ?_
  apply (s_call Tryz_ent51 rfl rfl rfl)
  refine (level_spec g vb R ys h3 K (A.ext (e12.trans e3)) (sb.ext (e12.trans e3)) Pb).mono ?_
  rintro _ h4 ⟨rfl, e4⟩
  refine ⟨(by first | exact trivial | exact trivial), ?_⟩
  refine runJ ?_
  rw [decide_eq_false (show ¬ xs.length - 1 ≠ ys.length - 1 by omega)]
  refine runJ ?_
  exact fin1 rfl rfl ⟨rfl, e12.trans (e3.trans e4)⟩

theorem Tryz_ent56 : Ent Tryz.prog 56 := ent_of Tryz.func56 (by kernel_rfl) rfl
set_option maxHeartbeats 4000000 in
theorem ringMul_spec (g va vb : Value) (R : RngD) (xs ys : List (Value × List Nat)) (h : Hp) (K : RngOk R) (A : RngAt h g R) (sa : PolAt h va xs) (sb : PolAt h vb ys) (Pa : PolOk R xs) (Pb : PolOk R ys) (hab : xs.length = ys.length) :
    CallsH Tryz.prog 56 [g, .agg #[va], .agg #[vb]] h fun v' h' => Ext h h' ∧ ∃ vr rows p, v' = .tuple #[.agg #[vr], N 0] ∧ RowsAt h' h.size p vr rows ∧ rows.length = xs.length ∧
      ∀ (i : Nat) (x y : Value × List Nat) (t : Value × Tbl) (r : Value × List Nat), xs[i]? = some x → ys[i]? = some y → R.ts[i]? = some t → rows[i]? = some r → Prd t.2 x.2 y.2 r.2 := by
  have htl : R.ts.length = R.qs.length := by have := congrArg List.length K.map; rwa [List.length_map] at this
  have h24 := K.n24
  have hle := Pa.le
  (apply enter Tryz.func56 rfl Tryz.ntmps56 rfl)
  refine runJ ?_
  (apply s_box; exact rfl; exact rfl; exact rfl; exact rfl)
  intro p4 h1 x1 e1 b1
  (try dsimp only [Value.cells, List.toList_toArray] at x1)
  refine ⟨(by first | exact trivial | exact Ext.refl _ | assumption | exact Ext.trans (by assumption) (by assumption)), ?_⟩
  refine runJ ?_
  (apply s_box; exact rfl; exact rfl; exact rfl; exact rfl)
  intro p5 h2 x2 e2 b2
  (try dsimp only [Value.cells, List.toList_toArray] at x2)
  refine ⟨(by first | exact trivial | exact Ext.refl _ | assumption | exact Ext.trans (by assumption) (by assumption)), ?_⟩
  have y1 := x1.ext e2
  have e12 := e1.trans e2
  refine runJ ?_
  (apply s_alloc; exact rfl; exact rfl; exact rfl)
  intro p6 h3 x3 e3 b3
  (try dsimp only [Value.cells, List.toList_toArray] at x3)
  refine ⟨(by first | exact trivial | exact Ext.refl _ | assumption | exact Ext.trans (by assumption) (by assumption)), ?_⟩
  have z1 := y1.ext e3
  have z2 := x2.ext e3
  have e13 := e12.trans e3
  refine runJ ?_
  apply (s_call Tryz_ent111 rfl rfl rfl)
  refine (pair_spec g va vb R xs ys h3 K (A.ext e13) (sa.ext e13) (sb.ext e13) Pa Pb hab).mono ?_
  rintro _ h4 ⟨rfl, e4⟩
  refine ⟨(by first | exact trivial | exact trivial), ?_⟩
  have e14 := e13.trans e4
  have A4 := A.ext e14
  have G4 := A4.var
  have rt4 := A4.rt
  have w1 := z1.ext e4
  have w2 := z2.ext e4
  have w3 := x3.ext e4
  have sa4 := (sa.ext e14).row
  have sb4 := (sb.ext e14).row
  refine runJ ?_
  (apply (s_build ([.slice none 0 0])); exact rfl; exact rfl; exact rfl; (repeat (first | exact CellsAll.nil | (apply CellsAll.cons; (first | exact oneL (by assumption) | exact oneL (SlF.one (by assumption)) | exact oneL (SlF.one (OwnF.sl (by assumption))) | exact oneL (Var.one (by assumption)) | exact rfl)))); exact rfl; exact rfl)
  refine runJ ?_
  (apply s_alloc; exact rfl; exact rfl; exact rfl)
  intro p9 h5 x5 e5 b5
  (try dsimp only [Value.cells, List.toList_toArray] at x5)
  refine ⟨(by first | exact trivial | exact Ext.refl _ | assumption | exact Ext.trans (by assumption) (by assumption)), ?_⟩
  refine runJ ?_
  (apply s_storeV; exact rfl; exact rfl; exact rfl; (repeat (first | exact OneAll.nil | (apply OneAll.cons; (first | exact rfl | exact SlF.one (by assumption) | exact SlF.one (OwnF.sl (by assumption)) | exact Var.one (by assumption))))); exact rfl; exact rfl; exact x5; exact rfl)
  intro h6 x6 k6
  (try dsimp only [Value.cells, List.toList_toArray] at x6)
  refine ⟨(by first | exact trivial | exact Ext.refl _ | assumption | exact Ext.only (by assumption) _ | exact Only.trans (Ext.only (by assumption) _) (by assumption)), ?_⟩
  have e6 : Ext h4 h6 := k6.oldV e5 b5 (Nat.le_refl _)
  have e16 : Ext h h6 := e14.trans e6
  have G6 := G4.ext e6
  have v1 := w1.ext e6
  have v2 := w2.ext e6
  have v3 := w3.ext e6
  have rt6 := rt4.ext e6
  have sa6 := sa4.ext e6
  have sb6 := sb4.ext e6
  have c6 := rt6.cut (lo := 0) (hi := xs.length) (Nat.zero_le _) (by omega)
  rw [List.drop_zero, Nat.sub_zero] at c6
  have hcl : (R.ts.take xs.length).length = xs.length := by rw [List.length_take]; omega
  have ht : ∀ i t, (R.ts.take xs.length)[i]? = some t → R.ts[i]? = some t := fun i t k => by
    rw [List.getElem?_take] at k
    split at k
    · exact k
    · cases k
  have ht' : ∀ i t, i < xs.length → R.ts[i]? = some t → (R.ts.take xs.length)[i]? = some t := fun i t k k' => by
    rw [List.getElem?_take, if_pos k, k']
  have hk6s := e6.1
  have hb46 : h4.size < h6.size := by obtain ⟨j, hj, hlj⟩ := x6.blk; rw [b5] at hj; cases hj; exact hlj
  clear x5 k6 e5 x3 z1 z2 x1 y1 x2
  have c4 := rt4.cut (lo := 0) (hi := xs.length) (Nat.zero_le _) (by omega)
  rw [List.drop_zero, Nat.sub_zero] at c4
  have hb5 := b5
  refine runJ ?_
  generalize hrow : R.ts.take xs.length = row at *
  have ela := (sa.ext e14).el
  have elb := (sb.ext e14).el
  have tb4 := A4.tb
  have hok := K.ok
  have hmap := K.map
  have fa := Pa.fit
  have fb := Pb.fit
  clear v1 v2 v3 G6 rt6 sa6 sb6 c6 A4
  (first | (apply w_seqB; exact rfl; apply w_block; exact rfl) | skip)
  apply (w_loop (σ := Nat × List (Value × List Nat) × Value) rfl (fun j => [(4, p4), (5, p5), (6, p6), (9, p9), (10, .func (.func 112) #[] #[]), (31, cutV 1 R.vt 0 xs.length), (32, N row.length), (33, N j.1)])
    (fun j h' => Ext h4 h' ∧ h6.size ≤ h'.size ∧ j.1 ≤ xs.length ∧ Var h' p9 56 [j.2.2] ∧ RowsAt h' h4.size (some h4.size) j.2.2 j.2.1 ∧ j.2.1.length = j.1 ∧
      ∀ (i : Nat) (x y : Value × List Nat) (t : Value × Tbl) (r : Value × List Nat), xs[i]? = some x → ys[i]? = some y → R.ts[i]? = some t → j.2.1[i]? = some r → Prd t.2 x.2 y.2 r.2) (fun j => xs.length - j.1) (0, [], .slice none 0 0))
  · exact (Sub.cons rfl (Sub.cons rfl (Sub.cons rfl (Sub.cons rfl (Sub.cons rfl (Sub.cons rfl (Sub.cons rfl (Sub.cons rfl (Sub.nil _)))))))))
  · exact ⟨e6, Nat.le_refl _, Nat.zero_le _, x6, RowsAt.nil _ _ _, rfl, by intro i x y t r _ _ _ hr; cases hr⟩
  rintro ⟨j, rows, vR⟩ h7 ⟨e7, z7, j1, x7, R7, l7, m7⟩
  dsimp only at e7 z7 j1 x7 R7 l7 m7 ⊢
  have u1 := w1.ext e7
  have u2 := w2.ext e7
  have c7 := c4.ext e7
  have sa7 := sa4.ext e7
  have sb7 := sb4.ext e7
  have hpv : pblk p9 ≠ vR.ownBlock := by
    rw [hb5]; intro e
    rcases R7.vp with h0 | h0
    · rw [h0] at e; cases e
    · exact h0 e.symm
  refine runJ ?_
  (apply w_condD; exact rfl; exact rfl) <;> intro hj
  · have hjx : j < xs.length := by omega
    obtain ⟨x, hxj⟩ := get_lt hjx
    obtain ⟨y, hyj⟩ := get_lt (l := ys) (j := j) (by omega)
    obtain ⟨t, htj⟩ := get_lt (l := R.ts) (j := j) (by omega)
    have htr := ht' j t hjx htj
    have htm := List.mem_of_getElem? htj
    have hqj : R.qs[j]? = some t.2.q := by rw [← hmap, List.getElem?_map, htj]; rfl
    have Kt := (hok t htm).1
    have hL := (hok t htm).2.1
    have At := (tb4 t htm).ext e7
    have sx := (ela x (List.mem_of_getElem? hxj)).ext e7
    have sy := (elb y (List.mem_of_getElem? hyj)).ext e7
    have fx := fa j _ x hxj hqj
    have fy := fb j _ y hyj hqj
    rw [← hL] at fx fy
    obtain ⟨vx, xx⟩ := x
    obtain ⟨vy, yy⟩ := y
    obtain ⟨gt, T⟩ := t
    dsimp only at Kt At sx sy fx fy ⊢
    refine runJ ?_
    refine s_callV rfl Tryz_ent112 rfl rfl rfl ?_
    refine (nttMul_spec gt vx vy T xx yy h7 Kt At sx sy fx fy).mono ?_
    rintro _ h8 ⟨e8, wr, rs, rfl, o8, hprd⟩
    refine ⟨(by first | exact trivial | exact e8), ?_⟩
    have R8 := R7.ext e8
    have x8 := x7.ext e8
    have e48 := e7.trans e8
    have o8one := o8.sl.one
    have hlen : rows.length + 1 < 1000000 := by omega
    refine runJ ?_
    (refine s_app1V (bytes := 24) ((wr, rs)) R8.own e48 rfl rfl rfl rfl rfl rfl rfl rfl rfl (by first | exact rfl | exact congrArg some (congrArg I (by omega))) o8one rfl rfl (fun _ _ => trivial) (by omega) (by simp only [maxLen]; omega) ?_)
    intro v9 h9 o9 e9 k9 b9
    have x9 := x8.only k9 hpv
    refine runJ ?_
    (apply s_storeC; exact rfl; exact rfl; (first | exact rfl | exact SlF.one (by assumption) | exact SlF.one (OwnF.sl (by assumption)) | exact Var.one (by assumption)); exact rfl; exact rfl; exact x9; exact rfl)
    intro h10 x10 k10
    refine ⟨(by first | exact trivial | exact Ext.refl _ | assumption | exact Ext.only (by assumption) _ | exact Only.trans (Ext.only (by assumption) _) (by assumption)), ?_⟩
    have e10 : Ext h4 h10 := k10.oldV e9 hb5 (Nat.le_refl _)
    rw [hb5] at k10
    have R10 := R8.push (z := h7.size) (o8.base (Nat.le_trans hk6s z7)) (fun k hk => (o8.blk k hk).1) (fun k hk => (R7.own.blk k hk).2) (Nat.lt_of_lt_of_le hb46 z7) e8.1 o9 k9 b9 k10
    refine runJ ?_
    apply again_normal (j + 1, rows ++ [(wr, rs)], v9)
    · exact (Sub.cons rfl (Sub.cons rfl (Sub.cons rfl (Sub.cons rfl (Sub.cons rfl (Sub.cons rfl (Sub.cons rfl (Sub.cons rfl (Sub.nil _)))))))))
    · refine ⟨e10, Nat.le_trans z7 (Nat.le_trans e8.1 (Nat.le_trans k9.1 k10.1)), hjx, x10, R10, by dsimp only; rw [List.length_append]; simp [l7], ?_⟩
      dsimp only
      intro i x y t r hx hy ht2 hr
      rcases Nat.lt_or_ge i j with hij | hij
      · rw [List.getElem?_append_left (by omega)] at hr
        exact m7 i x y t r hx hy ht2 hr
      · have hi := (List.getElem?_eq_some_iff.1 hr).1
        rw [List.length_append] at hi
        simp only [List.length_cons, List.length_nil] at hi
        obtain rfl : i = j := by omega
        rw [List.getElem?_append_right (by omega), l7, Nat.sub_self] at hr
        rw [hxj] at hx
        rw [hyj] at hy
        rw [htj] at ht2
        cases hx; cases hy; cases ht2; cases hr
        exact hprd
    · dsimp only; omega
  · have hjn : j = xs.length := by omega
    subst hjn
    have w37 := w3.ext e7
    refine runJ ?_
    (apply s_storeV; exact rfl; exact rfl; exact rfl; exact (OneAll.cons R7.own.sl.one OneAll.nil : OneAll [vR]); exact rfl; exact rfl; exact w37; exact rfl)
    intro h8 x8 k8
    refine ⟨trivial, ?_⟩
    have x8 : Var h8 p6 56 [vR] := x8
    have e8 : Ext h h8 := k8.oldV (e14.trans e7) b3 (Nat.le_trans e1.1 e2.1)
    rw [b3] at k8
    have hb23 : h2.size < h4.size := by obtain ⟨b, hb, hlb⟩ := w3.blk; rw [b3] at hb; cases hb; exact hlb
    refine runJ ?_
    exact finCT rfl rfl rfl x8 rfl rfl ⟨e8, _, rows, _, rfl, (R7.low k8 hb23).base e14.1, l7, m7⟩
end Go.Proofs.YtfcmdefigldpnaaGreatDoor


namespace Go.Proofs.YtfcmdefigldpnaaGreatDoor
set_option linter.unusedVariables false
set_option maxRecDepth 8000
open Go Go.Den Go.RowKit Go.Mth Go.Dig

theorem Tryz_ent113 : Ent Tryz.prog 113 := ent_of Tryz.func113 (by kernel_rfl) rfl
theorem Tryz_ent57 : Ent Tryz.prog 57 := ent_of Tryz.func57 (by kernel_rfl) rfl
theorem Tryz_ent69 : Ent Tryz.prog 69 := ent_of Tryz.func69 (by kernel_rfl) rfl
theorem Tryz_ent67 : Ent Tryz.prog 67 := ent_of Tryz.func67 (by kernel_rfl) rfl
theorem same5_spec (va vb : Value) (xs ys : List (Value × List Nat)) (h : Hp) (sa : PolAt h va xs) (sb : PolAt h vb ys) (hab : xs.length = ys.length) (he : ∀ (i : Nat) (x y : Value × List Nat), xs[i]? = some x → ys[i]? = some y → x.2 = y.2) (hl : xs.length < 1000) (hx : ∀ x ∈ xs, x.2.length < 1000000) :
    CallsH Tryz.prog 67 [.agg #[va], .agg #[vb]] h fun v' h' => v' = .bool true ∧ Ext h h' := by
  (apply enter Tryz.func67 rfl Tryz.ntmps67 rfl)
  refine runJ ?_
  (apply s_box; exact rfl; exact rfl; exact rfl; exact rfl)
  intro p2 h1 x1 e1 b1
  (try dsimp only [Value.cells, List.toList_toArray] at x1)
  refine ⟨(by first | exact trivial | exact Ext.refl _ | assumption | exact Ext.trans (by assumption) (by assumption)), ?_⟩
  refine runJ ?_
  (apply s_box; exact rfl; exact rfl; exact rfl; exact rfl)
  intro p3 h2 x2 e2 b2
  (try dsimp only [Value.cells, List.toList_toArray] at x2)
  refine ⟨(by first | exact trivial | exact Ext.refl _ | assumption | exact Ext.trans (by assumption) (by assumption)), ?_⟩
  have y1 := x1.ext e2
  have e12 := e1.trans e2
  have sa2 := (sa.ext e12).row
  have sb2 := (sb.ext e12).row
  have ela := (sa.ext e12).el
  have elb := (sb.ext e12).el
  refine runJ ?_
  (apply w_condF; exact rfl; exact rfl; exact (show ¬ xs.length ≠ ys.length by omega))
  refine runJ ?_
  (first | (apply w_seqB; exact rfl; apply w_block; exact rfl) | skip)
  apply (w_loop (σ := Nat) rfl (fun j => [(2, p2), (3, p3), (15, N xs.length), (16, N j)])
    (fun j h' => h2 = h' ∧ j ≤ xs.length) (fun j => xs.length - j) 0)
  · exact (Sub.cons rfl (Sub.cons rfl (Sub.cons rfl (Sub.cons rfl (Sub.nil _)))))
  · exact ⟨rfl, Nat.zero_le _⟩
  rintro j h' ⟨rfl, j1⟩
  refine runJ ?_
  (apply w_condD; exact rfl; exact rfl) <;> intro hj
  · obtain ⟨x, hxj⟩ := get_lt hj
    obtain ⟨y, hyj⟩ := get_lt (l := ys) (j := j) (by omega)
    have sx := ela x (List.mem_of_getElem? hxj)
    have sy := elb y (List.mem_of_getElem? hyj)
    have hxl := hx x (List.mem_of_getElem? hxj)
    have exy := he j x y hxj hyj
    obtain ⟨vx, ws⟩ := x
    obtain ⟨vy, us⟩ := y
    dsimp only at sx sy exy hxl ⊢
    subst exy
    have hS := sameU9_spec vx vy ws ws h2 sx sy (by omega) (by omega)
    rw [decide_eq_true (rfl : ws = ws)] at hS
    refine runJ ?_
    apply (s_call Tryz_ent23 rfl rfl rfl)
    refine (hS).mono ?_
    rintro _ _ ⟨rfl, rfl⟩
    refine ⟨(by first | exact trivial | exact Ext.refl _), ?_⟩
    refine runJ ?_
    apply again_normal (j + 1)
    · exact (Sub.cons rfl (Sub.cons rfl (Sub.cons rfl (Sub.cons rfl (Sub.nil _)))))
    · exact ⟨rfl, hj⟩
    · omega
  · refine runJ ?_
    exact fin1 rfl rfl ⟨rfl, e12⟩
end Go.Proofs.YtfcmdefigldpnaaGreatDoor


namespace Go.Proofs.YtfcmdefigldpnaaGreatDoor
set_option linter.unusedVariables false
set_option maxRecDepth 8000
open Go Go.Den Go.RowKit Go.Mth Go.Dig

/-- The power of X that so many steps make. -/
def pow3 (n k : Nat) : Nat := 3 ^ k % (2 * n)
end Go.Proofs.YtfcmdefigldpnaaGreatDoor


namespace Go.Proofs.YtfcmdefigldpnaaGreatDoor
set_option linter.unusedVariables false
set_option maxRecDepth 8000
open Go Go.Den Go.RowKit Go.Mth Go.Dig

/-- What a batch holds. -/
structure BatD where
  L : Nat
  t : Nat
  vt : Value
  T : Tbl
  vp : Value
  ps : List (Nat × Nat)
def pr2 (x : Nat × Nat) : List Value := [N x.1, N x.2]
structure BatAt (h : Hp) (g : Value) (B : BatD) : Prop where mk ::
  var : Var h g 199 [N (2 ^ B.L), N (2 ^ B.L / 2), U B.t, B.vt, B.vp]
  tab : TblAt h B.vt B.T
  pl : SlA h pr2 2 B.vp B.ps
theorem BatAt.ext {h h' : Hp} {g : Value} {B : BatD} (s : BatAt h g B) (e : Ext h h') : BatAt h' g B := ⟨s.var.ext e, s.tab.ext e, s.pl.ext e⟩
/-- Where the value of a slot, and that beneath it, stand. -/
def place (n i : Nat) : Nat × Nat := ((pow3 n i - 1) / 2, (2 * n - pow3 n i - 1) / 2)
structure BatOk (B : BatD) : Prop where mk ::
  l1 : 1 ≤ B.L
  l9 : B.L ≤ 9
  tl : B.T.L = B.L
  tq : B.T.q = B.t
  ok : TblOk B.T
  root : RootR B.t (2 ^ (B.L + 1)) B.T.w
  ps : B.ps = (List.range (2 ^ B.L / 2)).map (place (2 ^ B.L))
theorem liftm_lt9 {v : Int} {t : Nat} (ht : 0 < t) : liftm v t < t := by
  unfold liftm
  rw [if_neg (by omega)]
  have h1 := Int.emod_nonneg v (show (t : Int) ≠ 0 by omega)
  have h2 := Int.emod_lt_of_pos v (show (0 : Int) < t by omega)
  omega
end Go.Proofs.YtfcmdefigldpnaaGreatDoor


namespace Go.Proofs.YtfcmdefigldpnaaGreatDoor
set_option linter.unusedVariables false
set_option maxRecDepth 8000
open Go Go.Den Go.RowKit Go.Mth

def fp (m : Nat) : Nat → Nat → Nat → Nat
  | 0, _, _ => 1 % m
  | f + 1, a, n => if n = 0 then 1 % m else if n % 2 = 1 then a * fp m f (a * a % m) (n / 2) % m else fp m f (a * a % m) (n / 2)
theorem fp_eq (m : Nat) : ∀ f a n, n < 2 ^ f → fp m f a n = a ^ n % m
  | 0, a, n, h => by
    obtain rfl : n = 0 := by rw [Nat.pow_zero] at h; omega
    rfl
  | f + 1, a, n, h => by
    unfold fp
    by_cases h0 : n = 0
    · rw [if_pos h0, h0, Nat.pow_zero]
    rw [if_neg h0, fp_eq m f _ _ (by rw [Nat.pow_succ] at h; omega)]
    have e : (a * a % m) ^ (n / 2) % m = a ^ (2 * (n / 2)) % m := by rw [← Nat.pow_mod, Nat.pow_mul, Nat.pow_two]
    rw [e]
    by_cases h1 : n % 2 = 1
    · rw [if_pos h1, Nat.mul_mod_mod, ← Nat.pow_succ', show (2 * (n / 2)).succ = n by omega]
    · rw [if_neg h1, show 2 * (n / 2) = n by omega]
theorem powm_fp {a n m : Nat} (hn : n < 18446744073709551616) (hm : m ≠ 0) : powm a n m = fp m 64 a n := by
  unfold powm; rw [if_neg hm, fp_eq m 64 a n hn]

def holdsF (n d s a : Nat) : Bool := a % n == 0 || (fp n 64 (a % n) d == 1 || (fp n 64 (a % n) d == n - 1 || holdsLoop n (s - 1) (fp n 64 (a % n) d)))
def isF (n : Nat) : Bool := if n < 4 ∨ n % 2 = 0 then n == 2 || n == 3 else bases.all (holdsF n ((n - 1) / 2 ^ tz (n - 1)) (tz (n - 1)))
theorem isB_fast {n : Nat} (hn : n < 18446744073709551616) (h0 : n ≠ 0) : isB n = isF n := by
  unfold isB isF
  have hd : (n - 1) / 2 ^ tz (n - 1) < 18446744073709551616 := Nat.lt_of_le_of_lt (Nat.div_le_self _ _) (by omega)
  have : holdsB n ((n - 1) / 2 ^ tz (n - 1)) (tz (n - 1)) = holdsF n ((n - 1) / 2 ^ tz (n - 1)) (tz (n - 1)) := by
    funext a
    unfold holdsB holdsF
    rw [powm_fp hd h0]
  rw [this]

def q3 : List Nat := [12289, 40961, 1152921504606830593]
def x3 : List Nat := [11, 3, 5]
def facts (r : Nat) (q X : Nat) : Bool := Nat.beq (q % (2 * 2 ^ (r + 1))) 1 && Nat.beq (fp q 64 (fp q 64 X ((q - 1) / 2 ^ (r + 2))) (2 ^ (r + 2) / 2)) (q - 1)
end Go.Proofs.YtfcmdefigldpnaaGreatDoor


namespace Go.Proofs.YtfcmdefigldpnaaGreatDoor
set_option linter.unusedVariables false
set_option maxRecDepth 8000
open Go Go.Den Go.RowKit Go.Mth Go.Dig

theorem par17 (w : Value) : parP ⟨8, 17, w, [97], 1⟩ := (by decide +kernel : parP ⟨8, 17, .bool false, [97], 1⟩)
end Go.Proofs.YtfcmdefigldpnaaGreatDoor


namespace Go.Proofs.YtfcmdefigldpnaaGreatDoor
set_option linter.unusedVariables false
set_option maxRecDepth 8000
open Go Go.Den Go.RowKit Go.Mth Go.Dig

/-- The places are unlike. -/
def apart (n : Nat) : Bool := (List.range (n / 2)).all fun i => Nat.blt (place n i).1 n && Nat.blt (place n i).2 n && !(Nat.beq (place n i).1 (place n i).2) && (List.range i).all fun j => !(Nat.beq (place n i).1 (place n j).1) && !(Nat.beq (place n i).1 (place n j).2) && !(Nat.beq (place n i).2 (place n j).1) && !(Nat.beq (place n i).2 (place n j).2)
/-- A row of slots, filled up with noughts. -/
def fillL (n t : Nat) (xs : List Int) : List Nat := (List.range (n / 2)).map fun i => if i < xs.length then liftm (xs.getD i 0) t else 0
end Go.Proofs.YtfcmdefigldpnaaGreatDoor


namespace Go.Mth
set_option linter.unusedVariables false
set_option maxRecDepth 8000

/-- A prime: nothing but 1 and itself goes into it. -/
def Pr (p : Nat) : Prop := 2 ≤ p ∧ ∀ d, d ∣ p → d = 1 ∨ d = p
theorem Pr.euclid {p a b : Nat} (h : Pr p) (k : p ∣ a * b) : p ∣ a ∨ p ∣ b := by
  rcases h.2 (Nat.gcd p a) (Nat.gcd_dvd_left p a) with h1 | h1
  · exact .inr (Nat.Coprime.dvd_of_dvd_mul_left h1 k)
  · exact .inl (h1 ▸ Nat.gcd_dvd_right p a)
theorem Pr.pow {p a : Nat} (h : Pr p) : ∀ n, p ∣ a ^ n → p ∣ a
  | 0, k => by
    rw [Nat.pow_zero] at k
    have := Nat.le_of_dvd (by decide) k
    have := h.1; omega
  | n + 1, k => by
    rw [Nat.pow_succ] at k
    rcases h.euclid k with k | k
    · exact h.pow n k
    · exact k

/-- Every number above 1 has a least divisor above 1, which is a prime; it is at most the root, if the number is none. -/
theorem least {n : Nat} (hn : 2 ≤ n) : ∃ p, Pr p ∧ p ∣ n ∧ ∀ d, 2 ≤ d → d ∣ n → p ≤ d := by
  have key : ∀ k, (∃ d, 2 ≤ d ∧ d ≤ k ∧ d ∣ n) → ∃ p, 2 ≤ p ∧ p ∣ n ∧ ∀ d, 2 ≤ d → d ∣ n → p ≤ d := by
    intro k
    induction k with
    | zero => rintro ⟨d, h1, h2, -⟩; omega
    | succ k ih =>
      rintro ⟨d, h1, h2, h3⟩
      by_cases hc : ∃ d, 2 ≤ d ∧ d ≤ k ∧ d ∣ n
      · exact ih hc
      · refine ⟨d, h1, h3, fun e he1 he2 => ?_⟩
        refine Classical.byContradiction fun hlt => hc ⟨e, he1, by omega, he2⟩
  obtain ⟨p, h1, h2, h3⟩ := key n ⟨n, hn, Nat.le_refl _, Nat.dvd_refl _⟩
  refine ⟨p, ⟨h1, fun d hd => ?_⟩, h2, h3⟩
  rcases Nat.lt_or_ge d 2 with hd2 | hd2
  · rcases Nat.eq_zero_or_pos d with rfl | h0
    · have := Nat.eq_zero_of_zero_dvd hd; omega
    · exact .inl (by omega)
  · exact .inr (Nat.le_antisymm (Nat.le_of_dvd (by omega) hd) (h3 d hd2 (Nat.dvd_trans hd h2)))

end Go.Mth


namespace Go.Proofs.YtfcmdefigldpnaaGreatDoor
set_option linter.unusedVariables false
set_option maxRecDepth 8000
open Go Go.Den Go.RowKit Go.Mth Go.Dig

/-- One product's share of the coefficient p. -/
def ctr (n : Nat) (X Y : Nat → Int) (p a b : Nat) : Int := if a + b = p then X a * Y b else if a + b = p + n then -(X a * Y b) else 0
/-- The product of two polynomials modulo X^n + 1. -/
def cnv (n : Nat) (X Y : Nat → Int) (p : Nat) : Int := sm n fun a => sm n fun b => ctr n X Y p a b
theorem cnv_dft {q w : Int} {n : Nat} (hw : Cg q (w ^ n) (-1)) (X Y : Nat → Int) (k : Nat) : Cg q (dft n w (cnv n X Y) k) (dft n w X k * dft n w Y k) := by
  have e1 : dft n w (cnv n X Y) k = sm n fun a => sm n fun b => sm n fun p => ctr n X Y p a b * w ^ (p * (2 * k + 1)) := by
    have e : dft n w (cnv n X Y) k = sm n fun p => sm n fun a => sm n fun b => ctr n X Y p a b * w ^ (p * (2 * k + 1)) := by
      unfold dft cnv
      refine sm_congr n fun p _ => ?_
      rw [← sm_mulR]
      exact sm_congr n fun a _ => (sm_mulR _ _).symm
    rw [e, sm_swap]
    exact sm_congr n fun a _ => sm_swap n n
  have e2 : dft n w X k * dft n w Y k = sm n fun a => sm n fun b => X a * w ^ (a * (2 * k + 1)) * (Y b * w ^ (b * (2 * k + 1))) := by
    unfold dft
    rw [← sm_mulR]
    exact sm_congr n fun a _ => (sm_mul _ _).symm
  rw [e1, e2]
  refine sm_cg n fun a ha => sm_cg n fun b hb => ?_
  have hp : w ^ (a * (2 * k + 1)) * w ^ (b * (2 * k + 1)) = w ^ ((a + b) * (2 * k + 1)) := by rw [Nat.add_mul, Int.pow_add]
  have e3 : X a * w ^ (a * (2 * k + 1)) * (Y b * w ^ (b * (2 * k + 1))) = X a * Y b * w ^ ((a + b) * (2 * k + 1)) := by rw [← hp]; ac_rfl
  rw [e3]
  rcases Nat.lt_or_ge (a + b) n with h | h
  · rw [sm_single (i := a + b) n h fun j hj hne => by unfold ctr; rw [if_neg (fun e => hne e.symm), if_neg (by omega), Int.zero_mul]]
    unfold ctr
    rw [if_pos rfl]
    exact Cg.refl _ _
  · rw [sm_single (i := a + b - n) n (by omega) fun j hj hne => by unfold ctr; rw [if_neg (by omega), if_neg (by omega), Int.zero_mul]]
    unfold ctr
    rw [if_neg (by omega), if_pos (by omega)]
    have e4 : w ^ ((a + b) * (2 * k + 1)) = w ^ ((a + b - n) * (2 * k + 1)) * w ^ (n * (2 * k + 1)) := by rw [← Int.pow_add, ← Nat.add_mul, Nat.sub_add_cancel h]
    rw [e4]
    have h5 := ((Cg.refl q (X a * Y b * w ^ ((a + b - n) * (2 * k + 1)))).mul (pow_odd hw k)).symm
    refine (Cg.of_eq ?_).trans (h5.trans (Cg.of_eq (Int.mul_assoc _ _ _)))
    rw [Int.mul_neg_one, Int.neg_mul]

/-- Sums of lists; a sum in another order. -/
def sl : List Int → Int
  | [] => 0
  | x :: xs => x + sl xs
/-- The product of two rows, as it was reckoned; its values. -/
def Cnv (n q : Nat) (xs ys zs : List Nat) : Prop := Fit n q zs ∧ ∀ p, p < n → Cg q (gt zs p) (cnv n (gt xs) (gt ys) p)
theorem Cnv.dft {q n : Nat} {w : Int} {xs ys zs : List Nat} (hw : Cg q (w ^ n) (-1)) (h : Cnv n q xs ys zs) (k : Nat) : Cg q (dft n w (gt zs) k) (dft n w (gt xs) k * dft n w (gt ys) k) :=
  (dft_cg h.2 k).trans (cnv_dft hw _ _ k)
end Go.Proofs.YtfcmdefigldpnaaGreatDoor


namespace Go.Proofs.YtfcmdefigldpnaaGreatDoor
set_option linter.unusedVariables false
set_option maxRecDepth 8000
open Go Go.Den Go.RowKit Go.Mth Go.Dig

/-- Sum, difference and what is below 0, word by word. -/
def addL (q : Nat) (xs ys : List Nat) : List Nat := List.zipWith (fun a b => addm a b q) xs ys
def subL (q : Nat) (xs ys : List Nat) : List Nat := List.zipWith (fun a b => subm a b q) xs ys
theorem addL_len {q : Nat} {xs ys : List Nat} (h : xs.length = ys.length) : (addL q xs ys).length = xs.length := by unfold addL; simp [h]
theorem addL_get {q i a b : Nat} {xs ys : List Nat} (h1 : xs[i]? = some a) (h2 : ys[i]? = some b) : (addL q xs ys)[i]? = some (addm a b q) := by
  unfold addL; rw [List.getElem?_zipWith, h1, h2]
theorem addL_fit {n q : Nat} {xs ys : List Nat} (hq : 0 < q) (h1 : xs.length = n) (h2 : ys.length = n) : Fit n q (addL q xs ys) := ⟨by rw [addL_len (by omega), h1], fun x hx => by
  obtain ⟨i, hi⟩ := List.getElem?_of_mem hx
  have hil := (List.getElem?_eq_some_iff.1 hi).1
  rw [addL_len (by omega)] at hil
  rw [addL_get (List.getElem?_eq_getElem hil) (List.getElem?_eq_getElem (show i < ys.length by omega))] at hi
  cases hi
  exact addm_lt hq⟩

theorem BatOk.cw {B : BatD} (K : BatOk B) : Cg B.t ((B.T.w : Int) ^ (2 ^ B.L)) (-1) := by
  have := K.ok.cw
  rwa [K.tl, K.tq] at this
end Go.Proofs.YtfcmdefigldpnaaGreatDoor


namespace Go.Proofs.YtfcmdefigldpnaaGreatDoor
set_option linter.unusedVariables false
set_option maxRecDepth 8000
open Go Go.Den Go.RowKit Go.Dig


/-- Where a tape's row lies. -/
structure Blk (h : Hp) (t v : Value) (B : Option Nat) : Prop where mk ::
  own : v.ownBlock = none ∨ v.ownBlock = B
  neq : B ≠ pblk t
  lt : ∀ b, B = some b → b < h.size
theorem Blk.ne {h : Hp} {t v : Value} {B : Option Nat} (s : Blk h t v B) : v.ownBlock = none ∨ v.ownBlock ≠ pblk t := by
  rcases s.own with e | e
  · exact .inl e
  · exact .inr (by rw [e]; exact s.neq)
theorem Blk.mono {h h' : Hp} {t v : Value} {B : Option Nat} (s : Blk h t v B) (e : h.size ≤ h'.size) : Blk h' t v B := ⟨s.own, s.neq, fun b hb => Nat.lt_of_lt_of_le (s.lt b hb) e⟩
theorem Blk.cut {h : Hp} {t v : Value} {B : Option Nat} {s lo hi : Nat} (k : Blk h t v B) : Blk h t (cutV s v lo hi) B := ⟨by
  cases v with
  | slice a n c =>
    cases a with
    | none => left; simp only [cutV, Option.map_none]; split <;> rfl
    | some a =>
      have e : (cutV s (.slice (some a) n c) lo hi).ownBlock = (Value.slice (some a) n c).ownBlock := by
        simp only [cutV, Option.map_some]
        split
        · rfl
        · simp only [Value.ownBlock, Addr.add]
          try (split <;> rfl)
      rw [e]; exact k.own
  | _ => exact k.own, k.neq, k.lt⟩
/-- t points to a tape with these draws left; o: was one missing? Its row lies in the block B. -/
def TapeAt (h : Hp) (t : Value) (B : Option Nat) (ds : List Nat) (o : Bool) : Prop := ∃ v, Var h t 87 [v, .bool o] ∧ SlF h U v ds ∧ Blk h t v B ∧ Al 18446744073709551616 ds ∧ ds.length < 4611686018427387904

/-- Behind a draw. -/
def Drawn (h : Hp) (t v' : Value) (B : Option Nat) (o : Bool) : List Nat → Prop
  | [] => v' = .tuple #[U 0, .bool false] ∧ TapeAt h t B [] true
  | d :: ds => v' = .tuple #[U d, .bool true] ∧ TapeAt h t B ds o

theorem Tryz_ent150 : Ent Tryz.prog 150 := ent_of Tryz.func150 (by kernel_rfl) rfl
theorem draw_spec (t : Value) (B : Option Nat) (ds : List Nat) (o : Bool) (h : Hp) (s : TapeAt h t B ds o) :
    CallsH Tryz.prog 150 [t] h fun v' h' => Only (pblk t) h h' ∧ Drawn h' t v' B o ds := by
  obtain ⟨v, s1, s2, s3, s4, s5⟩ := s
  (apply enter Tryz.func150 rfl Tryz.ntmps150 rfl)
  refine runH ?_
  (apply w_condD; exact rfl; exact rfl) <;> intro hn
  · have hd : ds = [] := List.eq_nil_of_length_eq_zero hn
    subst hd
    refine runH ?_
    (apply s_storeC; exact rfl; exact rfl; (first | exact rfl | exact SlF.one (by assumption) | exact SlF.one (OwnF.sl (by assumption)) | exact Var.one (by assumption)); exact rfl; exact rfl; exact s1; exact rfl)
    intro h2 t2 k2
    refine ⟨(by first | exact trivial | exact Ext.refl _ | assumption | exact Ext.only (by assumption) _ | exact Only.trans (Ext.only (by assumption) _) (by assumption)), ?_⟩
    refine runH ?_
    refine fin2 rfl rfl rfl ⟨k2, rfl, v, t2, s2.only k2 s3.ne, s3.mono k2.1, s4, s5⟩
  · obtain ⟨d, ds', rfl⟩ : ∃ d ds', ds = d :: ds' := by
      cases ds with
      | nil => exact absurd rfl hn
      | cons d ds' => exact ⟨d, ds', rfl⟩
    have hl : 0 < (d :: ds').length := by simp
    have hl1 : 1 ≤ (d :: ds').length := hl
    have c1 : SlF h U (cutV 1 v 1 (d :: ds').length) ds' := by simpa using s2.cut (lo := 1) (hi := (d :: ds').length) hl1 (Nat.le_refl _)
    refine runH ?_
    (apply s_storeC; exact rfl; exact rfl; (first | exact rfl | exact SlF.one (by assumption) | exact SlF.one (OwnF.sl (by assumption)) | exact Var.one (by assumption)); exact rfl; exact rfl; exact s1; exact rfl)
    intro h2 t2 k2
    refine ⟨(by first | exact trivial | exact Ext.refl _ | assumption | exact Ext.only (by assumption) _ | exact Only.trans (Ext.only (by assumption) _) (by assumption)), ?_⟩
    refine runH ?_
    refine fin2 rfl rfl rfl ⟨k2, rfl, _, t2, c1.only k2 s3.cut.ne, s3.cut.mono k2.1, fun x hx => s4 x (by simp [hx]), by simp only [List.length_cons] at s5; omega⟩

theorem Tryz_ent10 : Ent Tryz.prog 10 := ent_of Tryz.func10 (by kernel_rfl) rfl
theorem new_spec (v : Value) (ds : List Nat) (h : Hp) (s : SlF h U v ds) (hal : Al 18446744073709551616 ds) (hl : ds.length < 1000000) :
    CallsH Tryz.prog 10 [v] h fun v' h' => Ext h h' ∧ ∃ k B, pblk v' = some k ∧ h.size ≤ k ∧ TapeAt h' v' B ds false := by
  (apply enter Tryz.func10 rfl Tryz.ntmps10 rfl)
  refine runH ?_
  apply (s_call Tryz_ent34 rfl rfl rfl)
  refine (clone_spec v ds h s hl).mono ?_
  rintro w h1 ⟨e1, o1⟩
  refine ⟨(by first | exact trivial | exact e1), ?_⟩
  have s1 := o1.sl
  refine runH ?_
  (apply (s_build ([w, .bool false])); exact rfl; exact rfl; exact rfl; (repeat (first | exact CellsAll.nil | (apply CellsAll.cons; (first | exact oneL (by assumption) | exact oneL (SlF.one (by assumption)) | exact oneL (SlF.one (OwnF.sl (by assumption))) | exact oneL (Var.one (by assumption)) | exact rfl)))); exact rfl; exact rfl)
  refine runH ?_
  (apply s_box; exact rfl; exact rfl; exact rfl; exact rfl)
  intro p h2 p2 f2 c2
  (try dsimp only [Value.cells, List.toList_toArray] at p2)
  refine ⟨(by first | exact trivial | exact Ext.refl _ | assumption | exact Ext.trans (by assumption) (by assumption)), ?_⟩
  refine runH ?_
  refine fin1 rfl rfl ⟨e1.trans f2, _, w.ownBlock, c2, e1.1, w, p2, s1.ext f2, ⟨.inr rfl, ?_, ?_⟩, hal, by omega⟩
  · rw [c2]
    intro e
    have := (OwnF.blk o1 _ e).2; omega
  · intro b hb
    exact Nat.lt_of_lt_of_le (OwnF.blk o1 _ hb).2 f2.1

theorem Tryz_ent151 : Ent Tryz.prog 151 := ent_of Tryz.func151 (by kernel_rfl) rfl
def tern (d : Nat) : Int := ((d &&& 1 : Nat) : Int) - ((d / 2 ^ 1 &&& 1 : Nat) : Int)
/-- The first draw that tells one of three, and what is left. -/
def firstT : List Nat → Option (Int × List Nat)
  | [] => none
  | d :: ds => if d &&& 3 = 3 then firstT ds else some (tern d, ds)

theorem Tryz_ent103 : Ent Tryz.prog 103 := ent_of Tryz.func103 (by kernel_rfl) rfl
theorem ternary_spec (t : Value) (B : Option Nat) (ds : List Nat) (o : Bool) (h : Hp) (s : TapeAt h t B ds o) :
    CallsH Tryz.prog 103 [t] h fun v' h' => Only (pblk t) h h' ∧
      match (if o then none else firstT ds) with
      | none => v' = .tuple #[N 0, N 11] ∧ (∃ ds', TapeAt h' t B ds' true) ∧ (o = false → TapeAt h' t B [] true)
      | some (r, ds') => v' = .tuple #[I r, N 0] ∧ -1 ≤ r ∧ r ≤ 1 ∧ TapeAt h' t B ds' false ∧ ds'.length < ds.length := by
  have s0 := s
  obtain ⟨v, s1, s2, s3, s4, s5⟩ := s
  (apply enter Tryz.func103 rfl Tryz.ntmps103 rfl)
  refine runH ?_
  (first | (apply w_seqB; exact rfl; apply w_block; exact rfl) | skip)
  apply (w_loop (σ := List Nat × Bool) rfl (fun p => [(0, t)])
    (fun p h' => Only (pblk t) h h' ∧ TapeAt h' t B p.1 p.2 ∧ p.1.length ≤ ds.length ∧ (o = false → p.2 = true → p.1 = []) ∧ (if o then none else firstT ds) = (if p.2 then none else firstT p.1)) (fun p => if p.2 then 0 else p.1.length + 1) (ds, o))
  · exact (Sub.cons rfl (Sub.nil _))
  · refine ⟨Only.refl _ _, s0, Nat.le_refl _, fun h1 h2 => ?_, rfl⟩
    rw [h1] at h2; cases h2
  · rintro ⟨ds', o'⟩ h1 ⟨i1, i2, i3, i4, i6⟩
    dsimp only at i2 i3 i4 i6 ⊢
    have i2' := i2
    obtain ⟨v1, t1, t2, t3, t4, t5⟩ := i2
    refine runH ?_
    (apply w_cond; exact rfl; exact rfl) <;> intro ho
    · have ho' : o' = false := by simpa using ho
      subst ho'
      refine runH ?_
      apply (s_call Tryz_ent150 rfl rfl rfl)
      refine (draw_spec t B ds' false h1 i2').mono ?_
      rintro r h2 ⟨k2, D⟩
      refine ⟨(by first | exact trivial | exact trivial), ?_⟩
      have i5 := i1.trans k2
      cases ds' with
      | nil =>
        obtain ⟨rfl, D⟩ := D
        refine runH ?_
        apply again_normal ([], true)
        · exact (Sub.cons rfl (Sub.nil _))
        · refine ⟨i5, D, i3, fun _ _ => rfl, ?_⟩
          rw [i6]; rfl
        · simp
      | cons d ds' =>
        obtain ⟨rfl, D⟩ := D
        have hd64 : d < 18446744073709551616 := t4 d (by simp)
        refine runH ?_
        (apply w_condD; exact rfl; exact rfl) <;> intro hd
        · have i7 : (if o then none else firstT ds) = some (tern d, ds') := by
            rw [i6]; simp [firstT, hd]
          rw [i7]
          have hb1 : d &&& 1 ≤ 1 := Nat.and_le_right
          have hb2 : d / 2 ^ 1 &&& 1 ≤ 1 := Nat.and_le_right
          refine runH ?_
          refine fin2 rfl rfl rfl ⟨i5, rfl, ?_, ?_, D, ?_⟩
          · unfold tern; omega
          · unfold tern; omega
          · simp only [List.length_cons] at i3; omega
        · refine runH ?_
          apply again_normal (ds', false)
          · exact (Sub.cons rfl (Sub.nil _))
          · refine ⟨i5, D, ?_, ?_, ?_⟩
            · simp only [List.length_cons] at i3; simp only []; omega
            · intro _ h9; cases h9
            · rw [i6]
              have : d &&& 3 = 3 := Decidable.of_not_not hd
              simp [firstT, this]
          · simp
    · have ho' : o' = true := by simpa using ho
      subst ho'
      have i7 : (if o then none else firstT ds) = none := by rw [i6]; rfl
      rw [i7]
      refine runH ?_
      refine fin2 rfl rfl rfl ⟨i1, rfl, ⟨ds', i2'⟩, fun h0 => by rw [← i4 h0 rfl]; exact i2'⟩
end Go.Proofs.YtfcmdefigldpnaaGreatDoor


namespace Go.Proofs.YtfcmdefigldpnaaGreatDoor
set_option linter.unusedVariables false
set_option maxRecDepth 8000
open Go Go.Den Go.RowKit Go.Dig

/-- t points to a tape of the reference. -/
def TapR (h : Hp) (t : Value) (B : Option Nat) (ds : List Nat) (o : Bool) : Prop := ∃ v, Var h t 36 [v, .bool o] ∧ SlF h U v ds ∧ Blk h t v B ∧ Al 18446744073709551616 ds ∧ ds.length < 4611686018427387904
theorem TapR.only {h h' : Hp} {t : Value} {B r : Option Nat} {ds : List Nat} {o : Bool} (s : TapR h t B ds o) (k : Only r h h') (h1 : pblk t ≠ r) (h2 : B ≠ r) : TapR h' t B ds o := by
  obtain ⟨v, s1, s2, s3, s4, s5⟩ := s
  refine ⟨v, s1.only k h1, s2.only k ?_, s3.mono k.1, s4, s5⟩
  rcases s3.own with e | e
  · exact .inl e
  · exact .inr (by rw [e]; exact h2)
theorem TapR.ext {h h' : Hp} {t : Value} {B : Option Nat} {ds : List Nat} {o : Bool} (s : TapR h t B ds o) (k : Ext h h') : TapR h' t B ds o := by
  obtain ⟨v, s1, s2, s3, s4, s5⟩ := s
  exact ⟨v, s1.ext k, s2.ext k, s3.mono k.1, s4, s5⟩
theorem TapR.own {h h' : Hp} {t : Value} {B r : Option Nat} {ds : List Nat} {o : Bool} (s : TapR h t B ds o) (k : Only r h h') {M : Nat} (hp : ∀ j, pblk t = some j → j < M) (hB : ∀ b, B = some b → b < M) (hr : ∀ j, r = some j → M ≤ j) : TapR h' t B ds o := by
  cases r with
  | none => exact s.ext k.ext
  | some j => exact s.only k (fun e => by have := hp j e; have := hr j rfl; omega) (fun e => by have := hB j e; have := hr j rfl; omega)
theorem TapR.pb {h : Hp} {t : Value} {B : Option Nat} {ds : List Nat} {o : Bool} (s : TapR h t B ds o) : ∃ k, pblk t = some k ∧ k < h.size := by
  obtain ⟨v, s1, -⟩ := s
  exact s1.blk
theorem TapR.bl {h : Hp} {t : Value} {B : Option Nat} {ds : List Nat} {o : Bool} (s : TapR h t B ds o) : ∀ b, B = some b → b < h.size := by
  obtain ⟨v, -, -, s3, -⟩ := s
  exact s3.lt
theorem tern_mod (d : Nat) : (d % 4 = 0 → tern d = 0) ∧ (d % 4 = 1 → tern d = 1) ∧ (d % 4 = 2 → tern d = -1) ∧ (d &&& 3 = 3 ↔ d % 4 = 3) := by
  have h3 : d &&& 3 = d % 4 := Nat.and_two_pow_sub_one_eq_mod d 2
  have h1 : d &&& 1 = d % 2 := Nat.and_one_is_mod d
  have h2 : d / 2 ^ 1 &&& 1 = d / 2 % 2 := Nat.and_one_is_mod _
  unfold tern
  rw [h3, h1, h2]
  omega

/-- The first draw that tells a word below q, and what is left. -/
def firstB (q : Nat) : List Nat → Option (Nat × List Nat)
  | [] => none
  | d :: ds => if d ≤ 18446744073709551615 - 18446744073709551616 % q then some (d % q, ds) else firstB q ds

/-- So many draws, and what is left. -/
def rowG {α : Type} (f : List Nat → Option (α × List Nat)) : Nat → List Nat → Option (List α × List Nat)
  | 0, ds => some ([], ds)
  | k + 1, ds => match f ds with
    | none => none
    | some (r, ds1) => match rowG f k ds1 with
      | none => none
      | some (rs, ds2) => some (r :: rs, ds2)
/-- A heap's first blocks. -/
def cutH (h : Hp) (n : Nat) : Hp := h.extract 0 n
theorem cutH_ext {h : Hp} {n : Nat} (hn : n ≤ h.size) : (cutH h n).size = n ∧ Ext (cutH h n) h := by
  have hs : (cutH h n).size = n := by unfold cutH; rw [Array.size_extract]; omega
  refine ⟨hs, by omega, fun k hk => ?_⟩
  unfold cutH
  rw [Array.getElem?_extract]
  rw [hs] at hk
  simp only [Nat.zero_add]
  rw [if_pos (by omega)]
theorem only_own {h h2 h3 : Hp} {r r' : Option Nat} (d : Only r h h2) (k : Only r' h2 h3) (hb : ∀ j, r' = some j → h.size ≤ j) : Only r h h3 :=
  ⟨Nat.le_trans d.1 k.1, fun i hi hn => (k.2 i (Nat.lt_of_lt_of_le hi d.1) (fun e => by have := hb i e.symm; omega)).trans (d.2 i hi hn)⟩
def preG {α : Type} (rs : List α) : Option (List α × List Nat) → Option (List α × List Nat)
  | none => none
  | some (x, y) => some (rs ++ x, y)
theorem preG_nil {α : Type} (Z : Option (List α × List Nat)) : preG [] Z = Z := by cases Z <;> rfl
theorem rowG_step {α : Type} {f : List Nat → Option (α × List Nat)} {Z : Option (List α × List Nat)} {ds' ds1 : List Nat} {rs : List α} {r : α} {m : Nat} (h : Z = preG rs (rowG f (m + 1) ds')) (hf : f ds' = some (r, ds1)) :
    Z = preG (rs ++ [r]) (rowG f m ds1) := by
  rw [h]
  simp only [rowG, hf]
  cases rowG f m ds1 with
  | none => rfl
  | some q => simp [preG]
theorem rowG_fail {α : Type} {f : List Nat → Option (α × List Nat)} {Z : Option (List α × List Nat)} {ds' : List Nat} {rs : List α} {m : Nat} (h : Z = preG rs (rowG f (m + 1) ds')) (hf : f ds' = none) : Z = none := by
  rw [h]
  simp only [rowG, hf, preG]
theorem rowG_zero {α : Type} {f : List Nat → Option (α × List Nat)} {Z : Option (List α × List Nat)} {ds' : List Nat} {rs : List α} (h : Z = preG rs (rowG f 0 ds')) : Z = some (rs, ds') := by
  rw [h]
  simp [rowG, preG]

end Go.Proofs.YtfcmdefigldpnaaGreatDoor


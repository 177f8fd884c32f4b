/- Texts RngC to RngE of this work, joined: each says in its own head what it proves, and of which condition. -/
import Derived.Test.YtfgfmempmkjlnaaDoorMBb18
/- Package ring: levels, products. No condition. -/
namespace Go.Proofs.YtfgfmempmkjlnaaDoor
set_option linter.unusedVariables false
set_option maxRecDepth 8000
open Go Go.Den Go.RowKit Go.Mth Go.Dig

theorem Tryd_ent60 : Ent Tryd.prog 60 := ent_of Tryd.func60 (by kernel_rfl) rfl
theorem level1_spec (x q i : Nat) (p2 p6 g vq vt : Value) (n : Nat) (qs : List Nat) (h : Hp) (P2 : Var h p2 63 [g]) (P6 : Var h p6 3 [N i]) (G : Var h g 94 [N n, vq, vt]) (s : SlF h U vq qs) (hi : qs[i]? = some q) :
    CallsH Tryd.prog 60 [U x, p2, p6] h fun v' h' => v' = .bool (decide (q ≤ x)) ∧ h = h' := by
  (apply enter Tryd.func60 rfl Tryd.ntmps60 rfl)
  refine runJ ?_
  exact fin1 rfl rfl ⟨rfl, rfl⟩

theorem Tryd_ent83 : Ent Tryd.prog 83 := ent_of Tryd.func83 (by kernel_rfl) rfl
theorem indexFunc_spec (v p2 p6 g vq vt : Value) (xs : List Nat) (q i n : Nat) (qs : List Nat) (h : Hp) (s : SlF h U v xs) (P2 : Var h p2 63 [g]) (P6 : Var h p6 3 [N i]) (G : Var h g 94 [N n, vq, vt]) (sq : SlF h U vq qs) (hi : qs[i]? = some q) (hx : ∀ x ∈ xs, x < q) (hl : xs.length < 1000000) :
    CallsH Tryd.prog 83 [v, .func (.func 60) #[] #[p2, p6]] h fun v' h' => v' = I (-1) ∧ h = h' := by
  (apply enter Tryd.func83 rfl Tryd.ntmps83 rfl)
  refine runJ ?_
  (first | (apply w_seqB; exact rfl; apply w_block; exact rfl) | skip)
  apply (w_loop (σ := Nat) rfl (fun j => [(0, v), (1, .func (.func 60) #[] #[p2, p6]), (6, v), (7, N xs.length), (8, N j)])
    (fun j h' => h = h' ∧ j ≤ xs.length) (fun j => xs.length - j) 0)
  · exact (Sub.cons rfl (Sub.cons rfl (Sub.cons rfl (Sub.cons rfl (Sub.cons rfl (Sub.nil _))))))
  · exact ⟨rfl, Nat.zero_le _⟩
  rintro j h' ⟨rfl, j1⟩
  refine runJ ?_
  (apply w_condD; exact rfl; exact rfl) <;> intro hj
  · obtain ⟨x, hxj⟩ := get_lt hj
    have hxq := hx x (List.mem_of_getElem? hxj)
    have LV := level1_spec x q i p2 p6 g vq vt n qs h P2 P6 G sq hi
    rw [decide_eq_false (show ¬ q ≤ x by omega)] at LV
    refine runJ ?_
    refine s_callV rfl Tryd_ent60 rfl rfl rfl ?_
    refine (LV).mono ?_
    rintro _ _ ⟨rfl, rfl⟩
    refine ⟨(by first | exact trivial | exact trivial), ?_⟩
    refine runJ ?_
    apply again_normal (j + 1)
    · exact (Sub.cons rfl (Sub.cons rfl (Sub.cons rfl (Sub.cons rfl (Sub.cons rfl (Sub.nil _))))))
    · exact ⟨rfl, hj⟩
    · omega
  · refine runJ ?_
    exact fin1 rfl rfl ⟨rfl, rfl⟩
theorem Tryd_ent59 : Ent Tryd.prog 59 := ent_of Tryd.func59 (by kernel_rfl) rfl
theorem containsFunc_spec (v p2 p6 g vq vt : Value) (xs : List Nat) (q i n : Nat) (qs : List Nat) (h : Hp) (s : SlF h U v xs) (P2 : Var h p2 63 [g]) (P6 : Var h p6 3 [N i]) (G : Var h g 94 [N n, vq, vt]) (sq : SlF h U vq qs) (hi : qs[i]? = some q) (hx : ∀ x ∈ xs, x < q) (hl : xs.length < 1000000) :
    CallsH Tryd.prog 59 [v, .func (.func 60) #[] #[p2, p6]] h fun v' h' => v' = .bool false ∧ h = h' := by
  (apply enter Tryd.func59 rfl Tryd.ntmps59 rfl)
  refine runJ ?_
  apply (s_call Tryd_ent83 rfl rfl rfl)
  refine (indexFunc_spec v p2 p6 g vq vt xs q i n qs h s P2 P6 G sq hi hx hl).mono ?_
  rintro _ _ ⟨rfl, rfl⟩
  refine ⟨(by first | exact trivial | exact trivial), ?_⟩
  refine runJ ?_
  exact fin1 rfl rfl ⟨rfl, rfl⟩

/-- A right element of a ring. -/
structure PolOk (R : RngD) (rows : List (Value × List Nat)) : Prop where mk ::
  n0 : 0 < rows.length
  le : rows.length ≤ R.qs.length
  fit : ∀ (i q : Nat) (x : Value × List Nat), rows[i]? = some x → R.qs[i]? = some q → Fit (2 ^ R.L) q x.2

theorem level_nil (vr : Value) (h : Hp) : CallsH Tryd.prog 36 [.pointer none, .agg #[vr]] h fun v' h' => v' = .tuple #[N 0, N 1] ∧ Ext h h' := by
  (apply enter Tryd.func36 rfl Tryd.ntmps36 rfl)
  refine runJ ?_
  (apply s_box; exact rfl; exact rfl; exact rfl; exact rfl)
  intro p2 h1 x1 e1 b1
  (try dsimp only [Value.cells, List.toList_toArray] at x1)
  refine ⟨(by first | exact trivial | exact Ext.refl _ | assumption | exact Ext.trans (by assumption) (by assumption)), ?_⟩
  refine runJ ?_
  (apply s_box; exact rfl; exact rfl; exact rfl; exact rfl)
  intro p3 h2 x2 e2 b2
  (try dsimp only [Value.cells, List.toList_toArray] at x2)
  refine ⟨(by first | exact trivial | exact Ext.refl _ | assumption | exact Ext.trans (by assumption) (by assumption)), ?_⟩
  have y1 := x1.ext e2
  refine runJ ?_
  exact fin2 rfl rfl rfl ⟨rfl, e1.trans e2⟩

theorem Tryd_ent36 : Ent Tryd.prog 36 := ent_of Tryd.func36 (by kernel_rfl) rfl
set_option maxHeartbeats 2000000 in
theorem level_spec (g vr : Value) (R : RngD) (rows : List (Value × List Nat)) (h : Hp) (K : RngOk R) (A : RngAt h g R) (S : PolAt h vr rows) (P : PolOk R rows) :
    CallsH Tryd.prog 36 [g, .agg #[vr]] h fun v' h' => v' = .tuple #[N (rows.length - 1), N 0] ∧ Ext h h' := by
  have hn : 2 ≤ 2 ^ R.L ∧ 2 ^ R.L ≤ 512 := ⟨Nat.pow_le_pow_right (n := 2) (by omega) K.l1, Nat.pow_le_pow_right (n := 2) (by omega) K.l9⟩
  have h24 := K.n24
  have G := A.var
  have rq := A.rq
  have pn := P.n0
  have pl := P.le
  have pf := P.fit
  have sr := S.row
  have se := S.el
  obtain ⟨L, qs, ts, vq, vt⟩ := R
  dsimp only at G rq hn h24 pl pf ⊢
  generalize 2 ^ L = n at *
  obtain ⟨gb, hgp, hgc⟩ := G
  subst hgp
  have G : Var h (.pointer (some ⟨gb, 0, none⟩)) 94 [N n, vq, vt] := ⟨gb, rfl, hgc⟩
  clear hgc
  (apply enter Tryd.func36 rfl Tryd.ntmps36 rfl)
  refine runJ ?_
  (apply s_box; exact rfl; exact rfl; exact rfl; exact rfl)
  intro p2 h1 x1 e1 b1
  (try dsimp only [Value.cells, List.toList_toArray] at x1)
  refine ⟨(by first | exact trivial | exact Ext.refl _ | assumption | exact Ext.trans (by assumption) (by assumption)), ?_⟩
  refine runJ ?_
  (apply s_box; exact rfl; exact rfl; exact rfl; exact rfl)
  intro p3 h2 x3 e2 b2
  (try dsimp only [Value.cells, List.toList_toArray] at x3)
  refine ⟨(by first | exact trivial | exact Ext.refl _ | assumption | exact Ext.trans (by assumption) (by assumption)), ?_⟩
  have x1 : Var h1 p2 63 [.pointer (some ⟨gb, 0, none⟩)] := x1
  have x2 := x1.ext e2
  have e12 := e1.trans e2
  have G2 := G.ext e12
  generalize Value.pointer (some ⟨gb, 0, none⟩) = g at *
  have q2 := rq.ext e12
  have r2 := sr.ext e12
  refine runJ ?_
  rw [decide_eq_false (show ¬ rows.length < 1 by omega)]
  refine runJ ?_
  rw [decide_eq_false (show ¬ qs.length < rows.length by omega)]
  refine runJ ?_
  (first | (apply w_seqB; exact rfl; apply w_block; exact rfl) | skip)
  apply (w_loop (σ := Nat) rfl (fun j => [(2, p2), (3, p3), (26, vr), (27, N rows.length), (28, N j)])
    (fun j h' => Ext h h' ∧ Ext h2 h' ∧ j ≤ rows.length) (fun j => rows.length - j) 0)
  · exact (Sub.cons rfl (Sub.cons rfl (Sub.cons rfl (Sub.cons rfl (Sub.cons rfl (Sub.nil _))))))
  · exact ⟨e12, Ext.refl _, Nat.zero_le _⟩
  rintro j h3 ⟨e03, e3, j1⟩
  have G3 := G2.ext e3
  have x23 := x2.ext e3
  have x33 := x3.ext e3
  have q3 := q2.ext e3
  have r3 := r2.ext e3
  refine runJ ?_
  (apply w_condD; exact rfl; exact rfl) <;> intro hj
  · obtain ⟨x, hxj⟩ := get_lt hj
    obtain ⟨q, hqj⟩ := get_lt (l := qs) (j := j) (by omega)
    have fx := pf j q x hxj hqj
    have hm := List.mem_of_getElem? hxj
    have sx := (se x hm).ext e03
    obtain ⟨vx, ws⟩ := x
    dsimp only at sx fx ⊢
    have hwl := fx.1
    refine runJ ?_
    (apply s_alloc; exact rfl; exact rfl; exact rfl)
    intro p6 h5 x5 e5 b5
    (try dsimp only [Value.cells, List.toList_toArray] at x5)
    refine ⟨(by first | exact trivial | exact Ext.refl _ | assumption | exact Ext.trans (by assumption) (by assumption)), ?_⟩
    refine runJ ?_
    (apply s_storeV; exact rfl; exact rfl; exact rfl; (repeat (first | exact OneAll.nil | (apply OneAll.cons; (first | exact rfl | exact SlF.one (by assumption) | exact SlF.one (OwnF.sl (by assumption)) | exact Var.one (by assumption))))); exact rfl; exact rfl; exact x5; exact rfl)
    intro h6 x6 k6
    (try dsimp only [Value.cells, List.toList_toArray] at x6)
    refine ⟨(by first | exact trivial | exact Ext.refl _ | assumption | exact Ext.only (by assumption) _ | exact Only.trans (Ext.only (by assumption) _) (by assumption)), ?_⟩
    have x6 : Var h6 p6 3 [N j] := x6
    have e36 : Ext h3 h6 := k6.oldV e5 b5 (Nat.le_refl _)
    have G6 := G3.ext e36
    have x26 := x23.ext e36
    have q6 := q3.ext e36
    have s6 := sx.ext e36
    have hv1 := s6.one
    refine runJ ?_
    rw [decide_eq_false (show ¬ ws.length ≠ n by omega)]
    refine runJ ?_
    apply (s_call Tryd_ent59 rfl rfl rfl)
    refine (containsFunc_spec vx p2 p6 g vq vt ws q j n qs h6 s6 x26 x6 G6 q6 hqj fx.2 (by omega)).mono ?_
    rintro _ _ ⟨rfl, rfl⟩
    refine ⟨(by first | exact trivial | exact trivial), ?_⟩
    refine runJ ?_
    apply again_normal (j + 1)
    · exact (Sub.cons rfl (Sub.cons rfl (Sub.cons rfl (Sub.cons rfl (Sub.cons rfl (Sub.nil _))))))
    · exact ⟨e03.trans e36, e3.trans e36, hj⟩
    · omega
  · refine runJ ?_
    exact fin2 rfl rfl rfl ⟨rfl, e03⟩
end Go.Proofs.YtfgfmempmkjlnaaDoor

/- Package ring: pairs and products. No condition. -/
namespace Go.Proofs.YtfgfmempmkjlnaaDoor
set_option linter.unusedVariables false
set_option maxRecDepth 8000
open Go Go.Den Go.RowKit Go.Mth Go.Dig

theorem Tryd_ent65 : Ent Tryd.prog 65 := ent_of Tryd.func65 (by kernel_rfl) rfl
theorem pair_nil (va vb : Value) (h : Hp) : CallsH Tryd.prog 65 [.pointer none, .agg #[va], .agg #[vb]] h fun v' h' => v' = N 1 ∧ Ext h h' := by
  (apply enter Tryd.func65 rfl Tryd.ntmps65 rfl)
  refine runJ ?_
  (apply s_box; exact rfl; exact rfl; exact rfl; exact rfl)
  intro p4 h1 x1 e1 b1
  (try dsimp only [Value.cells, List.toList_toArray] at x1)
  refine ⟨(by first | exact trivial | exact Ext.refl _ | assumption | exact Ext.trans (by assumption) (by assumption)), ?_⟩
  refine runJ ?_
  (apply s_box; exact rfl; exact rfl; exact rfl; exact rfl)
  intro p5 h2 x2 e2 b2
  (try dsimp only [Value.cells, List.toList_toArray] at x2)
  refine ⟨(by first | exact trivial | exact Ext.refl _ | assumption | exact Ext.trans (by assumption) (by assumption)), ?_⟩
  have y1 := x1.ext e2
  have e12 := e1.trans e2
  refine runJ ?_
  apply (s_call Tryd_ent36 rfl rfl rfl)
  refine (level_nil va h2).mono ?_
  rintro _ h3 ⟨rfl, e3⟩
  refine ⟨(by first | exact trivial | exact trivial), ?_⟩
  have x3 := x2.ext e3
  refine runJ ?_
  apply (s_call Tryd_ent36 rfl rfl rfl)
  refine (level_nil vb h3).mono ?_
  rintro _ h4 ⟨rfl, e4⟩
  refine ⟨(by first | exact trivial | exact trivial), ?_⟩
  refine runJ ?_
  exact fin1 rfl rfl ⟨rfl, e12.trans (e3.trans e4)⟩

theorem pair_spec (g va vb : Value) (R : RngD) (xs ys : List (Value × List Nat)) (h : Hp) (K : RngOk R) (A : RngAt h g R) (sa : PolAt h va xs) (sb : PolAt h vb ys) (Pa : PolOk R xs) (Pb : PolOk R ys) (hab : xs.length = ys.length) :
    CallsH Tryd.prog 65 [g, .agg #[va], .agg #[vb]] h fun v' h' => v' = N 0 ∧ Ext h h' := by
  (apply enter Tryd.func65 rfl Tryd.ntmps65 rfl)
  refine runJ ?_
  (apply s_box; exact rfl; exact rfl; exact rfl; exact rfl)
  intro p4 h1 x1 e1 b1
  (try dsimp only [Value.cells, List.toList_toArray] at x1)
  refine ⟨(by first | exact trivial | exact Ext.refl _ | assumption | exact Ext.trans (by assumption) (by assumption)), ?_⟩
  refine runJ ?_
  (apply s_box; exact rfl; exact rfl; exact rfl; exact rfl)
  intro p5 h2 x2 e2 b2
  (try dsimp only [Value.cells, List.toList_toArray] at x2)
  refine ⟨(by first | exact trivial | exact Ext.refl _ | assumption | exact Ext.trans (by assumption) (by assumption)), ?_⟩
  have y1 := x1.ext e2
  have e12 := e1.trans e2
  refine runJ ?_
  apply (s_call Tryd_ent36 rfl rfl rfl)
  refine (level_spec g va R xs h2 K (A.ext e12) (sa.ext e12) Pa).mono ?_
  rintro _ h3 ⟨rfl, e3⟩
  refine ⟨(by first | exact trivial | exact trivial), ?_⟩
  have x3 := x2.ext e3
  refine runJ ?_
  apply (s_call Tryd_ent36 rfl rfl rfl)
  refine (level_spec g vb R ys h3 K (A.ext (e12.trans e3)) (sb.ext (e12.trans e3)) Pb).mono ?_
  rintro _ h4 ⟨rfl, e4⟩
  refine ⟨(by first | exact trivial | exact trivial), ?_⟩
  refine runJ ?_
  rw [decide_eq_false (show ¬ xs.length - 1 ≠ ys.length - 1 by omega)]
  refine runJ ?_
  exact fin1 rfl rfl ⟨rfl, e12.trans (e3.trans e4)⟩

theorem Tryd_ent40 : Ent Tryd.prog 40 := ent_of Tryd.func40 (by kernel_rfl) rfl
set_option maxHeartbeats 4000000 in
theorem ringMul_spec (g va vb : Value) (R : RngD) (xs ys : List (Value × List Nat)) (h : Hp) (K : RngOk R) (A : RngAt h g R) (sa : PolAt h va xs) (sb : PolAt h vb ys) (Pa : PolOk R xs) (Pb : PolOk R ys) (hab : xs.length = ys.length) :
    CallsH Tryd.prog 40 [g, .agg #[va], .agg #[vb]] h fun v' h' => Ext h h' ∧ ∃ vr rows p, v' = .tuple #[.agg #[vr], N 0] ∧ RowsAt h' h.size p vr rows ∧ rows.length = xs.length ∧
      ∀ (i : Nat) (x y : Value × List Nat) (t : Value × Tbl) (r : Value × List Nat), xs[i]? = some x → ys[i]? = some y → R.ts[i]? = some t → rows[i]? = some r → Prd t.2 x.2 y.2 r.2 := by
  have htl : R.ts.length = R.qs.length := by have := congrArg List.length K.map; rwa [List.length_map] at this
  have h24 := K.n24
  have hle := Pa.le
  (apply enter Tryd.func40 rfl Tryd.ntmps40 rfl)
  refine runJ ?_
  (apply s_box; exact rfl; exact rfl; exact rfl; exact rfl)
  intro p4 h1 x1 e1 b1
  (try dsimp only [Value.cells, List.toList_toArray] at x1)
  refine ⟨(by first | exact trivial | exact Ext.refl _ | assumption | exact Ext.trans (by assumption) (by assumption)), ?_⟩
  refine runJ ?_
  (apply s_box; exact rfl; exact rfl; exact rfl; exact rfl)
  intro p5 h2 x2 e2 b2
  (try dsimp only [Value.cells, List.toList_toArray] at x2)
  refine ⟨(by first | exact trivial | exact Ext.refl _ | assumption | exact Ext.trans (by assumption) (by assumption)), ?_⟩
  have y1 := x1.ext e2
  have e12 := e1.trans e2
  refine runJ ?_
  (apply s_alloc; exact rfl; exact rfl; exact rfl)
  intro p6 h3 x3 e3 b3
  (try dsimp only [Value.cells, List.toList_toArray] at x3)
  refine ⟨(by first | exact trivial | exact Ext.refl _ | assumption | exact Ext.trans (by assumption) (by assumption)), ?_⟩
  have z1 := y1.ext e3
  have z2 := x2.ext e3
  have e13 := e12.trans e3
  refine runJ ?_
  apply (s_call Tryd_ent65 rfl rfl rfl)
  refine (pair_spec g va vb R xs ys h3 K (A.ext e13) (sa.ext e13) (sb.ext e13) Pa Pb hab).mono ?_
  rintro _ h4 ⟨rfl, e4⟩
  refine ⟨(by first | exact trivial | exact trivial), ?_⟩
  have e14 := e13.trans e4
  have A4 := A.ext e14
  have G4 := A4.var
  have rt4 := A4.rt
  have w1 := z1.ext e4
  have w2 := z2.ext e4
  have w3 := x3.ext e4
  have sa4 := (sa.ext e14).row
  have sb4 := (sb.ext e14).row
  refine runJ ?_
  (apply (s_build ([.slice none 0 0])); exact rfl; exact rfl; exact rfl; (repeat (first | exact CellsAll.nil | (apply CellsAll.cons; (first | exact oneL (by assumption) | exact oneL (SlF.one (by assumption)) | exact oneL (SlF.one (OwnF.sl (by assumption))) | exact oneL (Var.one (by assumption)) | exact rfl)))); exact rfl; exact rfl)
  refine runJ ?_
  (apply s_alloc; exact rfl; exact rfl; exact rfl)
  intro p9 h5 x5 e5 b5
  (try dsimp only [Value.cells, List.toList_toArray] at x5)
  refine ⟨(by first | exact trivial | exact Ext.refl _ | assumption | exact Ext.trans (by assumption) (by assumption)), ?_⟩
  refine runJ ?_
  (apply s_storeV; exact rfl; exact rfl; exact rfl; (repeat (first | exact OneAll.nil | (apply OneAll.cons; (first | exact rfl | exact SlF.one (by assumption) | exact SlF.one (OwnF.sl (by assumption)) | exact Var.one (by assumption))))); exact rfl; exact rfl; exact x5; exact rfl)
  intro h6 x6 k6
  (try dsimp only [Value.cells, List.toList_toArray] at x6)
  refine ⟨(by first | exact trivial | exact Ext.refl _ | assumption | exact Ext.only (by assumption) _ | exact Only.trans (Ext.only (by assumption) _) (by assumption)), ?_⟩
  have e6 : Ext h4 h6 := k6.oldV e5 b5 (Nat.le_refl _)
  have e16 : Ext h h6 := e14.trans e6
  have G6 := G4.ext e6
  have v1 := w1.ext e6
  have v2 := w2.ext e6
  have v3 := w3.ext e6
  have rt6 := rt4.ext e6
  have sa6 := sa4.ext e6
  have sb6 := sb4.ext e6
  have c6 := rt6.cut (lo := 0) (hi := xs.length) (Nat.zero_le _) (by omega)
  rw [List.drop_zero, Nat.sub_zero] at c6
  have hcl : (R.ts.take xs.length).length = xs.length := by rw [List.length_take]; omega
  have ht : ∀ i t, (R.ts.take xs.length)[i]? = some t → R.ts[i]? = some t := fun i t k => by
    rw [List.getElem?_take] at k
    split at k
    · exact k
    · cases k
  have ht' : ∀ i t, i < xs.length → R.ts[i]? = some t → (R.ts.take xs.length)[i]? = some t := fun i t k k' => by
    rw [List.getElem?_take, if_pos k, k']
  have hk6s := e6.1
  have hb46 : h4.size < h6.size := by obtain ⟨j, hj, hlj⟩ := x6.blk; rw [b5] at hj; cases hj; exact hlj
  clear x5 k6 e5 x3 z1 z2 x1 y1 x2
  have c4 := rt4.cut (lo := 0) (hi := xs.length) (Nat.zero_le _) (by omega)
  rw [List.drop_zero, Nat.sub_zero] at c4
  have hb5 := b5
  refine runJ ?_
  generalize hrow : R.ts.take xs.length = row at *
  have ela := (sa.ext e14).el
  have elb := (sb.ext e14).el
  have tb4 := A4.tb
  have hok := K.ok
  have hmap := K.map
  have fa := Pa.fit
  have fb := Pb.fit
  clear v1 v2 v3 G6 rt6 sa6 sb6 c6 A4
  (first | (apply w_seqB; exact rfl; apply w_block; exact rfl) | skip)
  apply (w_loop (σ := Nat × List (Value × List Nat) × Value) rfl (fun j => [(4, p4), (5, p5), (6, p6), (9, p9), (10, .func (.func 18) #[] #[]), (31, cutV 1 R.vt 0 xs.length), (32, N row.length), (33, N j.1)])
    (fun j h' => Ext h4 h' ∧ h6.size ≤ h'.size ∧ j.1 ≤ xs.length ∧ Var h' p9 54 [j.2.2] ∧ RowsAt h' h4.size (some h4.size) j.2.2 j.2.1 ∧ j.2.1.length = j.1 ∧
      ∀ (i : Nat) (x y : Value × List Nat) (t : Value × Tbl) (r : Value × List Nat), xs[i]? = some x → ys[i]? = some y → R.ts[i]? = some t → j.2.1[i]? = some r → Prd t.2 x.2 y.2 r.2) (fun j => xs.length - j.1) (0, [], .slice none 0 0))
  · exact (Sub.cons rfl (Sub.cons rfl (Sub.cons rfl (Sub.cons rfl (Sub.cons rfl (Sub.cons rfl (Sub.cons rfl (Sub.cons rfl (Sub.nil _)))))))))
  · exact ⟨e6, Nat.le_refl _, Nat.zero_le _, x6, RowsAt.nil _ _ _, rfl, by intro i x y t r _ _ _ hr; cases hr⟩
  rintro ⟨j, rows, vR⟩ h7 ⟨e7, z7, j1, x7, R7, l7, m7⟩
  dsimp only at e7 z7 j1 x7 R7 l7 m7 ⊢
  have u1 := w1.ext e7
  have u2 := w2.ext e7
  have c7 := c4.ext e7
  have sa7 := sa4.ext e7
  have sb7 := sb4.ext e7
  have hpv : pblk p9 ≠ vR.ownBlock := by
    rw [hb5]; intro e
    rcases R7.vp with h0 | h0
    · rw [h0] at e; cases e
    · exact h0 e.symm
  refine runJ ?_
  (apply w_condD; exact rfl; exact rfl) <;> intro hj
  · have hjx : j < xs.length := by omega
    obtain ⟨x, hxj⟩ := get_lt hjx
    obtain ⟨y, hyj⟩ := get_lt (l := ys) (j := j) (by omega)
    obtain ⟨t, htj⟩ := get_lt (l := R.ts) (j := j) (by omega)
    have htr := ht' j t hjx htj
    have htm := List.mem_of_getElem? htj
    have hqj : R.qs[j]? = some t.2.q := by rw [← hmap, List.getElem?_map, htj]; rfl
    have Kt := (hok t htm).1
    have hL := (hok t htm).2.1
    have At := (tb4 t htm).ext e7
    have sx := (ela x (List.mem_of_getElem? hxj)).ext e7
    have sy := (elb y (List.mem_of_getElem? hyj)).ext e7
    have fx := fa j _ x hxj hqj
    have fy := fb j _ y hyj hqj
    rw [← hL] at fx fy
    obtain ⟨vx, xx⟩ := x
    obtain ⟨vy, yy⟩ := y
    obtain ⟨gt, T⟩ := t
    dsimp only at Kt At sx sy fx fy ⊢
    refine runJ ?_
    refine s_callV rfl Tryd_ent18 rfl rfl rfl ?_
    refine (nttMul_spec gt vx vy T xx yy h7 Kt At sx sy fx fy).mono ?_
    rintro _ h8 ⟨e8, wr, rs, rfl, o8, hprd⟩
    refine ⟨(by first | exact trivial | exact e8), ?_⟩
    have R8 := R7.ext e8
    have x8 := x7.ext e8
    have e48 := e7.trans e8
    have o8one := o8.sl.one
    have hlen : rows.length + 1 < 1000000 := by omega
    refine runJ ?_
    (refine s_app1V (bytes := 24) ((wr, rs)) R8.own e48 rfl rfl rfl rfl rfl rfl rfl rfl rfl (by first | exact rfl | exact congrArg some (congrArg I (by omega))) o8one rfl rfl (fun _ _ => trivial) (by omega) (by simp only [maxLen]; omega) ?_)
    intro v9 h9 o9 e9 k9 b9
    have x9 := x8.only k9 hpv
    refine runJ ?_
    (apply s_storeC; exact rfl; exact rfl; (first | exact rfl | exact SlF.one (by assumption) | exact SlF.one (OwnF.sl (by assumption)) | exact Var.one (by assumption)); exact rfl; exact rfl; exact x9; exact rfl)
    intro h10 x10 k10
    refine ⟨(by first | exact trivial | exact Ext.refl _ | assumption | exact Ext.only (by assumption) _ | exact Only.trans (Ext.only (by assumption) _) (by assumption)), ?_⟩
    have e10 : Ext h4 h10 := k10.oldV e9 hb5 (Nat.le_refl _)
    rw [hb5] at k10
    have R10 := R8.push (z := h7.size) (o8.base (Nat.le_trans hk6s z7)) (fun k hk => (o8.blk k hk).1) (fun k hk => (R7.own.blk k hk).2) (Nat.lt_of_lt_of_le hb46 z7) e8.1 o9 k9 b9 k10
    refine runJ ?_
    apply again_normal (j + 1, rows ++ [(wr, rs)], v9)
    · exact (Sub.cons rfl (Sub.cons rfl (Sub.cons rfl (Sub.cons rfl (Sub.cons rfl (Sub.cons rfl (Sub.cons rfl (Sub.cons rfl (Sub.nil _)))))))))
    · refine ⟨e10, Nat.le_trans z7 (Nat.le_trans e8.1 (Nat.le_trans k9.1 k10.1)), hjx, x10, R10, by dsimp only; rw [List.length_append]; simp [l7], ?_⟩
      dsimp only
      intro i x y t r hx hy ht2 hr
      rcases Nat.lt_or_ge i j with hij | hij
      · rw [List.getElem?_append_left (by omega)] at hr
        exact m7 i x y t r hx hy ht2 hr
      · have hi := (List.getElem?_eq_some_iff.1 hr).1
        rw [List.length_append] at hi
        simp only [List.length_cons, List.length_nil] at hi
        obtain rfl : i = j := by omega
        rw [List.getElem?_append_right (by omega), l7, Nat.sub_self] at hr
        rw [hxj] at hx
        rw [hyj] at hy
        rw [htj] at ht2
        cases hx; cases hy; cases ht2; cases hr
        exact hprd
    · dsimp only; omega
  · have hjn : j = xs.length := by omega
    subst hjn
    have w37 := w3.ext e7
    refine runJ ?_
    (apply s_storeV; exact rfl; exact rfl; exact rfl; exact (OneAll.cons R7.own.sl.one OneAll.nil : OneAll [vR]); exact rfl; exact rfl; exact w37; exact rfl)
    intro h8 x8 k8
    refine ⟨trivial, ?_⟩
    have x8 : Var h8 p6 54 [vR] := x8
    have e8 : Ext h h8 := k8.oldV (e14.trans e7) b3 (Nat.le_trans e1.1 e2.1)
    rw [b3] at k8
    have hb23 : h2.size < h4.size := by obtain ⟨b, hb, hlb⟩ := w3.blk; rw [b3] at hb; cases hb; exact hlb
    refine runJ ?_
    exact finCT rfl rfl rfl x8 rfl rfl ⟨e8, _, rows, _, rfl, (R7.low k8 hb23).base e14.1, l7, m7⟩
end Go.Proofs.YtfgfmempmkjlnaaDoor

/- Package ring: a power of X for X. No condition. -/
namespace Go.Proofs.YtfgfmempmkjlnaaDoor
set_option linter.unusedVariables false
set_option maxRecDepth 8000
open Go Go.Den Go.RowKit Go.Mth Go.Dig

/-- One coefficient is laid where it comes to lie. -/
def turnStep (n q kk : Nat) (s : List Nat × Nat) (v : Nat) : List Nat × Nat :=
  (if s.2 < n then s.1.set s.2 v else s.1.set (s.2 - n) (subm 0 v q), (s.2 + kk) % (2 * n))
def turnF (n q k : Nat) (xs : List Nat) : List Nat × Nat := xs.foldl (turnStep n q (k % (2 * n))) (List.replicate n 0, 0)
def turnL (n q k : Nat) (xs : List Nat) : List Nat := (turnF n q k xs).1
theorem turnF_ok {n : Nat} (hn : 0 < n) (q k : Nat) (xs : List Nat) : (turnF n q k xs).1.length = n ∧ (turnF n q k xs).2 < 2 * n := by
  suffices H : ∀ (xs : List Nat) (s : List Nat × Nat), s.1.length = n ∧ s.2 < 2 * n → (xs.foldl (turnStep n q (k % (2 * n))) s).1.length = n ∧ (xs.foldl (turnStep n q (k % (2 * n))) s).2 < 2 * n from H xs _ ⟨by simp, by omega⟩
  intro xs
  induction xs with
  | nil => intro s h; exact h
  | cons x xs ih =>
    intro s h
    rw [List.foldl_cons]
    refine ih _ ⟨?_, Nat.mod_lt _ (by omega)⟩
    unfold turnStep
    dsimp only
    split <;> simp [h.1]
theorem turnF_snoc (n q k : Nat) (xs : List Nat) (v : Nat) : turnF n q k (xs ++ [v]) = turnStep n q (k % (2 * n)) (turnF n q k xs) v := by
  unfold turnF; rw [List.foldl_append]; rfl
theorem turn_and {L a : Nat} (ha : a < 2 * 2 ^ L) : (a &&& 2 ^ L = 0) ↔ a < 2 ^ L := by
  constructor
  · intro h
    refine Classical.byContradiction fun hc => ?_
    have ht : a.testBit L = true := by
      have : a / 2 ^ L = 1 := by
        refine Nat.div_eq_of_lt_le ?_ ?_ <;> omega
      rw [Nat.testBit_eq_decide_div_mod_eq, this]; rfl
    have h2 : (a &&& 2 ^ L).testBit L = (0 : Nat).testBit L := by rw [h]
    rw [Nat.testBit_and, ht, Nat.testBit_two_pow_self, Nat.zero_testBit] at h2
    cases h2
  · intro h
    refine Nat.eq_of_testBit_eq fun i => ?_
    rw [Nat.testBit_and, Nat.zero_testBit, Nat.testBit_two_pow]
    by_cases hi : L = i
    · subst hi
      rw [Nat.testBit_lt_two_pow h]; rfl
    · rw [decide_eq_false hi, Bool.and_false]

theorem turn_nil (va : Value) (k : Int) (h : Hp) : CallsH Tryd.prog 41 [.pointer none, .agg #[va], I k] h fun v' h' => v' = .tuple #[.agg #[.slice none 0 0], N 1] ∧ Ext h h' := by
  (apply enter Tryd.func41 rfl Tryd.ntmps41 rfl)
  refine runJ ?_
  (apply s_box; exact rfl; exact rfl; exact rfl; exact rfl)
  intro p4 h1 x1 e1 b1
  (try dsimp only [Value.cells, List.toList_toArray] at x1)
  refine ⟨(by first | exact trivial | exact Ext.refl _ | assumption | exact Ext.trans (by assumption) (by assumption)), ?_⟩
  refine runJ ?_
  (apply s_alloc; exact rfl; exact rfl; exact rfl)
  intro p6 h2 x2 e2 b2
  (try dsimp only [Value.cells, List.toList_toArray] at x2)
  refine ⟨(by first | exact trivial | exact Ext.refl _ | assumption | exact Ext.trans (by assumption) (by assumption)), ?_⟩
  refine runJ ?_
  (apply (s_build ([.slice none 0 0])); exact rfl; exact rfl; exact rfl; (repeat (first | exact CellsAll.nil | (apply CellsAll.cons; (first | exact oneL (by assumption) | exact oneL (SlF.one (by assumption)) | exact oneL (SlF.one (OwnF.sl (by assumption))) | exact oneL (Var.one (by assumption)) | exact rfl)))); exact rfl; exact rfl)
  refine runJ ?_
  (apply s_storeV; exact rfl; exact rfl; exact rfl; (repeat (first | exact OneAll.nil | (apply OneAll.cons; (first | exact rfl | exact SlF.one (by assumption) | exact SlF.one (OwnF.sl (by assumption)) | exact Var.one (by assumption))))); exact rfl; exact rfl; exact x2; exact rfl)
  intro h3 x3 k3
  (try dsimp only [Value.cells, List.toList_toArray] at x3)
  refine ⟨(by first | exact trivial | exact Ext.refl _ | assumption | exact Ext.only (by assumption) _ | exact Only.trans (Ext.only (by assumption) _) (by assumption)), ?_⟩
  have x3 : Var h3 p6 54 [.slice none 0 0] := x3
  have e3 : Ext h h3 := k3.oldV (e1.trans e2) b2 e1.1
  refine runJ ?_
  exact finCT rfl rfl rfl x3 rfl rfl ⟨rfl, e3⟩

theorem Tryd_ent41 : Ent Tryd.prog 41 := ent_of Tryd.func41 (by kernel_rfl) rfl
set_option maxHeartbeats 4000000 in
theorem turn_spec (g va : Value) (R : RngD) (xs : List (Value × List Nat)) (k : Nat) (h : Hp) (K : RngOk R) (A : RngAt h g R) (sa : PolAt h va xs) (Pa : PolOk R xs) (hk : k < 4611686018427387904) (hk1 : k % 2 = 1) :
    CallsH Tryd.prog 41 [g, .agg #[va], N k] h fun v' h' => Ext h h' ∧ ∃ vr rows p, v' = .tuple #[.agg #[vr], N 0] ∧ RowsAt h' h.size p vr rows ∧ rows.length = xs.length ∧
      ∀ (i q : Nat) (x r : Value × List Nat), xs[i]? = some x → R.qs[i]? = some q → rows[i]? = some r → r.2 = turnL (2 ^ R.L) q k x.2 := by
  have hn : 2 ≤ 2 ^ R.L ∧ 2 ^ R.L ≤ 512 := ⟨Nat.pow_le_pow_right (n := 2) (by omega) K.l1, Nat.pow_le_pow_right (n := 2) (by omega) K.l9⟩
  have h24 := K.n24
  have hle := Pa.le
  have hodd : k &&& 1 = 1 := by rw [Nat.and_one_is_mod]; exact hk1
  have G := A.var
  obtain ⟨gb, hgp, -⟩ := id G
  (apply enter Tryd.func41 rfl Tryd.ntmps41 rfl)
  refine runJ ?_
  (apply s_box; exact rfl; exact rfl; exact rfl; exact rfl)
  intro p4 h1 x1 e1 b1
  (try dsimp only [Value.cells, List.toList_toArray] at x1)
  refine ⟨(by first | exact trivial | exact Ext.refl _ | assumption | exact Ext.trans (by assumption) (by assumption)), ?_⟩
  refine runJ ?_
  (apply s_alloc; exact rfl; exact rfl; exact rfl)
  intro p6 h2 x2 e2 b2
  (try dsimp only [Value.cells, List.toList_toArray] at x2)
  refine ⟨(by first | exact trivial | exact Ext.refl _ | assumption | exact Ext.trans (by assumption) (by assumption)), ?_⟩
  have e12 := e1.trans e2
  have y1 := x1.ext e2
  refine runJ ?_
  rw [hodd]
  refine runJ ?_
  apply (s_call Tryd_ent36 rfl rfl rfl)
  refine (level_spec g va R xs h2 K (A.ext e12) (sa.ext e12) Pa).mono ?_
  rintro _ h3 ⟨rfl, e3⟩
  refine ⟨(by first | exact trivial | exact trivial), ?_⟩
  have e13 := e12.trans e3
  have A3 := A.ext e13
  have G3 := A3.var
  have w1 := y1.ext e3
  have w2 := x2.ext e3
  have rq3 := A3.rq
  have sa3 := (sa.ext e13).row
  have ela := (sa.ext e13).el
  have fa := Pa.fit
  have hL : ∀ a, a < 2 * 2 ^ R.L → (a &&& 2 ^ R.L = 0 ↔ a < 2 ^ R.L) := fun a ha => turn_and ha
  have hM : ∀ a : Nat, a &&& (2 * 2 ^ R.L - 1) = a % (2 * 2 ^ R.L) := fun a => by
    rw [show 2 * 2 ^ R.L = 2 ^ (R.L + 1) by rw [Nat.pow_succ, Nat.mul_comm]]; exact Nat.and_two_pow_sub_one_eq_mod _ _
  generalize hnn : 2 ^ R.L = n at *
  refine runJ ?_
  (apply (s_build ([.slice none 0 0])); exact rfl; exact rfl; exact rfl; (repeat (first | exact CellsAll.nil | (apply CellsAll.cons; (first | exact oneL (by assumption) | exact oneL (SlF.one (by assumption)) | exact oneL (SlF.one (OwnF.sl (by assumption))) | exact oneL (Var.one (by assumption)) | exact rfl)))); exact rfl; exact rfl)
  refine runJ ?_
  (apply s_alloc; exact rfl; exact rfl; exact rfl)
  intro p11 h5 x5 e5 b5
  (try dsimp only [Value.cells, List.toList_toArray] at x5)
  refine ⟨(by first | exact trivial | exact Ext.refl _ | assumption | exact Ext.trans (by assumption) (by assumption)), ?_⟩
  refine runJ ?_
  (apply s_storeV; exact rfl; exact rfl; exact rfl; (repeat (first | exact OneAll.nil | (apply OneAll.cons; (first | exact rfl | exact SlF.one (by assumption) | exact SlF.one (OwnF.sl (by assumption)) | exact Var.one (by assumption))))); exact rfl; exact rfl; exact x5; exact rfl)
  intro h6 x6 k6
  (try dsimp only [Value.cells, List.toList_toArray] at x6)
  refine ⟨(by first | exact trivial | exact Ext.refl _ | assumption | exact Ext.only (by assumption) _ | exact Only.trans (Ext.only (by assumption) _) (by assumption)), ?_⟩
  have e6 : Ext h3 h6 := k6.oldV e5 b5 (Nat.le_refl _)
  have hb36 : h3.size < h6.size := by obtain ⟨j, hj, hlj⟩ := x6.blk; rw [b5] at hj; cases hj; exact hlj
  have v1 := w1.ext e6
  have sa6 := sa3.ext e6
  have hk6s := e6.1
  have hb5 := b5
  clear x5 k6 e5 x1 y1 x2
  refine runJ ?_
  have hn0 : 0 < n := by omega
  (first | (apply w_seqB; exact rfl; apply w_block; exact rfl) | skip)
  apply (w_loop (σ := Nat × List (Value × List Nat) × Value) rfl (fun j => [(0, g), (2, N k), (4, p4), (6, p6), (10, N (2 * n - 1)), (11, p11), (44, va), (45, N xs.length), (46, N j.1)])
    (fun j h' => Ext h3 h' ∧ h6.size ≤ h'.size ∧ j.1 ≤ xs.length ∧ Var h' p11 54 [j.2.2] ∧ RowsAt h' h3.size (some h3.size) j.2.2 j.2.1 ∧ j.2.1.length = j.1 ∧
      ∀ (i q : Nat) (x r : Value × List Nat), xs[i]? = some x → R.qs[i]? = some q → j.2.1[i]? = some r → r.2 = turnL n q k x.2) (fun j => xs.length - j.1) (0, [], .slice none 0 0))
  · exact (Sub.cons rfl (Sub.cons rfl (Sub.cons rfl (Sub.cons rfl (Sub.cons rfl (Sub.cons rfl (Sub.cons rfl (Sub.cons rfl (Sub.cons rfl (Sub.nil _))))))))))
  · exact ⟨e6, Nat.le_refl _, Nat.zero_le _, x6, RowsAt.nil _ _ _, rfl, by intro i q x r _ _ hr; cases hr⟩
  rintro ⟨j, rows, vR⟩ h7 ⟨e7, z7, j1, x7, R7, l7, m7⟩
  dsimp only at e7 z7 j1 x7 R7 l7 m7 ⊢
  have u1 := w1.ext e7
  have G7 := G3.ext e7
  have sa7 := sa3.ext e7
  have hpv : pblk p11 ≠ vR.ownBlock := by
    rw [hb5]; intro e
    rcases R7.vp with h0 | h0
    · rw [h0] at e; cases e
    · exact h0 e.symm
  refine runJ ?_
  (apply w_condD; exact rfl; exact rfl) <;> intro hj
  · obtain ⟨x, hxj⟩ := get_lt hj
    obtain ⟨q, hqj⟩ := get_lt (l := R.qs) (j := j) (by omega)
    have hq61 := (K.q q (List.mem_of_getElem? hqj)).q61
    have fx := fa j q x hxj hqj
    have sx := (ela x (List.mem_of_getElem? hxj)).ext e7
    obtain ⟨vx, ws⟩ := x
    dsimp only at sx fx ⊢
    have hwl := fx.1
    have hwq := fx.2
    refine runJ ?_
    (apply (s_make (f := U) (bytes := 8) (0)); (first | exact isK_c | exact isK_t rfl); (first | exact isK_c | exact isK_t rfl); exact rfl; exact rfl; exact rfl; exact rfl; exact rfl; exact rfl; omega; omega; omega)
    intro w8 h8 o8 e8 b8
    refine ⟨(by first | exact trivial | exact Ext.refl _ | assumption | exact Ext.trans (by assumption) (by assumption)), ?_⟩
    have sx8 := sx.ext e8
    refine runJ ?_
    (first | (apply w_seqB; exact rfl; apply w_block; exact rfl) | skip)
    apply (w_loop (σ := Nat × List Nat × Nat) rfl (fun m => [(0, g), (2, N k), (4, p4), (6, p6), (10, N (2 * n - 1)), (11, p11), (44, va), (45, N xs.length), (46, N j), (12, N j), (14, w8), (15, N m.2.2), (56, vx), (57, N ws.length), (58, N m.1)])
      (fun m h' => Ext h7 h' ∧ m.1 ≤ n ∧ OwnF h' h7.size 24 U w8 m.2.1 ∧ (m.2.1, m.2.2) = turnF n q k (ws.take m.1)) (fun m => n - m.1) (0, List.replicate n 0, 0))
    · exact (Sub.cons rfl (Sub.cons rfl (Sub.cons rfl (Sub.cons rfl (Sub.cons rfl (Sub.cons rfl (Sub.cons rfl (Sub.cons rfl (Sub.cons rfl (Sub.cons rfl (Sub.cons rfl (Sub.cons rfl (Sub.cons rfl (Sub.cons rfl (Sub.cons rfl (Sub.nil _))))))))))))))))
    · exact ⟨e8, Nat.zero_le _, o8, rfl⟩
    clear o8
    rintro ⟨m, ys, at_⟩ h9 ⟨e9, m1, o9, t9⟩
    dsimp only at e9 m1 o9 t9 ⊢
    have sx9 := sx.ext e9
    have G9 := G7.ext e9
    have rq9 := rq3.ext (e7.trans e9)
    have tok := turnF_ok hn0 q k (ws.take m)
    rw [← t9] at tok
    obtain ⟨tl, ta⟩ := tok
    dsimp only at tl ta
    refine runJ ?_
    (apply w_condD; exact rfl; exact rfl) <;> intro hm
    · obtain ⟨y, hym⟩ := get_lt hm
      have hyq := hwq y (List.mem_of_getElem? hym)
      have hLa := hL at_ ta
      have hkm := hM k
      have hkn : k &&& (2 * n - 1) < 2 * n := by rw [hkm]; exact Nat.mod_lt _ (by omega)
      refine runJ ?_
      (apply w_condD; exact rfl; exact rfl) <;> intro ha <;> rw [hLa] at ha
      · refine runJ ?_
        (apply (s_storeF (y)); exact rfl; exact rfl; exact rfl; exact rfl; exact rfl; exact o9; exact rfl; (first | assumption | omega))
        intro h10 o10 k10
        refine ⟨(by first | exact trivial | exact Ext.refl _ | assumption | exact Ext.trans (by assumption) (by assumption)), ?_⟩
        refine runJ ?_
        apply again_normal (m + 1, ys.set at_ y, (at_ + (k &&& (2 * n - 1))) &&& (2 * n - 1))
        · exact (Sub.cons rfl (Sub.cons rfl (Sub.cons rfl (Sub.cons rfl (Sub.cons rfl (Sub.cons rfl (Sub.cons rfl (Sub.cons rfl (Sub.cons rfl (Sub.cons rfl (Sub.cons rfl (Sub.cons rfl (Sub.cons rfl (Sub.cons rfl (Sub.cons rfl (Sub.nil _))))))))))))))))
        · refine ⟨o9.old k10 e9 (Nat.le_refl _), by dsimp only; omega, o10, ?_⟩
          dsimp only
          rw [take_snoc hym, turnF_snoc, ← t9, hM, hkm]
          unfold turnStep
          rw [if_pos ha]
        · dsimp only; omega
      · have ng := G7.neq (u := w8) b8 (Nat.le_refl _)
        have nq := (rq3.ext e7).neq (u := w8) (by omega) b8 (Nat.le_refl _)
        have o9s := o9.sl
        have hat : at_ - n < ys.length := by omega
        refine runJN ?_
        (apply (r_drawnO (w8.ownBlock)); exact rfl; exact mixed; kernel_rfl)
        refine runJ ?_
        apply (s_call Tryd_ent63 rfl rfl rfl)
        refine (sub_spec 0 y q h9 (by omega) (by omega) (by omega)).mono ?_
        rintro _ _ ⟨rfl, rfl⟩
        refine ⟨Only.refl _ _, ?_⟩
        refine runJ ?_
        (apply (s_storeF (subm 0 y q)); exact rfl; exact rfl; exact rfl; exact rfl; exact rfl; exact o9; exact rfl; (first | assumption | omega))
        intro h10 o10 k10
        refine ⟨(by first | exact k10 | exact trivial | exact Ext.refl _ | assumption | exact Ext.trans (by assumption) (by assumption)), ?_⟩
        refine runJ ?_
        apply again_normal (m + 1, ys.set (at_ - n) (subm 0 y q), (at_ + (k &&& (2 * n - 1))) &&& (2 * n - 1))
        · exact (Sub.cons rfl (Sub.cons rfl (Sub.cons rfl (Sub.cons rfl (Sub.cons rfl (Sub.cons rfl (Sub.cons rfl (Sub.cons rfl (Sub.cons rfl (Sub.cons rfl (Sub.cons rfl (Sub.cons rfl (Sub.cons rfl (Sub.cons rfl (Sub.cons rfl (Sub.nil _))))))))))))))))
        · refine ⟨o9.old k10 e9 (Nat.le_refl _), by dsimp only; omega, o10, ?_⟩
          dsimp only
          rw [take_snoc hym, turnF_snoc, ← t9, hM, hkm]
          unfold turnStep
          rw [if_neg ha]
        · dsimp only; omega
    · obtain rfl : m = n := by omega
      rw [← hwl, List.take_length, hwl] at t9
      have R9 := R7.ext e9
      have x9 := x7.ext e9
      have e39 := e7.trans e9
      have o9one := o9.sl.one
      have hlen : rows.length + 1 < 1000000 := by omega
      refine runJ ?_
      (refine s_app1V (bytes := 24) ((w8, ys)) R9.own e39 rfl rfl rfl rfl rfl rfl rfl rfl rfl (by first | exact rfl | exact congrArg some (congrArg I (by omega))) o9one rfl rfl (fun _ _ => trivial) (by omega) (by simp only [maxLen]; omega) ?_)
      intro v10 h10 o10 e10 k10 b10
      have x10 := x9.only k10 hpv
      refine runJ ?_
      (apply s_storeC; exact rfl; exact rfl; (first | exact rfl | exact SlF.one (by assumption) | exact SlF.one (OwnF.sl (by assumption)) | exact Var.one (by assumption)); exact rfl; exact rfl; exact x10; exact rfl)
      intro h11 x11 k11
      refine ⟨(by first | exact trivial | exact Ext.refl _ | assumption | exact Ext.only (by assumption) _ | exact Only.trans (Ext.only (by assumption) _) (by assumption)), ?_⟩
      have e11 : Ext h3 h11 := k11.oldV e10 hb5 (Nat.le_refl _)
      rw [hb5] at k11
      have R11 := R9.push (z := h7.size) (o9.base (Nat.le_trans hk6s z7)) (fun k hk => (o9.blk k hk).1) (fun k hk => (R7.own.blk k hk).2) (Nat.lt_of_lt_of_le hb36 z7) e9.1 o10 k10 b10 k11
      refine runJ ?_
      apply again_normal (j + 1, rows ++ [(w8, ys)], v10)
      · exact (Sub.cons rfl (Sub.cons rfl (Sub.cons rfl (Sub.cons rfl (Sub.cons rfl (Sub.cons rfl (Sub.cons rfl (Sub.cons rfl (Sub.cons rfl (Sub.nil _))))))))))
      · refine ⟨e11, Nat.le_trans z7 (Nat.le_trans e9.1 (Nat.le_trans k10.1 k11.1)), hj, x11, R11, by dsimp only; rw [List.length_append]; simp [l7], ?_⟩
        dsimp only
        intro i q' x r hx hq' hr
        rcases Nat.lt_or_ge i j with hij | hij
        · rw [List.getElem?_append_left (by omega)] at hr
          exact m7 i q' x r hx hq' hr
        · have hi := (List.getElem?_eq_some_iff.1 hr).1
          rw [List.length_append] at hi
          simp only [List.length_cons, List.length_nil] at hi
          obtain rfl : i = j := by omega
          rw [List.getElem?_append_right (by omega), l7, Nat.sub_self] at hr
          rw [hxj] at hx
          rw [hqj] at hq'
          cases hx; cases hq'; cases hr
          exact congrArg Prod.fst t9
      · dsimp only; omega
  · have hjn : j = xs.length := by omega
    subst hjn
    have w37 := w2.ext e7
    refine runJ ?_
    (apply s_storeV; exact rfl; exact rfl; exact rfl; exact (OneAll.cons R7.own.sl.one OneAll.nil : OneAll [vR]); exact rfl; exact rfl; exact w37; exact rfl)
    intro h8 x8 k8
    refine ⟨trivial, ?_⟩
    have x8 : Var h8 p6 54 [vR] := x8
    have e8 : Ext h h8 := k8.oldV (e13.trans e7) b2 e1.1
    rw [b2] at k8
    have hb13 : h1.size < h3.size := by obtain ⟨b, hb, hlb⟩ := w2.blk; rw [b2] at hb; cases hb; exact hlb
    refine runJ ?_
    exact finCT rfl rfl rfl x8 rfl rfl ⟨e8, _, rows, _, rfl, (R7.low k8 hb13).base e13.1, l7, m7⟩
end Go.Proofs.YtfgfmempmkjlnaaDoor

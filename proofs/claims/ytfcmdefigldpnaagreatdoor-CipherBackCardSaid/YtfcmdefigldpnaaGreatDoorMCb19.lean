/- Texts RngI to RkaB of this work, joined, without what the law does not lean on. -/
import Derived.Test.YtfcmdefigldpnaaGreatDoorMCb18
namespace Go.Proofs.YtfcmdefigldpnaaGreatDoor
set_option linter.unusedVariables false
set_option maxRecDepth 8000
open Go Go.Den Go.RowKit Go.Mth Go.Dig

theorem ext_onlyR {h0 h h' : Hp} {r : Option Nat} (e : Ext h0 h) (k : Only r h h') (hr : ∀ j, r = some j → h0.size ≤ j) : Ext h0 h' := k.old e hr
theorem ownF_same {h : Hp} {B : Nat} {e : TypeId} {v : Value} {xs ys : List (Value × List Nat)} (o : OwnF h B e Prod.fst v xs) (hm : xs.map Prod.fst = ys.map Prod.fst) : OwnF h B e Prod.fst v ys := by
  have hl : xs.length = ys.length := by have := congrArg List.length hm; simpa using this
  unfold OwnF at o ⊢
  rw [← hl, ← hm]
  exact o

set_option maxHeartbeats 4000000 in
theorem each_spec (g va vb : Value) (R : RngD) (F : FuncId) (f : Nat → Nat → Nat → Nat) (xs ys : List (Value × List Nat)) (h : Hp) (K : RngOk R) (A : RngAt h g R) (sa : PolAt h va xs) (sb : PolAt h vb ys) (Pa : PolOk R xs) (Pb : PolOk R ys) (hab : xs.length = ys.length) (he : Ent Tryz.prog F)
    (C : ∀ x y q h', x < q → y < q → q < 2305843009213693952 → CallsH Tryz.prog F [U x, U y, U q] h' fun v h'' => v = U (f x y q) ∧ h' = h'') :
    CallsH Tryz.prog 113 [g, .agg #[va], .agg #[vb], .func (.func F) #[] #[]] h fun v' h' => Ext h h' ∧ ∃ vr rows, v' = .tuple #[.agg #[vr], N 0] ∧ RowsAt h' h.size none vr rows ∧ rows.length = xs.length ∧
      ∀ (i q : Nat) (x y r : Value × List Nat), xs[i]? = some x → ys[i]? = some y → R.qs[i]? = some q → rows[i]? = some r → r.2 = List.zipWith (fun a b => f a b q) x.2 y.2 := by
  have h24 := K.n24
  have hle := Pa.le
  (apply enter Tryz.func113 rfl Tryz.ntmps113 rfl)
  refine runJ ?_
  (apply s_box; exact rfl; exact rfl; exact rfl; exact rfl)
  intro p5 h1 x1 e1 b1
  (try dsimp only [Value.cells, List.toList_toArray] at x1)
  refine clsI ?_
  refine runJ ?_
  (apply s_box; exact rfl; exact rfl; exact rfl; exact rfl)
  intro p6 h2 x2 e2 b2
  (try dsimp only [Value.cells, List.toList_toArray] at x2)
  refine clsI ?_
  have y1 := x1.ext e2
  have e12 := e1.trans e2
  refine runJ ?_
  (apply s_alloc; exact rfl; exact rfl; exact rfl)
  intro p8 h3 x3 e3 b3
  (try dsimp only [Value.cells, List.toList_toArray] at x3)
  refine clsI ?_
  have z1 := y1.ext e3
  have z2 := x2.ext e3
  have e13 := e12.trans e3
  refine runJ ?_
  apply (s_call Tryz_ent111 rfl rfl rfl)
  refine (pair_spec g va vb R xs ys h3 K (A.ext e13) (sa.ext e13) (sb.ext e13) Pa Pb hab).mono ?_
  rintro _ h4 ⟨rfl, e4⟩
  refine ⟨trivial, ?_⟩
  have e14 := e13.trans e4
  have w1 : Var h4 p5 56 [va] := z1.ext e4
  have w2 : Var h4 p6 56 [vb] := z2.ext e4
  have w3 := x3.ext e4
  have sa4 := (sa.ext e14).row
  refine runJ ?_
  (apply (s_make (f := Prod.fst) (bytes := 24) (((.slice none 0 0, []) : Value × List Nat))); (first | exact isK_c | exact isK_t rfl); (first | exact isK_c | exact isK_t rfl); exact rfl; exact rfl; exact rfl; exact rfl; exact rfl; exact rfl; omega; omega; omega)
  intro vR h5 o5 e5 b5
  refine clsI ?_
  have o5one := o5.sl.one
  refine runJ ?_
  (apply (s_build ([vR])); exact rfl; exact rfl; exact rfl; (repeat (first | exact CellsAll.nil | (apply CellsAll.cons; (first | exact oneL (by assumption) | exact oneL (SlF.one (by assumption)) | exact oneL (SlF.one (OwnF.sl (by assumption))) | exact oneL (Var.one (by assumption)) | exact rfl)))); exact rfl; exact rfl)
  refine runJ ?_
  (apply s_alloc; exact rfl; exact rfl; exact rfl)
  intro p11 h6 x6 e6 b6
  (try dsimp only [Value.cells, List.toList_toArray] at x6)
  refine clsI ?_
  refine runJ ?_
  (apply s_storeV; exact rfl; exact rfl; exact rfl; exact (OneAll.cons o5one OneAll.nil : OneAll [vR]); exact rfl; exact rfl; exact x6; exact rfl)
  intro h7 x7 k7
  refine ⟨trivial, ?_⟩
  have x7 : Var h7 p11 56 [vR] := x7
  have e57 : Ext h5 h7 := k7.oldV e6 b6 (Nat.le_refl _)
  have e47 : Ext h4 h7 := e5.trans e57
  have hs45 : h4.size < h5.size := (o5.blk h4.size b5).2
  have hs57 : h5.size < h7.size := by obtain ⟨j, hj, hlj⟩ := x7.blk; rw [b6] at hj; cases hj; exact hlj
  have o7 := o5.ext e57
  have sR7 := o7.sl
  refine runJ ?_
  rw [List.length_replicate]
  have hb4 : vR.ownBlock = some h4.size := b5
  have hp9 : 2 ^ R.L ≤ 2 ^ 9 := Nat.pow_le_pow_right (by decide) K.l9
  have e9 : (2 : Nat) ^ 9 = 512 := by decide
  have A4 := A.ext e14
  apply (w_loop (σ := Nat × List (Value × List Nat)) rfl (fun j => [(0, g), (3, .func (.func F) #[] #[]), (5, p5), (6, p6), (8, p8), (11, p11), (29, N xs.length), (30, N j.1)])
    (fun j h' => j.1 ≤ xs.length ∧ Ext h4 h' ∧ h7.size ≤ h'.size ∧ Var h' p11 56 [vR] ∧ OwnF h' h4.size 22 Prod.fst vR (j.2 ++ List.replicate (xs.length - j.1) ((.slice none 0 0, []) : Value × List Nat)) ∧ j.2.length = j.1 ∧ (∀ x ∈ j.2, OwnF h' h7.size 26 U x.1 x.2) ∧
      ∀ (i q : Nat) (x y r : Value × List Nat), xs[i]? = some x → ys[i]? = some y → R.qs[i]? = some q → j.2[i]? = some r → r.2 = List.zipWith (fun a b => f a b q) x.2 y.2) (fun j => xs.length - j.1) (0, []))
  · exact subs
  · exact ⟨Nat.zero_le _, e47, Nat.le_refl _, x7, o7, rfl, (by intro x hx; cases hx), (by intro i q x y r _ _ _ hr; cases hr)⟩
  rintro ⟨j, rows⟩ h8 ⟨j1, e48, z8, x8, o8, l8, r8, c8⟩
  dsimp only at j1 o8 l8 r8 c8 ⊢
  have A8 := A4.ext e48
  have G8 := A8.var
  have rq8 := A8.rq
  have u1 := w1.ext e48
  have u2 := w2.ext e48
  have sR8 := o8.sl
  have hRl : (rows ++ List.replicate (xs.length - j) ((.slice none 0 0, []) : Value × List Nat)).length = xs.length := by simp only [List.length_append, List.length_replicate]; omega
  refine runJ ?_
  (apply w_condD; exact rfl; exact rfl) <;> intro hj
  · obtain ⟨x, hxj⟩ := get_lt hj
    obtain ⟨y, hyj⟩ := get_lt (l := ys) (j := j) (by omega)
    obtain ⟨q, hqj⟩ := get_lt (l := R.qs) (j := j) (by omega)
    have fx := Pa.fit j q x hxj hqj
    have fy := Pb.fit j q y hyj hqj
    have hq61 := (K.q q (List.mem_of_getElem? hqj)).q61
    have hxm := List.mem_of_getElem? hxj
    have hym := List.mem_of_getElem? hyj
    refine runJN ?_
    (apply (r_drawnT 9 (Ext h8)); exact rfl; exact mixed; kernel_rfl; exact rfl; first | exact Ext.refl _ | exact Only.refl _ _)
    refine runJ ?_
    (apply (s_make (f := U) (bytes := 8) (0)); (first | exact isK_c | exact isK_t rfl); (first | exact isK_c | exact isK_t rfl); exact rfl; exact rfl; exact rfl; exact rfl; exact rfl; exact rfl; omega; omega; omega)
    intro vl h9 o9 e9l b9
    refine clsI ?_
    have e9l : Ext h8 h9 := e9l
    refine runJ ?_
    apply tail_end
    have o89 := o8.ext e9l
    have o9one := o9.sl.one
    refine runJ ?_
    refine s_storeF ((vl, List.replicate (2 ^ R.L) 0) : Value × List Nat) rfl rfl rfl rfl rfl o89 o9one (by omega) ?_
    intro h10 o10 k10
    refine ⟨trivial, ?_⟩
    have hset : (rows ++ List.replicate (xs.length - j) ((.slice none 0 0, []) : Value × List Nat)).set j (vl, List.replicate (2 ^ R.L) 0) = rows ++ (vl, List.replicate (2 ^ R.L) 0) :: List.replicate (xs.length - (j + 1)) ((.slice none 0 0, []) : Value × List Nat) := by
      rw [show xs.length - j = (xs.length - (j + 1)) + 1 by omega, List.replicate_succ, List.set_append_right _ _ (by omega), show j - rows.length = 0 by omega]
      rfl
    rw [hset] at o10
    rw [hb4] at k10
    have hRj : (rows ++ (vl, List.replicate (2 ^ R.L) 0) :: List.replicate (xs.length - (j + 1)) ((.slice none 0 0, []) : Value × List Nat))[j]? = some (vl, List.replicate (2 ^ R.L) 0) := by
      rw [List.getElem?_append_right (by omega), show j - rows.length = 0 by omega]; rfl
    have hRl10 : (rows ++ (vl, List.replicate (2 ^ R.L) 0) :: List.replicate (xs.length - (j + 1)) ((.slice none 0 0, []) : Value × List Nat)).length = xs.length := by simp only [List.length_append, List.length_cons, List.length_replicate]; omega
    generalize hRF : rows ++ (vl, List.replicate (2 ^ R.L) 0) :: List.replicate (xs.length - (j + 1)) ((.slice none 0 0, []) : Value × List Nat) = RF at *
    have e410 : Ext h4 h10 := ext_onlyR (e48.trans e9l) k10 fun b hb => by cases hb; exact Nat.le_refl _
    have x10 : Var h10 p11 56 [vR] := (x8.ext e9l).only k10 (by rw [b6]; intro e; have := Option.some.inj e; omega)
    have hvl : ∀ b, vl.ownBlock = some b → h8.size ≤ b := fun b hb => (o9.blk b hb).1
    have h78 : h4.size < h8.size := by omega
    have nvl : vl.ownBlock = none ∨ vl.ownBlock ≠ some h4.size := by
      cases hv : vl.ownBlock with
      | none => exact .inl rfl
      | some b => exact .inr fun e => by have := Option.some.inj e; have := hvl b hv; omega
    have ol10 := o9.only k10 nvl
    have r10 : ∀ x ∈ rows, OwnF h10 h7.size 26 U x.1 x.2 := fun x hx => by
      have o := (r8 x hx).ext e9l
      refine o.only k10 ?_
      cases hv : x.1.ownBlock with
      | none => exact .inl rfl
      | some b => exact .inr fun e => by have := Option.some.inj e; have := (o.blk b hv).1; omega
    have sRF10 := o10.sl
    obtain ⟨vx, wx⟩ := x
    obtain ⟨vy, wy⟩ := y
    dsimp only at fx fy
    have hwx := fx.1
    have hwy := fy.1
    have s4x := ((sa.ext e14).el _ hxm)
    have s4y := ((sb.ext e14).el _ hym)
    dsimp only at s4x s4y
    refine runJ ?_
    rw [List.length_replicate]
    (first | (apply w_seqB; exact rfl; apply w_block; exact rfl) | skip)
    apply (w_loop (σ := Nat) rfl (fun k => [(0, g), (3, .func (.func F) #[] #[]), (5, p5), (6, p6), (8, p8), (11, p11), (12, N j), (29, N xs.length), (30, N j), (47, N (2 ^ R.L)), (48, N k)])
      (fun k h' => k ≤ 2 ^ R.L ∧ Only vl.ownBlock h10 h' ∧ OwnF h' h8.size 26 U vl ((List.zipWith (fun a b => f a b q) wx wy).take k ++ List.replicate (2 ^ R.L - k) 0)) (fun k => 2 ^ R.L - k) 0)
    · exact subs
    · refine ⟨Nat.zero_le _, Only.refl _ _, ?_⟩
      rw [List.take_zero, List.nil_append, Nat.sub_zero]
      exact ol10
    rintro k h11 ⟨k1, d11, o11⟩
    have e411 : Ext h4 h11 := ext_onlyR e410 d11 fun b hb => by have := hvl b hb; omega
    have nRl : vR.ownBlock = none ∨ vR.ownBlock ≠ vl.ownBlock := by
      rw [hb4]
      exact .inr fun e => by have := hvl _ e.symm; omega
    have oR11 := o10.only d11 nRl
    have sR11 := oR11.sl
    have x11 := x10.only d11 (by rw [b6]; intro e; have := hvl _ e.symm; omega)
    have A11 := A4.ext e411
    have G11 := A11.var
    have rq11 := A11.rq
    have v1 := w1.ext e411
    have v2 := w2.ext e411
    have sa11 := (sa.ext (e14.trans e411)).row
    have sb11 := (sb.ext (e14.trans e411)).row
    have sx11 := s4x.ext e411
    have sy11 := s4y.ext e411
    refine runJ ?_
    (apply w_condD; exact rfl; exact rfl) <;> intro hk
    · obtain ⟨a, hak⟩ := get_lt (l := wx) (j := k) (by omega)
      obtain ⟨b, hbk⟩ := get_lt (l := wy) (j := k) (by omega)
      have haq := fx.2 a (List.mem_of_getElem? hak)
      have hbq := fy.2 b (List.mem_of_getElem? hbk)
      have hzk : (List.zipWith (fun a b => f a b q) wx wy)[k]? = some (f a b q) := by rw [List.getElem?_zipWith, hak, hbk]
      refine runJN ?_
      (apply (r_drawnT 32 (Ext h11)); exact rfl; exact mixed; kernel_rfl; exact rfl; first | exact Ext.refl _ | exact Only.refl _ _)
      refine runJ ?_
      refine s_callV (fs := []) (cs := []) (vs := [U a, U b, U q]) rfl he rfl rfl rfl ?_
      refine (C a b q h11 haq hbq hq61).mono ?_
      rintro _ _ ⟨rfl, rfl⟩
      refine ⟨Ext.refl _, ?_⟩
      have hil : k < ((List.zipWith (fun a b => f a b q) wx wy).take k ++ List.replicate (2 ^ R.L - k) 0).length := by
        rw [List.length_append, List.length_take, List.length_replicate, List.length_zipWith]
        omega
      have hlk : ((List.zipWith (fun a b => f a b q) wx wy).take k).length = k := by
        rw [List.length_take, List.length_zipWith]
        omega
      refine runJ ?_
      apply tail_end
      refine runJ ?_
      (apply (s_storeF (f a b q)); exact rfl; exact rfl; exact rfl; exact rfl; exact rfl; exact o11; exact rfl; (first | assumption | omega))
      intro h12 o12 k12
      refine clsI ?_
      have hset2 : ((List.zipWith (fun a b => f a b q) wx wy).take k ++ List.replicate (2 ^ R.L - k) 0).set k (f a b q) = (List.zipWith (fun a b => f a b q) wx wy).take (k + 1) ++ List.replicate (2 ^ R.L - (k + 1)) 0 := by
        rw [take_snoc hzk, show 2 ^ R.L - k = (2 ^ R.L - (k + 1)) + 1 by omega, List.replicate_succ, List.set_append_right _ _ (by omega), hlk, Nat.sub_self, List.append_assoc]
        rfl
      rw [hset2] at o12
      refine runJ ?_
      apply again_normal (k + 1)
      · exact subs
      · exact ⟨hk, d11.trans k12, o12⟩
      · omega
    · obtain rfl : k = 2 ^ R.L := by omega
      rw [Nat.sub_self, List.replicate_zero, List.append_nil, List.take_of_length_le (by rw [List.length_zipWith]; omega)] at o11
      have hmap : (RF.map Prod.fst) = ((rows ++ [(vl, List.zipWith (fun a b => f a b q) wx wy)]) ++ List.replicate (xs.length - (j + 1)) ((.slice none 0 0, []) : Value × List Nat)).map Prod.fst := by
        rw [← hRF]
        simp
      have oR12 := ownF_same oR11 hmap
      refine runJ ?_
      apply again_normal (j + 1, rows ++ [(vl, List.zipWith (fun a b => f a b q) wx wy)])
      · exact subs
      · refine ⟨hj, e411, Nat.le_trans z8 (Nat.le_trans (Nat.le_trans e9l.1 k10.1) d11.1), x11, oR12, by dsimp only; rw [List.length_append, l8]; rfl, fun x hx => ?_, fun i q' x y r hi hy hq hr => ?_⟩
        · rcases List.mem_append.1 hx with hx | hx
          · refine (r10 x hx).only d11 ?_
            cases hv : x.1.ownBlock with
            | none => exact .inl rfl
            | some b => exact .inr fun e => by have := hvl b e.symm; have := ((r8 x hx).blk b hv).2; omega
          · rw [List.mem_singleton.1 hx]
            exact o11.base z8
        · by_cases hir : i < rows.length
          · rw [List.getElem?_append_left hir] at hr
            exact c8 i q' x y r hi hy hq hr
          · have hij : i = j := by
              have := (List.getElem?_eq_some_iff.1 hr).1
              simp only [List.length_append, List.length_cons, List.length_nil] at this
              omega
            subst hij
            rw [List.getElem?_append_right (by omega), show i - rows.length = 0 by omega] at hr
            cases hr
            rw [hxj] at hi
            rw [hyj] at hy
            rw [hqj] at hq
            cases hi; cases hy; cases hq
            rfl
      · dsimp only; omega
  · obtain rfl : j = xs.length := by omega
    rw [Nat.sub_self, List.replicate_zero, List.append_nil] at o8
    have hRone := o8.sl.one
    have w38 := w3.ext e48
    refine runJ ?_
    (apply s_storeV; exact rfl; exact rfl; exact rfl; exact (OneAll.cons hRone OneAll.nil : OneAll [vR]); exact rfl; exact rfl; exact w38; exact rfl)
    intro h9 x9 k9
    refine ⟨trivial, ?_⟩
    have x9 : Var h9 p8 56 [vR] := x9
    have hp8 : ∀ b, pblk p8 = some b → b = h2.size := fun b hb => by rw [b3] at hb; exact (Option.some.inj hb).symm
    have h23 : h2.size < h4.size := by
      obtain ⟨b, hb, hl⟩ := w3.blk
      rw [hp8 b hb] at hl
      exact hl
    have nk : ∀ v : Value, (∀ b, v.ownBlock = some b → h4.size ≤ b) → v.ownBlock = none ∨ v.ownBlock ≠ pblk p8 := fun v hv => by
      rw [b3]
      cases hw : v.ownBlock with
      | none => exact .inl rfl
      | some b => exact .inr fun e => by have := Option.some.inj e; have := hv b hw; omega
    have E9 : Ext h h9 := ext_onlyR (e14.trans e48) k9 fun b hb => by rw [hp8 b hb]; exact e12.1
    refine runJ ?_
    refine finCT rfl rfl rfl x9 rfl rfl ⟨E9, vR, rows, rfl, ⟨(o8.only k9 (nk vR fun b hb => by rw [hb4] at hb; cases hb; exact Nat.le_refl _)).base e14.1, fun x hx => ((r8 x hx).only k9 (nk x.1 fun b hb => by have := ((r8 x hx).blk b hb).1; omega)).base (by have := e14.1; omega), fun x hx => ?_, fun x hx => ?_, ?_⟩, l8, c8⟩
    · cases hw : x.1.ownBlock with
      | none => exact .inl rfl
      | some b => exact .inr fun e => by rw [hb4] at e; have := Option.some.inj e; have := ((r8 x hx).blk b hw).1; omega
    · cases hw : x.1.ownBlock with
      | none => exact .inl rfl
      | some b => exact .inr fun e => by cases e
    · exact .inr fun e => by rw [hb4] at e; cases e

set_option maxHeartbeats 1000000 in
theorem ringAdd_spec (g va vb : Value) (R : RngD) (xs ys : List (Value × List Nat)) (h : Hp) (K : RngOk R) (A : RngAt h g R) (sa : PolAt h va xs) (sb : PolAt h vb ys) (Pa : PolOk R xs) (Pb : PolOk R ys) (hab : xs.length = ys.length) :
    CallsH Tryz.prog 57 [g, .agg #[va], .agg #[vb]] h fun v' h' => Ext h h' ∧ ∃ vr rows, v' = .tuple #[.agg #[vr], N 0] ∧ RowsAt h' h.size none vr rows ∧ rows.length = xs.length ∧
      ∀ (i q : Nat) (x y r : Value × List Nat), xs[i]? = some x → ys[i]? = some y → R.qs[i]? = some q → rows[i]? = some r → r.2 = addL q x.2 y.2 := by
  (apply enter Tryz.func57 rfl Tryz.ntmps57 rfl)
  refine runJ ?_
  (apply s_box; exact rfl; exact rfl; exact rfl; exact rfl)
  intro p4 h1 x1 e1 b1
  (try dsimp only [Value.cells, List.toList_toArray] at x1)
  refine clsI ?_
  refine runJ ?_
  (apply s_box; exact rfl; exact rfl; exact rfl; exact rfl)
  intro p5 h2 x2 e2 b2
  (try dsimp only [Value.cells, List.toList_toArray] at x2)
  refine clsI ?_
  have y1 := x1.ext e2
  have e12 := e1.trans e2
  refine runJ ?_
  (apply s_alloc; exact rfl; exact rfl; exact rfl)
  intro p6 h3 x3 e3 b3
  (try dsimp only [Value.cells, List.toList_toArray] at x3)
  refine clsI ?_
  have z1 : Var h3 p4 56 [va] := y1.ext e3
  have z2 : Var h3 p5 56 [vb] := x2.ext e3
  have e13 := e12.trans e3
  have hs23 : h2.size < h3.size := by obtain ⟨j, hj, hl⟩ := x3.blk; rw [b3] at hj; cases hj; exact hl
  refine runJ ?_
  apply (s_call Tryz_ent113 rfl rfl rfl)
  refine (each_spec g va vb R 114 addm xs ys h3 K (A.ext e13) (sa.ext e13) (sb.ext e13) Pa Pb hab Tryz_ent114 (fun x y q h' hx hy hq => add_spec x y q h' (by omega) (by omega) (by omega))).mono ?_
  rintro _ h4 ⟨e4, vr, rows, rfl, RA, lr, cr⟩
  refine ⟨trivial, ?_⟩
  have x34 := x3.ext e4
  have hone := RA.own.sl.one
  refine runJ ?_
  (apply s_storeV; exact rfl; exact rfl; exact rfl; exact (OneAll.cons hone OneAll.nil : OneAll [vr]); exact rfl; exact rfl; exact x34; exact rfl)
  intro h5 x5 k5
  refine ⟨trivial, ?_⟩
  have x5 : Var h5 p6 56 [vr] := x5
  have E5 : Ext h h5 := ext_onlyR (e13.trans e4) k5 fun b hb => by rw [b3] at hb; have := Option.some.inj hb; have := e12.1; omega
  have RA5 := (RA.low (by rw [← b3]; exact k5) hs23).base e13.1
  refine runJ ?_
  exact finCT rfl rfl rfl x5 rfl rfl ⟨E5, vr, rows, rfl, RA5, lr, cr⟩

set_option maxHeartbeats 1000000 in
theorem ringSub_spec (g va vb : Value) (R : RngD) (xs ys : List (Value × List Nat)) (h : Hp) (K : RngOk R) (A : RngAt h g R) (sa : PolAt h va xs) (sb : PolAt h vb ys) (Pa : PolOk R xs) (Pb : PolOk R ys) (hab : xs.length = ys.length) :
    CallsH Tryz.prog 69 [g, .agg #[va], .agg #[vb]] h fun v' h' => Ext h h' ∧ ∃ vr rows, v' = .tuple #[.agg #[vr], N 0] ∧ RowsAt h' h.size none vr rows ∧ rows.length = xs.length ∧
      ∀ (i q : Nat) (x y r : Value × List Nat), xs[i]? = some x → ys[i]? = some y → R.qs[i]? = some q → rows[i]? = some r → r.2 = subL q x.2 y.2 := by
  (apply enter Tryz.func69 rfl Tryz.ntmps69 rfl)
  refine runJ ?_
  (apply s_box; exact rfl; exact rfl; exact rfl; exact rfl)
  intro p4 h1 x1 e1 b1
  (try dsimp only [Value.cells, List.toList_toArray] at x1)
  refine clsI ?_
  refine runJ ?_
  (apply s_box; exact rfl; exact rfl; exact rfl; exact rfl)
  intro p5 h2 x2 e2 b2
  (try dsimp only [Value.cells, List.toList_toArray] at x2)
  refine clsI ?_
  have y1 := x1.ext e2
  have e12 := e1.trans e2
  refine runJ ?_
  (apply s_alloc; exact rfl; exact rfl; exact rfl)
  intro p6 h3 x3 e3 b3
  (try dsimp only [Value.cells, List.toList_toArray] at x3)
  refine clsI ?_
  have z1 : Var h3 p4 56 [va] := y1.ext e3
  have z2 : Var h3 p5 56 [vb] := x2.ext e3
  have e13 := e12.trans e3
  have hs23 : h2.size < h3.size := by obtain ⟨j, hj, hl⟩ := x3.blk; rw [b3] at hj; cases hj; exact hl
  refine runJ ?_
  apply (s_call Tryz_ent113 rfl rfl rfl)
  refine (each_spec g va vb R 66 subm xs ys h3 K (A.ext e13) (sa.ext e13) (sb.ext e13) Pa Pb hab Tryz_ent66 (fun x y q h' hx hy hq => sub_spec x y q h' (by omega) (by omega) (by omega))).mono ?_
  rintro _ h4 ⟨e4, vr, rows, rfl, RA, lr, cr⟩
  refine ⟨trivial, ?_⟩
  have x34 := x3.ext e4
  have hone := RA.own.sl.one
  refine runJ ?_
  (apply s_storeV; exact rfl; exact rfl; exact rfl; exact (OneAll.cons hone OneAll.nil : OneAll [vr]); exact rfl; exact rfl; exact x34; exact rfl)
  intro h5 x5 k5
  refine ⟨trivial, ?_⟩
  have x5 : Var h5 p6 56 [vr] := x5
  have E5 : Ext h h5 := ext_onlyR (e13.trans e4) k5 fun b hb => by rw [b3] at hb; have := Option.some.inj hb; have := e12.1; omega
  have RA5 := (RA.low (by rw [← b3]; exact k5) hs23).base e13.1
  refine runJ ?_
  exact finCT rfl rfl rfl x5 rfl rfl ⟨E5, vr, rows, rfl, RA5, lr, cr⟩

theorem Tryz_ent133 : Ent Tryz.prog 133 := ent_of Tryz.func133 (by kernel_rfl) rfl
set_option maxHeartbeats 4000000 in
theorem refNeg5_spec (vp va : Value) (qs : List Nat) (xs : List (Value × List Nat)) (h : Hp) (sp : SlF h U vp qs) (sa : PolAt h va xs) (hql : xs.length ≤ qs.length) (h24 : xs.length ≤ 24)
    (hr : ∀ (i q : Nat) (x : Value × List Nat), xs[i]? = some x → qs[i]? = some q → x.2.length ≤ 4096 ∧ (∀ a ∈ x.2, a < 18446744073709551616) ∧ 0 < q ∧ q < 18446744073709551616) :
    CallsH Tryz.prog 133 [vp, .agg #[va]] h fun v' h' => Ext h h' ∧ ∃ vr rows p, v' = .agg #[vr] ∧ RowsAt h' h.size p vr rows ∧ rows.length = xs.length ∧
      ∀ (i q : Nat) (x r : Value × List Nat), xs[i]? = some x → qs[i]? = some q → rows[i]? = some r → r.2 = negL q x.2 := by
  (apply enter Tryz.func133 rfl Tryz.ntmps133 rfl)
  refine runJ ?_
  (apply s_box; exact rfl; exact rfl; exact rfl; exact rfl)
  intro p3 h1 x1 e1 b1
  (try dsimp only [Value.cells, List.toList_toArray] at x1)
  refine clsI ?_
  refine runJ ?_
  (apply s_alloc; exact rfl; exact rfl; exact rfl)
  intro p4 h3 x3 e3 b3
  (try dsimp only [Value.cells, List.toList_toArray] at x3)
  refine clsI ?_
  have E3 := e1.trans e3
  have w3 := x1.ext e3
  have w4 := x3
  have sp3 := sp.ext E3
  have sa3 := (sa.ext E3).row
  have ela := (sa.ext E3).el
  refine runJ ?_
  (apply s_alloc; exact rfl; exact rfl; exact rfl)
  intro p5 h4 x4 e4 b4
  (try dsimp only [Value.cells, List.toList_toArray] at x4)
  refine clsI ?_
  have hb34 : h3.size < h4.size := by obtain ⟨j, hj, hlj⟩ := x4.blk; rw [b4] at hj; cases hj; exact hlj
  have hk4s := e4.1
  have a4 := w3.ext e4
  have s4 := sa3.ext e4
  refine runJ ?_
  (first | (apply w_seqB; exact rfl; apply w_block; exact rfl) | skip)
  apply (w_loop (σ := Nat × List (Value × List Nat) × Value) rfl (fun j => [(0, vp), (3, p3), (4, p4), (5, p5), (11, N xs.length), (12, N j.1)])
    (fun j h' => Ext h3 h' ∧ h4.size ≤ h'.size ∧ j.1 ≤ xs.length ∧ Var h' p5 56 [j.2.2] ∧ RowsAt h' h3.size (some h3.size) j.2.2 j.2.1 ∧ j.2.1.length = j.1 ∧
      ∀ (i q : Nat) (x r : Value × List Nat), xs[i]? = some x → qs[i]? = some q → j.2.1[i]? = some r → r.2 = negL q x.2) (fun j => xs.length - j.1) (0, [], .slice none 0 0))
  · exact subs
  · exact ⟨e4, Nat.le_refl _, Nat.zero_le _, x4, RowsAt.nil _ _ _, rfl, by intro i q x r _ _ hr; cases hr⟩
  clear x4 a4 s4
  rintro ⟨j, rows, vR⟩ h7 ⟨e7, z7, j1, x7, R7, l7, m7⟩
  dsimp only at e7 z7 j1 x7 R7 l7 m7 ⊢
  have u3 := w3.ext e7
  have sp7 := sp3.ext e7
  have sa7 := sa3.ext e7
  have hpv : pblk p5 ≠ vR.ownBlock := by
    rw [b4]; intro e
    rcases R7.vp with h0 | h0
    · rw [h0] at e; cases e
    · exact h0 e.symm
  refine runJ ?_
  (apply w_condD; exact rfl; exact rfl) <;> intro hj
  · obtain ⟨x, hxj⟩ := get_lt hj
    obtain ⟨q, hqj⟩ := get_lt (l := qs) (j := j) (by omega)
    obtain ⟨f2, f3, f5, f6⟩ := hr j q x hxj hqj
    have sx := (ela x (List.mem_of_getElem? hxj)).ext e7
    have hMM : ∀ r : Value × List Nat, r.2 = negL q x.2 → ∀ (i q : Nat) (x r' : Value × List Nat), xs[i]? = some x → qs[i]? = some q → (rows ++ [r])[i]? = some r' → r'.2 = negL q x.2 := by
      intro r hr' i q' x' r' hx' hq' hri
      rcases Nat.lt_or_ge i j with hij | hij
      · rw [List.getElem?_append_left (by omega)] at hri
        exact m7 i q' x' r' hx' hq' hri
      · have hi := (List.getElem?_eq_some_iff.1 hri).1
        rw [List.length_append] at hi
        simp only [List.length_cons, List.length_nil] at hi
        obtain rfl : i = j := by omega
        rw [List.getElem?_append_right (by omega), l7, Nat.sub_self] at hri
        rw [hxj] at hx'
        rw [hqj] at hq'
        cases hx'; cases hq'; cases hri
        exact hr'
    obtain ⟨vx, ws⟩ := x
    dsimp only at sx f2 f3 hMM ⊢
    have hal : (negL q ws).length = ws.length := by unfold negL; rw [List.length_map]
    refine runJ ?_
    (first | (apply w_seqB; exact rfl; apply w_block; exact rfl) | skip)
    apply (w_loop (σ := Nat × Value) rfl (fun m => [(0, vp), (3, p3), (4, p4), (5, p5), (6, N j), (7, m.2), (11, N xs.length), (12, N j), (20, N ws.length), (21, N m.1)])
      (fun m h' => Ext h7 h' ∧ m.1 ≤ ws.length ∧ OwnF h' h7.size 26 U m.2 ((negL q ws).take m.1)) (fun m => ws.length - m.1) (0, .slice none 0 0))
    · exact subs
    · exact ⟨Ext.refl _, Nat.zero_le _, OwnF.nil _ _ _ _⟩
    rintro ⟨m, vl⟩ h9 ⟨e9, m1, o9⟩
    dsimp only at e9 m1 o9 ⊢
    refine runJ ?_
    (apply w_condD; exact rfl; exact rfl) <;> intro hm
    · obtain ⟨a, ha⟩ := get_lt hm
      have hab := f3 a (List.mem_of_getElem? ha)
      have hadd : (negL q ws)[m]? = some (subm 0 a q) := by unfold negL; rw [List.getElem?_map, ha]; rfl
      have htl : (List.take m (negL q ws)).length = m := by rw [List.length_take]; omega
      refine runJN ?_
      (apply (r_drawnB (h0 := h7) e9); exact rfl; exact mixed; kernel_rfl)
      refine runJ ?_
      apply (s_call Tryz_ent146 rfl rfl rfl)
      refine (refSub_spec 0 a q h9 (by decide) hab f6).mono ?_
      rintro _ _ ⟨rfl, rfl⟩
      refine ⟨e9, ?_⟩
      refine runJ ?_
      (refine s_app1 (bytes := 8) (subm 0 a q) o9 e9 rfl rfl rfl rfl rfl rfl rfl rfl rfl (by first | exact rfl | exact congrArg some (congrArg I (by omega))) (fun _ => rfl) rfl rfl (fun _ k => k) (by omega) (by simp only [maxLen]; omega) ?_)
      intro v10 h10 o10 e10 k10 b10
      rw [← take_snoc hadd] at o10
      refine runJ ?_
      apply again_normal (m + 1, v10)
      · exact subs
      · exact ⟨e10, by dsimp only; omega, o10⟩
      · dsimp only; omega
    · obtain rfl : m = ws.length := by omega
      rw [← hal, List.take_length] at o9
      have R9 := R7.ext e9
      have x9 := x7.ext e9
      have e39 := e7.trans e9
      have o9one := o9.sl.one
      have hlen : rows.length + 1 < 1000000 := by omega
      refine runJ ?_
      (refine s_app1V (bytes := 24) ((vl, negL q ws)) R9.own e39 rfl rfl rfl rfl rfl rfl rfl rfl rfl (by first | exact rfl | exact congrArg some (congrArg I (by omega))) o9one rfl rfl (fun _ _ => trivial) (by omega) (by simp only [maxLen]; omega) ?_)
      intro v10 h10 o10 e10 k10 b10
      have x10 := x9.only k10 hpv
      refine runJ ?_
      (apply s_storeC; exact rfl; exact rfl; (first | exact rfl | exact SlF.one (by assumption) | exact SlF.one (OwnF.sl (by assumption)) | exact Var.one (by assumption)); exact rfl; exact rfl; exact x10; exact rfl)
      intro h11 x11 k11
      refine ⟨(by first | exact trivial | exact Ext.refl _ | assumption | exact Ext.only (by assumption) _ | exact Only.trans (Ext.only (by assumption) _) (by assumption)), ?_⟩
      have e11 : Ext h3 h11 := k11.oldV e10 b4 (Nat.le_refl _)
      rw [b4] at k11
      have R11 := R9.push (z := h7.size) (o9.base (Nat.le_trans hk4s z7)) (fun k hk => (o9.blk k hk).1) (fun k hk => (R7.own.blk k hk).2) (Nat.lt_of_lt_of_le hb34 z7) e9.1 o10 k10 b10 k11
      refine runJ ?_
      apply again_normal (j + 1, rows ++ [(vl, negL q ws)], v10)
      · exact subs
      · exact ⟨e11, Nat.le_trans z7 (Nat.le_trans e9.1 (Nat.le_trans k10.1 k11.1)), hj, x11, R11, by dsimp only; rw [List.length_append]; simp [l7], hMM _ rfl⟩
      · dsimp only; omega
  · have hjn : j = xs.length := by omega
    subst hjn
    have w37 := w4.ext e7
    refine runJ ?_
    (apply s_storeV; exact rfl; exact rfl; exact rfl; exact (OneAll.cons R7.own.sl.one OneAll.nil : OneAll [vR]); exact rfl; exact rfl; exact w37; exact rfl)
    intro h8 x8 k8
    refine ⟨trivial, ?_⟩
    have x8 : Var h8 p4 56 [vR] := x8
    have e8 : Ext h h8 := k8.oldV (E3.trans e7) b3 e1.1
    rw [b3] at k8
    have hb23 : h1.size < h3.size := by obtain ⟨b, hb, hlb⟩ := w4.blk; rw [b3] at hb; cases hb; exact hlb
    refine runJ ?_
    exact finC rfl rfl x8 rfl rfl ⟨e8, _, rows, _, rfl, (R7.low k8 hb23).base E3.1, l7, m7⟩

theorem Tryz_ent92 : Ent Tryz.prog 92 := ent_of Tryz.func92 (by kernel_rfl) rfl
set_option maxHeartbeats 4000000 in
theorem refLift5_spec (vp vv : Value) (qs : List Nat) (xs : List Int) (lev : Nat) (h : Hp) (sp : SlF h U vp qs) (sv : SlF h I vv xs) (hx : ∀ x ∈ xs, -9223372036854775808 ≤ x ∧ x < 9223372036854775808) (hl : xs.length ≤ 4096) (hlev : lev < qs.length) (h24 : qs.length ≤ 24) (hq : ∀ q ∈ qs, 0 < q ∧ q < 18446744073709551616) :
    CallsH Tryz.prog 92 [vp, vv, N lev] h fun v' h' => Ext h h' ∧ ∃ vr rows p, v' = .agg #[vr] ∧ RowsAt h' h.size p vr rows ∧ rows.length = lev + 1 ∧
      ∀ (i q : Nat) (r : Value × List Nat), qs[i]? = some q → rows[i]? = some r → r.2 = liftL xs q := by
  (apply enter Tryz.func92 rfl Tryz.ntmps92 rfl)
  refine runJ ?_
  (apply s_alloc; exact rfl; exact rfl; exact rfl)
  intro p6 h3 x3 e3 b3
  (try dsimp only [Value.cells, List.toList_toArray] at x3)
  refine clsI ?_
  have w4 := x3
  have sp3 := sp.ext e3
  have sv3 := sv.ext e3
  refine runJ ?_
  (apply s_alloc; exact rfl; exact rfl; exact rfl)
  intro p7 h4 x4 e4 b4
  (try dsimp only [Value.cells, List.toList_toArray] at x4)
  refine clsI ?_
  have hb34 : h3.size < h4.size := by obtain ⟨j, hj, hlj⟩ := x4.blk; rw [b4] at hj; cases hj; exact hlj
  have hk4s := e4.1
  refine runJ ?_
  (first | (apply w_seqB; exact rfl; apply w_block; exact rfl) | skip)
  apply (w_loop (σ := Nat × List (Value × List Nat) × Value) rfl (fun j => [(0, vp), (1, vv), (2, N lev), (6, p6), (7, p7), (8, N j.1)])
    (fun j h' => Ext h3 h' ∧ h4.size ≤ h'.size ∧ j.1 ≤ lev + 1 ∧ Var h' p7 56 [j.2.2] ∧ RowsAt h' h3.size (some h3.size) j.2.2 j.2.1 ∧ j.2.1.length = j.1 ∧
      ∀ (i q : Nat) (r : Value × List Nat), qs[i]? = some q → j.2.1[i]? = some r → r.2 = liftL xs q) (fun j => lev + 1 - j.1) (0, [], .slice none 0 0))
  · exact subs
  · exact ⟨e4, Nat.le_refl _, Nat.zero_le _, x4, RowsAt.nil _ _ _, rfl, by intro i q r _ hr; cases hr⟩
  clear x4
  rintro ⟨j, rows, vR⟩ h7 ⟨e7, z7, j1, x7, R7, l7, m7⟩
  dsimp only at e7 z7 j1 x7 R7 l7 m7 ⊢
  have sp7 := sp3.ext e7
  have sv7 := sv3.ext e7
  have hpv : pblk p7 ≠ vR.ownBlock := by
    rw [b4]; intro e
    rcases R7.vp with h0 | h0
    · rw [h0] at e; cases e
    · exact h0 e.symm
  refine runJ ?_
  (apply w_condD; exact rfl; exact rfl) <;> intro hj
  · obtain ⟨q, hqj⟩ := get_lt (l := qs) (j := j) (by omega)
    obtain ⟨hq0, hq64⟩ := hq q (List.mem_of_getElem? hqj)
    have hMM : ∀ r : Value × List Nat, r.2 = liftL xs q → ∀ (i q : Nat) (r' : Value × List Nat), qs[i]? = some q → (rows ++ [r])[i]? = some r' → r'.2 = liftL xs q := by
      intro r hr' i q' r' hq' hri
      rcases Nat.lt_or_ge i j with hij | hij
      · rw [List.getElem?_append_left (by omega)] at hri
        exact m7 i q' r' hq' hri
      · have hi := (List.getElem?_eq_some_iff.1 hri).1
        rw [List.length_append] at hi
        simp only [List.length_cons, List.length_nil] at hi
        obtain rfl : i = j := by omega
        rw [List.getElem?_append_right (by omega), l7, Nat.sub_self] at hri
        rw [hqj] at hq'
        cases hq'; cases hri
        exact hr'
    have hal : (liftL xs q).length = xs.length := by unfold liftL; rw [List.length_map]
    refine runJ ?_
    (first | (apply w_seqB; exact rfl; apply w_block; exact rfl) | skip)
    apply (w_loop (σ := Nat × Value) rfl (fun m => [(0, vp), (1, vv), (2, N lev), (6, p6), (7, p7), (8, N j), (9, m.2), (17, vv), (18, N xs.length), (19, N m.1)])
      (fun m h' => Ext h7 h' ∧ m.1 ≤ xs.length ∧ OwnF h' h7.size 26 U m.2 ((liftL xs q).take m.1)) (fun m => xs.length - m.1) (0, .slice none 0 0))
    · exact subs
    · exact ⟨Ext.refl _, Nat.zero_le _, OwnF.nil _ _ _ _⟩
    rintro ⟨m, vl⟩ h9 ⟨e9, m1, o9⟩
    dsimp only at e9 m1 o9 ⊢
    have sv9 := sv7.ext e9
    have sp9 := sp7.ext e9
    refine runJ ?_
    (apply w_condD; exact rfl; exact rfl) <;> intro hm
    · obtain ⟨a, ha⟩ := get_lt hm
      have hab := hx a (List.mem_of_getElem? ha)
      have hadd : (liftL xs q)[m]? = some (liftm a q) := by unfold liftL; rw [List.getElem?_map, ha]; rfl
      have htl : (List.take m (liftL xs q)).length = m := by rw [List.length_take]; omega
      refine runJ ?_
      apply (s_call Tryz_ent144 rfl rfl rfl)
      refine (refLift_spec a q h9 hab hq64).mono ?_
      rintro _ _ ⟨rfl, rfl⟩
      refine clsI ?_
      refine runJ ?_
      (refine s_app1 (bytes := 8) (liftm a q) o9 e9 rfl rfl rfl rfl rfl rfl rfl rfl rfl (by first | exact rfl | exact congrArg some (congrArg I (by omega))) (fun _ => rfl) rfl rfl (fun _ _ => trivial) (by omega) (by simp only [maxLen]; omega) ?_)
      intro v10 h10 o10 e10 k10 b10
      rw [← take_snoc hadd] at o10
      refine runJ ?_
      apply again_normal (m + 1, v10)
      · exact subs
      · exact ⟨e10, by dsimp only; omega, o10⟩
      · dsimp only; omega
    · obtain rfl : m = xs.length := by omega
      rw [← hal, List.take_length] at o9
      have R9 := R7.ext e9
      have x9 := x7.ext e9
      have e39 := e7.trans e9
      have o9one := o9.sl.one
      have hlen : rows.length + 1 < 1000000 := by omega
      refine runJ ?_
      (refine s_app1V (bytes := 24) ((vl, liftL xs q)) R9.own e39 rfl rfl rfl rfl rfl rfl rfl rfl rfl (by first | exact rfl | exact congrArg some (congrArg I (by omega))) o9one rfl rfl (fun _ _ => trivial) (by omega) (by simp only [maxLen]; omega) ?_)
      intro v10 h10 o10 e10 k10 b10
      have x10 := x9.only k10 hpv
      refine runJ ?_
      (apply s_storeC; exact rfl; exact rfl; (first | exact rfl | exact SlF.one (by assumption) | exact SlF.one (OwnF.sl (by assumption)) | exact Var.one (by assumption)); exact rfl; exact rfl; exact x10; exact rfl)
      intro h11 x11 k11
      refine ⟨(by first | exact trivial | exact Ext.refl _ | assumption | exact Ext.only (by assumption) _ | exact Only.trans (Ext.only (by assumption) _) (by assumption)), ?_⟩
      have e11 : Ext h3 h11 := k11.oldV e10 b4 (Nat.le_refl _)
      rw [b4] at k11
      have R11 := R9.push (z := h7.size) (o9.base (Nat.le_trans hk4s z7)) (fun k hk => (o9.blk k hk).1) (fun k hk => (R7.own.blk k hk).2) (Nat.lt_of_lt_of_le hb34 z7) e9.1 o10 k10 b10 k11
      refine runJ ?_
      apply again_normal (j + 1, rows ++ [(vl, liftL xs q)], v10)
      · exact subs
      · exact ⟨e11, Nat.le_trans z7 (Nat.le_trans e9.1 (Nat.le_trans k10.1 k11.1)), by dsimp only; omega, x11, R11, by dsimp only; rw [List.length_append]; simp [l7], hMM _ rfl⟩
      · dsimp only; omega
  · have hjn : j = lev + 1 := by omega
    subst hjn
    have w37 := w4.ext e7
    refine runJ ?_
    (apply s_storeV; exact rfl; exact rfl; exact rfl; exact (OneAll.cons R7.own.sl.one OneAll.nil : OneAll [vR]); exact rfl; exact rfl; exact w37; exact rfl)
    intro h8 x8 k8
    refine ⟨trivial, ?_⟩
    have x8 : Var h8 p6 56 [vR] := x8
    have e8 : Ext h h8 := k8.oldV (e3.trans e7) b3 (Nat.le_refl _)
    rw [b3] at k8
    have hb23 : h.size < h3.size := by obtain ⟨b, hb, hlb⟩ := w4.blk; rw [b3] at hb; cases hb; exact hlb
    refine runJ ?_
    exact finC rfl rfl x8 rfl rfl ⟨e8, _, rows, _, rfl, (R7.low k8 hb23).base e3.1, l7, m7⟩
end Go.Proofs.YtfcmdefigldpnaaGreatDoor


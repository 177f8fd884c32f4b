/- Texts RngI to TpeA of this work, joined, without what the law does not lean on. -/
import Derived.Test.YtfcmdefigldpnaaGreatDoorMCt17
namespace Go.Proofs.YtfcmdefigldpnaaGreatDoor
set_option linter.unusedVariables false
set_option maxRecDepth 8000
open Go Go.Den Go.RowKit Go.Mth Go.Dig

theorem ext_onlyR {h0 h h' : Hp} {r : Option Nat} (e : Ext h0 h) (k : Only r h h') (hr : ∀ j, r = some j → h0.size ≤ j) : Ext h0 h' := k.old e hr
theorem ownF_same {h : Hp} {B : Nat} {e : TypeId} {v : Value} {xs ys : List (Value × List Nat)} (o : OwnF h B e Prod.fst v xs) (hm : xs.map Prod.fst = ys.map Prod.fst) : OwnF h B e Prod.fst v ys := by
  have hl : xs.length = ys.length := by have := congrArg List.length hm; simpa using this
  unfold OwnF at o ⊢
  rw [← hl, ← hm]
  exact o

set_option maxHeartbeats 4000000 in
theorem each_spec (g va vb : Value) (R : RngD) (F : FuncId) (f : Nat → Nat → Nat → Nat) (xs ys : List (Value × List Nat)) (h : Hp) (K : RngOk R) (A : RngAt h g R) (sa : PolAt h va xs) (sb : PolAt h vb ys) (Pa : PolOk R xs) (Pb : PolOk R ys) (hab : xs.length = ys.length) (he : Ent Tryz.prog F)
    (C : ∀ x y q h', x < q → y < q → q < 2305843009213693952 → CallsH Tryz.prog F [U x, U y, U q] h' fun v h'' => v = U (f x y q) ∧ h' = h'') :
    CallsH Tryz.prog 113 [g, .agg #[va], .agg #[vb], .func (.func F) #[] #[]] h fun v' h' => Ext h h' ∧ ∃ vr rows, v' = .tuple #[.agg #[vr], N 0] ∧ RowsAt h' h.size none vr rows ∧ rows.length = xs.length ∧
      ∀ (i q : Nat) (x y r : Value × List Nat), xs[i]? = some x → ys[i]? = some y → R.qs[i]? = some q → rows[i]? = some r → r.2 = List.zipWith (fun a b => f a b q) x.2 y.2 := by
  have h24 := K.n24
  have hle := Pa.le
  (apply enter Tryz.func113 rfl Tryz.ntmps113 rfl)
  refine runJ ?_
  (apply s_box; exact rfl; exact rfl; exact rfl; exact rfl)
  intro p5 h1 x1 e1 b1
  (try dsimp only [Value.cells, List.toList_toArray] at x1)
  refine ⟨(by first | exact trivial | exact Ext.refl _ | assumption | exact Ext.trans (by assumption) (by assumption)), ?_⟩
  refine runJ ?_
  (apply s_box; exact rfl; exact rfl; exact rfl; exact rfl)
  intro p6 h2 x2 e2 b2
  (try dsimp only [Value.cells, List.toList_toArray] at x2)
  refine ⟨(by first | exact trivial | exact Ext.refl _ | assumption | exact Ext.trans (by assumption) (by assumption)), ?_⟩
  have y1 := x1.ext e2
  have e12 := e1.trans e2
  refine runJ ?_
  (apply s_alloc; exact rfl; exact rfl; exact rfl)
  intro p8 h3 x3 e3 b3
  (try dsimp only [Value.cells, List.toList_toArray] at x3)
  refine ⟨(by first | exact trivial | exact Ext.refl _ | assumption | exact Ext.trans (by assumption) (by assumption)), ?_⟩
  have z1 := y1.ext e3
  have z2 := x2.ext e3
  have e13 := e12.trans e3
  refine runJ ?_
  apply (s_call Tryz_ent111 rfl rfl rfl)
  refine (pair_spec g va vb R xs ys h3 K (A.ext e13) (sa.ext e13) (sb.ext e13) Pa Pb hab).mono ?_
  rintro _ h4 ⟨rfl, e4⟩
  refine ⟨(by first | exact trivial | exact trivial), ?_⟩
  have e14 := e13.trans e4
  have w1 : Var h4 p5 56 [va] := z1.ext e4
  have w2 : Var h4 p6 56 [vb] := z2.ext e4
  have w3 := x3.ext e4
  have sa4 := (sa.ext e14).row
  refine runJ ?_
  (apply (s_make (f := Prod.fst) (bytes := 24) (((.slice none 0 0, []) : Value × List Nat))); (first | exact isK_c | exact isK_t rfl); (first | exact isK_c | exact isK_t rfl); exact rfl; exact rfl; exact rfl; exact rfl; exact rfl; exact rfl; omega; omega; omega)
  intro vR h5 o5 e5 b5
  refine ⟨(by first | exact trivial | exact Ext.refl _ | assumption | exact Ext.trans (by assumption) (by assumption)), ?_⟩
  have o5one := o5.sl.one
  refine runJ ?_
  (apply (s_build ([vR])); exact rfl; exact rfl; exact rfl; (repeat (first | exact CellsAll.nil | (apply CellsAll.cons; (first | exact oneL (by assumption) | exact oneL (SlF.one (by assumption)) | exact oneL (SlF.one (OwnF.sl (by assumption))) | exact oneL (Var.one (by assumption)) | exact rfl)))); exact rfl; exact rfl)
  refine runJ ?_
  (apply s_alloc; exact rfl; exact rfl; exact rfl)
  intro p11 h6 x6 e6 b6
  (try dsimp only [Value.cells, List.toList_toArray] at x6)
  refine ⟨(by first | exact trivial | exact Ext.refl _ | assumption | exact Ext.trans (by assumption) (by assumption)), ?_⟩
  refine runJ ?_
  (apply s_storeV; exact rfl; exact rfl; exact rfl; exact (OneAll.cons o5one OneAll.nil : OneAll [vR]); exact rfl; exact rfl; exact x6; exact rfl)
  intro h7 x7 k7
  refine ⟨trivial, ?_⟩
  have x7 : Var h7 p11 56 [vR] := x7
  have e57 : Ext h5 h7 := k7.oldV e6 b6 (Nat.le_refl _)
  have e47 : Ext h4 h7 := e5.trans e57
  have hs45 : h4.size < h5.size := (o5.blk h4.size b5).2
  have hs57 : h5.size < h7.size := by obtain ⟨j, hj, hlj⟩ := x7.blk; rw [b6] at hj; cases hj; exact hlj
  have o7 := o5.ext e57
  have sR7 := o7.sl
  refine runJ ?_
  rw [List.length_replicate]
  have hb4 : vR.ownBlock = some h4.size := b5
  have hp9 : 2 ^ R.L ≤ 2 ^ 9 := Nat.pow_le_pow_right (by decide) K.l9
  have e9 : (2 : Nat) ^ 9 = 512 := by decide
  have A4 := A.ext e14
  apply (w_loop (σ := Nat × List (Value × List Nat)) rfl (fun j => [(0, g), (3, .func (.func F) #[] #[]), (5, p5), (6, p6), (8, p8), (11, p11), (29, N xs.length), (30, N j.1)])
    (fun j h' => j.1 ≤ xs.length ∧ Ext h4 h' ∧ h7.size ≤ h'.size ∧ Var h' p11 56 [vR] ∧ OwnF h' h4.size 22 Prod.fst vR (j.2 ++ List.replicate (xs.length - j.1) ((.slice none 0 0, []) : Value × List Nat)) ∧ j.2.length = j.1 ∧ (∀ x ∈ j.2, OwnF h' h7.size 26 U x.1 x.2) ∧
      ∀ (i q : Nat) (x y r : Value × List Nat), xs[i]? = some x → ys[i]? = some y → R.qs[i]? = some q → j.2[i]? = some r → r.2 = List.zipWith (fun a b => f a b q) x.2 y.2) (fun j => xs.length - j.1) (0, []))
  · exact (Sub.cons rfl (Sub.cons rfl (Sub.cons rfl (Sub.cons rfl (Sub.cons rfl (Sub.cons rfl (Sub.cons rfl (Sub.cons rfl (Sub.nil _)))))))))
  · exact ⟨Nat.zero_le _, e47, Nat.le_refl _, x7, o7, rfl, (by intro x hx; cases hx), (by intro i q x y r _ _ _ hr; cases hr)⟩
  rintro ⟨j, rows⟩ h8 ⟨j1, e48, z8, x8, o8, l8, r8, c8⟩
  dsimp only at j1 o8 l8 r8 c8 ⊢
  have A8 := A4.ext e48
  have G8 := A8.var
  have rq8 := A8.rq
  have u1 := w1.ext e48
  have u2 := w2.ext e48
  have sR8 := o8.sl
  have hRl : (rows ++ List.replicate (xs.length - j) ((.slice none 0 0, []) : Value × List Nat)).length = xs.length := by simp only [List.length_append, List.length_replicate]; omega
  refine runJ ?_
  (apply w_condD; exact rfl; exact rfl) <;> intro hj
  · obtain ⟨x, hxj⟩ := get_lt hj
    obtain ⟨y, hyj⟩ := get_lt (l := ys) (j := j) (by omega)
    obtain ⟨q, hqj⟩ := get_lt (l := R.qs) (j := j) (by omega)
    have fx := Pa.fit j q x hxj hqj
    have fy := Pb.fit j q y hyj hqj
    have hq61 := (K.q q (List.mem_of_getElem? hqj)).q61
    have hxm := List.mem_of_getElem? hxj
    have hym := List.mem_of_getElem? hyj
    refine runJN ?_
    (apply (r_drawnT 9 (Ext h8)); exact rfl; exact mixed; kernel_rfl; exact rfl; first | exact Ext.refl _ | exact Only.refl _ _)
    refine runJ ?_
    (apply (s_make (f := U) (bytes := 8) (0)); (first | exact isK_c | exact isK_t rfl); (first | exact isK_c | exact isK_t rfl); exact rfl; exact rfl; exact rfl; exact rfl; exact rfl; exact rfl; omega; omega; omega)
    intro vl h9 o9 e9l b9
    refine ⟨(by first | exact trivial | exact Ext.refl _ | assumption | exact Ext.trans (by assumption) (by assumption)), ?_⟩
    have e9l : Ext h8 h9 := e9l
    refine runJ ?_
    apply tail_end
    have o89 := o8.ext e9l
    have o9one := o9.sl.one
    refine runJ ?_
    refine s_storeF ((vl, List.replicate (2 ^ R.L) 0) : Value × List Nat) rfl rfl rfl rfl rfl o89 o9one (by omega) ?_
    intro h10 o10 k10
    refine ⟨trivial, ?_⟩
    have hset : (rows ++ List.replicate (xs.length - j) ((.slice none 0 0, []) : Value × List Nat)).set j (vl, List.replicate (2 ^ R.L) 0) = rows ++ (vl, List.replicate (2 ^ R.L) 0) :: List.replicate (xs.length - (j + 1)) ((.slice none 0 0, []) : Value × List Nat) := by
      rw [show xs.length - j = (xs.length - (j + 1)) + 1 by omega, List.replicate_succ, List.set_append_right _ _ (by omega), show j - rows.length = 0 by omega]
      rfl
    rw [hset] at o10
    rw [hb4] at k10
    have hRj : (rows ++ (vl, List.replicate (2 ^ R.L) 0) :: List.replicate (xs.length - (j + 1)) ((.slice none 0 0, []) : Value × List Nat))[j]? = some (vl, List.replicate (2 ^ R.L) 0) := by
      rw [List.getElem?_append_right (by omega), show j - rows.length = 0 by omega]; rfl
    have hRl10 : (rows ++ (vl, List.replicate (2 ^ R.L) 0) :: List.replicate (xs.length - (j + 1)) ((.slice none 0 0, []) : Value × List Nat)).length = xs.length := by simp only [List.length_append, List.length_cons, List.length_replicate]; omega
    generalize hRF : rows ++ (vl, List.replicate (2 ^ R.L) 0) :: List.replicate (xs.length - (j + 1)) ((.slice none 0 0, []) : Value × List Nat) = RF at *
    have e410 : Ext h4 h10 := ext_onlyR (e48.trans e9l) k10 fun b hb => by cases hb; exact Nat.le_refl _
    have x10 : Var h10 p11 56 [vR] := (x8.ext e9l).only k10 (by rw [b6]; intro e; have := Option.some.inj e; omega)
    have hvl : ∀ b, vl.ownBlock = some b → h8.size ≤ b := fun b hb => (o9.blk b hb).1
    have h78 : h4.size < h8.size := by omega
    have nvl : vl.ownBlock = none ∨ vl.ownBlock ≠ some h4.size := by
      cases hv : vl.ownBlock with
      | none => exact .inl rfl
      | some b => exact .inr fun e => by have := Option.some.inj e; have := hvl b hv; omega
    have ol10 := o9.only k10 nvl
    have r10 : ∀ x ∈ rows, OwnF h10 h7.size 26 U x.1 x.2 := fun x hx => by
      have o := (r8 x hx).ext e9l
      refine o.only k10 ?_
      cases hv : x.1.ownBlock with
      | none => exact .inl rfl
      | some b => exact .inr fun e => by have := Option.some.inj e; have := (o.blk b hv).1; omega
    have sRF10 := o10.sl
    obtain ⟨vx, wx⟩ := x
    obtain ⟨vy, wy⟩ := y
    dsimp only at fx fy
    have hwx := fx.1
    have hwy := fy.1
    have s4x := ((sa.ext e14).el _ hxm)
    have s4y := ((sb.ext e14).el _ hym)
    dsimp only at s4x s4y
    refine runJ ?_
    rw [List.length_replicate]
    (first | (apply w_seqB; exact rfl; apply w_block; exact rfl) | skip)
    apply (w_loop (σ := Nat) rfl (fun k => [(0, g), (3, .func (.func F) #[] #[]), (5, p5), (6, p6), (8, p8), (11, p11), (12, N j), (29, N xs.length), (30, N j), (47, N (2 ^ R.L)), (48, N k)])
      (fun k h' => k ≤ 2 ^ R.L ∧ Only vl.ownBlock h10 h' ∧ OwnF h' h8.size 26 U vl ((List.zipWith (fun a b => f a b q) wx wy).take k ++ List.replicate (2 ^ R.L - k) 0)) (fun k => 2 ^ R.L - k) 0)
    · exact (Sub.cons rfl (Sub.cons rfl (Sub.cons rfl (Sub.cons rfl (Sub.cons rfl (Sub.cons rfl (Sub.cons rfl (Sub.cons rfl (Sub.cons rfl (Sub.cons rfl (Sub.cons rfl (Sub.nil _))))))))))))
    · refine ⟨Nat.zero_le _, Only.refl _ _, ?_⟩
      rw [List.take_zero, List.nil_append, Nat.sub_zero]
      exact ol10
    rintro k h11 ⟨k1, d11, o11⟩
    have e411 : Ext h4 h11 := ext_onlyR e410 d11 fun b hb => by have := hvl b hb; omega
    have nRl : vR.ownBlock = none ∨ vR.ownBlock ≠ vl.ownBlock := by
      rw [hb4]
      exact .inr fun e => by have := hvl _ e.symm; omega
    have oR11 := o10.only d11 nRl
    have sR11 := oR11.sl
    have x11 := x10.only d11 (by rw [b6]; intro e; have := hvl _ e.symm; omega)
    have A11 := A4.ext e411
    have G11 := A11.var
    have rq11 := A11.rq
    have v1 := w1.ext e411
    have v2 := w2.ext e411
    have sa11 := (sa.ext (e14.trans e411)).row
    have sb11 := (sb.ext (e14.trans e411)).row
    have sx11 := s4x.ext e411
    have sy11 := s4y.ext e411
    refine runJ ?_
    (apply w_condD; exact rfl; exact rfl) <;> intro hk
    · obtain ⟨a, hak⟩ := get_lt (l := wx) (j := k) (by omega)
      obtain ⟨b, hbk⟩ := get_lt (l := wy) (j := k) (by omega)
      have haq := fx.2 a (List.mem_of_getElem? hak)
      have hbq := fy.2 b (List.mem_of_getElem? hbk)
      have hzk : (List.zipWith (fun a b => f a b q) wx wy)[k]? = some (f a b q) := by rw [List.getElem?_zipWith, hak, hbk]
      refine runJN ?_
      (apply (r_drawnT 32 (Ext h11)); exact rfl; exact mixed; kernel_rfl; exact rfl; first | exact Ext.refl _ | exact Only.refl _ _)
      refine runJ ?_
      refine s_callV (fs := []) (cs := []) (vs := [U a, U b, U q]) rfl he rfl rfl rfl ?_
      refine (C a b q h11 haq hbq hq61).mono ?_
      rintro _ _ ⟨rfl, rfl⟩
      refine ⟨Ext.refl _, ?_⟩
      have hil : k < ((List.zipWith (fun a b => f a b q) wx wy).take k ++ List.replicate (2 ^ R.L - k) 0).length := by
        rw [List.length_append, List.length_take, List.length_replicate, List.length_zipWith]
        omega
      have hlk : ((List.zipWith (fun a b => f a b q) wx wy).take k).length = k := by
        rw [List.length_take, List.length_zipWith]
        omega
      refine runJ ?_
      apply tail_end
      refine runJ ?_
      (apply (s_storeF (f a b q)); exact rfl; exact rfl; exact rfl; exact rfl; exact rfl; exact o11; exact rfl; (first | assumption | omega))
      intro h12 o12 k12
      refine ⟨(by first | exact trivial | exact Ext.refl _ | assumption | exact Ext.trans (by assumption) (by assumption)), ?_⟩
      have hset2 : ((List.zipWith (fun a b => f a b q) wx wy).take k ++ List.replicate (2 ^ R.L - k) 0).set k (f a b q) = (List.zipWith (fun a b => f a b q) wx wy).take (k + 1) ++ List.replicate (2 ^ R.L - (k + 1)) 0 := by
        rw [take_snoc hzk, show 2 ^ R.L - k = (2 ^ R.L - (k + 1)) + 1 by omega, List.replicate_succ, List.set_append_right _ _ (by omega), hlk, Nat.sub_self, List.append_assoc]
        rfl
      rw [hset2] at o12
      refine runJ ?_
      apply again_normal (k + 1)
      · exact (Sub.cons rfl (Sub.cons rfl (Sub.cons rfl (Sub.cons rfl (Sub.cons rfl (Sub.cons rfl (Sub.cons rfl (Sub.cons rfl (Sub.cons rfl (Sub.cons rfl (Sub.cons rfl (Sub.nil _))))))))))))
      · exact ⟨hk, d11.trans k12, o12⟩
      · omega
    · obtain rfl : k = 2 ^ R.L := by omega
      rw [Nat.sub_self, List.replicate_zero, List.append_nil, List.take_of_length_le (by rw [List.length_zipWith]; omega)] at o11
      have hmap : (RF.map Prod.fst) = ((rows ++ [(vl, List.zipWith (fun a b => f a b q) wx wy)]) ++ List.replicate (xs.length - (j + 1)) ((.slice none 0 0, []) : Value × List Nat)).map Prod.fst := by
        rw [← hRF]
        simp
      have oR12 := ownF_same oR11 hmap
      refine runJ ?_
      apply again_normal (j + 1, rows ++ [(vl, List.zipWith (fun a b => f a b q) wx wy)])
      · exact (Sub.cons rfl (Sub.cons rfl (Sub.cons rfl (Sub.cons rfl (Sub.cons rfl (Sub.cons rfl (Sub.cons rfl (Sub.cons rfl (Sub.nil _)))))))))
      · refine ⟨hj, e411, Nat.le_trans z8 (Nat.le_trans (Nat.le_trans e9l.1 k10.1) d11.1), x11, oR12, by dsimp only; rw [List.length_append, l8]; rfl, fun x hx => ?_, fun i q' x y r hi hy hq hr => ?_⟩
        · rcases List.mem_append.1 hx with hx | hx
          · refine (r10 x hx).only d11 ?_
            cases hv : x.1.ownBlock with
            | none => exact .inl rfl
            | some b => exact .inr fun e => by have := hvl b e.symm; have := ((r8 x hx).blk b hv).2; omega
          · rw [List.mem_singleton.1 hx]
            exact o11.base z8
        · by_cases hir : i < rows.length
          · rw [List.getElem?_append_left hir] at hr
            exact c8 i q' x y r hi hy hq hr
          · have hij : i = j := by
              have := (List.getElem?_eq_some_iff.1 hr).1
              simp only [List.length_append, List.length_cons, List.length_nil] at this
              omega
            subst hij
            rw [List.getElem?_append_right (by omega), show i - rows.length = 0 by omega] at hr
            cases hr
            rw [hxj] at hi
            rw [hyj] at hy
            rw [hqj] at hq
            cases hi; cases hy; cases hq
            rfl
      · dsimp only; omega
  · obtain rfl : j = xs.length := by omega
    rw [Nat.sub_self, List.replicate_zero, List.append_nil] at o8
    have hRone := o8.sl.one
    have w38 := w3.ext e48
    refine runJ ?_
    (apply s_storeV; exact rfl; exact rfl; exact rfl; exact (OneAll.cons hRone OneAll.nil : OneAll [vR]); exact rfl; exact rfl; exact w38; exact rfl)
    intro h9 x9 k9
    refine ⟨trivial, ?_⟩
    have x9 : Var h9 p8 56 [vR] := x9
    have hp8 : ∀ b, pblk p8 = some b → b = h2.size := fun b hb => by rw [b3] at hb; exact (Option.some.inj hb).symm
    have h23 : h2.size < h4.size := by
      obtain ⟨b, hb, hl⟩ := w3.blk
      rw [hp8 b hb] at hl
      exact hl
    have nk : ∀ v : Value, (∀ b, v.ownBlock = some b → h4.size ≤ b) → v.ownBlock = none ∨ v.ownBlock ≠ pblk p8 := fun v hv => by
      rw [b3]
      cases hw : v.ownBlock with
      | none => exact .inl rfl
      | some b => exact .inr fun e => by have := Option.some.inj e; have := hv b hw; omega
    have E9 : Ext h h9 := ext_onlyR (e14.trans e48) k9 fun b hb => by rw [hp8 b hb]; exact e12.1
    refine runJ ?_
    refine finCT rfl rfl rfl x9 rfl rfl ⟨E9, vR, rows, rfl, ⟨(o8.only k9 (nk vR fun b hb => by rw [hb4] at hb; cases hb; exact Nat.le_refl _)).base e14.1, fun x hx => ((r8 x hx).only k9 (nk x.1 fun b hb => by have := ((r8 x hx).blk b hb).1; omega)).base (by have := e14.1; omega), fun x hx => ?_, fun x hx => ?_, ?_⟩, l8, c8⟩
    · cases hw : x.1.ownBlock with
      | none => exact .inl rfl
      | some b => exact .inr fun e => by rw [hb4] at e; have := Option.some.inj e; have := ((r8 x hx).blk b hw).1; omega
    · cases hw : x.1.ownBlock with
      | none => exact .inl rfl
      | some b => exact .inr fun e => by cases e
    · exact .inr fun e => by rw [hb4] at e; cases e
end Go.Proofs.YtfcmdefigldpnaaGreatDoor


namespace Go.Proofs.YtfcmdefigldpnaaGreatDoor
set_option linter.unusedVariables false
set_option maxRecDepth 8000
open Go Go.Den Go.RowKit Go.Mth Go.Dig

set_option maxHeartbeats 1000000 in
theorem ringAdd_spec (g va vb : Value) (R : RngD) (xs ys : List (Value × List Nat)) (h : Hp) (K : RngOk R) (A : RngAt h g R) (sa : PolAt h va xs) (sb : PolAt h vb ys) (Pa : PolOk R xs) (Pb : PolOk R ys) (hab : xs.length = ys.length) :
    CallsH Tryz.prog 57 [g, .agg #[va], .agg #[vb]] h fun v' h' => Ext h h' ∧ ∃ vr rows, v' = .tuple #[.agg #[vr], N 0] ∧ RowsAt h' h.size none vr rows ∧ rows.length = xs.length ∧
      ∀ (i q : Nat) (x y r : Value × List Nat), xs[i]? = some x → ys[i]? = some y → R.qs[i]? = some q → rows[i]? = some r → r.2 = addL q x.2 y.2 := by
  (apply enter Tryz.func57 rfl Tryz.ntmps57 rfl)
  refine runJ ?_
  (apply s_box; exact rfl; exact rfl; exact rfl; exact rfl)
  intro p4 h1 x1 e1 b1
  (try dsimp only [Value.cells, List.toList_toArray] at x1)
  refine ⟨(by first | exact trivial | exact Ext.refl _ | assumption | exact Ext.trans (by assumption) (by assumption)), ?_⟩
  refine runJ ?_
  (apply s_box; exact rfl; exact rfl; exact rfl; exact rfl)
  intro p5 h2 x2 e2 b2
  (try dsimp only [Value.cells, List.toList_toArray] at x2)
  refine ⟨(by first | exact trivial | exact Ext.refl _ | assumption | exact Ext.trans (by assumption) (by assumption)), ?_⟩
  have y1 := x1.ext e2
  have e12 := e1.trans e2
  refine runJ ?_
  (apply s_alloc; exact rfl; exact rfl; exact rfl)
  intro p6 h3 x3 e3 b3
  (try dsimp only [Value.cells, List.toList_toArray] at x3)
  refine ⟨(by first | exact trivial | exact Ext.refl _ | assumption | exact Ext.trans (by assumption) (by assumption)), ?_⟩
  have z1 : Var h3 p4 56 [va] := y1.ext e3
  have z2 : Var h3 p5 56 [vb] := x2.ext e3
  have e13 := e12.trans e3
  have hs23 : h2.size < h3.size := by obtain ⟨j, hj, hl⟩ := x3.blk; rw [b3] at hj; cases hj; exact hl
  refine runJ ?_
  apply (s_call Tryz_ent113 rfl rfl rfl)
  refine (each_spec g va vb R 114 addm xs ys h3 K (A.ext e13) (sa.ext e13) (sb.ext e13) Pa Pb hab Tryz_ent114 (fun x y q h' hx hy hq => add_spec x y q h' (by omega) (by omega) (by omega))).mono ?_
  rintro _ h4 ⟨e4, vr, rows, rfl, RA, lr, cr⟩
  refine ⟨(by first | exact trivial | exact trivial), ?_⟩
  have x34 := x3.ext e4
  have hone := RA.own.sl.one
  refine runJ ?_
  (apply s_storeV; exact rfl; exact rfl; exact rfl; exact (OneAll.cons hone OneAll.nil : OneAll [vr]); exact rfl; exact rfl; exact x34; exact rfl)
  intro h5 x5 k5
  refine ⟨trivial, ?_⟩
  have x5 : Var h5 p6 56 [vr] := x5
  have E5 : Ext h h5 := ext_onlyR (e13.trans e4) k5 fun b hb => by rw [b3] at hb; have := Option.some.inj hb; have := e12.1; omega
  have RA5 := (RA.low (by rw [← b3]; exact k5) hs23).base e13.1
  refine runJ ?_
  exact finCT rfl rfl rfl x5 rfl rfl ⟨E5, vr, rows, rfl, RA5, lr, cr⟩

set_option maxHeartbeats 1000000 in
theorem ringSub_spec (g va vb : Value) (R : RngD) (xs ys : List (Value × List Nat)) (h : Hp) (K : RngOk R) (A : RngAt h g R) (sa : PolAt h va xs) (sb : PolAt h vb ys) (Pa : PolOk R xs) (Pb : PolOk R ys) (hab : xs.length = ys.length) :
    CallsH Tryz.prog 69 [g, .agg #[va], .agg #[vb]] h fun v' h' => Ext h h' ∧ ∃ vr rows, v' = .tuple #[.agg #[vr], N 0] ∧ RowsAt h' h.size none vr rows ∧ rows.length = xs.length ∧
      ∀ (i q : Nat) (x y r : Value × List Nat), xs[i]? = some x → ys[i]? = some y → R.qs[i]? = some q → rows[i]? = some r → r.2 = subL q x.2 y.2 := by
  (apply enter Tryz.func69 rfl Tryz.ntmps69 rfl)
  refine runJ ?_
  (apply s_box; exact rfl; exact rfl; exact rfl; exact rfl)
  intro p4 h1 x1 e1 b1
  (try dsimp only [Value.cells, List.toList_toArray] at x1)
  refine ⟨(by first | exact trivial | exact Ext.refl _ | assumption | exact Ext.trans (by assumption) (by assumption)), ?_⟩
  refine runJ ?_
  (apply s_box; exact rfl; exact rfl; exact rfl; exact rfl)
  intro p5 h2 x2 e2 b2
  (try dsimp only [Value.cells, List.toList_toArray] at x2)
  refine ⟨(by first | exact trivial | exact Ext.refl _ | assumption | exact Ext.trans (by assumption) (by assumption)), ?_⟩
  have y1 := x1.ext e2
  have e12 := e1.trans e2
  refine runJ ?_
  (apply s_alloc; exact rfl; exact rfl; exact rfl)
  intro p6 h3 x3 e3 b3
  (try dsimp only [Value.cells, List.toList_toArray] at x3)
  refine ⟨(by first | exact trivial | exact Ext.refl _ | assumption | exact Ext.trans (by assumption) (by assumption)), ?_⟩
  have z1 : Var h3 p4 56 [va] := y1.ext e3
  have z2 : Var h3 p5 56 [vb] := x2.ext e3
  have e13 := e12.trans e3
  have hs23 : h2.size < h3.size := by obtain ⟨j, hj, hl⟩ := x3.blk; rw [b3] at hj; cases hj; exact hl
  refine runJ ?_
  apply (s_call Tryz_ent113 rfl rfl rfl)
  refine (each_spec g va vb R 66 subm xs ys h3 K (A.ext e13) (sa.ext e13) (sb.ext e13) Pa Pb hab Tryz_ent66 (fun x y q h' hx hy hq => sub_spec x y q h' (by omega) (by omega) (by omega))).mono ?_
  rintro _ h4 ⟨e4, vr, rows, rfl, RA, lr, cr⟩
  refine ⟨(by first | exact trivial | exact trivial), ?_⟩
  have x34 := x3.ext e4
  have hone := RA.own.sl.one
  refine runJ ?_
  (apply s_storeV; exact rfl; exact rfl; exact rfl; exact (OneAll.cons hone OneAll.nil : OneAll [vr]); exact rfl; exact rfl; exact x34; exact rfl)
  intro h5 x5 k5
  refine ⟨trivial, ?_⟩
  have x5 : Var h5 p6 56 [vr] := x5
  have E5 : Ext h h5 := ext_onlyR (e13.trans e4) k5 fun b hb => by rw [b3] at hb; have := Option.some.inj hb; have := e12.1; omega
  have RA5 := (RA.low (by rw [← b3]; exact k5) hs23).base e13.1
  refine runJ ?_
  exact finCT rfl rfl rfl x5 rfl rfl ⟨E5, vr, rows, rfl, RA5, lr, cr⟩
end Go.Proofs.YtfcmdefigldpnaaGreatDoor


namespace Go.Den
open Go Go.RowKit
section
variable {P : Program} {n : Nat} {Q : Post} {l : Fr} {h : Hp} {ops : List Oper} {Ch : Hp → Prop} {E : Nat → Bool} {i : Nat}
variable {d : Nat} {t yt : TypeId} {x y : Operand} {a b : Nat}
theorem bits_and_i64_nat (a b : Nat) (ha : a < 9223372036854775808) (hb : b < 9223372036854775808) :
    bits .and .i64 (a : Int) (b : Int) = ((a &&& b : Nat) : Int) := by
  have hx : a &&& b < 2 ^ 63 := Nat.and_lt_two_pow _ (by omega)
  have h1 : (BitVec.ofInt 64 (a : Int)).toNat = a := by
    rw [BitVec.ofInt_natCast, BitVec.toNat_ofNat]; exact Nat.mod_eq_of_lt (by omega)
  have h2 : (BitVec.ofInt 64 (b : Int)).toNat = b := by
    rw [BitVec.ofInt_natCast, BitVec.toNat_ofNat]; exact Nat.mod_eq_of_lt (by omega)
  show IntKind.i64.wrap ((BitVec.ofInt 64 (a : Int) &&& BitVec.ofInt 64 (b : Int)).toNat : Int) = _
  rw [BitVec.toNat_and, h1, h2]
  exact wrapI_in _ (by omega)
theorem s_andN (hx : IsK (ev l x) .i64 a) (hy : IsK (ev l y) .i64 b) (hb : Nat.blt d n = true) (hn : a < 9223372036854775808 ∧ b < 9223372036854775808)
    (k : S P n ops Ch E Q (i + 1) ((d, N (a &&& b)) :: l) h) : O P n ops Ch E Q i d (.binOp .and t x y yt) l h :=
  s_bin hx.h hy.h hb (fun w' => by
    show Result.ok (Value.int .i64 (bits .and .i64 (a : Int) b)) w' = _
    rw [bits_and_i64_nat _ _ hn.1 hn.2]) k
end
end Go.Den
namespace Go.Proofs.YtfcmdefigldpnaaGreatDoor
set_option linter.unusedVariables false
set_option maxRecDepth 8000
open Go Go.Den Go.RowKit Go.Dig

def one1 (x : Nat) : Nat := (x / 2 ^ 1 &&& 6148914691236517205) + (x &&& 6148914691236517205)
def one2 (y : Nat) : Nat := (y / 2 ^ 2 &&& 3689348814741910323) + (y &&& 3689348814741910323)
def one3 (z : Nat) : Nat := z / 2 ^ 4 + z &&& 1085102592571150095
def one4 (a : Nat) : Nat := a + a / 2 ^ 8
def one5 (a : Nat) : Nat := a + a / 2 ^ 16
def one6 (a : Nat) : Nat := a + a / 2 ^ 32
def ones (x : Nat) : Nat := one6 (one5 (one4 (one3 (one2 (one1 x))))) &&& 127

theorem tones_spec (x : Nat) (h : Hp) (hx : x < 18446744073709551616) :
    CallsH Tryz.prog 153 [U x] h fun v' h' => v' = N (ones x) ∧ h = h' := by
  have a1 : x / 2 ^ 1 &&& 6148914691236517205 ≤ 6148914691236517205 := Nat.and_le_right
  have a2 : x &&& 6148914691236517205 ≤ 6148914691236517205 := Nat.and_le_right
  (apply enter Tryz.func153 rfl Tryz.ntmps153 rfl)
  refine runH ?_
  have hy : one1 x = (x / 2 ^ 1 &&& 6148914691236517205) + (x &&& 6148914691236517205) := rfl
  rw [← hy]
  unfold ones
  generalize one1 x = y at hy ⊢
  have b1 : y / 2 ^ 2 &&& 3689348814741910323 ≤ 3689348814741910323 := Nat.and_le_right
  have b2 : y &&& 3689348814741910323 ≤ 3689348814741910323 := Nat.and_le_right
  have b3 : (y / 2 ^ 2 &&& 3689348814741910323) + (y &&& 3689348814741910323) ≤ 7378697629483820646 := by omega
  have b4 : ((y / 2 ^ 2 &&& 3689348814741910323) + (y &&& 3689348814741910323)) / 2 ^ 4 + ((y / 2 ^ 2 &&& 3689348814741910323) + (y &&& 3689348814741910323)) &&& 1085102592571150095 ≤ 1085102592571150095 := Nat.and_le_right
  refine runH ?_
  have hz : one3 (one2 y) = ((y / 2 ^ 2 &&& 3689348814741910323) + (y &&& 3689348814741910323)) / 2 ^ 4 + ((y / 2 ^ 2 &&& 3689348814741910323) + (y &&& 3689348814741910323)) &&& 1085102592571150095 := rfl
  rw [← hz] at b4 ⊢
  generalize one3 (one2 y) = z at b4 ⊢
  have e4 : one4 z = z + z / 2 ^ 8 := rfl
  have d4 : one4 z ≤ 1100000000000000000 := by rw [e4]; omega
  refine runH ?_
  rw [← e4]
  have e5 : one5 (one4 z) = one4 z + one4 z / 2 ^ 16 := rfl
  have d5 : one5 (one4 z) ≤ 1200000000000000000 := by rw [e5]; omega
  refine runH ?_
  (apply s_andN; (first | exact isK_c | exact isK_t rfl); (first | exact isK_c | exact isK_t rfl); exact rfl; omega)
  refine runH ?_
  exact fin1 rfl rfl ⟨rfl, rfl⟩

/-- .. of x from lo on, so many: at most w. -/
def onesLe : Nat → Nat → Nat → Bool
  | w, lo, 0 => Nat.ble (ones lo) w
  | w, lo, k + 1 => onesLe w lo k && onesLe w (lo + 2 ^ k) k
theorem onesLe_spec : ∀ (k w lo : Nat), onesLe w lo k = true → ∀ x, lo ≤ x → x < lo + 2 ^ k → ones x ≤ w
  | 0, w, lo, h, x, h1, h2 => by
    have : x = lo := by simp at h2; omega
    subst this
    exact Nat.le_of_ble_eq_true h
  | k + 1, w, lo, h, x, h1, h2 => by
    simp only [onesLe, Bool.and_eq_true] at h
    rw [Nat.pow_succ] at h2
    by_cases hx : x < lo + 2 ^ k
    · exact onesLe_spec k w lo h.1 x h1 hx
    · exact onesLe_spec k w (lo + 2 ^ k) h.2 x (by omega) (by omega)
theorem ones_table : ((List.range 16).all fun w => onesLe (w + 1) (2 ^ w) w) = true := by decide +kernel
theorem ones_le {w x : Nat} (hw : w ≤ 16) (hx : x < 2 ^ w) : ones x ≤ w := by
  induction w with
  | zero => have : x = 0 := by simp at hx; omega
            subst this; decide
  | succ w ih =>
    by_cases h : x < 2 ^ w
    · have := ih (by omega) h; omega
    · have ht := List.all_eq_true.1 ones_table w (by simp; omega)
      exact onesLe_spec w (w + 1) (2 ^ w) ht x (by omega) (by rw [Nat.pow_succ] at hx; omega)

end Go.Proofs.YtfcmdefigldpnaaGreatDoor


namespace Go.Proofs.YtfcmdefigldpnaaGreatDoor
set_option linter.unusedVariables false
set_option maxRecDepth 8000
open Go Go.Den Go.RowKit Go.Dig

theorem Tryz_ent109 : Ent Tryz.prog 109 := ent_of Tryz.func109 (by kernel_rfl) rfl
theorem error_spec (t : Value) (B : Option Nat) (w : Nat) (ds : List Nat) (o : Bool) (h : Hp) (s : TapeAt h t B ds o) (hw : 1 ≤ w) (hw2 : w ≤ 16) :
    CallsH Tryz.prog 109 [t, N w] h fun v' h' => Only (pblk t) h h' ∧
      ((v' = .tuple #[N 0, N 11] ∧ (∃ ds', TapeAt h' t B ds' true) ∧ (o = false ∨ ds = [] → TapeAt h' t B [] true) ∧ (o = true ∨ ds = [])) ∨ (∃ r : Int, ∃ ds', v' = .tuple #[I r, N 0] ∧ -(w : Int) ≤ r ∧ r ≤ w ∧ o = false ∧ (∃ d, ds = d :: ds' ∧ r = ((ones (d &&& 1 * 2 ^ w - 1) : Nat) : Int) - ((ones (d / 2 ^ w &&& 1 * 2 ^ w - 1) : Nat) : Int)) ∧ TapeAt h' t B ds' false ∧ ds'.length ≤ ds.length)) := by
  have s0 := s
  obtain ⟨v, s1, s2, s3, s4, s5⟩ := s
  (apply enter Tryz.func109 rfl Tryz.ntmps109 rfl)
  refine runH ?_
  (apply s_splitG; exact rfl; exact rfl; exact rfl; exact rfl) <;> intro hg
  · omega
  refine runH ?_
  (apply w_condF; exact rfl; exact rfl; exact (by omega))
  refine runH ?_
  apply (s_call Tryz_ent150 rfl rfl rfl)
  refine (draw_spec t B ds o h s0).mono ?_
  rintro r h2 ⟨k2, D⟩
  refine ⟨(by first | exact trivial | exact trivial), ?_⟩
  cases ds with
  | nil =>
    obtain ⟨rfl, D⟩ := D
    refine runH ?_
    exact fin2 rfl rfl rfl ⟨k2, .inl ⟨rfl, ⟨_, D⟩, fun _ => D, .inr rfl⟩⟩
  | cons d ds' =>
    obtain ⟨rfl, D⟩ := D
    have D0 := D
    obtain ⟨v2, u1, u2, u3, u4, u5⟩ := D
    have hd64 : d < 18446744073709551616 := s4 d (by simp)
    refine runH ?_
    (apply w_cond; exact rfl; exact rfl) <;> intro ho
    · subst ho
      refine runH ?_
      refine fin2 rfl rfl rfl ⟨k2, .inl ⟨rfl, ⟨_, D0⟩, (fun h => by rcases h with h | h <;> cases h), .inl rfl⟩⟩
    · subst ho
      have p1 : 2 ^ w ≤ 65536 := by
        have := Nat.pow_le_pow_right (n := 2) (by omega) hw2
        simpa using this
      have p0 : 0 < 2 ^ w := Nat.two_pow_pos w
      have ma : ∀ x, (x &&& 1 * 2 ^ w - 1) < 2 ^ w := fun x => by
        rw [Nat.one_mul, Nat.and_two_pow_sub_one_eq_mod]; exact Nat.mod_lt _ p0
      have ma1 := ma d
      have ma2 := ma (d / 2 ^ w)
      have l1 := ones_le hw2 ma1
      have hdw : d / 2 ^ w < 18446744073709551616 ∧ 1 * 2 ^ w - 1 < 18446744073709551616 := ⟨Nat.lt_of_le_of_lt (Nat.div_le_self _ _) hd64, by omega⟩
      have l2 := ones_le hw2 ma2
      refine runH ?_
      apply (s_call Tryz_ent153 rfl rfl rfl)
      refine (tones_spec _ _ (Nat.lt_of_lt_of_le ma1 (by omega))).mono ?_
      rintro _ _ ⟨rfl, rfl⟩
      refine ⟨(by first | exact trivial | exact Ext.refl _ | assumption | exact Ext.trans (by assumption) (by assumption)), ?_⟩
      refine runH ?_
      apply (s_call Tryz_ent153 rfl rfl rfl)
      refine (tones_spec _ _ (Nat.lt_of_lt_of_le ma2 (by omega))).mono ?_
      rintro _ _ ⟨rfl, rfl⟩
      refine ⟨(by first | exact trivial | exact Ext.refl _ | assumption | exact Ext.trans (by assumption) (by assumption)), ?_⟩
      refine runH ?_
      refine fin2 rfl rfl rfl ⟨k2, .inr ⟨_, ds', rfl, ?_, ?_, rfl, ⟨d, rfl, rfl⟩, D0, by simp only [List.length_cons]; omega⟩⟩
      · omega
      · omega
end Go.Proofs.YtfcmdefigldpnaaGreatDoor


namespace Go.Proofs.YtfcmdefigldpnaaGreatDoor
set_option linter.unusedVariables false
set_option maxRecDepth 8000
open Go Go.Den Go.RowKit Go.Dig

theorem TapeAt.only {h h' : Hp} {t : Value} {B r : Option Nat} {ds : List Nat} {o : Bool} (s : TapeAt h t B ds o) (k : Only r h h') (h1 : pblk t ≠ r) (h2 : B ≠ r) : TapeAt h' t B ds o := by
  obtain ⟨v, s1, s2, s3, s4, s5⟩ := s
  refine ⟨v, s1.only k h1, s2.only k ?_, s3.mono k.1, s4, s5⟩
  rcases s3.own with e | e
  · exact .inl e
  · exact .inr (by rw [e]; exact h2)

theorem Tryz_ent101 : Ent Tryz.prog 101 := ent_of Tryz.func101 (by kernel_rfl) rfl
theorem tsized_spec (n : Int) (h : Hp) (hn : -9223372036854775808 ≤ n ∧ n < 9223372036854775808) : CallsH Tryz.prog 101 [I n] h fun v' h' => v' = .bool (decide (1 ≤ n ∧ n ≤ 4096)) ∧ h = h' := by
  (apply enter Tryz.func101 rfl Tryz.ntmps101 rfl)
  refine runH ?_
  (apply s_splitG; exact rfl; exact rfl; exact rfl; exact rfl) <;> intro h1
  · refine runH ?_
    refine fin1 rfl rfl ⟨?_, rfl⟩
    congr 1; simp [h1]
  · refine runH ?_
    refine fin1 rfl rfl ⟨?_, rfl⟩
    congr 1; simp [h1]

/-- So many of three, and what is left. -/
def rowT : Nat → List Nat → Option (List Int × List Nat)
  | 0, ds => some ([], ds)
  | k + 1, ds => match firstT ds with
    | none => none
    | some (r, ds1) => match rowT k ds1 with
      | none => none
      | some (rs, ds2) => some (r :: rs, ds2)

theorem Tryz_ent102 : Ent Tryz.prog 102 := ent_of Tryz.func102 (by kernel_rfl) rfl
theorem trow_spec (t : Value) (B : Option Nat) (n : Nat) (ds : List Nat) (h : Hp) (s : TapeAt h t B ds false) (hn : 1 ≤ n) (hn2 : n ≤ 4096) :
    CallsH Tryz.prog 102 [N n, .func (.func 103) #[t] #[]] h fun v' h' => Only (pblk t) h h' ∧ match rowT n ds with
      | none => v' = .tuple #[.slice none 0 0, N 11] ∧ TapeAt h' t B [] true
      | some (rs, ds') => ∃ u, v' = .tuple #[u, N 0] ∧ OwnF h' h.size 2 I u rs ∧ TapeAt h' t B ds' false ∧ ds'.length + n ≤ ds.length := by
  (apply enter Tryz.func102 rfl Tryz.ntmps102 rfl)
  refine runH ?_
  (apply (s_make (f := I) (bytes := 8) (0)); (first | exact isK_c | exact isK_t rfl); (first | exact isK_c | exact isK_t rfl); exact rfl; exact rfl; exact rfl; exact rfl; exact rfl; exact rfl; omega; omega; omega)
  intro u h1 o1 e1 b1
  refine ⟨(by first | exact trivial | exact Ext.refl _ | assumption | exact Ext.trans (by assumption) (by assumption)), ?_⟩
  refine runH ?_
  rw [List.length_replicate]
  have s1 : TapeAt h1 t B ds false := by
    obtain ⟨v, s1, s2, s3, s4, s5⟩ := s
    exact ⟨v, s1.ext e1, s2.ext e1, s3.mono e1.1, s4, s5⟩
  obtain ⟨pk, hpk, hpl⟩ : ∃ k, pblk t = some k ∧ k < h.size := by
    obtain ⟨v, s1, -⟩ := s
    exact s1.blk
  have hBlt : ∀ b, B = some b → b < h.size := by
    obtain ⟨v, -, -, s3, -⟩ := s
    exact s3.lt
  apply (w_loop (σ := Nat × List Int × List Nat) rfl (fun p => [(14, N p.1), (13, N n), (6, u), (1, .func (.func 103) #[t] #[])])
    (fun p h' => Only (pblk t) h h' ∧ OwnF h' h.size 2 I u (p.2.1 ++ List.replicate (n - p.1) 0) ∧ TapeAt h' t B p.2.2 false ∧ p.2.1.length = p.1 ∧ p.1 ≤ n ∧ p.2.2.length + p.1 ≤ ds.length ∧
      rowT n ds = (match rowT (n - p.1) p.2.2 with | none => none | some (x, y) => some (p.2.1 ++ x, y))) (fun p => n - p.1) (0, [], ds))
  · exact (Sub.cons rfl (Sub.cons rfl (Sub.cons rfl (Sub.cons rfl (Sub.nil _)))))
  · refine ⟨e1.only _, by simpa using o1, s1, rfl, Nat.zero_le _, Nat.le_refl _, ?_⟩
    simp only [Nat.sub_zero, List.nil_append]
    cases rowT n ds <;> rfl
  · rintro ⟨i, rs, ds'⟩ h2 ⟨d1, d2, d3, d4, d5, d6, d7⟩
    dsimp only at d2 d3 d4 d5 d6 d7 ⊢
    refine runH ?_
    (apply w_condD; exact rfl; exact rfl) <;> intro hi
    · refine runH ?_
      refine (s_callV (fs := [t]) (cs := []) (vs := []) (args := []) rfl Tryz_ent103 rfl rfl rfl ?_)
      refine (ternary_spec t B ds' false h2 d3).mono ?_
      rintro r h3 ⟨k3, T⟩
      refine ⟨trivial, ?_⟩
      have d1' := d1.trans k3
      have hne : u.ownBlock = none ∨ u.ownBlock ≠ pblk t := d2.neV hpk hpl
      have o3 := d2.only k3 hne
      obtain ⟨m, hm⟩ : ∃ m, n - i = m + 1 := ⟨n - i - 1, by omega⟩
      simp only [Bool.false_eq_true, if_false] at T
      cases hf : firstT ds' with
      | none =>
        rw [hf] at T
        obtain ⟨rfl, -, T⟩ := T
        have T := T trivial
        have d8 : rowT n ds = none := by rw [d7, hm]; simp [rowT, hf]
        rw [d8]
        refine runH ?_
        exact fin2 rfl rfl rfl ⟨d1', rfl, T⟩
      | some q =>
        obtain ⟨r1, ds1⟩ := q
        rw [hf] at T
        obtain ⟨rfl, -, -, T, T2⟩ := T
        have hil : i < (rs ++ List.replicate (n - i) 0).length := by simp only [List.length_append, List.length_replicate]; omega
        refine runH ?_
        (apply (s_storeF (r1)); exact rfl; exact rfl; exact rfl; exact rfl; exact rfl; exact o3; exact rfl; (first | assumption | omega))
        intro h4 o4 k4
        refine ⟨(by first | exact trivial | exact Ext.refl _ | assumption | exact Ext.trans (by assumption) (by assumption)), ?_⟩
        rw [b1] at k4
        have hsz : h.size ≤ h3.size := d1'.1
        have hT : TapeAt h4 t B ds1 false := T.only k4 (by rw [hpk]; intro e; cases e; omega) (fun e => by have := hBlt _ e; omega)
        have d1'' : Only (pblk t) h h4 := ⟨Nat.le_trans d1'.1 k4.1, fun k hk hne => by
          rw [k4.2 k (Nat.lt_of_lt_of_le hk hsz) (fun e => by cases e; omega), d1'.2 k hk hne]⟩
        have hset : (rs ++ List.replicate (n - i) 0).set i r1 = (rs ++ [r1]) ++ List.replicate (n - (i + 1)) 0 := by
          rw [hm, show n - (i + 1) = m by omega, List.replicate_succ, List.set_append_right _ _ (by omega), show i - rs.length = 0 by omega]
          simp
        rw [hset] at o4
        refine runH ?_
        apply again_normal (i + 1, rs ++ [r1], ds1)
        · exact (Sub.cons rfl (Sub.cons rfl (Sub.cons rfl (Sub.cons rfl (Sub.nil _)))))
        · refine ⟨d1'', o4, hT, by simp [d4], hi, by simp only []; omega, ?_⟩
          rw [d7, hm, show n - (i + 1) = m by omega]
          simp only [rowT, hf]
          cases rowT m ds1 with
          | none => rfl
          | some q => simp
        · simp only []; omega
    · have hi' : i = n := by omega
      subst hi'
      have d8 : rowT i ds = some (rs, ds') := by rw [d7, Nat.sub_self]; simp [rowT]
      rw [d8]
      refine runH ?_
      refine fin2 rfl rfl rfl ⟨d1, u, rfl, by simpa using d2, d3, by omega⟩

theorem Tryz_ent46 : Ent Tryz.prog 46 := ent_of Tryz.func46 (by kernel_rfl) rfl
theorem ternaries_spec (t : Value) (B : Option Nat) (n : Nat) (ds : List Nat) (h : Hp) (s : TapeAt h t B ds false) (hn : 1 ≤ n) (hn2 : n ≤ 4096) :
    CallsH Tryz.prog 46 [t, N n] h fun v' h' => Only (pblk t) h h' ∧ match rowT n ds with
      | none => v' = .tuple #[.slice none 0 0, N 11] ∧ TapeAt h' t B [] true
      | some (rs, ds') => ∃ u, v' = .tuple #[u, N 0] ∧ OwnF h' h.size 2 I u rs ∧ TapeAt h' t B ds' false ∧ ds'.length + n ≤ ds.length := by
  have s0 := s
  obtain ⟨v, s1, s2, s3, s4, s5⟩ := s
  (apply enter Tryz.func46 rfl Tryz.ntmps46 rfl)
  refine runH ?_
  apply (s_call Tryz_ent101 rfl rfl rfl)
  refine (tsized_spec n h (by omega)).mono ?_
  rintro _ _ ⟨rfl, rfl⟩
  refine ⟨(by first | exact trivial | exact Ext.refl _ | assumption | exact Ext.trans (by assumption) (by assumption)), ?_⟩
  have hd : decide (1 ≤ (n : Int) ∧ (n : Int) ≤ 4096) = true := by simp; omega
  rw [hd]
  refine runH ?_
  apply (s_call Tryz_ent102 rfl rfl rfl)
  refine (trow_spec t B n ds h s0 hn hn2).mono ?_
  rintro r h2 ⟨k2, T⟩
  refine ⟨(by first | exact trivial | exact trivial), ?_⟩
  cases hr : rowT n ds with
  | none =>
    rw [hr] at T
    obtain ⟨rfl, T⟩ := T
    refine runH ?_
    exact fin2 rfl rfl rfl ⟨k2, rfl, T⟩
  | some q =>
    obtain ⟨rs, ds'⟩ := q
    rw [hr] at T
    obtain ⟨u, rfl, T1, T2, T3⟩ := T
    refine runH ?_
    exact fin2 rfl rfl rfl ⟨k2, u, rfl, T1, T2, T3⟩

end Go.Proofs.YtfcmdefigldpnaaGreatDoor


namespace Go.Proofs.YtfcmdefigldpnaaGreatDoor
set_option linter.unusedVariables false
set_option maxRecDepth 8000
open Go Go.Den Go.RowKit Go.Dig

theorem Tryz_ent54 : Ent Tryz.prog 54 := ent_of Tryz.func54 (by kernel_rfl) rfl
theorem Tryz_ent104 : Ent Tryz.prog 104 := ent_of Tryz.func104 (by kernel_rfl) rfl
theorem TapeAt.ext {h h' : Hp} {t : Value} {B : Option Nat} {ds : List Nat} {o : Bool} (s : TapeAt h t B ds o) (k : Ext h h') : TapeAt h' t B ds o := by
  obtain ⟨v, s1, s2, s3, s4, s5⟩ := s
  exact ⟨v, s1.ext k, s2.ext k, s3.mono k.1, s4, s5⟩

end Go.Proofs.YtfcmdefigldpnaaGreatDoor


namespace Go.Proofs.YtfcmdefigldpnaaGreatDoor
set_option linter.unusedVariables false
set_option maxRecDepth 8000
open Go Go.Den Go.RowKit Go.Dig

/-- Rows of words, one for each prime, and what is left. -/
def uniG (n : Nat) : List Nat → List Nat → Option (List (List Nat) × List Nat)
  | [], ds => some ([], ds)
  | q :: qs, ds => match rowG (firstB q) n ds with
    | none => none
    | some (l, ds1) => match uniG n qs ds1 with
      | none => none
      | some (ls, ds2) => some (l :: ls, ds2)
theorem uniG_step {n q : Nat} {qs ds' ds1 : List Nat} {Z : Option (List (List Nat) × List Nat)} {ls : List (List Nat)} {l : List Nat} (h : Z = preG ls (uniG n (q :: qs) ds')) (hf : rowG (firstB q) n ds' = some (l, ds1)) :
    Z = preG (ls ++ [l]) (uniG n qs ds1) := by
  rw [h]
  simp only [uniG, hf]
  cases uniG n qs ds1 with
  | none => rfl
  | some q => simp [preG]
theorem uniG_fail {n q : Nat} {qs ds' : List Nat} {Z : Option (List (List Nat) × List Nat)} {ls : List (List Nat)} (h : Z = preG ls (uniG n (q :: qs) ds')) (hf : rowG (firstB q) n ds' = none) : Z = none := by
  rw [h]
  simp only [uniG, hf, preG]
theorem uniG_zero {n : Nat} {ds' : List Nat} {Z : Option (List (List Nat) × List Nat)} {ls : List (List Nat)} (h : Z = preG ls (uniG n [] ds')) : Z = some (ls, ds') := by
  rw [h]
  simp [uniG, preG]
theorem firstB_lt {q : Nat} (hq : 0 < q) : ∀ (ds : List Nat) (r : Nat) (ds' : List Nat), firstB q ds = some (r, ds') → r < q
  | [], r, ds', h => by cases h
  | d :: ds, r, ds', h => by
    unfold firstB at h
    split at h
    · cases h; exact Nat.mod_lt _ hq
    · exact firstB_lt hq ds r ds' h
theorem rowG_all {α : Type} {f : List Nat → Option (α × List Nat)} {p : α → Prop} (hf : ∀ ds r ds', f ds = some (r, ds') → p r) : ∀ (n : Nat) (ds : List Nat) (rs : List α) (ds' : List Nat), rowG f n ds = some (rs, ds') → rs.length = n ∧ ∀ r ∈ rs, p r
  | 0, ds, rs, ds', h => by simp only [rowG, Option.some.injEq, Prod.mk.injEq] at h; obtain ⟨rfl, -⟩ := h; exact ⟨rfl, fun r hr => by cases hr⟩
  | n + 1, ds, rs, ds', h => by
    simp only [rowG] at h
    cases h1 : f ds with
    | none => rw [h1] at h; cases h
    | some q =>
      obtain ⟨r, ds1⟩ := q
      rw [h1] at h
      dsimp only at h
      cases h2 : rowG f n ds1 with
      | none => rw [h2] at h; cases h
      | some q2 =>
        obtain ⟨rs2, ds2⟩ := q2
        rw [h2] at h
        simp only [Option.some.injEq, Prod.mk.injEq] at h
        obtain ⟨rfl, rfl⟩ := h
        obtain ⟨a1, a2⟩ := rowG_all hf n ds1 rs2 ds2 h2
        refine ⟨by simp [a1], fun x hx => ?_⟩
        rcases List.mem_cons.1 hx with rfl | hx
        · exact hf _ _ _ h1
        · exact a2 x hx

end Go.Proofs.YtfcmdefigldpnaaGreatDoor


namespace Go.Proofs.YtfcmdefigldpnaaGreatDoor
set_option linter.unusedVariables false
set_option maxRecDepth 8000
open Go Go.Den Go.RowKit Go.Dig

/-- What a draw gave. -/
def GotP {α : Type} (f : α → Value) (z : Value) (h : Hp) (t : Value) (B : Option Nat) (v' : Value) : Option (α × List Nat) → Prop
  | none => v' = .tuple #[z, N 11] ∧ TapeAt h t B [] true
  | some (r, ds) => v' = .tuple #[f r, N 0] ∧ TapeAt h t B ds false
theorem sp_eq (q : Nat) : Nat.mod (Nat.mod 1 q * 18446744073709551616 + 0) q = 18446744073709551616 % q := by
  show (1 % q * 18446744073709551616 + 0) % q = _
  rw [Nat.add_zero, Nat.mod_mul_mod, Nat.one_mul]
theorem TapeAt.al {h : Hp} {t : Value} {B : Option Nat} {ds : List Nat} {o : Bool} (s : TapeAt h t B ds o) : Al 18446744073709551616 ds := by
  obtain ⟨v, -, -, -, s4, -⟩ := s
  exact s4
theorem TapeAt.pb {h : Hp} {t : Value} {B : Option Nat} {ds : List Nat} {o : Bool} (s : TapeAt h t B ds o) : ∃ k, pblk t = some k ∧ k < h.size := by
  obtain ⟨v, s1, -⟩ := s
  exact s1.blk
theorem TapeAt.bl {h : Hp} {t : Value} {B : Option Nat} {ds : List Nat} {o : Bool} (s : TapeAt h t B ds o) : ∀ b, B = some b → b < h.size := by
  obtain ⟨v, -, -, s3, -⟩ := s
  exact s3.lt
theorem TapeAt.own {h h' : Hp} {t : Value} {B r : Option Nat} {ds : List Nat} {o : Bool} (s : TapeAt h t B ds o) (k : Only r h h') {M : Nat} (hp : ∀ j, pblk t = some j → j < M) (hB : ∀ b, B = some b → b < M) (hr : ∀ j, r = some j → M ≤ j) : TapeAt h' t B ds o := by
  cases r with
  | none => exact s.ext k.ext
  | some j => exact s.only k (fun e => by have := hp j e; have := hr j rfl; omega) (fun e => by have := hB j e; have := hr j rfl; omega)

theorem belowP_spec (t : Value) (B : Option Nat) (q : Nat) (ds : List Nat) (h : Hp) (s : TapeAt h t B ds false) (hq : 0 < q) (hq2 : q < 18446744073709551616) :
    CallsH Tryz.prog 151 [t, U q] h fun v' h' => Only (pblk t) h h' ∧ GotP U (U 0) h' t B v' (firstB q ds) := by
  have s0 := s
  have hF : ∀ d ds, firstB q (d :: ds) = if d ≤ 18446744073709551615 - 18446744073709551616 % q then some (d % q, ds) else firstB q ds := fun d ds => rfl
  obtain ⟨v, s1, s2, s3, s4, s5⟩ := s
  (apply enter Tryz.func151 rfl Tryz.ntmps151 rfl)
  refine runH ?_
  (apply w_condF; exact rfl; exact rfl; exact (by omega))
  refine runH ?_
  have h1q : Nat.mod 1 q < q := Nat.mod_lt _ hq
  apply (s_call Tryz_ent168 rfl rfl rfl)
  refine (div64_spec _ _ _ _ h1q (by decide) hq2).mono ?_
  rintro _ _ ⟨rfl, rfl⟩
  refine ⟨(by first | exact trivial | exact Ext.refl _ | assumption | exact Ext.trans (by assumption) (by assumption)), ?_⟩
  have hsp : Nat.mod (Nat.mod 1 q * 18446744073709551616 + 0) q < q := Nat.mod_lt _ hq
  rw [← sp_eq q] at hF
  generalize hspd : Nat.mod (Nat.mod 1 q * 18446744073709551616 + 0) q = sp at hsp hF
  have hspe : (Nat.mod 1 q * 18446744073709551616 + 0) - (Nat.mod 1 q * 18446744073709551616 + 0) / q * q = (Nat.mod 1 q * 18446744073709551616 + 0) - (Nat.mod 1 q * 18446744073709551616 + 0) / q * q := rfl
  refine runH ?_
  (first | (apply w_seqB; exact rfl; apply w_block; exact rfl) | skip)
  apply (w_loop (σ := List Nat × Bool) rfl (fun p => [(0, t), (1, U q), (7, U sp)])
    (fun p h' => Only (pblk t) h h' ∧ TapeAt h' t B p.1 p.2 ∧ (p.2 = true → p.1 = []) ∧ firstB q ds = (if p.2 then none else firstB q p.1)) (fun p => if p.2 then 0 else p.1.length + 1) (ds, false))
  · have e7 := congrArg U hspd
    exact (Sub.cons rfl (Sub.cons rfl (Sub.cons (congrArg some e7) (Sub.nil _))))
  · exact ⟨Only.refl _ _, s0, (fun h2 => by cases h2), rfl⟩
  · rintro ⟨ds', o'⟩ h1 ⟨i1, i2, i4, i3⟩
    dsimp only at i2 i3 i4 ⊢
    have i2' := i2
    obtain ⟨v1, t1, t2, t3, t4, t5⟩ := i2
    refine runH ?_
    (apply w_cond; exact rfl; exact rfl) <;> intro ho
    · have ho' : o' = false := by simpa using ho
      subst ho'
      refine runH ?_
      apply (s_call Tryz_ent150 rfl rfl rfl)
      refine (draw_spec t B ds' false h1 i2').mono ?_
      rintro r h2 ⟨k2, D⟩
      refine ⟨(by first | exact trivial | exact trivial), ?_⟩
      have i5 := i1.trans k2
      rw [if_neg (by simp)] at i3
      cases ds' with
      | nil =>
        obtain ⟨rfl, D⟩ := D
        refine runH ?_
        apply again_normal ([], true)
        · exact (Sub.cons rfl (Sub.cons rfl (Sub.cons rfl (Sub.nil _))))
        · exact ⟨i5, D, (fun _ => rfl), i3⟩
        · simp
      | cons d ds' =>
        obtain ⟨rfl, D⟩ := D
        have hf := hF d ds'
        rw [hf] at i3
        refine runH ?_
        (apply w_condD; exact rfl; exact rfl) <;> intro hd
        · rw [if_pos hd] at i3
          refine runH ?_
          refine fin2 rfl rfl rfl ⟨i5, ?_⟩
          rw [i3]
          exact ⟨rfl, D⟩
        · rw [if_neg hd] at i3
          refine runH ?_
          apply again_normal (ds', false)
          · exact (Sub.cons rfl (Sub.cons rfl (Sub.cons rfl (Sub.nil _))))
          · exact ⟨i5, D, (fun h2 => by cases h2), i3⟩
          · simp
    · have ho' : o' = true := by simpa using ho
      subst ho'
      have hnil := i4 rfl
      subst hnil
      rw [if_pos rfl] at i3
      refine runH ?_
      refine fin2 rfl rfl rfl ⟨i1, ?_⟩
      rw [i3]
      exact ⟨rfl, i2'⟩
end Go.Proofs.YtfcmdefigldpnaaGreatDoor


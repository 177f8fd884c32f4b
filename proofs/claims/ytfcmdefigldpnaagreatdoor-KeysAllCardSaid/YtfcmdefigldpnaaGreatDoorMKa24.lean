/- Texts KeyC to KeyC of this work, joined, without what the law does not lean on. -/
import Derived.Test.YtfcmdefigldpnaaGreatDoorMKa23
namespace Go.Proofs.YtfcmdefigldpnaaGreatDoor
set_option linter.unusedVariables false
set_option maxRecDepth 8000
open Go Go.Den Go.RowKit Go.Mth Go.Dig

/-- Draws of a switch. -/
def swG (n w : Nat) (qs : List Nat) : Nat → List Nat → Option (List (List (List Nat) × List Int) × List Nat)
  | 0, ds => some ([], ds)
  | k + 1, ds => match hideG n w qs ds with
    | none => none
    | some (x, ds1) => match swG n w qs k ds1 with
      | none => none
      | some (xs, ds2) => some (x :: xs, ds2)
/-- What is hidden by the pair i of a switch. -/
def hidR (n : Nat) (i k q : Nat) (hr : List Nat) : List Nat := if k = i then hr else liftL (List.replicate n 0) q
/-- A pair of a switch. -/
def SwB (n : Nat) (qs : List Nat) (S H : List (List Nat)) (i : Nat) (ae : List (List Nat) × List Int) (b : List (List Nat)) : Prop :=
  b.length = qs.length ∧ ∀ (k q : Nat) (s hr ai bk : List Nat), qs[k]? = some q → S[k]? = some s → H[k]? = some hr → ae.1[k]? = some ai → b[k]? = some bk → HidB n q s (hidR n i k q hr) ai ae.2 bk
/-- A row of elements. -/
structure SwAt (h : Hp) (B : Nat) (v : Value) (ps : List (Value × List (Value × List Nat))) : Prop where mk ::
  own : OwnF h B 56 Prod.fst v ps
  el : ∀ x ∈ ps, ∃ p, RowsAt h B p x.1 x.2
theorem own_neO {h : Hp} {B s n B2 s2 n2 : Nat} {e e2 : TypeId} {v w : Value} {cs ds : List Value} (o : Own h B e s v n cs) (x : Own h B2 e2 s2 w n2 ds) (hne : Nat.beq e e2 = false) : v.ownBlock = none ∨ v.ownBlock ≠ w.ownBlock := by
  obtain ⟨-, ⟨rfl, -⟩ | ⟨g, cap, cur, rfl, -, hg, -⟩⟩ := o
  · exact .inl rfl
  · obtain ⟨-, ⟨rfl, -⟩ | ⟨g2, cap2, cur2, rfl, -, hg2, -⟩⟩ := x
    · exact .inr fun e => by cases e
    · refine .inr fun e => ?_
      have e : some g = some g2 := e
      cases e
      rw [hg] at hg2
      simp only [Option.some.injEq, Obj.cells.injEq] at hg2
      have := hg2.2.1
      subst this
      simp at hne
theorem RowsAt.neO {h h' : Hp} {B B2 n : Nat} {p : Option Nat} {v w : Value} {rows : List (Value × List Nat)} {ds : List Value} (s : RowsAt h B p v rows) (x : Own h B2 56 1 w n ds) (k : Only w.ownBlock h h') : RowsAt h' B p v rows :=
  ⟨s.own.only k (own_neO s.own x rfl), fun y hy => (s.el y hy).only k (own_neO (s.el y hy) x rfl), s.ne, s.np, s.vp⟩
theorem RowsAt.neS {h h' : Hp} {B : Nat} {p : Option Nat} {v pv : Value} {rows : List (Value × List Nat)} {ds : List Value} (s : RowsAt h B p v rows) (x : Var h pv 42 ds) (k : Only (pblk pv) h h') : RowsAt h' B p v rows :=
  ⟨s.own.only k (Own.neT s.own x rfl), fun y hy => (s.el y hy).only k (Own.neT (s.el y hy) x rfl), s.ne, s.np, s.vp⟩
theorem var_ne9 {h : Hp} {p w : Value} {e : TypeId} {cs : List Value} (x : Var h p e cs) (n : w.ownBlock = none ∨ w.ownBlock ≠ pblk p) : pblk p ≠ w.ownBlock := fun e => by
  obtain ⟨b, hb, -⟩ := x.blk
  rcases n with n | n
  · rw [n, hb] at e; cases e
  · exact n e.symm
theorem own_ne9 {v w : Value} (n : w.ownBlock = none ∨ w.ownBlock ≠ v.ownBlock) : v.ownBlock = none ∨ v.ownBlock ≠ w.ownBlock := by
  rcases n with n | n
  · cases hv : v.ownBlock with
    | none => exact .inl rfl
    | some k => exact .inr fun e => by rw [n] at e; cases e
  · exact .inr fun e => n e.symm
theorem low_ne9 {v w : Value} {z : Nat} (hv : ∀ k, v.ownBlock = some k → k < z) (hw : ∀ k, w.ownBlock = some k → z ≤ k) : v.ownBlock = none ∨ v.ownBlock ≠ w.ownBlock := by
  cases h : v.ownBlock with
  | none => exact .inl rfl
  | some k => exact .inr fun e => by have h1 := hv k h; have h2 := hw k e.symm; omega
theorem var_twoG {h h' : Hp} {p : Value} {e : TypeId} {cs : List Value} {r1 r2 : Option Nat} (s : Var h p e cs) (k : Two r1 r2 h h') (n1 : pblk p ≠ r1) (n2 : pblk p ≠ r2) : Var h' p e cs := by
  obtain ⟨b, hb, hl⟩ := s.blk
  obtain ⟨b', rfl, hg⟩ := s
  cases hb
  exact ⟨b', rfl, (k.2 b' hl n1 n2).trans hg⟩
theorem own_twoG {h h' : Hp} {B s n : Nat} {e : TypeId} {v : Value} {cs : List Value} {r1 r2 : Option Nat} (o : Own h B e s v n cs) (k : Two r1 r2 h h') (n1 : v.ownBlock = none ∨ v.ownBlock ≠ r1) (n2 : v.ownBlock = none ∨ v.ownBlock ≠ r2) : Own h' B e s v n cs := by
  have hb := o.blk
  obtain ⟨hl, ⟨rfl, hz⟩ | ⟨g, cap, cur, rfl, h1, hg, h2⟩⟩ := o
  · exact ⟨hl, .inl ⟨rfl, hz⟩⟩
  · have hlt := (hb g rfl).2
    have m1 : some g ≠ r1 := by rcases n1 with n1 | n1; · cases n1
                                · exact n1
    have m2 : some g ≠ r2 := by rcases n2 with n2 | n2; · cases n2
                                · exact n2
    exact ⟨hl, .inr ⟨g, cap, cur, rfl, h1, (k.2 g hlt m1 m2).trans hg, h2⟩⟩
theorem snoc_get {α : Type} {xs : List α} {x y : α} {j : Nat} (h : (xs ++ [x])[j]? = some y) : (j < xs.length ∧ xs[j]? = some y) ∨ (j = xs.length ∧ x = y) := by
  by_cases hj : j < xs.length
  · rw [List.getElem?_append_left hj] at h; exact .inl ⟨hj, h⟩
  · rw [List.getElem?_append_right (by omega)] at h
    have h0 : j - xs.length = 0 := by
      have := (List.getElem?_eq_some_iff.1 h).1
      simp at this; omega
    rw [h0] at h
    exact .inr ⟨by omega, Option.some.inj h⟩

/-- What stands while two rows grow. -/
structure ChgF (h : Hp) (M : Nat) (tp p3 p4 vf : Value) (B : Option Nat) (ds : List Nat) (ps : List (Value × List (Value × List Nat))) (x : Hp) : Prop where mk ::
  k : Only (pblk tp) h x
  x3 : Var x p3 56 [vf]
  x4 : Var x p4 42 [.slice none 0 0, .slice none 0 0]
  t : TapeAt x tp B ds false
  el : ∀ y ∈ ps, ∃ p, RowsAt x M p y.1 y.2
section chg
variable {h : Hp} {M : Nat} {tp p3 p4 vf : Value} {B : Option Nat} {ds : List Nat} {ps : List (Value × List (Value × List Nat))} {x x' : Hp}
theorem ChgF.ext (c : ChgF h M tp p3 p4 vf B ds ps x) (e : Ext x x') : ChgF h M tp p3 p4 vf B ds ps x' :=
  ⟨c.k.trans (e.only _), c.x3.ext e, c.x4.ext e, c.t.ext e, fun y hy => by obtain ⟨p, hp⟩ := c.el y hy; exact ⟨p, hp.ext e⟩⟩
theorem ChgF.app {w : Value} {n : Nat} {cs : List Value} (c : ChgF h M tp p3 p4 vf B ds ps x) (o : Own x M 56 1 w n cs) (k : Only w.ownBlock x x') (hM : h.size ≤ M) (h3 : ∃ j, pblk p3 = some j ∧ j < M) (h4 : ∃ j, pblk p4 = some j ∧ j < M) (ht : ∀ j, pblk tp = some j → j < h.size) (hB : ∀ b, B = some b → b < h.size) : ChgF h M tp p3 p4 vf B ds ps x' := by
  have hw := fun k hk => (o.blk k hk).1
  have low : ∀ p : Value, (∃ j, pblk p = some j ∧ j < M) → pblk p ≠ w.ownBlock := fun p ⟨j, hj, hl⟩ e => by
    rw [hj] at e
    have := hw j e.symm
    omega
  exact ⟨only_own c.k k (fun j hj => Nat.le_trans hM (hw j hj)), c.x3.only k (low p3 h3), c.x4.only k (low p4 h4), c.t.own k ht hB (fun j hj => Nat.le_trans hM (hw j hj)), fun y hy => by obtain ⟨p, hp⟩ := c.el y hy; exact ⟨p, hp.neO o k⟩⟩
theorem ChgF.sto {p6 : Value} {cs : List Value} (c : ChgF h M tp p3 p4 vf B ds ps x) (v : Var x p6 42 cs) (k : Only (pblk p6) x x') (h6 : ∀ j, pblk p6 = some j → h.size ≤ j) (h36 : pblk p3 ≠ pblk p6) (h46 : pblk p4 ≠ pblk p6) (ht : ∀ j, pblk tp = some j → j < h.size) (hB : ∀ b, B = some b → b < h.size) : ChgF h M tp p3 p4 vf B ds ps x' :=
  ⟨only_own c.k k h6, c.x3.only k h36, c.x4.only k h46, c.t.own k ht hB h6, fun y hy => by obtain ⟨p, hp⟩ := c.el y hy; exact ⟨p, hp.neS v k⟩⟩
end chg

theorem Tryz_ent36 : Ent Tryz.prog 36 := ent_of Tryz.func36 (by kernel_rfl) rfl
set_option maxHeartbeats 8000000 in
theorem change_spec (d g tp vf : Value) (D : KeyD) (B : Option Nat) (ds : List Nat) (H : List (Value × List Nat)) (h : Hp) (K : KeyOk D) (A : KeyAt h d g tp D) (Z : KeySep d g tp D) (T : TapeAt h tp B ds false) (SH : PolAt h vf H) (PH : PolOk D.R H) (lH : H.length = D.R.qs.length) (nf : vf.ownBlock = none ∨ vf.ownBlock ≠ pblk tp) (nfr : ∀ x ∈ H, x.1.ownBlock = none ∨ x.1.ownBlock ≠ pblk tp) :
    CallsH Tryz.prog 36 [d, .agg #[vf]] h fun v' h' => Only (pblk tp) h h' ∧ match swG (2 ^ D.L) D.w D.R.qs D.R.qs.length ds with
      | none => v' = .tuple #[.agg #[.slice none 0 0, .slice none 0 0], N 11] ∧ TapeAt h' tp B [] true
      | some (xs, ds') => ∃ vB vA pB pA, v' = .tuple #[.agg #[vB, vA], N 0] ∧ SwAt h' h.size vB pB ∧ SwAt h' h.size vA pA ∧ pA.map (fun x => x.2.map (·.2)) = xs.map (·.1) ∧ pB.length = D.R.qs.length ∧ TapeAt h' tp B ds' false ∧
          ∀ (i : Nat) (ae : List (List Nat) × List Int) (b : Value × List (Value × List Nat)), xs[i]? = some ae → pB[i]? = some b → SwB (2 ^ D.L) D.R.qs (D.S.map (·.2)) (H.map (·.2)) i ae (b.2.map (·.2)) := by
  have hp9 : 2 ^ D.L ≤ 2 ^ 9 := Nat.pow_le_pow_right (by decide) (by have := K.rok.l9; have := K.rl; omega)
  have e9 : (2 : Nat) ^ 9 = 512 := by decide
  obtain ⟨tk, htk, htl⟩ := T.pb
  have x0 := A.var
  (apply enter Tryz.func36 rfl Tryz.ntmps36 rfl)
  refine runJ ?_
  (apply s_box; exact rfl; exact rfl; exact rfl; exact rfl)
  intro p3 h1 x1 e1 b1
  (try dsimp only [Value.cells, List.toList_toArray] at x1)
  refine ⟨(by first | exact trivial | exact Ext.refl _ | assumption | exact Ext.trans (by assumption) (by assumption)), ?_⟩
  refine runJ ?_
  (apply s_alloc; exact rfl; exact rfl; exact rfl)
  intro p4 h2 x2 e2 b2
  (try dsimp only [Value.cells, List.toList_toArray] at x2)
  refine ⟨(by first | exact trivial | exact Ext.refl _ | assumption | exact Ext.trans (by assumption) (by assumption)), ?_⟩
  refine runJ ?_
  (apply (s_build ([.slice none 0 0, .slice none 0 0])); exact rfl; exact rfl; exact rfl; (repeat (first | exact CellsAll.nil | (apply CellsAll.cons; (first | exact oneL (by assumption) | exact oneL (SlF.one (by assumption)) | exact oneL (SlF.one (OwnF.sl (by assumption))) | exact oneL (Var.one (by assumption)) | exact rfl)))); exact rfl; exact rfl)
  refine runJ ?_
  (apply s_alloc; exact rfl; exact rfl; exact rfl)
  intro p6 h3 x3 e3 b3
  (try dsimp only [Value.cells, List.toList_toArray] at x3)
  refine ⟨(by first | exact trivial | exact Ext.refl _ | assumption | exact Ext.trans (by assumption) (by assumption)), ?_⟩
  refine runJ ?_
  (apply s_storeV; exact rfl; exact rfl; exact rfl; (repeat (first | exact OneAll.nil | (apply OneAll.cons; (first | exact rfl | exact SlF.one (by assumption) | exact SlF.one (OwnF.sl (by assumption)) | exact Var.one (by assumption))))); exact rfl; exact rfl; exact x3; exact rfl)
  intro h4 x4 k4
  (try dsimp only [Value.cells, List.toList_toArray] at x4)
  refine ⟨(by first | exact trivial | exact trivial | exact Ext.refl _ | assumption | exact Ext.only (by assumption) _ | exact Only.trans (Ext.only (by assumption) _) (by assumption)), ?_⟩
  have x4 : Var h4 p6 42 [.slice none 0 0, .slice none 0 0] := x4
  have E2 := e1.trans e2
  have E3 := E2.trans e3
  have E4 : Ext h h4 := k4.oldV E3 b3 (Nat.le_trans e1.1 e2.1)
  have hs1 : h.size < h1.size := by obtain ⟨j, hj, hl⟩ := x1.blk; rw [b1] at hj; cases hj; exact hl
  have hs2 : h1.size < h2.size := by obtain ⟨j, hj, hl⟩ := x2.blk; rw [b2] at hj; cases hj; exact hl
  have hs3 : h2.size < h3.size := by obtain ⟨j, hj, hl⟩ := x3.blk; rw [b3] at hj; cases hj; exact hl
  have hp46 : pblk p4 ≠ pblk p6 := by rw [b2, b3]; intro e; have := Option.some.inj e; omega
  have hp36 : pblk p3 ≠ pblk p6 := by rw [b1, b3]; intro e; have := Option.some.inj e; omega
  have hp34 : pblk p3 ≠ pblk p4 := by rw [b1, b2]; intro e; have := Option.some.inj e; omega
  have hp3t : pblk p3 ≠ pblk tp := by rw [b1, htk]; intro e; have := Option.some.inj e; omega
  have hp4t : pblk p4 ≠ pblk tp := by rw [b2, htk]; intro e; have := Option.some.inj e; omega
  have hp6t : pblk p6 ≠ pblk tp := by rw [b3, htk]; intro e; have := Option.some.inj e; omega
  have x34 := ((x1.ext e2).ext e3).only k4 hp36
  have x44 := (x2.ext e3).only k4 hp46
  have T4 := T.ext E4
  have A4 := A.ext E4
  have hlq : 0 < D.R.qs.length := K.rok.n0
  have hq8 := K.q8
  have hge3 : ∀ j, pblk p3 = some j → h.size ≤ j := fun j hj => by rw [b1] at hj; have := Option.some.inj hj; omega
  have hge4 : ∀ j, pblk p4 = some j → h.size ≤ j := fun j hj => by rw [b2] at hj; have := Option.some.inj hj; omega
  have hge6 : ∀ j, pblk p6 = some j → h.size ≤ j := fun j hj => by rw [b3] at hj; have := Option.some.inj hj; omega
  have v4 := A4.var
  have r4 := A4.row
  refine runJ ?_
  (first | (apply w_seqB; exact rfl; apply w_block; exact rfl) | skip)
  apply (w_loop (σ := Nat × (Value × List (Value × List (Value × List Nat))) × (Value × List (Value × List (Value × List Nat))) × List Nat × List (List (List Nat) × List Int)) rfl (fun s => [(0, d), (3, p3), (4, p4), (6, p6), (18, N D.R.qs.length), (19, N s.1)])
    (fun s h' => Only (pblk tp) h h' ∧ h4.size ≤ h'.size ∧ s.1 ≤ D.R.qs.length ∧ Var h' p3 56 [vf] ∧ Var h' p4 42 [.slice none 0 0, .slice none 0 0] ∧ Var h' p6 42 [s.2.1.1, s.2.2.1.1] ∧ SwAt h' h4.size s.2.1.1 s.2.1.2 ∧ SwAt h' h4.size s.2.2.1.1 s.2.2.1.2 ∧ (s.2.1.1.ownBlock = none ∨ s.2.1.1.ownBlock ≠ s.2.2.1.1.ownBlock) ∧
      TapeAt h' tp B s.2.2.2.1 false ∧ s.2.1.2.length = s.1 ∧ s.2.2.1.2.map (fun x => x.2.map (·.2)) = s.2.2.2.2.map (·.1) ∧ s.2.2.2.2.length = s.1 ∧
      (swG (2 ^ D.L) D.w D.R.qs D.R.qs.length ds = match swG (2 ^ D.L) D.w D.R.qs (D.R.qs.length - s.1) s.2.2.2.1 with
        | none => none
        | some (ys, ds') => some (s.2.2.2.2 ++ ys, ds')) ∧
      ∀ (i : Nat) (ae : List (List Nat) × List Int) (b : Value × List (Value × List Nat)), s.2.2.2.2[i]? = some ae → s.2.1.2[i]? = some b → SwB (2 ^ D.L) D.R.qs (D.S.map (·.2)) (H.map (·.2)) i ae (b.2.map (·.2)))
    (fun s => D.R.qs.length - s.1) (0, (.slice none 0 0, []), (.slice none 0 0, []), ds, []))
  · exact (Sub.cons rfl (Sub.cons rfl (Sub.cons rfl (Sub.cons rfl (Sub.cons rfl (Sub.cons rfl (Sub.nil _)))))))
  · refine ⟨E4.only _, Nat.le_refl _, Nat.zero_le _, x34, x44, x4, ⟨OwnF.nil _ _ _ _, fun x hx => by cases hx⟩, ⟨OwnF.nil _ _ _ _, fun x hx => by cases hx⟩, .inl rfl, T4, rfl, rfl, rfl, ?_, fun i ae b hi => by cases hi⟩
    dsimp only
    rw [Nat.sub_zero]
    cases swG (2 ^ D.L) D.w D.R.qs D.R.qs.length ds with
    | none => rfl
    | some y => rfl
  rintro ⟨i, ⟨vB, pB⟩, ⟨vA, pA⟩, dsi, acc⟩ h5 ⟨k5, z5, i5, x35, x45, x65, SB5, SA5, nBA, T5, lB5, mA5, la5, hG5, hS5⟩
  dsimp only at k5 z5 i5 x35 x45 x65 SB5 SA5 nBA T5 lB5 mA5 la5 hG5 hS5 ⊢
  have A5 := A.only Z k5
  refine runJ ?_
  (apply w_condD; exact rfl; exact rfl) <;> intro hj
  · have hH : ∃ x, H[i]? = some x := get_lt (by omega)
    refine runJ ?_
    apply (s_call Tryz_ent48 rfl rfl rfl)
    refine (zero_spec d g tp D h5 K A5).mono ?_
    rintro r h6 ⟨e6, vz, rz, pz, rfl, RZ6, mz, sz⟩
    refine ⟨(by first | exact trivial | exact Ext.refl _ | assumption | exact Ext.trans (by assumption) (by assumption)), ?_⟩
    have hvz := RZ6.own.sl.one
    refine runJ ?_
    (apply s_alloc; exact rfl; exact rfl; exact rfl)
    intro p8 h7 x7 e7 b7
    (try dsimp only [Value.cells, List.toList_toArray] at x7)
    refine ⟨(by first | exact trivial | exact Ext.refl _ | assumption | exact Ext.trans (by assumption) (by assumption)), ?_⟩
    refine runJ ?_
    (apply s_storeV; exact rfl; exact rfl; exact rfl; exact (OneAll.cons hvz OneAll.nil : OneAll [vz]); exact rfl; exact rfl; exact x7; exact rfl)
    intro h8 x8 k8
    refine ⟨trivial, ?_⟩
    have x8 : Var h8 p8 56 [vz] := x8
    have E8 : Ext h5 h8 := k8.oldV (e6.trans e7) b7 e6.1
    have RZ8 := (RZ6.ext e7).neT x7 k8
    have hs7 : h6.size < h7.size := by obtain ⟨j, hj, hl⟩ := x7.blk; rw [b7] at hj; cases hj; exact hl
    have lz : rz.length = D.R.qs.length := by have := congrArg List.length mz; unfold zerosL at this; simpa using this
    obtain ⟨⟨wz, oz⟩, hz⟩ := get_lt (l := rz) (j := i) (by omega)
    obtain ⟨⟨wf, lf⟩, hf⟩ := hH
    have oz8 := RZ8.el _ (List.mem_of_getElem? hz)
    dsimp only at oz8
    have nz8 := RZ8.ne _ (List.mem_of_getElem? hz)
    dsimp only at nz8
    have x38 := x35.ext E8
    have hvf5 : ∀ k, vf.ownBlock = some k → k < h.size := fun k hk => SH.row.lt (by omega) k hk
    have SHr8 : SlF h8 Prod.fst vf H := (SH.row.only k5 nf).ext E8
    have SHe8 : SlF h8 U wf lf := ((SH.el _ (List.mem_of_getElem? hf)).only k5 (nfr _ (List.mem_of_getElem? hf))).ext E8
    have hp8w := var_ne9 x8 (Own.neT oz8 x8 rfl)
    have hp3w := var_ne9 x38 (Own.neT oz8 x38 rfl)
    have hvzw := own_ne9 nz8
    have hwzB := fun k hk => (oz8.blk k hk).1
    have hvfw : vf.ownBlock = none ∨ vf.ownBlock ≠ wz.ownBlock := low_ne9 hvf5 fun k hk => by have := hwzB k hk; have := k5.1; omega
    have SRz8 := RZ8.own.sl
    have hlen : lf.length = oz.length := by
      obtain ⟨q, hq⟩ := get_lt (l := D.R.qs) (j := i) (by omega)
      have h1 := (PH.fit i q _ hf hq).1
      dsimp only at h1
      have h2 := congrArg (fun l => l[i]?) mz
      unfold zerosL at h2
      simp only [List.getElem?_map, hz, hq, Option.map_some, Option.some.injEq] at h2
      rw [h2]; unfold liftL
      rw [h1, List.length_map, List.length_replicate, K.rl]
    have hlen0 : 0 < oz.length := by
      obtain ⟨q, hq⟩ := get_lt (l := D.R.qs) (j := i) (by omega)
      have h1 := (PH.fit i q _ hf hq).1
      dsimp only at h1
      have := Nat.two_pow_pos D.R.L
      omega
    refine runJN ?_
    (apply (r_drawnO (wz.ownBlock)); exact rfl; exact mixed; kernel_rfl)
    refine runJ ?_
    (apply s_copy; exact rfl; exact rfl; exact rfl; exact rfl; exact rfl; exact rfl; exact oz8; exact SHe8; exact hlen; exact (fun _ => rfl); exact hlen0)
    intro rcp h9 o9 k9
    refine ⟨k9, ?_⟩
    have E9 : Ext h5 h9 := ext_onlyR E8 k9 hwzB
    have k59 : Only (pblk tp) h h9 := k5.trans (E9.only _)
    have T9 := T5.ext E9
    have A9 := A.only Z k59
    have x89 := x8.only k9 hp8w
    obtain ⟨rh, hrh⟩ : ∃ rh, rh = rz.set i (wz, lf) := ⟨_, rfl⟩
    have lrh : rh.length = D.R.qs.length := by rw [hrh, List.length_set]; exact lz
    have grh : ∀ (j : Nat) (x : Value × List Nat), rh[j]? = some x → (j = i ∧ x = (wz, lf)) ∨ (j ≠ i ∧ rz[j]? = some x) := fun j x hx => by
      rw [hrh] at hx
      by_cases hji : i = j
      · subst hji
        rw [List.getElem?_set_self (by omega)] at hx
        exact .inl ⟨rfl, (Option.some.inj hx).symm⟩
      · rw [List.getElem?_set_ne hji] at hx
        exact .inr ⟨fun e => hji e.symm, hx⟩
    have zrh : ∀ (j q : Nat) (x : Value × List Nat), rz[j]? = some x → D.R.qs[j]? = some q → x.2 = liftL (List.replicate (2 ^ D.L) 0) q := fun j q x hx hq => by
      have h2 := congrArg (fun l => l[j]?) mz
      unfold zerosL at h2
      simp only [List.getElem?_map, hx, hq, Option.map_some, Option.some.injEq] at h2
      exact h2
    have PA9 : PolAt h9 vz rh := by
      have hm : rz.map Prod.fst = rh.map Prod.fst := by
        have hwi : (rz.map Prod.fst)[i]? = some wz := by rw [List.getElem?_map, hz]; rfl
        rw [hrh, List.map_set]
        refine List.ext_getElem? fun j => ?_
        by_cases hji : i = j
        · subst hji
          rw [List.getElem?_set_self (by rw [List.length_map]; omega), hwi]
        · rw [List.getElem?_set_ne hji]
      refine ⟨(ownF_same (RZ8.own.only k9 hvzw) hm).sl, fun x hx => ?_⟩
      obtain ⟨j, hj'⟩ := List.mem_iff_getElem?.1 hx
      rcases grh j x hj' with ⟨-, rfl⟩ | ⟨hne, hx'⟩
      · exact o9.sl
      · exact ((RZ8.el x (List.mem_of_getElem? hx')).only k9 (sz j i x _ hx' hz hne)).sl
    have PO9 : PolOk D.R rh := by
      refine ⟨by omega, by omega, fun j q x hx hq => ?_⟩
      rcases grh j x hx with ⟨rfl, rfl⟩ | ⟨hne, hx'⟩
      · have h9 := PH.fit j q _ hf hq
        exact h9
      · rw [zrh j q x hx' hq]
        have hq1 := (K.rok.q q (List.mem_of_getElem? hq)).q1
        refine ⟨by unfold liftL; rw [List.length_map, List.length_replicate, K.rl], fun y hy => ?_⟩
        unfold liftL at hy
        obtain ⟨z, -, rfl⟩ := List.mem_map.1 hy
        exact liftm_lt9 (by omega)
    have nvz : vz.ownBlock = none ∨ vz.ownBlock ≠ pblk tp := by
      rw [htk]
      cases hb : vz.ownBlock with
      | none => exact .inl rfl
      | some k => exact .inr fun e => by cases e; have := (RZ8.own.blk _ hb).1; have := k5.1; omega
    have nrh : ∀ x ∈ rh, x.1.ownBlock = none ∨ x.1.ownBlock ≠ pblk tp := fun x hx => by
      obtain ⟨j, hj'⟩ := List.mem_iff_getElem?.1 hx
      rw [htk]
      cases hb : x.1.ownBlock with
      | none => exact .inl rfl
      | some k =>
        refine .inr fun e => ?_
        cases e
        have h9k := k5.1
        rcases grh j x hj' with ⟨-, rfl⟩ | ⟨hne, hx'⟩
        · have := hwzB _ hb; omega
        · have := ((RZ8.el x (List.mem_of_getElem? hx')).blk _ hb).1; omega
    refine runJN ?_
    refine runJ ?_
    apply (s_call Tryz_ent47 rfl rfl rfl)
    refine (hide_spec d g tp vz D B dsi rh h9 K A9 Z T9 PA9 PO9 lrh nvz nrh).mono ?_
    rintro r h10 ⟨k10, G10⟩
    refine ⟨(by first | exact trivial | exact Ext.refl _ | assumption | exact Ext.trans (by assumption) (by assumption)), ?_⟩
    have k510 : Only (pblk tp) h h10 := k59.trans k10
    have x3a := (x38.only k9 hp3w).only k10 hp3t
    have x4a := (x45.ext E9).only k10 hp4t
    have x6a := (x65.ext E9).only k10 hp6t
    have hz9 := E9.1
    have hz10 := k10.1
    have h5s := k5.1
    have htl4 : tk < h4.size := Nat.lt_of_lt_of_le htl E4.1
    have SBe : ∀ x ∈ pB, ∃ p, RowsAt h10 h4.size p x.1 x.2 := fun x hx => by
      obtain ⟨p, hp⟩ := SB5.el x hx
      exact ⟨p, (hp.ext E9).low (by rw [← htk]; exact k10) htl4⟩
    have SAe : ∀ x ∈ pA, ∃ p, RowsAt h10 h4.size p x.1 x.2 := fun x hx => by
      obtain ⟨p, hp⟩ := SA5.el x hx
      exact ⟨p, (hp.ext E9).low (by rw [← htk]; exact k10) htl4⟩
    have nlow : ∀ {v : Value} {ps : List (Value × List (Value × List Nat))}, OwnF h5 h4.size 56 Prod.fst v ps → v.ownBlock = none ∨ v.ownBlock ≠ pblk tp := fun {v ps} o => by
      rw [htk]
      cases hb : v.ownBlock with
      | none => exact .inl rfl
      | some k => exact .inr fun e => by cases e; have := (o.blk _ hb).1; omega
    have oBa := (SB5.own.ext E9).only k10 (nlow SB5.own)
    have oAa := (SA5.own.ext E9).only k10 (nlow SA5.own)
    have hlen' : D.R.qs.length - i = (D.R.qs.length - (i + 1)) + 1 := by omega
    cases hh : hideG (2 ^ D.L) D.w D.R.qs dsi with
    | none =>
      rw [hh] at G10
      obtain ⟨u1, u2, rfl, o1, o2, T10⟩ := G10
      have hN : swG (2 ^ D.L) D.w D.R.qs D.R.qs.length ds = none := by
        rw [hG5, hlen']; unfold swG; rw [hh]
      rw [hN]
      refine runJ ?_
      (apply s_alloc; exact rfl; exact rfl; exact rfl)
      intro p9 h11 x11 e11 b11
      (try dsimp only [Value.cells, List.toList_toArray] at x11)
      refine ⟨(by first | exact trivial | exact Ext.refl _ | assumption | exact Ext.trans (by assumption) (by assumption)), ?_⟩
      refine runJ ?_
      (apply s_alloc; exact rfl; exact rfl; exact rfl)
      intro p10 h12 x12 e12 b12
      (try dsimp only [Value.cells, List.toList_toArray] at x12)
      refine ⟨(by first | exact trivial | exact Ext.refl _ | assumption | exact Ext.trans (by assumption) (by assumption)), ?_⟩
      refine runJ ?_
      (apply s_storeV; exact rfl; exact rfl; exact rfl; exact (OneAll.cons o1 OneAll.nil : OneAll [u1]); exact rfl; exact rfl; exact (x11.ext e12); exact rfl)
      intro h13 x13 k13
      refine ⟨trivial, ?_⟩
      have hs11 : h10.size < h11.size := by obtain ⟨j, hj, hl⟩ := x11.blk; rw [b11] at hj; cases hj; exact hl
      have hs12 : h11.size < h12.size := by obtain ⟨j, hj, hl⟩ := x12.blk; rw [b12] at hj; cases hj; exact hl
      have x12' := x12.only k13 (by rw [b11, b12]; intro e; have := Option.some.inj e; omega)
      refine runJ ?_
      (apply s_storeV; exact rfl; exact rfl; exact rfl; exact (OneAll.cons o2 OneAll.nil : OneAll [u2]); exact rfl; exact rfl; exact x12'; exact rfl)
      intro h14 x14 k14
      refine ⟨trivial, ?_⟩
      have E13 : Ext h10 h13 := k13.oldV (e11.trans e12) b11 (Nat.le_refl _)
      have E14 : Ext h10 h14 := k14.oldV E13 b12 e11.1
      have x4b := x4a.ext E14
      refine runJ ?_
      (apply (s_build ([.slice none 0 0, .slice none 0 0])); exact rfl; exact rfl; exact rfl; (repeat (first | exact CellsAll.nil | (apply CellsAll.cons; (first | exact oneL (by assumption) | exact oneL (SlF.one (by assumption)) | exact oneL (SlF.one (OwnF.sl (by assumption))) | exact oneL (Var.one (by assumption)) | exact rfl)))); exact rfl; exact rfl)
      refine runJ ?_
      (apply s_storeV; exact rfl; exact rfl; exact rfl; exact (OneAll.cons rfl (OneAll.cons rfl OneAll.nil) : OneAll [.slice none 0 0, .slice none 0 0]); exact rfl; exact rfl; exact x4b; exact rfl)
      intro h15 x15 k15
      refine ⟨trivial, ?_⟩
      have x15 : Var h15 p4 42 [.slice none 0 0, .slice none 0 0] := x15
      have K15 : Only (pblk tp) h h15 := only_own (k510.trans (E14.only _)) k15 hge4
      have hpk : ∀ j, pblk tp = some j → j < h.size := fun j hj => by rw [htk] at hj; cases hj; exact htl
      refine runJ ?_
      exact finCT rfl rfl rfl x15 rfl rfl ⟨K15, rfl, (T10.ext E14).own k15 hpk T.bl hge4⟩
    | some y =>
      obtain ⟨⟨als, es⟩, ds1⟩ := y
      rw [hh] at G10
      obtain ⟨vb, va, rb, ra, pa, rfl, RB, RA, hma, lrb, T10, HB⟩ := G10
      have hvb := RB.own.sl.one
      have hva := RA.own.sl.one
      refine runJ ?_
      (apply s_alloc; exact rfl; exact rfl; exact rfl)
      intro p9 h11 x11 e11 b11
      (try dsimp only [Value.cells, List.toList_toArray] at x11)
      refine ⟨(by first | exact trivial | exact Ext.refl _ | assumption | exact Ext.trans (by assumption) (by assumption)), ?_⟩
      refine runJ ?_
      (apply s_alloc; exact rfl; exact rfl; exact rfl)
      intro p10 h12 x12 e12 b12
      (try dsimp only [Value.cells, List.toList_toArray] at x12)
      refine ⟨(by first | exact trivial | exact Ext.refl _ | assumption | exact Ext.trans (by assumption) (by assumption)), ?_⟩
      refine runJ ?_
      (apply s_storeV; exact rfl; exact rfl; exact rfl; exact (OneAll.cons hvb OneAll.nil : OneAll [vb]); exact rfl; exact rfl; exact (x11.ext e12); exact rfl)
      intro h13 x13 k13
      refine ⟨trivial, ?_⟩
      have x13 : Var h13 p9 56 [vb] := x13
      have hs11 : h10.size < h11.size := by obtain ⟨j, hj, hl⟩ := x11.blk; rw [b11] at hj; cases hj; exact hl
      have hs12 : h11.size < h12.size := by obtain ⟨j, hj, hl⟩ := x12.blk; rw [b12] at hj; cases hj; exact hl
      have hp90 : pblk p10 ≠ pblk p9 := by rw [b11, b12]; intro e; have := Option.some.inj e; omega
      have x12' := x12.only k13 hp90
      refine runJ ?_
      (apply s_storeV; exact rfl; exact rfl; exact rfl; exact (OneAll.cons hva OneAll.nil : OneAll [va]); exact rfl; exact rfl; exact x12'; exact rfl)
      intro h14 x14 k14
      refine ⟨trivial, ?_⟩
      have x14 : Var h14 p10 56 [va] := x14
      have x914 := x13.only k14 (fun e => hp90 e.symm)
      have E13 : Ext h10 h13 := k13.oldV (e11.trans e12) b11 (Nat.le_refl _)
      have E14 : Ext h10 h14 := k14.oldV E13 b12 e11.1
      have x3b := x3a.ext E14
      have x4b := x4a.ext E14
      have x6b := x6a.ext E14
      have oB14 := oBa.ext E14
      have oA14 := oAa.ext E14
      have RB14 := (RB.ext E14).base (B' := h4.size) (Nat.le_trans z5 hz9)
      have RA14 := (RA.ext E14).base (B' := h4.size) (Nat.le_trans z5 hz9)
      have hnB : (vB.ownBlock = none ∨ vB.ownBlock ≠ vA.ownBlock) := nBA
      have hvB14 : ∀ k, vB.ownBlock = some k → k < h14.size := fun k hk => (oB14.blk k hk).2
      have hvA14 : ∀ k, vA.ownBlock = some k → k < h14.size := fun k hk => (oA14.blk k hk).2
      have hp6B := var_ne9 x6b (Own.neT oB14 x6b rfl)
      have hp6A := var_ne9 x6b (Own.neT oA14 x6b rfl)
      refine runJN ?_
      refine r_drawnKR (h := h14) (fun g => h14.size ≤ g.size ∧ (∃ c0 c1, Var g p6 42 [c0, c1] ∧ (c0 = vB → c1 = vA)) ∧ Var g p9 56 [vb] ∧ Var g p10 56 [va])
        (fun i => Nat.beq i 1 || Nat.beq i 3 || Nat.beq i 6 || Nat.beq i 8) (fun _ => false) (Two vB.ownBlock vA.ownBlock)
        (fun i p g => match i with
          | 1 => p = vB ∨ ∃ c0 c1, Var g p6 42 [c0, c1] ∧ c0 ≠ vB
          | 3 => Own g h14.size 56 1 p 1 [vb]
          | 6 => p = vA ∨ ∃ c0 c1, Var g p6 42 [c0, c1] ∧ c0 ≠ vB
          | _ => Own g h14.size 56 1 p 1 [va]) rfl mixed (by kernel_rfl) (fun _ _ e => Two.ofExt e) ?_ ?_ ?_
      · intro i p g g' a e
        split at a
        · rcases a with a | ⟨c0, c1, x, hc⟩
          · exact .inl a
          · exact .inr ⟨c0, c1, var_twoG x e hp6B hp6A, hc⟩
        · exact own_twoG a e (own_ne9 (low_ne9 hvB14 fun k hk => (a.blk k hk).1)) (own_ne9 (low_ne9 hvA14 fun k hk => (a.blk k hk).1))
        · rcases a with a | ⟨c0, c1, x, hc⟩
          · exact .inl a
          · exact .inr ⟨c0, c1, var_twoG x e hp6B hp6A, hc⟩
        · exact own_twoG a e (own_ne9 (low_ne9 hvB14 fun k hk => (a.blk k hk).1)) (own_ne9 (low_ne9 hvA14 fun k hk => (a.blk k hk).1))
      · exact ⟨Nat.le_refl _, ⟨vB, vA, x6b, fun _ => rfl⟩, x914, x14⟩
      have hpk : ∀ j, pblk tp = some j → j < h.size := fun j hj => by rw [htk] at hj; cases hj; exact htl
      have z514 : h4.size ≤ h14.size := Nat.le_trans z5 (Nat.le_trans hz9 (Nat.le_trans hz10 E14.1))
      have hb3 : ∃ j, pblk p3 = some j ∧ j < h4.size := ⟨_, b1, by have := k4.1; omega⟩
      have hb4 : ∃ j, pblk p4 = some j ∧ j < h4.size := ⟨_, b2, by have := k4.1; omega⟩
      have c14 : ChgF h h4.size tp p3 p4 vf B ds1 (pB ++ (vb, rb) :: (pA ++ [(va, ra)])) h14 := ⟨k510.trans (E14.only _), x3b, x4b, T10.ext E14, fun y hy => by
        rcases List.mem_append.1 hy with hy | hy
        · obtain ⟨p, hp⟩ := SBe y hy; exact ⟨p, hp.ext E14⟩
        · rcases List.mem_cons.1 hy with rfl | hy
          · exact ⟨_, RB14⟩
          · rcases List.mem_append.1 hy with hy | hy
            · obtain ⟨p, hp⟩ := SAe y hy; exact ⟨p, hp.ext E14⟩
            · rw [List.mem_singleton.1 hy]; exact ⟨_, RA14⟩⟩
      have hChE : ∀ {g g' : Hp}, (h14.size ≤ g.size ∧ (∃ c0 c1, Var g p6 42 [c0, c1] ∧ (c0 = vB → c1 = vA)) ∧ Var g p9 56 [vb] ∧ Var g p10 56 [va]) → Ext g g' → (h14.size ≤ g'.size ∧ (∃ c0 c1, Var g' p6 42 [c0, c1] ∧ (c0 = vB → c1 = vA)) ∧ Var g' p9 56 [vb] ∧ Var g' p10 56 [va]) := fun {g g'} hC e => by
        obtain ⟨a1, ⟨c0, c1, a2, a3⟩, a4, a5⟩ := hC
        exact ⟨Nat.le_trans a1 e.1, ⟨c0, c1, a2.ext e, a3⟩, a4.ext e, a5.ext e⟩
      have hp96 : pblk p9 ≠ pblk p6 := by rw [b11, b3]; intro e; have := Option.some.inj e; have := k4.1; omega
      have hp106 : pblk p10 ≠ pblk p6 := by rw [b12, b3]; intro e; have := Option.some.inj e; have := k4.1; omega
      have hqB : pB.length < 8 := by omega
      have hvBa : ∀ k, vB.ownBlock = some k → k < h10.size := fun k hk => (oBa.blk k hk).2
      have hvAa : ∀ k, vA.ownBlock = some k → k < h10.size := fun k hk => (oAa.blk k hk).2
      have hp9B : pblk p9 ≠ vB.ownBlock := fun e => by rw [b11] at e; have := hvBa _ e.symm; omega
      have hp9A : pblk p9 ≠ vA.ownBlock := fun e => by rw [b11] at e; have := hvAa _ e.symm; omega
      have hp10B : pblk p10 ≠ vB.ownBlock := fun e => by rw [b12] at e; have := hvBa _ e.symm; omega
      have hp10A : pblk p10 ≠ vA.ownBlock := fun e => by rw [b12] at e; have := hvAa _ e.symm; omega
      have hChO : ∀ {g g' : Hp} {r : Option Nat}, (h14.size ≤ g.size ∧ (∃ c0 c1, Var g p6 42 [c0, c1] ∧ (c0 = vB → c1 = vA)) ∧ Var g p9 56 [vb] ∧ Var g p10 56 [va]) → Only r g g' → pblk p6 ≠ r → pblk p9 ≠ r → pblk p10 ≠ r → (h14.size ≤ g'.size ∧ (∃ c0 c1, Var g' p6 42 [c0, c1] ∧ (c0 = vB → c1 = vA)) ∧ Var g' p9 56 [vb] ∧ Var g' p10 56 [va]) := fun {g g' r} hC e n6 n9 n10 => by
        obtain ⟨a1, ⟨c0, c1, a2, a3⟩, a4, a5⟩ := hC
        exact ⟨Nat.le_trans a1 e.1, ⟨c0, c1, a2.only e n6, a3⟩, a4.only e n9, a5.only e n10⟩
      have lA5 : pA.length = i := by have := congrArg List.length mA5; simp only [List.length_map] at this; omega
      refine k_run (j := 1) h14 rfl rfl (by kernel_rfl) (by kernel_rfl) ?_
      refine runJ ?_
      refine ⟨⟨rfl, ?_⟩⟩
      refine k_loadF (p := p6) (off := 0) rfl rfl rfl rfl rfl rfl (fun g hC => ?_) (fun v1 hv1 => ?_)
      · obtain ⟨c0, c1, x, hc⟩ := hC.2.1
        refine ⟨_, _, c0, x, rfl, ?_⟩
        by_cases hcb : c0 = vB
        · exact .inl hcb
        · exact .inr ⟨c0, c1, x, hcb⟩
      obtain rfl : vB = v1 := Eq.symm <| by
        obtain ⟨g, -, e, h1 | ⟨c0, c1, x, hc⟩⟩ := hv1
        · exact h1
        · obtain ⟨b1, hb1, hg1⟩ := x
          obtain ⟨b2, hb2, hg2⟩ := x6b.ext e
          rw [hb1] at hb2; cases hb2
          rw [hg1] at hg2; cases hg2
          exact absurd rfl hc
      refine k_run (j := 3) h14 rfl rfl (by kernel_rfl) (by kernel_rfl) ?_
      refine runJ ?_
      refine s_loadV rfl rfl (rd_cl fun h' hc => hc.2.2.1) rfl rfl ?_
      refine runJ ?_
      refine ⟨⟨rfl, ?_⟩⟩
      refine k_litC rfl rfl rfl rfl [vb] rfl (CellsAll.cons rfl CellsAll.nil) rfl rfl rfl rfl rfl rfl rfl rfl (fun g v g' hC o e b => ⟨hChE hC e, o.base hC.1⟩) (fun v3 => ?_)
      refine k_append (bytes := 24) (cs := pB.map Prod.fst) (news := [vb]) (m := pB.length) (k' := 1) (s := 1) (B := h4.size) rfl rfl rfl rfl rfl rfl rfl rfl rfl (by decide) rfl (fun u hu => by rw [List.mem_singleton.1 hu]; exact hvb) (by simp only [maxLen]; omega) (by omega) (fun g hC hD hT => ⟨oB14.ext hD, Own.sl (hT (3, v3) (by simp)), Nat.le_trans z514 hC.1⟩) (fun g v4 g' hC hD hT o4 k4' b4 => ?_)
      have c4 : ChgF h h4.size tp p3 p4 vf B ds1 (pB ++ (vb, rb) :: (pA ++ [(va, ra)])) g' := (c14.ext hD).app (oB14.ext hD) k4' E4.1 hb3 hb4 hpk T.bl
      refine ⟨hChO hC k4' hp6B hp9B hp10B, fun x => ChgF h h4.size tp p3 p4 vf B ds1 (pB ++ (vb, rb) :: (pA ++ [(va, ra)])) x ∧ Var x p6 42 [vB, vA] ∧ Own x h4.size 56 1 v4 (pB.length + 1) (pB.map Prod.fst ++ [vb]) ∧ Own x h4.size 56 1 vA pA.length (pA.map Prod.fst) ∧ (v4.ownBlock = none ∨ v4.ownBlock ≠ vA.ownBlock),
        fun a b d e => ⟨d.1.ext e, d.2.1.ext e, d.2.2.1.ext e, d.2.2.2.1.ext e, d.2.2.2.2⟩, ⟨c4, (x6b.ext hD).only k4' hp6B, o4, Own.only (oA14.ext hD) k4' (own_ne9 hnB), ?_⟩, only_two1 k4', ?_⟩
      · rcases b4 with b4 | ⟨b, hb, hbl⟩
        · rw [b4]; exact hnB
        · rw [hb]
          exact .inr fun e => by have := hvA14 b e.symm; have := hC.1; omega
      refine k_run (j := 6) h14 rfl rfl (by kernel_rfl) (by kernel_rfl) ?_
      refine runJ ?_
      refine ⟨⟨rfl, ?_⟩⟩
      refine k_loadF (p := p6) (off := 1) rfl rfl rfl rfl rfl rfl (fun g hC => ?_) (fun v6 hv6 => ?_)
      · obtain ⟨c0, c1, x, hc⟩ := hC.2.1
        refine ⟨_, _, c1, x, rfl, ?_⟩
        by_cases hcb : c0 = vB
        · exact .inl (hc hcb)
        · exact .inr ⟨c0, c1, x, hcb⟩
      obtain rfl : vA = v6 := Eq.symm <| by
        obtain ⟨g, -, e, h1 | ⟨c0, c1, x, hc⟩⟩ := hv6
        · exact h1
        · obtain ⟨b1, hb1, hg1⟩ := x
          obtain ⟨b2, hb2, hg2⟩ := e.2.1
          rw [hb1] at hb2; cases hb2
          rw [hg1] at hg2; cases hg2
          exact absurd rfl hc
      refine k_run (j := 8) h14 rfl rfl (by kernel_rfl) (by kernel_rfl) ?_
      refine runJ ?_
      refine s_loadV rfl rfl (rd_cl fun h' hc => hc.2.2.2) rfl rfl ?_
      refine runJ ?_
      refine ⟨⟨rfl, ?_⟩⟩
      refine k_litC rfl rfl rfl rfl [va] rfl (CellsAll.cons rfl CellsAll.nil) rfl rfl rfl rfl rfl rfl rfl rfl (fun g v g' hC o e b => ⟨hChE hC e, o.base hC.1⟩) (fun v8 => ?_)
      refine k_append (bytes := 24) (cs := pA.map Prod.fst) (news := [va]) (m := pA.length) (k' := 1) (s := 1) (B := h4.size) rfl rfl rfl rfl rfl rfl rfl rfl rfl (by decide) rfl (fun u hu => by rw [List.mem_singleton.1 hu]; exact hva) (by simp only [maxLen]; omega) (by omega) (fun g hC hD hT => ⟨hD.2.2.2.1, Own.sl (hT (8, v8) (by simp)), Nat.le_trans z514 hC.1⟩) (fun g v9 g' hC hD hT o9 k9' b9 => ?_)
      have c9 : ChgF h h4.size tp p3 p4 vf B ds1 (pB ++ (vb, rb) :: (pA ++ [(va, ra)])) g' := hD.1.app hD.2.2.2.1 k9' E4.1 hb3 hb4 hpk T.bl
      refine ⟨hChO hC k9' hp6A hp9A hp10A, fun x => ChgF h h4.size tp p3 p4 vf B ds1 (pB ++ (vb, rb) :: (pA ++ [(va, ra)])) x ∧ Var x p6 42 [vB, vA] ∧ Own x h4.size 56 1 v4 (pB.length + 1) (pB.map Prod.fst ++ [vb]) ∧ Own x h4.size 56 1 v9 (pA.length + 1) (pA.map Prod.fst ++ [va]) ∧ (v4.ownBlock = none ∨ v4.ownBlock ≠ v9.ownBlock),
        fun a b d e => ⟨d.1.ext e, d.2.1.ext e, d.2.2.1.ext e, d.2.2.2.1.ext e, d.2.2.2.2⟩, ⟨c9, hD.2.1.only k9' hp6A, hD.2.2.1.only k9' hD.2.2.2.2, o9, ?_⟩, only_two2 k9', ?_⟩
      · rcases b9 with b9 | ⟨b, hb, hbl⟩
        · rw [b9]; exact hD.2.2.2.2
        · rw [hb]
          cases h4b : v4.ownBlock with
          | none => exact .inl rfl
          | some k => exact .inr fun e => by cases e; have := (hD.2.2.1.blk _ h4b).2; omega
      have hv4 := o4.sl.one
      have hv9 := o9.sl.one
      have hneB : v4 ≠ vB := fun e => by
        have h1 := o4.1
        obtain ⟨-, ⟨r1, r2⟩ | ⟨g1, cap1, cur1, r1, -⟩⟩ := o4
        · omega
        · obtain ⟨-, ⟨r3, r4⟩ | ⟨g2, cap2, cur2, r3, -⟩⟩ := oB14
          · rw [r1, r3] at e; cases e
          · rw [r1, r3] at e
            injection e with e1 e2 e3
            omega
      refine k_run (j := 11) h14 rfl rfl (by kernel_rfl) (by kernel_rfl) ?_
      refine runJ ?_
      refine ⟨⟨rfl, ?_⟩⟩
      refine k_storeC (p := p6) (off := 0) (cs := [vB, vA]) (u := v4) (fun x => ChgF h h4.size tp p3 p4 vf B ds1 (pB ++ (vb, rb) :: (pA ++ [(va, ra)])) x ∧ Var x p6 42 [v4, vA] ∧ Own x h4.size 56 1 v4 (pB.length + 1) (pB.map Prod.fst ++ [vb]) ∧ Own x h4.size 56 1 v9 (pA.length + 1) (pA.map Prod.fst ++ [va]) ∧ (v4.ownBlock = none ∨ v4.ownBlock ≠ v9.ownBlock)) rfl rfl rfl rfl rfl hv4 rfl rfl rfl (fun a b d e => ⟨d.1.ext e, d.2.1.ext e, d.2.2.1.ext e, d.2.2.2.1.ext e, d.2.2.2.2⟩) (fun g hC hD hT => hD.2.1)
        (fun g g' hC hD hT x k => ⟨⟨Nat.le_trans hC.1 k.1, ⟨v4, vA, x, fun e => absurd e hneB⟩, hC.2.2.1.only k hp96, hC.2.2.2.only k hp106⟩, hD.1.sto hD.2.1 k hge6 hp36 hp46 hpk T.bl, x, hD.2.2.1.only k (Own.neT hD.2.2.1 hD.2.1 rfl), hD.2.2.2.1.only k (Own.neT hD.2.2.2.1 hD.2.1 rfl), hD.2.2.2.2⟩) ?_
      refine k_run (j := 13) h14 rfl rfl (by kernel_rfl) (by kernel_rfl) ?_
      refine runJ ?_
      refine ⟨⟨rfl, ?_⟩⟩
      refine k_storeC (p := p6) (off := 1) (cs := [v4, vA]) (u := v9) (fun x => ChgF h h4.size tp p3 p4 vf B ds1 (pB ++ (vb, rb) :: (pA ++ [(va, ra)])) x ∧ Var x p6 42 [v4, v9] ∧ Own x h4.size 56 1 v4 (pB.length + 1) (pB.map Prod.fst ++ [vb]) ∧ Own x h4.size 56 1 v9 (pA.length + 1) (pA.map Prod.fst ++ [va]) ∧ (v4.ownBlock = none ∨ v4.ownBlock ≠ v9.ownBlock)) rfl rfl rfl rfl rfl hv9 rfl rfl rfl (fun a b d e => ⟨d.1.ext e, d.2.1.ext e, d.2.2.1.ext e, d.2.2.2.1.ext e, d.2.2.2.2⟩) (fun g hC hD hT => hD.2.1)
        (fun g g' hC hD hT x k => ⟨⟨Nat.le_trans hC.1 k.1, ⟨v4, v9, x, fun e => absurd e hneB⟩, hC.2.2.1.only k hp96, hC.2.2.2.only k hp106⟩, hD.1.sto hD.2.1 k hge6 hp36 hp46 hpk T.bl, x, hD.2.2.1.only k (Own.neT hD.2.2.1 hD.2.1 rfl), hD.2.2.2.1.only k (Own.neT hD.2.2.2.1 hD.2.1 rfl), hD.2.2.2.2⟩) ?_
      refine k_done rfl ?_
      rintro hE hCE ⟨cE, x6E, oBE, oAE, nE⟩ -
      refine runJ ?_
      apply again_normal (i + 1, (v4, pB ++ [(vb, rb)]), (v9, pA ++ [(va, ra)]), ds1, acc ++ [(als, es)])
      · exact (Sub.cons rfl (Sub.cons rfl (Sub.cons rfl (Sub.cons rfl (Sub.cons rfl (Sub.cons rfl (Sub.nil _)))))))
      · refine ⟨cE.k, Nat.le_trans z514 hCE.1, hj, cE.x3, cE.x4, x6E, ⟨by unfold OwnF; rw [List.length_append, List.map_append]; exact oBE, fun x hx => ?_⟩, ⟨by unfold OwnF; rw [List.length_append, List.map_append]; exact oAE, fun x hx => ?_⟩, nE, cE.t, by dsimp only; rw [List.length_append, lB5]; rfl, ?_, by dsimp only; rw [List.length_append, la5]; rfl, ?_, fun j ae b hae hb => ?_⟩
        · refine cE.el x ?_
          rcases List.mem_append.1 hx with hx | hx
          · exact List.mem_append_left _ hx
          · rw [List.mem_singleton.1 hx]; exact List.mem_append_right _ List.mem_cons_self
        · refine cE.el x ?_
          exact List.mem_append_right _ (List.mem_cons_of_mem _ hx)
        · dsimp only
          rw [List.map_append, List.map_append, mA5]
          simp [hma]
        · dsimp only
          rw [hG5, hlen']
          conv => lhs; unfold swG
          rw [hh]
          dsimp only
          cases swG (2 ^ D.L) D.w D.R.qs (D.R.qs.length - (i + 1)) ds1 with
          | none => rfl
          | some y => simp
        · dsimp only at hae hb
          rcases snoc_get hae with ⟨ha1, ha2⟩ | ⟨hji, rfl⟩
          · refine hS5 j ae b ha2 ?_
            rw [List.getElem?_append_left (by omega)] at hb
            exact hb
          · have hji : j = pB.length := by omega
            rw [hji, List.getElem?_append_right (Nat.le_refl _), Nat.sub_self] at hb
            obtain rfl : (vb, rb) = b := Option.some.inj hb
            refine ⟨by rw [List.length_map]; exact lrb, fun k q s hr ai bk hq hs hhr hai hbk => ?_⟩
            dsimp only at hai hbk
            rw [List.getElem?_map] at hs hhr hbk
            obtain ⟨s', hs', rfl⟩ := Option.map_eq_some_iff.1 hs
            obtain ⟨hr', hhr', rfl⟩ := Option.map_eq_some_iff.1 hhr
            obtain ⟨b', hb', rfl⟩ := Option.map_eq_some_iff.1 hbk
            have hk := (List.getElem?_eq_some_iff.1 hq).1
            obtain ⟨x, hx⟩ := get_lt (l := rh) (j := k) (by omega)
            have := HB k q s' x ai b' hq hs' hx hai hb'
            unfold hidR
            rcases grh k x hx with ⟨hki, rfl⟩ | ⟨hki, hx'⟩
            · rw [if_pos (by omega)]
              rw [hki, hf] at hhr'
              cases hhr'
              exact this
            · rw [if_neg (by omega), ← zrh k q x hx' hq]
              exact this
      · dsimp only; omega
  · have hil : i = D.R.qs.length := by omega
    subst hil
    rw [Nat.sub_self] at hG5
    have hG : swG (2 ^ D.L) D.w D.R.qs D.R.qs.length ds = some (acc, dsi) := by
      rw [hG5]; simp [swG]
    rw [hG]
    have hvB := SB5.own.sl.one
    have hvA := SA5.own.sl.one
    refine runJ ?_
    (apply s_storeV; exact rfl; exact rfl; exact rfl; exact (OneAll.cons hvB (OneAll.cons hvA OneAll.nil) : OneAll [vB, vA]); exact rfl; exact rfl; exact x45; exact rfl)
    intro h6 x6 k6
    refine ⟨trivial, ?_⟩
    have x6 : Var h6 p4 42 [vB, vA] := x6
    have K6 : Only (pblk tp) h h6 := only_own k5 k6 hge4
    have hpk : ∀ j, pblk tp = some j → j < h.size := fun j hj => by rw [htk] at hj; cases hj; exact htl
    have hp4l : ∀ {v : Value} {ps : List (Value × List (Value × List Nat))}, OwnF h5 h4.size 56 Prod.fst v ps → v.ownBlock = none ∨ v.ownBlock ≠ pblk p4 := fun {v ps} o => Own.neT o x45 rfl
    have hsw : ∀ {v : Value} {ps : List (Value × List (Value × List Nat))}, SwAt h5 h4.size v ps → SwAt h6 h.size v ps := fun {v ps} s => ⟨(s.own.only k6 (hp4l s.own)).base E4.1, fun x hx => by
      obtain ⟨p, hp⟩ := s.el x hx
      exact ⟨p, (hp.neS x45 k6).base E4.1⟩⟩
    refine runJ ?_
    exact finCT rfl rfl rfl x6 rfl rfl ⟨K6, vB, vA, pB, pA, rfl, hsw SB5, hsw SA5, mA5, lB5, T5.own k6 hpk T.bl hge4, hS5⟩
end Go.Proofs.YtfcmdefigldpnaaGreatDoor


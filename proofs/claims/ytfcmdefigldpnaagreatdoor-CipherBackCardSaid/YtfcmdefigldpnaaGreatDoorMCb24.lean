/- Texts KeyC to SrcA of this work, joined, without what the law does not lean on. -/
import Derived.Test.YtfcmdefigldpnaaGreatDoorMCb23
namespace Go.Proofs.YtfcmdefigldpnaaGreatDoor
set_option linter.unusedVariables false
set_option maxRecDepth 8000
open Go Go.Den Go.RowKit Go.Mth Go.Dig

structure SwAt (h : Hp) (B : Nat) (v : Value) (ps : List (Value × List (Value × List Nat))) : Prop where mk ::
  own : OwnF h B 56 Prod.fst v ps
  el : ∀ x ∈ ps, ∃ p, RowsAt h B p x.1 x.2
theorem own_neO {h : Hp} {B s n B2 s2 n2 : Nat} {e e2 : TypeId} {v w : Value} {cs ds : List Value} (o : Own h B e s v n cs) (x : Own h B2 e2 s2 w n2 ds) (hne : Nat.beq e e2 = false) : v.ownBlock = none ∨ v.ownBlock ≠ w.ownBlock := by
  obtain ⟨-, ⟨rfl, -⟩ | ⟨g, cap, cur, rfl, -, hg, -⟩⟩ := o
  · exact .inl rfl
  · obtain ⟨-, ⟨rfl, -⟩ | ⟨g2, cap2, cur2, rfl, -, hg2, -⟩⟩ := x
    · exact .inr fun e => by cases e
    · refine .inr fun e => ?_
      have e : some g = some g2 := e
      cases e
      rw [hg] at hg2
      simp only [Option.some.injEq, Obj.cells.injEq] at hg2
      have := hg2.2.1
      subst this
      simp at hne
theorem RowsAt.neO {h h' : Hp} {B B2 n : Nat} {p : Option Nat} {v w : Value} {rows : List (Value × List Nat)} {ds : List Value} (s : RowsAt h B p v rows) (x : Own h B2 56 1 w n ds) (k : Only w.ownBlock h h') : RowsAt h' B p v rows :=
  ⟨s.own.only k (own_neO s.own x rfl), fun y hy => (s.el y hy).only k (own_neO (s.el y hy) x rfl), s.ne, s.np, s.vp⟩
theorem snoc_get {α : Type} {xs : List α} {x y : α} {j : Nat} (h : (xs ++ [x])[j]? = some y) : (j < xs.length ∧ xs[j]? = some y) ∨ (j = xs.length ∧ x = y) := by
  by_cases hj : j < xs.length
  · rw [List.getElem?_append_left hj] at h; exact .inl ⟨hj, h⟩
  · rw [List.getElem?_append_right (by omega)] at h
    have h0 : j - xs.length = 0 := by
      have := (List.getElem?_eq_some_iff.1 h).1
      simp at this; omega
    rw [h0] at h
    exact .inr ⟨by omega, Option.some.inj h⟩

structure ChgF (h : Hp) (M : Nat) (tp p3 p4 vf : Value) (B : Option Nat) (ds : List Nat) (ps : List (Value × List (Value × List Nat))) (x : Hp) : Prop where mk ::
  k : Only (pblk tp) h x
  x3 : Var x p3 56 [vf]
  x4 : Var x p4 42 [.slice none 0 0, .slice none 0 0]
  t : TapeAt x tp B ds false
  el : ∀ y ∈ ps, ∃ p, RowsAt x M p y.1 y.2
section chg
variable {h : Hp} {M : Nat} {tp p3 p4 vf : Value} {B : Option Nat} {ds : List Nat} {ps : List (Value × List (Value × List Nat))} {x x' : Hp}
theorem ChgF.ext (c : ChgF h M tp p3 p4 vf B ds ps x) (e : Ext x x') : ChgF h M tp p3 p4 vf B ds ps x' :=
  ⟨c.k.trans (e.only _), c.x3.ext e, c.x4.ext e, c.t.ext e, fun y hy => by obtain ⟨p, hp⟩ := c.el y hy; exact ⟨p, hp.ext e⟩⟩
theorem ChgF.app {w : Value} {n : Nat} {cs : List Value} (c : ChgF h M tp p3 p4 vf B ds ps x) (o : Own x M 56 1 w n cs) (k : Only w.ownBlock x x') (hM : h.size ≤ M) (h3 : ∃ j, pblk p3 = some j ∧ j < M) (h4 : ∃ j, pblk p4 = some j ∧ j < M) (ht : ∀ j, pblk tp = some j → j < h.size) (hB : ∀ b, B = some b → b < h.size) : ChgF h M tp p3 p4 vf B ds ps x' := by
  have hw := fun k hk => (o.blk k hk).1
  have low : ∀ p : Value, (∃ j, pblk p = some j ∧ j < M) → pblk p ≠ w.ownBlock := fun p ⟨j, hj, hl⟩ e => by
    rw [hj] at e
    have := hw j e.symm
    omega
  exact ⟨only_own c.k k (fun j hj => Nat.le_trans hM (hw j hj)), c.x3.only k (low p3 h3), c.x4.only k (low p4 h4), c.t.own k ht hB (fun j hj => Nat.le_trans hM (hw j hj)), fun y hy => by obtain ⟨p, hp⟩ := c.el y hy; exact ⟨p, hp.neO o k⟩⟩
end chg


theorem NewT.low {B B' : Nat} {g : Value} {t : Tbl} (s : NewT B g t) (h : B' ≤ B) : NewT B' g t := by
  obtain ⟨⟨k, hk, hl⟩, h2, h3⟩ := s
  exact ⟨⟨k, hk, Nat.le_trans h hl⟩, fun j hj => Nat.le_trans h (h2 j hj), fun j hj => Nat.le_trans h (h3 j hj)⟩
structure RngNew (B : Nat) (g : Value) (R : RngD) : Prop where mk ::
  g : ∃ k, pblk g = some k ∧ B ≤ k
  q : ∀ k, R.vq.ownBlock = some k → B ≤ k
  t : ∀ k, R.vt.ownBlock = some k → B ≤ k
  tb : ∀ x ∈ R.ts, NewT B x.1 x.2

set_option maxHeartbeats 2000000 in
theorem ringNewS_spec (L : Nat) (vp : Value) (qs : List Nat) (h : Hp) (T : TB h) (s : SlF h U vp qs) (hL1 : 1 ≤ L) (hL9 : L ≤ 9) (hq : ∀ q ∈ qs, QOk L q) (hnd : qs.Nodup) (h0 : 0 < qs.length) (h24 : qs.length ≤ 24) :
    CallsH Tryz.prog 68 [N (2 ^ L), vp] h fun v' h' => Ext h h' ∧ ∃ (g : Value) (R : RngD), v' = .tuple #[g, N 0] ∧ RngAt h' g R ∧ RngOk R ∧ R.L = L ∧ R.qs = qs ∧ RngNew h.size g R := by
  have CL := fun h s => clone_spec vp qs h s (by omega)
  have NW := fun q (hq : QOk L q) h T => nttNewX_spec L q hq.root.choose h T hL1 hL9 hq.q61 hq.qm hq.q1 hq.is hq.root.choose_spec.1 hq.root.choose_spec.2.1 hq.root.choose_spec.2.2
  (apply enter Tryz.func68 rfl Tryz.ntmps68 rfl)
  refine runJ ?_
  (apply s_splitG; exact rfl; exact rfl; exact rfl; exact rfl) <;> intro g1
  · exact absurd g1 (by omega)
  refine runJ ?_
  (apply w_condF; exact rfl; exact rfl; exact (show ¬ 24 < qs.length by omega))
  refine runJ ?_
  apply (s_call Tryz_ent34 rfl rfl rfl)
  refine (CL h s).mono ?_
  rintro vq h1 ⟨e1, o1⟩
  refine ⟨trivial, ?_⟩
  refine runJ ?_
  (apply (s_build ([N (2 ^ L), vq, .slice none 0 0])); exact rfl; exact rfl; exact rfl; (repeat (first | exact CellsAll.nil | (apply CellsAll.cons; (first | exact oneL (by assumption) | exact oneL (SlF.one (by assumption)) | exact oneL (SlF.one (OwnF.sl (by assumption))) | exact oneL (Var.one (by assumption)) | exact rfl)))); exact rfl; exact rfl)
  refine runJ ?_
  (apply s_box; exact rfl; exact rfl; exact rfl; exact rfl)
  intro g h2 G2 e2 b2
  (try dsimp only [Value.cells, List.toList_toArray] at G2)
  refine clsI ?_
  have e02 := e1.trans e2
  have hgl : h.size ≤ h1.size := e1.1
  have hg2 : h1.size < h2.size := by obtain ⟨j, hj, hl⟩ := G2.blk; rw [b2] at hj; cases hj; exact hl
  have nq : vq.ownBlock = none ∨ vq.ownBlock ≠ pblk g := SlF.neV (f := U) (xs := []) (fun j hj => (o1.blk j hj).2) b2 (Nat.le_refl _)
  have q2 := o1.sl.ext e2
  have s02 := s.ext e02
  refine runJ ?_
  (first | (apply w_seqB; exact rfl; apply w_block; exact rfl) | skip)
  apply (w_loop (σ := Nat × List (Value × Tbl) × Value) rfl (fun j => [(0, N (2 ^ L)), (1, vp), (6, g), (24, vp), (25, N qs.length), (26, N j.1)])
    (fun j h' => Ext h1 h' ∧ h2.size ≤ h'.size ∧ j.1 ≤ qs.length ∧ Var h' g 166 [N (2 ^ L), vq, j.2.2] ∧ OwnF h' h1.size 173 Prod.fst j.2.2 j.2.1 ∧ (∀ k, j.2.2.ownBlock = some k → h2.size ≤ k) ∧ j.2.1.map (fun x => x.2.q) = qs.take j.1 ∧
      ∀ x ∈ j.2.1, TblAt h' x.1 x.2 ∧ (TblOk x.2 ∧ x.2.L = L ∧ RootR x.2.q (2 ^ (L + 1)) x.2.w) ∧ TblSep (pblk g) x ∧ TblSep j.2.2.ownBlock x ∧ NewT h.size x.1 x.2) (fun j => qs.length - j.1) (0, [], .slice none 0 0))
  · exact subs
  · exact ⟨e2, Nat.le_refl _, Nat.zero_le _, G2, OwnF.nil _ _ _ _, (by intro k hk; cases hk), rfl, (by intro x hx; cases hx)⟩
  rintro ⟨j, ts, vt⟩ h3 ⟨e3, z3, j1, G3, o3, v3, m3, t3⟩
  dsimp only at e3 z3 j1 G3 o3 v3 m3 t3 ⊢
  have s3 := (s.ext e1).ext e3
  refine runJ ?_
  (apply w_condD; exact rfl; exact rfl) <;> intro hj
  · obtain ⟨q, hqj⟩ := get_lt hj
    have hqm := List.mem_of_getElem? hqj
    have hqk := hq q hqm
    refine runJ ?_
    apply (s_call Tryz_ent128 rfl rfl rfl)
    refine (NW q hqk h3 (T.ext (e1.trans e3))).mono ?_
    rintro _ h4 ⟨e4, tg, t, rfl, A4, K4, hL4, hq4, hR4, N4⟩
    refine ⟨trivial, ?_⟩
    have e14 := e3.trans e4
    have s4 := s3.ext e4
    have c4 := s4.cut (lo := 0) (hi := j) (Nat.zero_le _) j1
    rw [List.drop_zero, Nat.sub_zero] at c4
    have hnin : q ∉ qs.take j := fun hin => not_nodup_at hqj hin hnd
    have CT := contains_spec _ (qs.take j) q h4 c4 (by rw [List.length_take]; omega)
    rw [decide_eq_false hnin] at CT
    refine runJ ?_
    apply (s_call Tryz_ent129 rfl rfl rfl)
    refine (CT).mono ?_
    rintro _ _ ⟨rfl, rfl⟩
    refine ⟨trivial, ?_⟩
    have G4 := G3.ext e4
    have o4 := o3.ext e4
    have htl : ts.length = j := by
      have := congrArg List.length m3
      rw [List.length_map, List.length_take] at this
      omega
    refine runJ ?_
    (refine s_app1V (bytes := 8) ((tg, t)) o4 e14 rfl rfl rfl rfl rfl rfl rfl rfl rfl (by first | exact rfl | exact congrArg some (congrArg I (by omega))) (A4.var.one) rfl rfl (fun _ _ => trivial) (by omega) (by simp only [maxLen]; omega) ?_)
    intro v5 h5 o5 e5 k5 b5
    have hpg : pblk g ≠ vt.ownBlock := by
      rw [b2]; intro e
      have := v3 _ e.symm; omega
    have hv5 : ∀ k, v5.ownBlock = some k → h2.size ≤ k := fun k hk => by
      rcases b5 with b5 | ⟨b, hb, hbl⟩
      · exact v3 k (by rw [← b5]; exact hk)
      · rw [hk] at hb; cases hb
        exact Nat.le_trans z3 (Nat.le_trans e4.1 hbl)
    have G5 := G4.only k5 hpg
    have hsepN : TblSep vt.ownBlock (tg, t) := by
      cases hvt : vt.ownBlock with
      | none => exact A4.sep0
      | some k => exact N4.sep (o3.blk k hvt).2
    have hsep5 : ∀ x : Value × Tbl, TblOk x.2 → TblAt h4 x.1 x.2 → TblSep vt.ownBlock x → TblSep v5.ownBlock x := fun x hk ha hs => by
      rcases b5 with b5 | ⟨b, hb, hbl⟩
      · rw [b5]; exact hs
      · rw [hb]; exact ha.lt hk hbl
    refine runJ ?_
    (apply s_storeC; exact rfl; exact rfl; (first | exact rfl | exact SlF.one (by assumption) | exact SlF.one (OwnF.sl (by assumption)) | exact Var.one (by assumption)); exact rfl; exact rfl; exact G5; exact rfl)
    intro h6 G6 k6
    refine ⟨(by first | exact trivial | exact Ext.refl _ | assumption | exact Ext.only (by assumption) _ | exact Only.trans (Ext.only (by assumption) _) (by assumption)), ?_⟩
    have e6 : Ext h1 h6 := k6.oldV e5 b2 (Nat.le_refl _)
    have ne5 : v5.ownBlock = none ∨ v5.ownBlock ≠ pblk g := by
      cases h5v : v5.ownBlock with
      | none => exact .inl rfl
      | some k =>
        refine .inr fun e => ?_
        rw [b2] at e; cases e
        have := hv5 _ h5v; omega
    have o6 := o5.only k6 ne5
    refine runJ ?_
    apply again_normal (j + 1, ts ++ [(tg, t)], v5)
    · exact subs
    · refine ⟨e6, Nat.le_trans z3 (Nat.le_trans e4.1 (Nat.le_trans k5.1 k6.1)), hj, G6, o6, hv5, ?_, fun x hx => ?_⟩
      · dsimp only
        rw [List.map_append, m3, take_snoc hqj, List.map_cons, List.map_nil, hq4]
      · rcases List.mem_append.1 hx with hx | hx
        · obtain ⟨a1, a2, a3, a4, a5'⟩ := t3 x hx
          have a5 := a1.ext e4
          exact ⟨(a5.only k5 a4).only k6 a3, a2, a3, hsep5 x a2.1 a5 a4, a5'⟩
        · simp only [List.mem_singleton] at hx
          subst hx
          have a3 : TblSep (pblk g) (tg, t) := by rw [b2]; exact N4.sep (Nat.lt_of_lt_of_le hg2 z3)
          exact ⟨(A4.only k5 hsepN).only k6 a3, ⟨K4, hL4, by rw [hq4]; exact hR4⟩, a3, hsep5 _ K4 A4 hsepN, N4.low (Nat.le_trans hgl (Nat.le_trans (Nat.le_of_lt hg2) z3))⟩
    · dsimp only; omega
  · have hjn : j = qs.length := by omega
    subst hjn
    rw [List.take_length] at m3
    refine runJ ?_
    refine fin2 rfl rfl rfl ⟨e1.trans e3, g, ⟨L, qs, ts, vq, vt⟩, rfl, ⟨G3, o1.sl.ext e3, o3.sl, fun x hx => (t3 x hx).1⟩, ⟨hL1, hL9, hq, h0, h24, m3, fun x hx => (t3 x hx).2.1⟩, rfl, rfl, ⟨⟨_, b2, hgl⟩, fun k hk => (o1.blk k hk).1, fun k hk => Nat.le_trans hgl (Nat.le_trans (Nat.le_of_lt hg2) (v3 k hk)), fun x hx => (t3 x hx).2.2.2.2⟩⟩

def SecP (n : Int) (ss : List Int) : Prop := (∀ v ∈ ss, -1 ≤ v ∧ v ≤ 1) ∧ (ss.length : Int) = n
instance (n : Int) (ss : List Int) : Decidable (SecP n ss) := by unfold SecP; exact inferInstance
def stepsB (m : Int) : Int → List Int → Bool
  | _, [] => true
  | ahead, k :: ks => if k ≤ ahead ∨ m ≤ k then false else stepsB m k ks

theorem Tryz_ent83 : Ent Tryz.prog 83 := ent_of Tryz.func83 (by kernel_rfl) rfl
set_option maxHeartbeats 2000000 in
theorem isSec_spec (p : ParD) (vs : Value) (ss : List Int) (h : Hp) (s : SlF h I vs ss) (hl : ss.length < 9223372036854775808) :
    CallsH Tryz.prog 83 [.agg p.cells.toArray, vs] h fun v' h' => v' = .bool (decide (SecP p.n ss)) ∧ Ext h h' := by
  unfold ParD.cells
  (apply enter Tryz.func83 rfl Tryz.ntmps83 rfl)
  refine runJ ?_
  (apply s_box; exact rfl; exact rfl; exact rfl; exact rfl)
  intro p2 h1 x1 e1 b1
  (try dsimp only [Value.cells, List.toList_toArray] at x1)
  refine clsI ?_
  have s1 := s.ext e1
  refine runJ ?_
  (first | (apply w_seqB; exact rfl; apply w_block; exact rfl) | skip)
  apply (w_loop (σ := Nat) rfl (fun i => [(1, vs), (2, p2), (7, vs), (8, N ss.length), (9, N i)])
    (fun i h' => h' = h1 ∧ i ≤ ss.length ∧ ∀ j v, j < i → ss[j]? = some v → -1 ≤ v ∧ v ≤ 1) (fun i => ss.length - i) 0)
  · exact subs
  · exact ⟨rfl, Nat.zero_le _, fun j v hj => absurd hj (Nat.not_lt_zero _)⟩
  rintro i h2 ⟨rfl, i2, hA⟩
  refine runJ ?_
  (apply w_condD; exact rfl; exact rfl) <;> intro hj
  · obtain ⟨x, hx⟩ := get_lt hj
    refine runJ ?_
    (apply s_splitG; exact rfl; exact rfl; exact rfl; exact rfl) <;> intro g1
    · refine runJ ?_
      refine fin1 rfl rfl ⟨?_, e1⟩
      rw [decide_eq_false (fun h : SecP p.n ss => by have := h.1 x (List.mem_of_getElem? hx); omega)]
    · refine runJ ?_
      (apply w_condD; exact rfl; exact rfl) <;> intro g2
      · refine runJ ?_
        refine fin1 rfl rfl ⟨?_, e1⟩
        rw [decide_eq_false (fun h : SecP p.n ss => by have := h.1 x (List.mem_of_getElem? hx); omega)]
      · refine runJ ?_
        apply again_normal (i + 1)
        · exact subs
        · refine ⟨rfl, hj, fun j v hji hv => ?_⟩
          by_cases he : j = i
          · subst he; rw [hx] at hv; cases hv; omega
          · exact hA j v (by omega) hv
        · omega
  · refine runJ ?_
    refine fin1 rfl rfl ⟨?_, e1⟩
    have : SecP p.n ss ↔ (ss.length : Int) = p.n := ⟨fun h => h.2, fun h => ⟨fun v hv => by
      obtain ⟨j, hj'⟩ := List.mem_iff_getElem?.1 hv
      exact hA j v (by have := (List.getElem?_eq_some_iff.1 hj').1; omega) hj', h⟩⟩
    simp only [this]

theorem RngAt.onlyN {h h' : Hp} {g : Value} {R : RngD} {B : Nat} {r : Option Nat} (s : RngAt h g R) (N : RngNew B g R) (k : Only r h h') (hr : ∀ j, r = some j → j < B) : RngAt h' g R := by
  have nn : ∀ v : Value, (∀ k, v.ownBlock = some k → B ≤ k) → v.ownBlock = none ∨ v.ownBlock ≠ r := fun v hv => by
    cases hb : v.ownBlock with
    | none => exact .inl rfl
    | some j => exact .inr fun e => by have h1 := hv j hb; have h2 := hr j e.symm; omega
  refine ⟨s.var.only k ?_, s.rq.only k (nn _ N.q), s.rt.only k (nn _ N.t), fun x hx => (s.tb x hx).only k ?_⟩
  · obtain ⟨b, hb, hl⟩ := N.g
    rw [hb]; intro e; have := hr b e.symm; omega
  · cases r with
    | none => exact (s.tb x hx).sep0
    | some j => exact (N.tb x hx).sep (hr j rfl)

theorem Tryz_ent35 : Ent Tryz.prog 35 := ent_of Tryz.func35 (by kernel_rfl) rfl
set_option maxHeartbeats 8000000 in
theorem ready_spec (L t w : Nat) (vq vs tp vk : Value) (qs : List Nat) (ss ks : List Int) (h : Hp) (TB0 : TB h) (A : ParAt h ⟨((2 ^ L : Nat) : Int), t, vq, qs, (w : Int)⟩) (P : parP ⟨((2 ^ L : Nat) : Int), t, vq, qs, (w : Int)⟩) (hL3 : 3 ≤ L) (hL9 : L ≤ 9) (hQ : ∀ q ∈ qs, QOk L q)
    (s : SlF h I vs ss) (hl : ss.length < 4611686018427387904) (hsb : ∀ x ∈ ss, -9223372036854775808 ≤ x ∧ x < 9223372036854775808) (sk : SlF h I vk ks) (hlk : ks.length < 4611686018427387904) (hkb : ∀ x ∈ ks, -9223372036854775808 ≤ x ∧ x < 9223372036854775808) {et : TypeId} {ct : List Value} (xt : Var h tp et ct) (hqt : vq.ownBlock = none ∨ vq.ownBlock ≠ pblk tp) :
    CallsH Tryz.prog 35 [.agg #[N (2 ^ L), U t, vq, N w], vs, tp, vk] h fun v' h' => Ext h h' ∧
      ((¬ SecP ((2 ^ L : Nat) : Int) ss ∧ v' = .tuple #[.pointer none, N 3]) ∨
       (SecP ((2 ^ L : Nat) : Int) ss ∧ stepsB ((2 ^ L / 2 : Nat) : Int) 0 ks = false ∧ v' = .tuple #[.pointer none, N 5]) ∨
       (SecP ((2 ^ L : Nat) : Int) ss ∧ stepsB ((2 ^ L / 2 : Nat) : Int) 0 ks = true ∧ ∃ d g D, v' = .tuple #[d, N 0] ∧ KeyAt h' d g tp D ∧ KeyOk D ∧ KeySep d g tp D ∧ D.L = L ∧ D.t = t ∧ D.w = w ∧ D.vq = vq ∧ D.R.qs = qs ∧ D.S.map (·.2) = qs.map (liftL ss))) := by
  have CK := fun h T A => check_spec ⟨((2 ^ L : Nat) : Int), t, vq, qs, (w : Int)⟩ h T A
  rw [if_pos P] at CK
  have hw1 : 1 ≤ w := by have := P.1.2.1; dsimp only at this; omega
  have hw16 : w ≤ 16 := by have := P.1.2.2; dsimp only at this; omega
  have hq0 : 0 < qs.length := P.2.2.1.2.2.1
  have hq8 : qs.length ≤ 8 := P.2.2.1.2.2.2
  have hnd : qs.Nodup := P.2.2.1.2.1
  have ht : t < 1073741824 := P.2.1.1
  have hp9 : 2 ^ L ≤ 2 ^ 9 := Nat.pow_le_pow_right (by decide) hL9
  have hp3 : 2 ^ 3 ≤ 2 ^ L := Nat.pow_le_pow_right (by decide) hL3
  have e9 : (2 : Nat) ^ 9 = 512 := by decide
  have e3' : (2 : Nat) ^ 3 = 8 := by decide
  obtain ⟨tk, htk, htl⟩ := xt.blk
  have tpone : tp.oneCell' = true := by obtain ⟨g, rfl, -⟩ := xt; rfl
  have SC := fun h s => isSec_spec ⟨((2 ^ L : Nat) : Int), t, vq, qs, (w : Int)⟩ vs ss h s (by omega)
  unfold ParD.cells at CK SC
  dsimp only [List.toArray] at CK SC
  obtain ⟨bS, hbS⟩ : ∃ b : Bool, decide (SecP ((2 ^ L : Nat) : Int) ss) = b := ⟨_, rfl⟩
  simp only [hbS] at SC
  (apply enter Tryz.func35 rfl Tryz.ntmps35 rfl)
  refine runJ ?_
  (apply s_box; exact rfl; exact rfl; exact rfl; exact rfl)
  intro p4 h1 x1 e1 b1
  (try dsimp only [Value.cells, List.toList_toArray] at x1)
  refine clsI ?_
  have A1 := A.ext e1
  refine runJ ?_
  apply (s_call Tryz_ent45 rfl rfl rfl)
  refine (CK h1 (TB0.ext e1) A1).mono ?_
  rintro _ h2 ⟨rfl, e2⟩
  refine ⟨trivial, ?_⟩
  have x2 := x1.ext e2
  have s2 := s.ext (e1.trans e2)
  refine runJ ?_
  apply (s_call Tryz_ent83 rfl rfl rfl)
  refine (SC h2 s2).mono ?_
  rintro _ h3 ⟨rfl, e3⟩
  refine ⟨trivial, ?_⟩
  have E3 := (e1.trans e2).trans e3
  have x3 := x2.ext e3
  cases bS with
  | false =>
    refine runJ ?_
    exact fin2 rfl rfl rfl ⟨E3, .inl ⟨of_decide_eq_false hbS, rfl⟩⟩
  | true =>
    have hS := of_decide_eq_true hbS
    have sk3 := sk.ext E3
    refine runJ ?_
    (first | (apply w_seqB; exact rfl; apply w_block; exact rfl) | skip)
    apply (w_loop (σ := Nat × Int) rfl (fun i => [(0, .agg #[N (2 ^ L), U t, vq, N w]), (1, vs), (2, tp), (3, vk), (4, p4), (22, vk), (23, N ks.length), (24, N i.1)])
      (fun i h' => h' = h3 ∧ i.1 ≤ ks.length ∧ (i.1 = 0 → i.2 = 0) ∧ (0 < i.1 → ks[i.1 - 1]? = some i.2 ∧ 1 ≤ i.2) ∧ stepsB ((2 ^ L / 2 : Nat) : Int) 0 ks = stepsB ((2 ^ L / 2 : Nat) : Int) i.2 (ks.drop i.1)) (fun i => ks.length - i.1) (0, 0))
    · exact subs
    · exact ⟨rfl, Nat.zero_le _, fun _ => rfl, fun h => absurd h (Nat.lt_irrefl _), rfl⟩
    rintro ⟨i, ahead⟩ h4 ⟨rfl, i4, i5, i6, i7⟩
    dsimp only at i4 i5 i6 i7 ⊢
    refine runJ ?_
    (apply w_condD; exact rfl; exact rfl) <;> intro hj
    · obtain ⟨x, hx⟩ := get_lt hj
      have hdr : ks.drop i = x :: ks.drop (i + 1) := by
        rw [List.drop_eq_getElem_cons hj]
        have := List.getElem?_eq_getElem hj
        rw [hx] at this; cases this; rfl
      have hah : 0 ≤ ahead := by
        rcases Nat.eq_zero_or_pos i with h0 | h0
        · rw [i5 h0]; exact Int.le_refl _
        · have := (i6 h0).2; omega
      refine runJ ?_
      (apply s_splitG; exact rfl; exact rfl; exact rfl; exact rfl) <;> intro g1
      · refine runJ ?_
        refine fin2 rfl rfl rfl ⟨E3, .inr (.inl ⟨hS, ?_, rfl⟩)⟩
        rw [i7, hdr, stepsB, if_pos (.inl (by omega))]
      · refine runJ ?_
        (apply s_splitG; exact rfl; exact rfl; exact rfl; exact rfl) <;> intro g2
        · refine runJ ?_
          refine fin2 rfl rfl rfl ⟨E3, .inr (.inl ⟨hS, ?_, rfl⟩)⟩
          rw [i7, hdr, stepsB, if_pos (.inr (by omega))]
        · refine runJ ?_
          (apply s_splitG; exact rfl; exact rfl; exact rfl; exact rfl) <;> intro g3
          · have hka := (i6 (by omega)).1
            refine runJ ?_
            (apply w_condD; exact rfl; exact rfl) <;> intro g4
            · refine runJ ?_
              refine fin2 rfl rfl rfl ⟨E3, .inr (.inl ⟨hS, ?_, rfl⟩)⟩
              rw [i7, hdr, stepsB, if_pos (.inl g4)]
            · refine runJ ?_
              apply again_normal (i + 1, x)
              · exact subs
              · refine ⟨rfl, hj, fun h => absurd h (Nat.succ_ne_zero _), fun _ => ⟨?_, by dsimp only; omega⟩, ?_⟩
                · dsimp only; rw [Nat.add_sub_cancel]; exact hx
                · dsimp only; rw [i7, hdr, stepsB, if_neg (by omega)]
              · dsimp only; omega
          · refine runJ ?_
            have hi0 := i5 (by omega)
            apply again_normal (i + 1, x)
            · exact subs
            · refine ⟨rfl, hj, fun h => absurd h (Nat.succ_ne_zero _), fun _ => ⟨?_, by dsimp only; omega⟩, ?_⟩
              · dsimp only; rw [Nat.add_sub_cancel]; exact hx
              · dsimp only; rw [i7, hdr, stepsB, if_neg (by omega)]
            · dsimp only; omega
    · have hil : i = ks.length := by omega
      subst hil
      have hT : stepsB ((2 ^ L / 2 : Nat) : Int) 0 ks = true := by rw [i7, List.drop_length]; rfl
      have rq := A.row.ext E3
      have xt4 := xt.ext E3
      have hN : (⟨((2 ^ L : Nat) : Int), t, vq, qs, (w : Int)⟩ : ParD).n = ((2 ^ L : Nat) : Int) := rfl
      refine runJ ?_
      (apply (s_build ([N (2 ^ L), U t, vq, N w, .pointer none, .slice none 0 0, tp])); exact rfl; exact rfl; exact rfl; (repeat (first | exact CellsAll.nil | (apply CellsAll.cons; (first | exact oneL (by assumption) | exact oneL (SlF.one (by assumption)) | exact oneL (SlF.one (OwnF.sl (by assumption))) | exact oneL (Var.one (by assumption)) | exact rfl)))); exact rfl; exact rfl)
      refine runJ ?_
      (apply s_box; exact rfl; exact rfl; exact rfl; exact rfl)
      intro d h5 x5 e5 b5
      (try dsimp only [Value.cells, List.toList_toArray] at x5)
      refine clsI ?_
      have E5 := E3.trans e5
      have x35 := x3.ext e5
      have rq5 := rq.ext e5
      refine runJ ?_
      apply (s_call Tryz_ent68 rfl rfl rfl)
      refine (ringNewS_spec L vq qs h5 (TB0.ext E5) rq5 (by omega) hL9 hQ hnd hq0 (by omega)).mono ?_
      rintro _ h6 ⟨e6, g, R, rfl, RA, RO, hRL, hRq, RN⟩
      refine ⟨trivial, ?_⟩
      have x56 := x5.ext e6
      have x36 := x35.ext e6
      have gone : g.oneCell' = true := RA.var.one
      have rav := RA.var
      have hd5 : ∀ j, pblk d = some j → j < h5.size := fun j hj => by obtain ⟨b, hb, hl⟩ := x5.blk; rw [hb] at hj; cases hj; exact hl
      have hdh : ∀ j, pblk d = some j → h.size ≤ j := fun j hj => by rw [b5] at hj; cases hj; exact E3.1
      have hp4d : pblk p4 ≠ pblk d := by
        obtain ⟨b, hb, hl⟩ := x3.blk
        rw [hb, b5]; intro e; cases e; omega
      refine runJ ?_
      (apply s_storeC; exact rfl; exact rfl; (first | exact rfl | exact SlF.one (by assumption) | exact SlF.one (OwnF.sl (by assumption)) | exact Var.one (by assumption)); exact rfl; exact rfl; exact x56; exact rfl)
      intro h7 x7 k7
      refine ⟨(by first | exact trivial | exact Ext.refl _ | assumption | exact Ext.only (by assumption) _ | exact Only.trans (Ext.only (by assumption) _) (by assumption)), ?_⟩
      have x7 : Var h7 d 144 [N (2 ^ L), U t, vq, N w, g, .slice none 0 0, tp] := x7
      have R7 := RA.onlyN RN k7 hd5
      have x37 := x36.only k7 hp4d
      have E7 : Ext h h7 := ext_onlyR (E5.trans e6) k7 hdh
      have s7 := s.ext E7
      refine runJN ?_
      (apply (r_drawnCl (fun x => Ext h x ∧ (∃ c5, Var x d 144 [N (2 ^ L), U t, vq, N w, g, c5, tp]) ∧ Var x p4 28 [N (2 ^ L), U t, vq, N w] ∧ RngAt x g R)); exact rfl; exact mixed; kernel_rfl; exact ⟨E7, ⟨_, x7⟩, x37, R7⟩)
      refine runJ ?_
      refine s_loadCell (u := g) (off := 4) rfl rfl (rd_cl fun h' hc => by obtain ⟨c5, hx⟩ := hc.2.1; exact ⟨_, _, hx, rfl⟩) rfl ?_
      refine runJ ?_
      refine s_loadV rfl rfl (rd_cl fun h' hc => hc.2.2.1) rfl rfl ?_
      refine runJ ?_
      have A7 := A.ext E7
      apply (s_call Tryz_ent52 rfl rfl rfl)
      refine (top_spec ⟨((2 ^ L : Nat) : Int), t, vq, qs, (w : Int)⟩ h7 A7).mono ?_
      rintro _ h8 ⟨rfl, e8⟩
      refine ⟨(by first | exact trivial | exact ⟨E7.trans e8, ⟨_, x7.ext e8⟩, x37.ext e8, R7.ext e8⟩), ?_⟩
      rw [show ((⟨((2 ^ L : Nat) : Int), t, vq, qs, (w : Int)⟩ : ParD).q.length : Int) - 1 = ((qs.length - 1 : Nat) : Int) by show (qs.length : Int) - 1 = _; omega]
      have R8 := R7.ext e8
      have s8 := s7.ext e8
      have xd8 := x7.ext e8
      refine runJ ?_
      apply (s_call Tryz_ent55 rfl rfl rfl)
      refine (ringLift_spec g vs R ss (qs.length - 1) h8 RO R8 s8 hsb (by rw [hRL]; have := hS.2; omega) (by rw [hRq]; omega)).mono ?_
      rintro _ h9 ⟨e9', vl, rl, pl, rfl, RW, ml⟩
      refine ⟨(by first | exact trivial | exact ⟨(E7.trans e8).trans e9', ⟨_, xd8.ext e9'⟩, (x37.ext e8).ext e9', R8.ext e9'⟩), ?_⟩
      have hvl := RW.own.sl.one
      have R9 := R8.ext e9'
      have xd9 := xd8.ext e9'
      have E9 := (E7.trans e8).trans e9'
      have rd9 := R9.var
      refine runJ ?_
      (apply s_storeP; exact rfl; exact rfl; exact rfl; exact (OneAll.cons hvl OneAll.nil : OneAll [vl]); exact rfl; exact rfl; exact xd9; exact rfl)
      intro h10 x10 k10
      have x10 : Var h10 d 144 [N (2 ^ L), U t, vq, N w, g, vl, tp] := x10
      have E10 : Ext h h10 := ext_onlyR E9 k10 hdh
      have R10 := R9.onlyN RN k10 hd5
      have hs58 : h5.size ≤ h8.size := Nat.le_trans e6.1 (Nat.le_trans k7.1 e8.1)
      have hs5h : h.size ≤ h5.size := E5.1
      refine ⟨⟨E10, ⟨_, x10⟩, ((x37.ext e8).ext e9').only k10 hp4d, R10⟩, ?_⟩
      refine runJ ?_
      have RW5 := RW.base hs58
      have RW10 : RowsAt h10 h5.size pl vl rl := by
        obtain ⟨b, hb, hbl⟩ := x5.blk
        rw [hb] at k10
        exact RW5.low k10 hbl
      have tlow : ∀ v : Value, (∀ k, v.ownBlock = some k → h5.size ≤ k) → v.ownBlock = none ∨ v.ownBlock ≠ pblk tp := fun v hv => by
        cases hb : v.ownBlock with
        | none => exact .inl rfl
        | some j => exact .inr fun e => by rw [htk] at e; cases e; have := hv _ hb; omega
      have hlr : rl.length = qs.length := by
        have := congrArg List.length ml
        rw [List.length_map, List.length_map, List.length_take, hRq] at this
        omega
      have mlr : rl.map (·.2) = qs.map (liftL ss) := by
        rw [ml, hRq, show qs.length - 1 + 1 = qs.length by omega, List.take_length]
      have mli : ∀ (i q : Nat) (x : Value × List Nat), rl[i]? = some x → qs[i]? = some q → x.2 = liftL ss q := fun i q x hx hq => by
        have h2 := congrArg (fun l => l[i]?) mlr
        simp only [List.getElem?_map, hx, hq, Option.map_some, Option.some.injEq] at h2
        exact h2
      refine fin2 rfl rfl rfl ⟨E10, .inr (.inr ⟨hS, hT, d, g, ⟨L, t, w, vq, R, vl, rl⟩, rfl, ⟨x10, R10, RW10.pol, by rw [hRq]; exact A.row.ext E10⟩, ?_, ?_, rfl, rfl, rfl, rfl, hRq, mlr⟩)⟩
      · refine ⟨RO, hRL, hL3, hw1, hw16, by show t < _; omega, by rw [hRq]; exact hq8, ⟨by show 0 < rl.length; omega, by show rl.length ≤ _; rw [hRq]; omega, fun i q x hx hq => ?_⟩, by show rl.length = _; rw [hRq]; exact hlr⟩
        dsimp only at hx hq ⊢
        rw [hRq] at hq
        rw [mli i q x hx hq, hRL]
        have hq1 := (hQ q (List.mem_of_getElem? hq)).q1
        refine ⟨by unfold liftL; rw [List.length_map]; have := hS.2; omega, fun y hy => ?_⟩
        unfold liftL at hy
        obtain ⟨z, -, rfl⟩ := List.mem_map.1 hy
        exact liftm_lt9 (by omega)
      · refine ⟨?_, ?_, hqt, tlow _ fun k hk => (RW10.own.blk k hk).1, fun x hx => tlow _ fun k hk => ((RW10.el x hx).blk k hk).1, tlow _ RN.q, tlow _ RN.t, fun x hx => ?_⟩
        · rw [b5, htk]; intro e; have := Option.some.inj e; have := E3.1; omega
        · obtain ⟨b, hb, hl⟩ := RN.g
          rw [hb, htk]; intro e; have := Option.some.inj e; omega
        · rw [htk]; exact (RN.tb x hx).sep (by omega)


abbrev TurnV := Int × (Value × List (Value × List (Value × List Nat))) × (Value × List (Value × List (Value × List Nat)))
def turnCells (x : TurnV) : List Value := [I x.1, x.2.1.1, x.2.2.1]
structure TurnsAt (h : Hp) (B : Nat) (v : Value) (ts : List TurnV) : Prop where mk ::
  own : Own h B 96 3 v ts.length (ts.flatMap turnCells)
  el : ∀ x ∈ ts, SwAt h B x.2.1.1 x.2.1.2 ∧ SwAt h B x.2.2.1 x.2.2.2

section frame
variable {h h' : Hp} {B : Nat} {v : Value} {ps : List (Value × List (Value × List Nat))} {ts : List TurnV}
theorem SwAt.ext (s : SwAt h B v ps) (e : Ext h h') : SwAt h' B v ps := ⟨s.own.ext e, fun x hx => by obtain ⟨p, hp⟩ := s.el x hx; exact ⟨p, hp.ext e⟩⟩
theorem SwAt.base {B' : Nat} (s : SwAt h B v ps) (e : B' ≤ B) : SwAt h B' v ps := ⟨s.own.base e, fun x hx => by obtain ⟨p, hp⟩ := s.el x hx; exact ⟨p, hp.base e⟩⟩
theorem own_low {s n : Nat} {e : TypeId} {cs : List Value} {b : Nat} (o : Own h B e s v n cs) (k : Only (some b) h h') (hb : b < B) : Own h' B e s v n cs := o.only k (by
  cases hv : v.ownBlock with
  | none => exact .inl rfl
  | some j => exact .inr fun e => by cases e; have := (o.blk _ hv).1; omega)
theorem SwAt.low {b : Nat} (s : SwAt h B v ps) (k : Only (some b) h h') (hb : b < B) : SwAt h' B v ps := ⟨own_low s.own k hb, fun x hx => by obtain ⟨p, hp⟩ := s.el x hx; exact ⟨p, hp.low k hb⟩⟩
theorem RowsAt.neE {p : Option Nat} {pv : Value} {rows : List (Value × List Nat)} {e : TypeId} {ds : List Value} (s : RowsAt h B p v rows) (x : Var h pv e ds) (k : Only (pblk pv) h h') (h1 : Nat.beq 22 e = false) (h2 : Nat.beq 26 e = false) : RowsAt h' B p v rows :=
  ⟨s.own.only k (Own.neT s.own x h1), fun y hy => (s.el y hy).only k (Own.neT (s.el y hy) x h2), s.ne, s.np, s.vp⟩
theorem SwAt.neE {pv : Value} {e : TypeId} {ds : List Value} (s : SwAt h B v ps) (x : Var h pv e ds) (k : Only (pblk pv) h h') (h1 : Nat.beq 22 e = false) (h2 : Nat.beq 26 e = false) (h3 : Nat.beq 56 e = false) : SwAt h' B v ps :=
  ⟨Own.only s.own k (Own.neT s.own x h3), fun y hy => by obtain ⟨p, hp⟩ := s.el y hy; exact ⟨p, hp.neE x k h1 h2⟩⟩
theorem TurnsAt.ext (s : TurnsAt h B v ts) (e : Ext h h') : TurnsAt h' B v ts := ⟨s.own.ext e, fun x hx => ⟨(s.el x hx).1.ext e, (s.el x hx).2.ext e⟩⟩
theorem TurnsAt.base {B' : Nat} (s : TurnsAt h B v ts) (e : B' ≤ B) : TurnsAt h B' v ts := ⟨s.own.base e, fun x hx => ⟨(s.el x hx).1.base e, (s.el x hx).2.base e⟩⟩
theorem TurnsAt.low {b : Nat} (s : TurnsAt h B v ts) (k : Only (some b) h h') (hb : b < B) : TurnsAt h' B v ts := ⟨own_low s.own k hb, fun x hx => ⟨(s.el x hx).1.low k hb, (s.el x hx).2.low k hb⟩⟩
theorem TurnsAt.neE {pv : Value} {e : TypeId} {ds : List Value} (s : TurnsAt h B v ts) (x : Var h pv e ds) (k : Only (pblk pv) h h') (h1 : Nat.beq 22 e = false) (h2 : Nat.beq 26 e = false) (h3 : Nat.beq 56 e = false) (h4 : Nat.beq 96 e = false) : TurnsAt h' B v ts :=
  ⟨s.own.only k (Own.neT s.own x h4), fun y hy => ⟨(s.el y hy).1.neE x k h1 h2 h3, (s.el y hy).2.neE x k h1 h2 h3⟩⟩
end frame
theorem TB.onlyG {h h' : Hp} {r : Option Nat} (s : TB h) (k : Only r h h') (hne : r ≠ some 2) : TB h' := Cells.only s k (fun e => hne (by rw [← e]; rfl))


theorem Tryz_ent25 : Ent Tryz.prog 25 := ent_of Tryz.func25 (by kernel_rfl) rfl
set_option maxHeartbeats 2000000 in
theorem isSecR_spec (p : ParD) (vs : Value) (ss : List Int) (h : Hp) (s : SlF h I vs ss) (hl : ss.length < 9223372036854775808) :
    CallsH Tryz.prog 25 [.agg p.cells.toArray, vs] h fun v' h' => v' = .bool (decide (SecP p.n ss)) ∧ Ext h h' := by
  unfold ParD.cells
  (apply enter Tryz.func25 rfl Tryz.ntmps25 rfl)
  refine runJ ?_
  (apply s_box; exact rfl; exact rfl; exact rfl; exact rfl)
  intro p2 h1 x1 e1 b1
  (try dsimp only [Value.cells, List.toList_toArray] at x1)
  refine clsI ?_
  have s1 := s.ext e1
  refine runJ ?_
  (first | (apply w_seqB; exact rfl; apply w_block; exact rfl) | skip)
  apply (w_loop (σ := Nat) rfl (fun i => [(1, vs), (2, p2), (7, vs), (8, N ss.length), (9, N i)])
    (fun i h' => h' = h1 ∧ i ≤ ss.length ∧ ∀ j v, j < i → ss[j]? = some v → -1 ≤ v ∧ v ≤ 1) (fun i => ss.length - i) 0)
  · exact subs
  · exact ⟨rfl, Nat.zero_le _, fun j v hj => absurd hj (Nat.not_lt_zero _)⟩
  rintro i h2 ⟨rfl, i2, hA⟩
  refine runJ ?_
  (apply w_condD; exact rfl; exact rfl) <;> intro hj
  · obtain ⟨x, hx⟩ := get_lt hj
    refine runJ ?_
    (apply s_splitG; exact rfl; exact rfl; exact rfl; exact rfl) <;> intro g1
    · refine runJ ?_
      refine fin1 rfl rfl ⟨?_, e1⟩
      rw [decide_eq_false (fun h : SecP p.n ss => by have := h.1 x (List.mem_of_getElem? hx); omega)]
    · refine runJ ?_
      (apply w_condD; exact rfl; exact rfl) <;> intro g2
      · refine runJ ?_
        refine fin1 rfl rfl ⟨?_, e1⟩
        rw [decide_eq_false (fun h : SecP p.n ss => by have := h.1 x (List.mem_of_getElem? hx); omega)]
      · refine runJ ?_
        apply again_normal (i + 1)
        · exact subs
        · refine ⟨rfl, hj, fun j v hji hv => ?_⟩
          by_cases he : j = i
          · subst he; rw [hx] at hv; cases hv; omega
          · exact hA j v (by omega) hv
        · omega
  · refine runJ ?_
    refine fin1 rfl rfl ⟨?_, e1⟩
    have : SecP p.n ss ↔ (ss.length : Int) = p.n := ⟨fun h => h.2, fun h => ⟨fun v hv => by
      obtain ⟨j, hj'⟩ := List.mem_iff_getElem?.1 hv
      exact hA j v (by have := (List.getElem?_eq_some_iff.1 hj').1; omega) hj', h⟩⟩
    simp only [this]

end Go.Proofs.YtfcmdefigldpnaaGreatDoor


namespace Go.Den
set_option linter.unusedVariables false
set_option maxRecDepth 8000
open Go Go.RowKit

section rules
variable {P : Program} {n : Nat} {Q : Post} {l : Fr} {h : Hp} {ops : List Oper} {Ch : Hp → Prop} {E : Nat → Bool} {i d : Nat} {x y : Operand}
theorem s_remU8 {a b : Nat} {t yt : TypeId} (hx : IsK (ev l x) .u8 a) (hy : IsK (ev l y) .u8 b) (hb : Nat.blt d n = true) (hn : 0 < b)
    (q : S P n ops Ch E Q (i + 1) ((d, .int .u8 ((a % b : Nat) : Int)) :: l) h) : O P n ops Ch E Q i d (.binOp .rem t x y yt) l h :=
  s_bin hx.h hy.h hb (fun w' => by
    show (Op.intDiv .rem .u8 (a : Int) (b : Int)).run P w' = _
    unfold Op.intDiv
    rw [if_neg (by omega)]
    show Result.ok (Value.int .u8 ((a : Int).tmod b)) w' = _
    rw [← Int.ofNat_tmod]) q
end rules
end Go.Den


namespace Go.Proofs.YtfcmdefigldpnaaGreatDoor
set_option linter.unusedVariables false
set_option maxRecDepth 8000
open Go Go.Den Go.RowKit Go.Mth

def spl : Nat → Nat → Nat → Nat × Nat
  | 0, d, s => (d, s)
  | k + 1, d, s => if d % 2 = 0 then spl k (d / 2) (s + 1) else (d, s)
theorem spl_odd {d : Nat} (h : ¬ d % 2 = 0) : ∀ (k s : Nat), spl k d s = (d, s)
  | 0, _ => rfl
  | k + 1, s => by unfold spl; rw [if_neg h]
def strongR (n a : Nat) : Bool := powm a (spl 64 (n - 1) 0).1 n == 1 || (powm a (spl 64 (n - 1) 0).1 n == n - 1 || holdsLoop n ((spl 64 (n - 1) 0).2 - 1) (powm a (spl 64 (n - 1) 0).1 n))
def trialR : Nat → Nat → Nat → Bool
  | 0, _, _ => true
  | k + 1, d, n => if d * d ≤ n then (if n % d = 0 then false else trialR k (d + 1) n) else true
def basesR : List Nat := [2, 3, 5, 7, 11, 13, 17, 19, 23, 29, 31, 37]
def isR (n : Nat) : Bool := if n < 2 then false else if n < 65536 then trialR 300 2 n else basesR.all fun a => !(n % a == 0) && strongR n a
theorem pow_lt61 {d s n : Nat} (h : d * 2 ^ s = n - 1) (hn : n < 2305843009213693952) (hn2 : 2 ≤ n) : s < 61 := by
  refine Classical.byContradiction fun hc => ?_
  have h1 : 2 ^ 61 ≤ 2 ^ s := Nat.pow_le_pow_right (by decide) (by omega)
  have h2 : 0 < d := Nat.pos_of_ne_zero fun e => by subst e; omega
  have h3 : 2 ^ s ≤ d * 2 ^ s := Nat.le_mul_of_pos_left _ h2
  have h4 : (2 : Nat) ^ 61 = 2305843009213693952 := by decide
  omega

theorem Tryz_ent140 : Ent Tryz.prog 140 := ent_of Tryz.func140 (by kernel_rfl) rfl
theorem strongR_spec (n a : Nat) (h : Hp) (hn : 2 ≤ n) (hn2 : n < 2305843009213693952) (ha : a < 18446744073709551616) :
    CallsH Tryz.prog 140 [U n, U a] h fun v' h' => v' = .bool (strongR n a) ∧ h = h' := by
  (apply enter Tryz.func140 rfl Tryz.ntmps140 rfl)
  refine runJ ?_
  (first | (apply w_seqB; exact rfl; apply w_block; exact rfl) | skip)
  apply (w_loop (σ := Nat × Nat) rfl (fun j => [(0, U n), (1, U a), (5, U j.1), (6, N j.2)])
    (fun j h' => h = h' ∧ 1 ≤ j.1 ∧ j.1 + j.2 < n ∧ j.1 * 2 ^ j.2 = n - 1 ∧ spl 64 (n - 1) 0 = spl (64 - j.2) j.1 j.2) (fun j => j.1) (n - 1, 0))
  · exact subs
  · exact ⟨rfl, by dsimp only; omega, by dsimp only; omega, by dsimp only; rw [Nat.pow_zero, Nat.mul_one], rfl⟩
  rintro ⟨d, s⟩ h' ⟨rfl, j1, j2, j3, j4⟩
  dsimp only at j1 j2 j3 j4 ⊢
  refine runJ ?_
  (apply w_condD; exact rfl; exact rfl) <;> intro hd
  · refine runJ ?_
    apply again_normal (d / 2, s + 1)
    · exact subs
    · have hs := pow_lt61 j3 hn2 hn
      refine ⟨rfl, by dsimp only; omega, by dsimp only; omega, ?_, ?_⟩
      · dsimp only
        rw [← j3, Nat.pow_succ, Nat.mul_comm (2 ^ s) 2, ← Nat.mul_assoc, Nat.div_mul_cancel (Nat.dvd_of_mod_eq_zero hd)]
      · dsimp only
        rw [j4, show 64 - s = (64 - (s + 1)) + 1 by omega]
        conv => lhs; unfold spl
        rw [if_pos hd]
    · dsimp only; omega
  have hsp : spl 64 (n - 1) 0 = (d, s) := j4.trans (spl_odd hd _ _)
  have hR : strongR n a = (powm a d n == 1 || (powm a d n == n - 1 || holdsLoop n (s - 1) (powm a d n))) := by unfold strongR; rw [hsp]
  rw [hR]
  refine runJ ?_
  apply (s_call Tryz_ent181 rfl rfl rfl)
  refine (refPow_spec a d n h ha (by omega) (by omega)).mono ?_
  rintro _ _ ⟨rfl, rfl⟩
  refine clsI ?_
  have hx : powm a d n < n := by unfold powm; rw [if_neg (by omega)]; exact Nat.mod_lt _ (by omega)
  generalize powm a d n = x at *
  refine runJ ?_
  (apply s_splitG; exact rfl; exact rfl; exact rfl; exact rfl) <;> intro g1
  · refine runJ ?_
    exact fin1 rfl rfl ⟨by simp [g1], rfl⟩
  refine runJ ?_
  (apply w_condD; exact rfl; exact rfl) <;> intro g2
  · refine runJ ?_
    exact fin1 rfl rfl ⟨by simp [g2], rfl⟩
  refine runJ ?_
  (first | (apply w_seqB; exact rfl; apply w_block; exact rfl) | skip)
  apply (w_loop (σ := Nat × Nat) rfl (fun j => [(0, U n), (6, N s), (7, U j.1), (8, N j.2)])
    (fun j h' => h = h' ∧ j.1 < n ∧ 1 ≤ j.2 ∧ holdsLoop n (s - 1) x = holdsLoop n (s - j.2) j.1) (fun j => s - j.2) (x, 1))
  · exact subs
  · exact ⟨rfl, hx, Nat.le_refl _, rfl⟩
  rintro ⟨y, i⟩ h' ⟨rfl, k1, k2, k3⟩
  dsimp only at k1 k2 k3 ⊢
  have hx1 : (x == 1) = false := by simp [g1]
  have hx2 : (x == n - 1) = false := by simp [g2]
  refine runJ ?_
  (apply w_condD; exact rfl; exact rfl) <;> intro hi
  · have hstep : holdsLoop n (s - i) y = (mulm y y n == n - 1 || holdsLoop n (s - (i + 1)) (mulm y y n)) := by
      rw [show s - i = (s - (i + 1)) + 1 by omega]; rfl
    refine runJ ?_
    apply (s_call Tryz_ent182 rfl rfl rfl)
    refine (refMul_spec y y n h (by omega) (by omega) (by omega)).mono ?_
    rintro _ _ ⟨rfl, rfl⟩
    refine clsI ?_
    have hm : mulm y y n < n := mulm_lt (by omega)
    generalize mulm y y n = z at *
    refine runJ ?_
    (apply w_condD; exact rfl; exact rfl) <;> intro hy
    · refine runJ ?_
      exact fin1 rfl rfl ⟨by rw [hx1, hx2, k3, hstep]; simp [hy], rfl⟩
    · refine runJ ?_
      apply again_normal (z, i + 1)
      · exact subs
      · refine ⟨rfl, hm, by dsimp only; omega, ?_⟩
        dsimp only
        rw [k3, hstep]
        simp [hy]
      · dsimp only; omega
  · refine runJ ?_
    have h0 : holdsLoop n (s - i) y = false := by rw [show s - i = 0 by omega]; rfl
    exact fin1 rfl rfl ⟨by rw [hx1, hx2, k3, h0]; rfl, rfl⟩

theorem Tryz_ent81 : Ent Tryz.prog 81 := ent_of Tryz.func81 (by kernel_rfl) rfl
theorem refIs_spec (n : Nat) (h : Hp) (hn2 : n < 2305843009213693952) :
    CallsH Tryz.prog 81 [U n] h fun v' h' => v' = .bool (isR n) ∧ Ext h h' := by
  (apply enter Tryz.func81 rfl Tryz.ntmps81 rfl)
  refine runJ ?_
  (apply w_condD; exact rfl; exact rfl) <;> intro g1
  · refine runJ ?_
    exact fin1 rfl rfl ⟨by unfold isR; rw [if_pos g1], Ext.refl _⟩
  refine runJ ?_
  (apply w_condD; exact rfl; exact rfl) <;> intro g2
  · have hR : isR n = trialR 300 2 n := by unfold isR; rw [if_neg g1, if_pos g2]
    rw [hR]
    refine runJ ?_
    (first | (apply w_seqB; exact rfl; apply w_block; exact rfl) | skip)
    apply (w_loop (σ := Nat) rfl (fun d => [(0, U n), (3, U d)])
      (fun d h' => h = h' ∧ 2 ≤ d ∧ d ≤ 300 ∧ trialR 300 2 n = trialR (302 - d) d n) (fun d => 302 - d) 2)
    · exact subs
    · exact ⟨rfl, by omega, by omega, rfl⟩
    rintro d h' ⟨rfl, d1, d2, d3⟩
    have hdd : d * d ≤ 300 * 300 := Nat.mul_le_mul d2 d2
    have hdl : d ≤ d * d := Nat.le_mul_self d
    have hst : trialR (302 - d) d n = if d * d ≤ n then (if n % d = 0 then false else trialR (302 - (d + 1)) (d + 1) n) else true := by
      rw [show 302 - d = (302 - (d + 1)) + 1 by omega]; rfl
    rw [d3, hst]
    refine runJ ?_
    (apply w_condD; exact rfl; exact rfl) <;> intro hd
    · rw [if_pos hd]
      have hd256 : d < 256 := by
        refine Classical.byContradiction fun hc => ?_
        have : 256 * 256 ≤ d * d := Nat.mul_le_mul (by omega) (by omega)
        omega
      refine runJ ?_
      (apply w_condD; exact rfl; exact rfl) <;> intro hm
      · rw [if_pos hm]
        refine runJ ?_
        exact fin1 rfl rfl ⟨rfl, Ext.refl _⟩
      · rw [if_neg hm]
        refine runJ ?_
        apply again_normal (d + 1)
        · exact subs
        · exact ⟨rfl, by omega, by omega, rfl⟩
        · omega
    · rw [if_neg hd]
      refine runJ ?_
      exact fin1 rfl rfl ⟨rfl, Ext.refl _⟩
  have hR : isR n = basesR.all fun a => !(n % a == 0) && strongR n a := by unfold isR; rw [if_neg g1, if_neg g2]
  rw [hR]
  refine runJ ?_
  (apply (s_litF (f := U) [2, 3, 5, 7, 11, 13, 17, 19, 23, 29, 31, 37] (fun _ => rfl)); exact rfl; exact rfl; exact rfl; exact rfl; exact rfl; exact rfl; exact rfl; exact rfl; omega)
  intro w h1 o1 e1 b1
  refine clsI ?_
  have s1 := o1.sl
  refine runJ ?_
  (first | (apply w_seqB; exact rfl; apply w_block; exact rfl) | skip)
  apply (w_loop (σ := Nat) rfl (fun j => [(0, U n), (21, w), (22, N 12), (23, N j)])
    (fun j h' => h1 = h' ∧ j ≤ 12 ∧ ∀ i a, i < j → basesR[i]? = some a → ((!(n % a == 0)) && strongR n a) = true) (fun j => 12 - j) 0)
  · exact subs
  · exact ⟨rfl, by omega, by intro i a hi; omega⟩
  rintro j h' ⟨rfl, j1, j2⟩
  refine runJ ?_
  (apply w_condD; exact rfl; exact rfl) <;> intro hj
  · obtain ⟨a, ha⟩ := get_lt (l := [2, 3, 5, 7, 11, 13, 17, 19, 23, 29, 31, 37]) (j := j) hj
    have ham : a ∈ basesR := List.mem_of_getElem? ha
    have hal : 0 < a ∧ a < 100 := by
      have hall : ∀ x ∈ basesR, 0 < x ∧ x < 100 := by decide
      exact hall a ham
    refine runJ ?_
    (apply s_splitG; exact rfl; exact rfl; exact rfl; exact rfl) <;> intro g3
    · refine runJ ?_
      refine fin1 rfl rfl ⟨?_, e1⟩
      congr 1
      symm
      rw [List.all_eq_false]
      exact ⟨a, ham, by simp [g3]⟩
    refine runJ ?_
    apply (s_call Tryz_ent140 rfl rfl rfl)
    refine (strongR_spec n a h1 (by omega) hn2 (by omega)).mono ?_
    rintro _ _ ⟨rfl, rfl⟩
    refine ⟨trivial, ?_⟩
    refine runJ ?_
    (apply w_cond; exact rfl; exact rfl) <;> intro hb
    · refine runJ ?_
      refine fin1 rfl rfl ⟨?_, e1⟩
      congr 1
      symm
      rw [List.all_eq_false]
      refine ⟨a, ham, ?_⟩
      have hb : strongR n a = false := by simpa using hb
      simp [hb]
    · refine runJ ?_
      apply again_normal (j + 1)
      · exact subs
      · refine ⟨rfl, hj, fun i a' hi ha' => ?_⟩
        rcases Nat.lt_succ_iff_lt_or_eq.1 hi with hi | rfl
        · exact j2 i a' hi ha'
        · have : a' = a := by
            have := ha'.symm.trans ha
            exact Option.some.inj this
          subst this
          have hb : strongR n a' = true := by simpa using hb
          rw [hb]; simp [g3]
      · omega
  · refine runJ ?_
    refine fin1 rfl rfl ⟨?_, e1⟩
    congr 1
    symm
    rw [List.all_eq_true]
    intro a ha
    obtain ⟨i, hi⟩ := List.getElem?_of_mem ha
    have hil : i < 12 := (List.getElem?_eq_some_iff.1 hi).1
    exact j2 i a (by omega) hi
end Go.Proofs.YtfcmdefigldpnaaGreatDoor


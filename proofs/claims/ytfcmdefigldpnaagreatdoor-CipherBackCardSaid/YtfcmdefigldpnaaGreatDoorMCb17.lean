/- Texts RngA to BatF of this work, joined, without what the law does not lean on. -/
import Derived.Test.YtfcmdefigldpnaaGreatDoorMCb16
namespace Go.Proofs.YtfcmdefigldpnaaGreatDoor
set_option linter.unusedVariables false
set_option maxRecDepth 8000
open Go Go.Den Go.RowKit Go.Mth Go.Dig

theorem Tryz_ent34 : Ent Tryz.prog 34 := ent_of Tryz.func34 (by kernel_rfl) rfl
theorem clone_spec (v : Value) (xs : List Nat) (h : Hp) (s : SlF h U v xs) (hl : xs.length < 1000000) :
    CallsH Tryz.prog 34 [v] h fun v' h' => Ext h h' ∧ OwnF h' h.size 26 U v' xs := by
  (apply enter Tryz.func34 rfl Tryz.ntmps34 rfl)
  refine runH ?_
  (apply w_cond; exact rfl; exact rfl) <;> intro hn
  · obtain ⟨rfl, rfl⟩ := s.nilE hn
    refine runH ?_
    exact fin1 rfl rfl ⟨Ext.refl _, OwnF.nil _ _ _ _⟩
  · refine runH ?_
    (apply (s_litF (f := U) [] (fun _ => rfl)); exact rfl; exact rfl; exact rfl; exact rfl; exact rfl; exact rfl; exact rfl; exact rfl; omega)
    intro w h1 o1 e1 b1
    refine clsI ?_
    have s1 := s.ext e1
    refine runH ?_
    (apply (s_appendF (bytes := 8)); exact rfl; exact rfl; exact rfl; exact rfl; exact rfl; exact rfl; exact rfl; exact o1; exact s1; exact fun _ => rfl; (first | exact Nat.le_refl _ | exact ext_size (by assumption) | omega); ((try simp only [maxLen]); (try simp only [List.length_nil]); (try simp only [List.length_append]); omega); ((try simp only [List.length_nil]); (try simp only [List.length_append]); omega))
    intro w2 h2 o2 k2 b2
    refine clsI ?_
    refine runH ?_
    exact fin1 rfl rfl ⟨k2.old e1 fun j hj => by rw [b1] at hj; cases hj; exact Nat.le_refl _, o2⟩

structure QOk (L q : Nat) : Prop where mk ::
  q61 : q < 2305843009213693952
  qm : q % (2 * 2 ^ L) = 1
  q1 : 1 < q
  is : isB q = true
  root : ∃ X, 2 ≤ X ∧ X < 18446744073709551615 ∧ powm (powm X ((q - 1) / 2 ^ (L + 1)) q) (2 ^ (L + 1) / 2) q = q - 1

structure TblSep (r : Option Nat) (x : Value × Tbl) : Prop where mk ::
  p : pblk x.1 ≠ r
  vr : x.2.vr.ownBlock = none ∨ x.2.vr.ownBlock ≠ r
  vu : x.2.vu.ownBlock = none ∨ x.2.vu.ownBlock ≠ r
theorem TblAt.only {h h' : Hp} {g : Value} {t : Tbl} {r : Option Nat} (s : TblAt h g t) (k : Only r h h') (e : TblSep r (g, t)) : TblAt h' g t := ⟨s.var.only k e.p, s.rr.only k e.vr, s.ru.only k e.vu⟩
theorem TblAt.lt {h : Hp} {g : Value} {t : Tbl} (K : TblOk t) (s : TblAt h g t) {b : Nat} (hb : h.size ≤ b) : TblSep (some b) (g, t) := by
  have hn := K.size
  have hp : ∀ w, 0 < (pows w t.q (2 ^ t.L)).length := fun w => by rw [pows_len]; omega
  refine ⟨?_, ?_, ?_⟩
  · obtain ⟨j, hj, hl⟩ := s.var.blk
    dsimp only
    rw [hj]; intro e; cases e; omega
  · cases hv : t.vr.ownBlock with
    | none => exact .inl rfl
    | some j =>
      refine .inr fun e => ?_
      cases e
      have := s.rr.lt (hp _) _ hv; omega
  · cases hv : t.vu.ownBlock with
    | none => exact .inl rfl
    | some j =>
      refine .inr fun e => ?_
      cases e
      have := s.ru.lt (hp _) _ hv; omega
theorem TblAt.sep0 {h : Hp} {g : Value} {t : Tbl} (s : TblAt h g t) : TblSep none (g, t) := by
  refine ⟨?_, ?_, ?_⟩
  · obtain ⟨j, hj, -⟩ := s.var.blk
    dsimp only
    rw [hj]; intro e; cases e
  · cases t.vr.ownBlock <;> simp
  · cases t.vu.ownBlock <;> simp
theorem NewT.sep {B b : Nat} {g : Value} {t : Tbl} (s : NewT B g t) (hb : b < B) : TblSep (some b) (g, t) := by
  obtain ⟨k, hk, hkl⟩ := s.p
  refine ⟨?_, ?_, ?_⟩
  · dsimp only
    rw [hk]; intro e; cases e; omega
  · cases hv : t.vr.ownBlock with
    | none => exact .inl rfl
    | some j =>
      refine .inr fun e => ?_
      cases e
      have := s.vr _ hv; omega
  · cases hv : t.vu.ownBlock with
    | none => exact .inl rfl
    | some j =>
      refine .inr fun e => ?_
      cases e
      have := s.vu _ hv; omega

structure RngD where mk ::
  L : Nat
  qs : List Nat
  ts : List (Value × Tbl)
  vq : Value
  vt : Value
structure RngAt (h : Hp) (g : Value) (R : RngD) : Prop where mk ::
  var : Var h g 166 [N (2 ^ R.L), R.vq, R.vt]
  rq : SlF h U R.vq R.qs
  rt : SlF h Prod.fst R.vt R.ts
  tb : ∀ x ∈ R.ts, TblAt h x.1 x.2
structure RngOk (R : RngD) : Prop where mk ::
  l1 : 1 ≤ R.L
  l9 : R.L ≤ 9
  q : ∀ q ∈ R.qs, QOk R.L q
  n0 : 0 < R.qs.length
  n24 : R.qs.length ≤ 24
  map : R.ts.map (fun x => x.2.q) = R.qs
  ok : ∀ x ∈ R.ts, TblOk x.2 ∧ x.2.L = R.L ∧ RootR x.2.q (2 ^ (R.L + 1)) x.2.w
theorem RngAt.ext {h h' : Hp} {g : Value} {R : RngD} (s : RngAt h g R) (e : Ext h h') : RngAt h' g R := ⟨s.var.ext e, s.rq.ext e, s.rt.ext e, fun x hx => (s.tb x hx).ext e⟩

theorem Tryz_ent68 : Ent Tryz.prog 68 := ent_of Tryz.func68 (by kernel_rfl) rfl
set_option maxHeartbeats 2000000 in
theorem ringNew_spec (L : Nat) (vp : Value) (qs : List Nat) (h : Hp) (T : TB h) (s : SlF h U vp qs) (hL1 : 1 ≤ L) (hL9 : L ≤ 9) (hq : ∀ q ∈ qs, QOk L q) (hnd : qs.Nodup) (h0 : 0 < qs.length) (h24 : qs.length ≤ 24) :
    CallsH Tryz.prog 68 [N (2 ^ L), vp] h fun v' h' => Ext h h' ∧ ∃ (g : Value) (R : RngD), v' = .tuple #[g, N 0] ∧ RngAt h' g R ∧ RngOk R ∧ R.L = L ∧ R.qs = qs := by
  have CL := fun h s => clone_spec vp qs h s (by omega)
  have NW := fun q (hq : QOk L q) h T => nttNewX_spec L q hq.root.choose h T hL1 hL9 hq.q61 hq.qm hq.q1 hq.is hq.root.choose_spec.1 hq.root.choose_spec.2.1 hq.root.choose_spec.2.2
  (apply enter Tryz.func68 rfl Tryz.ntmps68 rfl)
  refine runJ ?_
  (apply s_splitG; exact rfl; exact rfl; exact rfl; exact rfl) <;> intro g1
  · exact absurd g1 (by omega)
  refine runJ ?_
  (apply w_condF; exact rfl; exact rfl; exact (show ¬ 24 < qs.length by omega))
  refine runJ ?_
  apply (s_call Tryz_ent34 rfl rfl rfl)
  refine (CL h s).mono ?_
  rintro vq h1 ⟨e1, o1⟩
  refine ⟨trivial, ?_⟩
  refine runJ ?_
  (apply (s_build ([N (2 ^ L), vq, .slice none 0 0])); exact rfl; exact rfl; exact rfl; (repeat (first | exact CellsAll.nil | (apply CellsAll.cons; (first | exact oneL (by assumption) | exact oneL (SlF.one (by assumption)) | exact oneL (SlF.one (OwnF.sl (by assumption))) | exact oneL (Var.one (by assumption)) | exact rfl)))); exact rfl; exact rfl)
  refine runJ ?_
  (apply s_box; exact rfl; exact rfl; exact rfl; exact rfl)
  intro g h2 G2 e2 b2
  (try dsimp only [Value.cells, List.toList_toArray] at G2)
  refine clsI ?_
  have e02 := e1.trans e2
  have hgl : h.size ≤ h1.size := e1.1
  have hg2 : h1.size < h2.size := by obtain ⟨j, hj, hl⟩ := G2.blk; rw [b2] at hj; cases hj; exact hl
  have nq : vq.ownBlock = none ∨ vq.ownBlock ≠ pblk g := SlF.neV (f := U) (xs := []) (fun j hj => (o1.blk j hj).2) b2 (Nat.le_refl _)
  have q2 := o1.sl.ext e2
  have s02 := s.ext e02
  refine runJ ?_
  (first | (apply w_seqB; exact rfl; apply w_block; exact rfl) | skip)
  apply (w_loop (σ := Nat × List (Value × Tbl) × Value) rfl (fun j => [(0, N (2 ^ L)), (1, vp), (6, g), (24, vp), (25, N qs.length), (26, N j.1)])
    (fun j h' => Ext h1 h' ∧ h2.size ≤ h'.size ∧ j.1 ≤ qs.length ∧ Var h' g 166 [N (2 ^ L), vq, j.2.2] ∧ OwnF h' h1.size 173 Prod.fst j.2.2 j.2.1 ∧ (∀ k, j.2.2.ownBlock = some k → h2.size ≤ k) ∧ j.2.1.map (fun x => x.2.q) = qs.take j.1 ∧
      ∀ x ∈ j.2.1, TblAt h' x.1 x.2 ∧ (TblOk x.2 ∧ x.2.L = L ∧ RootR x.2.q (2 ^ (L + 1)) x.2.w) ∧ TblSep (pblk g) x ∧ TblSep j.2.2.ownBlock x) (fun j => qs.length - j.1) (0, [], .slice none 0 0))
  · exact subs
  · exact ⟨e2, Nat.le_refl _, Nat.zero_le _, G2, OwnF.nil _ _ _ _, (by intro k hk; cases hk), rfl, (by intro x hx; cases hx)⟩
  rintro ⟨j, ts, vt⟩ h3 ⟨e3, z3, j1, G3, o3, v3, m3, t3⟩
  dsimp only at e3 z3 j1 G3 o3 v3 m3 t3 ⊢
  have s3 := (s.ext e1).ext e3
  refine runJ ?_
  (apply w_condD; exact rfl; exact rfl) <;> intro hj
  · obtain ⟨q, hqj⟩ := get_lt hj
    have hqm := List.mem_of_getElem? hqj
    have hqk := hq q hqm
    refine runJ ?_
    apply (s_call Tryz_ent128 rfl rfl rfl)
    refine (NW q hqk h3 (T.ext (e1.trans e3))).mono ?_
    rintro _ h4 ⟨e4, tg, t, rfl, A4, K4, hL4, hq4, hR4, N4⟩
    refine ⟨trivial, ?_⟩
    have e14 := e3.trans e4
    have s4 := s3.ext e4
    have c4 := s4.cut (lo := 0) (hi := j) (Nat.zero_le _) j1
    rw [List.drop_zero, Nat.sub_zero] at c4
    have hnin : q ∉ qs.take j := fun hin => not_nodup_at hqj hin hnd
    have CT := contains_spec _ (qs.take j) q h4 c4 (by rw [List.length_take]; omega)
    rw [decide_eq_false hnin] at CT
    refine runJ ?_
    apply (s_call Tryz_ent129 rfl rfl rfl)
    refine (CT).mono ?_
    rintro _ _ ⟨rfl, rfl⟩
    refine ⟨trivial, ?_⟩
    have G4 := G3.ext e4
    have o4 := o3.ext e4
    have htl : ts.length = j := by
      have := congrArg List.length m3
      rw [List.length_map, List.length_take] at this
      omega
    refine runJ ?_
    (refine s_app1V (bytes := 8) ((tg, t)) o4 e14 rfl rfl rfl rfl rfl rfl rfl rfl rfl (by first | exact rfl | exact congrArg some (congrArg I (by omega))) (A4.var.one) rfl rfl (fun _ _ => trivial) (by omega) (by simp only [maxLen]; omega) ?_)
    intro v5 h5 o5 e5 k5 b5
    have hpg : pblk g ≠ vt.ownBlock := by
      rw [b2]; intro e
      have := v3 _ e.symm; omega
    have hv5 : ∀ k, v5.ownBlock = some k → h2.size ≤ k := fun k hk => by
      rcases b5 with b5 | ⟨b, hb, hbl⟩
      · exact v3 k (by rw [← b5]; exact hk)
      · rw [hk] at hb; cases hb
        exact Nat.le_trans z3 (Nat.le_trans e4.1 hbl)
    have G5 := G4.only k5 hpg
    have hsepN : TblSep vt.ownBlock (tg, t) := by
      cases hvt : vt.ownBlock with
      | none => exact A4.sep0
      | some k => exact N4.sep (o3.blk k hvt).2
    have hsep5 : ∀ x : Value × Tbl, TblOk x.2 → TblAt h4 x.1 x.2 → TblSep vt.ownBlock x → TblSep v5.ownBlock x := fun x hk ha hs => by
      rcases b5 with b5 | ⟨b, hb, hbl⟩
      · rw [b5]; exact hs
      · rw [hb]; exact ha.lt hk hbl
    refine runJ ?_
    (apply s_storeC; exact rfl; exact rfl; (first | exact rfl | exact SlF.one (by assumption) | exact SlF.one (OwnF.sl (by assumption)) | exact Var.one (by assumption)); exact rfl; exact rfl; exact G5; exact rfl)
    intro h6 G6 k6
    refine ⟨(by first | exact trivial | exact Ext.refl _ | assumption | exact Ext.only (by assumption) _ | exact Only.trans (Ext.only (by assumption) _) (by assumption)), ?_⟩
    have e6 : Ext h1 h6 := k6.oldV e5 b2 (Nat.le_refl _)
    have ne5 : v5.ownBlock = none ∨ v5.ownBlock ≠ pblk g := by
      cases h5v : v5.ownBlock with
      | none => exact .inl rfl
      | some k =>
        refine .inr fun e => ?_
        rw [b2] at e; cases e
        have := hv5 _ h5v; omega
    have o6 := o5.only k6 ne5
    refine runJ ?_
    apply again_normal (j + 1, ts ++ [(tg, t)], v5)
    · exact subs
    · refine ⟨e6, Nat.le_trans z3 (Nat.le_trans e4.1 (Nat.le_trans k5.1 k6.1)), hj, G6, o6, hv5, ?_, fun x hx => ?_⟩
      · dsimp only
        rw [List.map_append, m3, take_snoc hqj, List.map_cons, List.map_nil, hq4]
      · rcases List.mem_append.1 hx with hx | hx
        · obtain ⟨a1, a2, a3, a4⟩ := t3 x hx
          have a5 := a1.ext e4
          exact ⟨(a5.only k5 a4).only k6 a3, a2, a3, hsep5 x a2.1 a5 a4⟩
        · simp only [List.mem_singleton] at hx
          subst hx
          have a3 : TblSep (pblk g) (tg, t) := by rw [b2]; exact N4.sep (Nat.lt_of_lt_of_le hg2 z3)
          exact ⟨(A4.only k5 hsepN).only k6 a3, ⟨K4, hL4, by rw [hq4]; exact hR4⟩, a3, hsep5 _ K4 A4 hsepN⟩
    · dsimp only; omega
  · have hjn : j = qs.length := by omega
    subst hjn
    rw [List.take_length] at m3
    refine runJ ?_
    refine fin2 rfl rfl rfl ⟨e1.trans e3, g, ⟨L, qs, ts, vq, vt⟩, rfl, ⟨G3, o1.sl.ext e3, o3.sl, fun x hx => (t3 x hx).1⟩, ⟨hL1, hL9, hq, h0, h24, m3, fun x hx => (t3 x hx).2.1⟩, rfl, rfl⟩

structure PolAt (h : Hp) (v : Value) (rows : List (Value × List Nat)) : Prop where mk ::
  row : SlF h Prod.fst v rows
  el : ∀ x ∈ rows, SlF h U x.1 x.2
theorem PolAt.ext {h h' : Hp} {v : Value} {rows : List (Value × List Nat)} (s : PolAt h v rows) (e : Ext h h') : PolAt h' v rows := ⟨s.row.ext e, fun x hx => (s.el x hx).ext e⟩
structure RowsAt (h : Hp) (B : Nat) (p : Option Nat) (v : Value) (rows : List (Value × List Nat)) : Prop where mk ::
  own : OwnF h B 22 Prod.fst v rows
  el : ∀ x ∈ rows, OwnF h B 26 U x.1 x.2
  ne : ∀ x ∈ rows, x.1.ownBlock = none ∨ x.1.ownBlock ≠ v.ownBlock
  np : ∀ x ∈ rows, x.1.ownBlock = none ∨ x.1.ownBlock ≠ p
  vp : v.ownBlock = none ∨ v.ownBlock ≠ p
theorem RowsAt.ext {h h' : Hp} {B : Nat} {p : Option Nat} {v : Value} {rows : List (Value × List Nat)} (s : RowsAt h B p v rows) (e : Ext h h') : RowsAt h' B p v rows :=
  ⟨s.own.ext e, fun x hx => (s.el x hx).ext e, s.ne, s.np, s.vp⟩
theorem RowsAt.nil (h : Hp) (B : Nat) (p : Option Nat) : RowsAt h B p (.slice none 0 0) [] :=
  RowsAt.mk (OwnF.nil _ _ _ _) (fun x hx => absurd hx List.not_mem_nil) (fun x hx => absurd hx List.not_mem_nil) (fun x hx => absurd hx List.not_mem_nil) (.inl rfl)
theorem RowsAt.pol {h : Hp} {B : Nat} {p : Option Nat} {v : Value} {rows : List (Value × List Nat)} (s : RowsAt h B p v rows) : PolAt h v rows := ⟨s.own.sl, fun x hx => (s.el x hx).sl⟩
theorem RowsAt.push {h4 h5 h6 : Hp} {B z pb : Nat} {v v5 w : Value} {rows : List (Value × List Nat)} {ws : List Nat} (S : RowsAt h4 B (some pb) v rows) (ow : OwnF h4 B 26 U w ws) (hw : ∀ k, w.ownBlock = some k → z ≤ k) (hv : ∀ k, v.ownBlock = some k → k < z) (hp : pb < z) (hz : z ≤ h4.size)
    (o5 : OwnF h5 B 22 Prod.fst v5 (rows ++ [(w, ws)])) (k5 : Only v.ownBlock h4 h5) (b5 : v5.ownBlock = v.ownBlock ∨ ∃ b, v5.ownBlock = some b ∧ h4.size ≤ b) (k6 : Only (some pb) h5 h6) : RowsAt h6 B (some pb) v5 (rows ++ [(w, ws)]) := by
  have nw : w.ownBlock = none ∨ w.ownBlock ≠ v.ownBlock := by
    cases hwb : w.ownBlock with
    | none => exact .inl rfl
    | some k =>
      refine .inr fun e => ?_
      have h1 := hw k hwb
      have h2 := hv k e.symm
      omega
  have nwp : w.ownBlock = none ∨ w.ownBlock ≠ some pb := by
    cases hwb : w.ownBlock with
    | none => exact .inl rfl
    | some k =>
      refine .inr fun e => ?_
      cases e
      have h1 := hw _ hwb
      omega
  have n5 : ∀ x : Value × List Nat, (∀ k, x.1.ownBlock = some k → k < h4.size) → (x.1.ownBlock = none ∨ x.1.ownBlock ≠ v.ownBlock) → x.1.ownBlock = none ∨ x.1.ownBlock ≠ v5.ownBlock := fun x hx hn => by
    rcases b5 with b5 | ⟨b, hb, hbl⟩
    · rw [b5]; exact hn
    · rw [hb]
      cases hxb : x.1.ownBlock with
      | none => exact .inl rfl
      | some k =>
        refine .inr fun e => ?_
        cases e
        have := hx _ hxb
        omega
  have v5p : v5.ownBlock = none ∨ v5.ownBlock ≠ some pb := by
    rcases b5 with b5 | ⟨b, hb, hbl⟩
    · rw [b5]; exact S.vp
    · refine .inr fun e => ?_
      rw [hb] at e; cases e
      omega
  refine ⟨o5.only k6 v5p, fun x hx => ?_, fun x hx => ?_, fun x hx => ?_, v5p⟩
  · rcases List.mem_append.1 hx with hx | hx
    · exact ((S.el x hx).only k5 (S.ne x hx)).only k6 (S.np x hx)
    · simp only [List.mem_singleton] at hx; subst hx
      exact (ow.only k5 nw).only k6 nwp
  · rcases List.mem_append.1 hx with hx | hx
    · exact n5 x (fun k hk => ((S.el x hx).blk k hk).2) (S.ne x hx)
    · simp only [List.mem_singleton] at hx; subst hx
      exact n5 _ (fun k hk => (ow.blk k hk).2) nw
  · rcases List.mem_append.1 hx with hx | hx
    · exact S.np x hx
    · simp only [List.mem_singleton] at hx; subst hx
      exact nwp

theorem RowsAt.low {h h' : Hp} {B b : Nat} {p : Option Nat} {v : Value} {rows : List (Value × List Nat)} (s : RowsAt h B p v rows) (k : Only (some b) h h') (hb : b < B) : RowsAt h' B p v rows := by
  have key : ∀ w : Value, (∀ j, w.ownBlock = some j → B ≤ j) → w.ownBlock = none ∨ w.ownBlock ≠ some b := fun w hw => by
    cases hv : w.ownBlock with
    | none => exact .inl rfl
    | some j =>
      refine .inr fun e => ?_
      cases e
      have := hw _ hv
      omega
  exact ⟨s.own.only k (key _ fun j hj => (s.own.blk j hj).1), fun x hx => (s.el x hx).only k (key _ fun j hj => ((s.el x hx).blk j hj).1), s.ne, s.np, s.vp⟩
theorem RowsAt.base {h : Hp} {B B' : Nat} {p : Option Nat} {v : Value} {rows : List (Value × List Nat)} (s : RowsAt h B p v rows) (hB : B' ≤ B) : RowsAt h B' p v rows :=
  ⟨s.own.base hB, fun x hx => (s.el x hx).base hB, s.ne, s.np, s.vp⟩

def liftL (xs : List Int) (q : Nat) : List Nat := xs.map fun x => liftm x q

theorem Tryz_ent55 : Ent Tryz.prog 55 := ent_of Tryz.func55 (by kernel_rfl) rfl
set_option maxHeartbeats 4000000 in
theorem ringLift_spec (g vv : Value) (R : RngD) (xs : List Int) (l : Nat) (h : Hp) (K : RngOk R) (A : RngAt h g R) (s : SlF h I vv xs) (hx : ∀ x ∈ xs, -9223372036854775808 ≤ x ∧ x < 9223372036854775808) (hl : xs.length = 2 ^ R.L) (hlev : l < R.qs.length) :
    CallsH Tryz.prog 55 [g, vv, N l] h fun v' h' => Ext h h' ∧ ∃ vr rows p, v' = .tuple #[.agg #[vr], N 0] ∧ RowsAt h' h.size p vr rows ∧ rows.map (·.2) = (R.qs.take (l + 1)).map (liftL xs) := by
  have hn : 2 ≤ 2 ^ R.L ∧ 2 ^ R.L ≤ 512 := ⟨Nat.pow_le_pow_right (n := 2) (by omega) K.l1, Nat.pow_le_pow_right (n := 2) (by omega) K.l9⟩
  have h24 := K.n24
  have G := A.var
  have rq := A.rq
  have hqk := K.q
  obtain ⟨L, qs, ts, vq, vt⟩ := R
  dsimp only at G rq hqk hn hl hlev h24 ⊢
  generalize 2 ^ L = n at *
  (apply enter Tryz.func55 rfl Tryz.ntmps55 rfl)
  refine runJ ?_
  (apply s_alloc; exact rfl; exact rfl; exact rfl)
  intro p6 h1 x1 e1 b1
  (try dsimp only [Value.cells, List.toList_toArray] at x1)
  refine clsI ?_
  have G1 := G.ext e1
  refine runJ ?_
  (apply w_condF; exact rfl; exact rfl; exact (show ¬ qs.length ≤ l by omega))
  refine runJ ?_
  (apply w_condF; exact rfl; exact rfl; exact (show ¬ xs.length ≠ n by omega))
  have c0 := rq.cut (lo := 0) (hi := l + 1) (Nat.zero_le _) (by omega)
  rw [List.drop_zero, Nat.sub_zero] at c0
  refine runJ ?_
  (apply (s_build ([.slice none 0 0])); exact rfl; exact rfl; exact rfl; (repeat (first | exact CellsAll.nil | (apply CellsAll.cons; (first | exact oneL (by assumption) | exact oneL (SlF.one (by assumption)) | exact oneL (SlF.one (OwnF.sl (by assumption))) | exact oneL (Var.one (by assumption)) | exact rfl)))); exact rfl; exact rfl)
  refine runJ ?_
  (apply s_alloc; exact rfl; exact rfl; exact rfl)
  intro p8 h2 x2 e2 b2
  (try dsimp only [Value.cells, List.toList_toArray] at x2)
  refine clsI ?_
  refine runJ ?_
  (apply s_storeV; exact rfl; exact rfl; exact rfl; (repeat (first | exact OneAll.nil | (apply OneAll.cons; (first | exact rfl | exact SlF.one (by assumption) | exact SlF.one (OwnF.sl (by assumption)) | exact Var.one (by assumption))))); exact rfl; exact rfl; exact x2; exact rfl)
  intro h3 x3 k3
  (try dsimp only [Value.cells, List.toList_toArray] at x3)
  refine ⟨(by first | exact trivial | exact Ext.refl _ | assumption | exact Ext.only (by assumption) _ | exact Only.trans (Ext.only (by assumption) _) (by assumption)), ?_⟩
  have e3 : Ext h1 h3 := k3.oldV e2 b2 (Nat.le_refl _)
  have e03 := e1.trans e3
  have G3 := G1.ext e3
  have x13 := x1.ext e3
  have q3 := rq.ext e03
  have c3 := q3.cut (lo := 0) (hi := l + 1) (Nat.zero_le _) (by omega)
  rw [List.drop_zero, Nat.sub_zero] at c3
  have hcl : (qs.take (l + 1)).length = l + 1 := by rw [List.length_take]; omega
  have hcq : ∀ q ∈ qs.take (l + 1), QOk L q := fun q hq => hqk q (List.mem_of_mem_take hq)
  have hk3s := k3.1
  have hb23 : h1.size < h3.size := by obtain ⟨j, hj, hlj⟩ := x3.blk; rw [b2] at hj; cases hj; exact hlj
  refine runJ ?_
  generalize qs.take (l + 1) = row at *
  (first | (apply w_seqB; exact rfl; apply w_block; exact rfl) | skip)
  apply (w_loop (σ := Nat × List (Value × List Nat) × Value) rfl (fun j => [(0, g), (1, vv), (6, p6), (8, p8), (47, cutV 1 vq 0 (l + 1)), (48, N row.length), (49, N j.1)])
    (fun j h' => Ext h1 h' ∧ h3.size ≤ h'.size ∧ j.1 ≤ row.length ∧ Var h' p8 56 [j.2.2] ∧ RowsAt h' h1.size (some h1.size) j.2.2 j.2.1 ∧ j.2.1.map (·.2) = (row.take j.1).map (liftL xs)) (fun j => row.length - j.1) (0, [], .slice none 0 0))
  · exact subs
  · exact ⟨e3, Nat.le_refl _, Nat.zero_le _, x3, RowsAt.nil _ _ _, rfl⟩
  rintro ⟨j, rows, vR⟩ h4 ⟨e4, z4, j1, x4, R4, m4⟩
  dsimp only at e4 z4 j1 x4 R4 m4 ⊢
  have G4 := G1.ext e4
  have s4 := s.ext (e1.trans e4)
  have c4 := c0.ext (e1.trans e4)
  have hpv : pblk p8 ≠ vR.ownBlock := by
    rw [b2]; intro e
    rcases R4.vp with h0 | h0
    · rw [h0] at e; cases e
    · exact h0 e.symm
  refine runJ ?_
  (apply w_condD; exact rfl; exact rfl) <;> intro hj
  · obtain ⟨q, hqj⟩ := get_lt hj
    have hq := hcq q (List.mem_of_getElem? hqj)
    have hq61 := hq.q61
    have hq1 := hq.q1
    have hrl : rows.length = j := by
      have := congrArg List.length m4
      rw [List.length_map, List.length_map, List.length_take] at this
      omega
    refine runJ ?_
    (apply (s_make (f := U) (bytes := 8) (0)); (first | exact isK_c | exact isK_t rfl); (first | exact isK_c | exact isK_t rfl); exact rfl; exact rfl; exact rfl; exact rfl; exact rfl; exact rfl; omega; omega; omega)
    intro w5 h5 o5 e5 b5
    refine clsI ?_
    refine runJ ?_
    (first | (apply w_seqB; exact rfl; apply w_block; exact rfl) | skip)
    apply (w_loop (σ := Nat × List Nat) rfl (fun k => [(0, g), (1, vv), (6, p6), (8, p8), (47, cutV 1 vq 0 (l + 1)), (48, N row.length), (49, N j), (10, U q), (11, w5), (58, vv), (59, N xs.length), (60, N k.1)])
      (fun k h' => Ext h4 h' ∧ k.1 ≤ n ∧ OwnF h' h4.size 26 U w5 k.2 ∧ k.2.length = n ∧ ∀ (i : Nat) (y : Nat), k.2[i]? = some y → y = if i < k.1 then liftm (xs.getD i 0) q else 0) (fun k => n - k.1) (0, List.replicate n 0))
    · exact subs
    · exact ⟨e5, Nat.zero_le _, o5, by simp, fun i y hy => by rw [if_neg (Nat.not_lt_zero _)]; have := List.mem_of_getElem? hy; simp at this; exact this.2⟩
    clear o5
    rintro ⟨k, ys⟩ h6 ⟨e6, k1, o6, k2, k3⟩
    dsimp only at e6 k1 o6 k2 k3 ⊢
    have s6 := s4.ext e6
    refine runJ ?_
    (apply w_condD; exact rfl; exact rfl) <;> intro hk
    · obtain ⟨x, hxk⟩ := get_lt hk
      have hxb := hx x (List.mem_of_getElem? hxk)
      have hky : k < ys.length := by omega
      have hxg : xs.getD k 0 = x := by rw [List.getD_eq_getElem?_getD, hxk]; rfl
      refine runJ ?_
      apply (s_call Tryz_ent110 rfl rfl rfl)
      refine (lift_spec x q h6 hxb (by omega)).mono ?_
      rintro _ _ ⟨rfl, rfl⟩
      refine clsI ?_
      refine runJ ?_
      (apply (s_storeF (liftm x q)); exact rfl; exact rfl; exact rfl; exact rfl; exact rfl; exact o6; exact rfl; (first | assumption | omega))
      intro h7 o7 k7
      refine clsI ?_
      refine runJ ?_
      apply again_normal (k + 1, ys.set k (liftm x q))
      · exact subs
      · refine ⟨o6.old k7 e6 (Nat.le_refl _), by dsimp only; omega, o7, by simp [k2], fun i y hy => ?_⟩
        dsimp only at hy ⊢
        rcases set_get hky hy with ⟨rfl, rfl⟩ | ⟨hik, hy⟩
        · rw [if_pos (by omega), hxg]
        · rw [k3 i y hy]
          by_cases hi : i < k
          · rw [if_pos hi, if_pos (show i < k + 1 by omega)]
          · rw [if_neg hi, if_neg (show ¬ i < k + 1 by omega)]
      · dsimp only; omega
    · have hys : ys = liftL xs q := by
        refine list_eq (by unfold liftL; rw [List.length_map]; omega) fun i a b ha hb => ?_
        have hi := (List.getElem?_eq_some_iff.1 ha).1
        rw [k3 i a ha, if_pos (by omega)]
        obtain ⟨x, hxi⟩ := get_lt (l := xs) (j := i) (by omega)
        unfold liftL at hb
        rw [List.getElem?_map, hxi] at hb
        rw [List.getD_eq_getElem?_getD, hxi]
        exact Option.some.inj hb
      subst hys
      have R6 := R4.ext e6
      have x6 := x4.ext e6
      have e16 := e4.trans e6
      have o6one := o6.sl.one
      refine runJ ?_
      (refine s_app1V (bytes := 24) ((w5, liftL xs q)) R6.own e16 rfl rfl rfl rfl rfl rfl rfl rfl rfl (by first | exact rfl | exact congrArg some (congrArg I (by omega))) o6one rfl rfl (fun _ _ => trivial) (by omega) (by simp only [maxLen]; omega) ?_)
      intro v7 h7 o7 e7 k7 b7
      have x7 := x6.only k7 hpv
      refine runJ ?_
      (apply s_storeC; exact rfl; exact rfl; (first | exact rfl | exact SlF.one (by assumption) | exact SlF.one (OwnF.sl (by assumption)) | exact Var.one (by assumption)); exact rfl; exact rfl; exact x7; exact rfl)
      intro h8 x8 k8
      refine ⟨(by first | exact trivial | exact Ext.refl _ | assumption | exact Ext.only (by assumption) _ | exact Only.trans (Ext.only (by assumption) _) (by assumption)), ?_⟩
      have e8 : Ext h1 h8 := k8.oldV e7 b2 (Nat.le_refl _)
      rw [b2] at k8
      have R8 := R6.push (z := h4.size) (o6.base (Nat.le_trans e2.1 (Nat.le_trans hk3s z4))) (fun k hk => (o6.blk k hk).1) (fun k hk => (R4.own.blk k hk).2) (Nat.lt_of_lt_of_le hb23 z4) e6.1 o7 k7 b7 k8
      refine runJ ?_
      apply again_normal (j + 1, rows ++ [(w5, liftL xs q)], v7)
      · exact subs
      · refine ⟨e8, Nat.le_trans z4 (Nat.le_trans e6.1 (Nat.le_trans k7.1 k8.1)), hj, x8, R8, ?_⟩
        dsimp only
        rw [List.map_append, m4, take_snoc hqj, List.map_append]; rfl
      · dsimp only; omega
  · have hjn : j = row.length := by omega
    subst hjn
    rw [List.take_length] at m4
    have x14 := x1.ext e4
    refine runJ ?_
    (apply s_storeV; exact rfl; exact rfl; exact rfl; exact (OneAll.cons R4.own.sl.one OneAll.nil : OneAll [vR]); exact rfl; exact rfl; exact x14; exact rfl)
    intro h5 x5 k5
    refine ⟨trivial, ?_⟩
    have x5 : Var h5 p6 56 [vR] := x5
    have e5 : Ext h h5 := k5.oldV (e1.trans e4) b1 (Nat.le_refl _)
    rw [b1] at k5
    have hb01 : h.size < h1.size := by obtain ⟨b, hb, hlb⟩ := x1.blk; rw [b1] at hb; cases hb; exact hlb
    refine runJ ?_
    exact finCT rfl rfl rfl x5 rfl rfl ⟨e5, _, rows, _, rfl, (R4.low k5 hb01).base e1.1, m4⟩

theorem Tryz_ent107 : Ent Tryz.prog 107 := ent_of Tryz.func107 (by kernel_rfl) rfl
theorem level1_spec (x q i : Nat) (p2 p6 g vq vt : Value) (n : Nat) (qs : List Nat) (h : Hp) (P2 : Var h p2 105 [g]) (P6 : Var h p6 3 [N i]) (G : Var h g 166 [N n, vq, vt]) (s : SlF h U vq qs) (hi : qs[i]? = some q) :
    CallsH Tryz.prog 107 [U x, p2, p6] h fun v' h' => v' = .bool (decide (q ≤ x)) ∧ h = h' := by
  (apply enter Tryz.func107 rfl Tryz.ntmps107 rfl)
  refine runJ ?_
  exact fin1 rfl rfl ⟨rfl, rfl⟩

theorem Tryz_ent152 : Ent Tryz.prog 152 := ent_of Tryz.func152 (by kernel_rfl) rfl
theorem indexFunc_spec (v p2 p6 g vq vt : Value) (xs : List Nat) (q i n : Nat) (qs : List Nat) (h : Hp) (s : SlF h U v xs) (P2 : Var h p2 105 [g]) (P6 : Var h p6 3 [N i]) (G : Var h g 166 [N n, vq, vt]) (sq : SlF h U vq qs) (hi : qs[i]? = some q) (hx : ∀ x ∈ xs, x < q) (hl : xs.length < 1000000) :
    CallsH Tryz.prog 152 [v, .func (.func 107) #[] #[p2, p6]] h fun v' h' => v' = I (-1) ∧ h = h' := by
  (apply enter Tryz.func152 rfl Tryz.ntmps152 rfl)
  refine runJ ?_
  (first | (apply w_seqB; exact rfl; apply w_block; exact rfl) | skip)
  apply (w_loop (σ := Nat) rfl (fun j => [(0, v), (1, .func (.func 107) #[] #[p2, p6]), (6, v), (7, N xs.length), (8, N j)])
    (fun j h' => h = h' ∧ j ≤ xs.length) (fun j => xs.length - j) 0)
  · exact subs
  · exact ⟨rfl, Nat.zero_le _⟩
  rintro j h' ⟨rfl, j1⟩
  refine runJ ?_
  (apply w_condD; exact rfl; exact rfl) <;> intro hj
  · obtain ⟨x, hxj⟩ := get_lt hj
    have hxq := hx x (List.mem_of_getElem? hxj)
    have LV := level1_spec x q i p2 p6 g vq vt n qs h P2 P6 G sq hi
    rw [decide_eq_false (show ¬ q ≤ x by omega)] at LV
    refine runJ ?_
    refine s_callV rfl Tryz_ent107 rfl rfl rfl ?_
    refine (LV).mono ?_
    rintro _ _ ⟨rfl, rfl⟩
    refine ⟨trivial, ?_⟩
    refine runJ ?_
    apply again_normal (j + 1)
    · exact subs
    · exact ⟨rfl, hj⟩
    · omega
  · refine runJ ?_
    exact fin1 rfl rfl ⟨rfl, rfl⟩
theorem Tryz_ent106 : Ent Tryz.prog 106 := ent_of Tryz.func106 (by kernel_rfl) rfl
theorem containsFunc_spec (v p2 p6 g vq vt : Value) (xs : List Nat) (q i n : Nat) (qs : List Nat) (h : Hp) (s : SlF h U v xs) (P2 : Var h p2 105 [g]) (P6 : Var h p6 3 [N i]) (G : Var h g 166 [N n, vq, vt]) (sq : SlF h U vq qs) (hi : qs[i]? = some q) (hx : ∀ x ∈ xs, x < q) (hl : xs.length < 1000000) :
    CallsH Tryz.prog 106 [v, .func (.func 107) #[] #[p2, p6]] h fun v' h' => v' = .bool false ∧ h = h' := by
  (apply enter Tryz.func106 rfl Tryz.ntmps106 rfl)
  refine runJ ?_
  apply (s_call Tryz_ent152 rfl rfl rfl)
  refine (indexFunc_spec v p2 p6 g vq vt xs q i n qs h s P2 P6 G sq hi hx hl).mono ?_
  rintro _ _ ⟨rfl, rfl⟩
  refine ⟨trivial, ?_⟩
  refine runJ ?_
  exact fin1 rfl rfl ⟨rfl, rfl⟩

structure PolOk (R : RngD) (rows : List (Value × List Nat)) : Prop where mk ::
  n0 : 0 < rows.length
  le : rows.length ≤ R.qs.length
  fit : ∀ (i q : Nat) (x : Value × List Nat), rows[i]? = some x → R.qs[i]? = some q → Fit (2 ^ R.L) q x.2

theorem Tryz_ent51 : Ent Tryz.prog 51 := ent_of Tryz.func51 (by kernel_rfl) rfl
set_option maxHeartbeats 2000000 in
theorem level_spec (g vr : Value) (R : RngD) (rows : List (Value × List Nat)) (h : Hp) (K : RngOk R) (A : RngAt h g R) (S : PolAt h vr rows) (P : PolOk R rows) :
    CallsH Tryz.prog 51 [g, .agg #[vr]] h fun v' h' => v' = .tuple #[N (rows.length - 1), N 0] ∧ Ext h h' := by
  have hn : 2 ≤ 2 ^ R.L ∧ 2 ^ R.L ≤ 512 := ⟨Nat.pow_le_pow_right (n := 2) (by omega) K.l1, Nat.pow_le_pow_right (n := 2) (by omega) K.l9⟩
  have h24 := K.n24
  have G := A.var
  have rq := A.rq
  have pn := P.n0
  have pl := P.le
  have pf := P.fit
  have sr := S.row
  have se := S.el
  obtain ⟨L, qs, ts, vq, vt⟩ := R
  dsimp only at G rq hn h24 pl pf ⊢
  generalize 2 ^ L = n at *
  obtain ⟨gb, hgp, hgc⟩ := G
  subst hgp
  have G : Var h (.pointer (some ⟨gb, 0, none⟩)) 166 [N n, vq, vt] := ⟨gb, rfl, hgc⟩
  clear hgc
  (apply enter Tryz.func51 rfl Tryz.ntmps51 rfl)
  refine runJ ?_
  (apply s_box; exact rfl; exact rfl; exact rfl; exact rfl)
  intro p2 h1 x1 e1 b1
  (try dsimp only [Value.cells, List.toList_toArray] at x1)
  refine clsI ?_
  refine runJ ?_
  (apply s_box; exact rfl; exact rfl; exact rfl; exact rfl)
  intro p3 h2 x3 e2 b2
  (try dsimp only [Value.cells, List.toList_toArray] at x3)
  refine clsI ?_
  have x1 : Var h1 p2 105 [.pointer (some ⟨gb, 0, none⟩)] := x1
  have x2 := x1.ext e2
  have e12 := e1.trans e2
  have G2 := G.ext e12
  generalize Value.pointer (some ⟨gb, 0, none⟩) = g at *
  have q2 := rq.ext e12
  have r2 := sr.ext e12
  refine runJ ?_
  rw [decide_eq_false (show ¬ rows.length < 1 by omega)]
  refine runJ ?_
  rw [decide_eq_false (show ¬ qs.length < rows.length by omega)]
  refine runJ ?_
  (first | (apply w_seqB; exact rfl; apply w_block; exact rfl) | skip)
  apply (w_loop (σ := Nat) rfl (fun j => [(2, p2), (3, p3), (26, vr), (27, N rows.length), (28, N j)])
    (fun j h' => Ext h h' ∧ Ext h2 h' ∧ j ≤ rows.length) (fun j => rows.length - j) 0)
  · exact subs
  · exact ⟨e12, Ext.refl _, Nat.zero_le _⟩
  rintro j h3 ⟨e03, e3, j1⟩
  have G3 := G2.ext e3
  have x23 := x2.ext e3
  have x33 := x3.ext e3
  have q3 := q2.ext e3
  have r3 := r2.ext e3
  refine runJ ?_
  (apply w_condD; exact rfl; exact rfl) <;> intro hj
  · obtain ⟨x, hxj⟩ := get_lt hj
    obtain ⟨q, hqj⟩ := get_lt (l := qs) (j := j) (by omega)
    have fx := pf j q x hxj hqj
    have hm := List.mem_of_getElem? hxj
    have sx := (se x hm).ext e03
    obtain ⟨vx, ws⟩ := x
    dsimp only at sx fx ⊢
    have hwl := fx.1
    refine runJ ?_
    (apply s_alloc; exact rfl; exact rfl; exact rfl)
    intro p6 h5 x5 e5 b5
    (try dsimp only [Value.cells, List.toList_toArray] at x5)
    refine clsI ?_
    refine runJ ?_
    (apply s_storeV; exact rfl; exact rfl; exact rfl; (repeat (first | exact OneAll.nil | (apply OneAll.cons; (first | exact rfl | exact SlF.one (by assumption) | exact SlF.one (OwnF.sl (by assumption)) | exact Var.one (by assumption))))); exact rfl; exact rfl; exact x5; exact rfl)
    intro h6 x6 k6
    (try dsimp only [Value.cells, List.toList_toArray] at x6)
    refine ⟨(by first | exact trivial | exact Ext.refl _ | assumption | exact Ext.only (by assumption) _ | exact Only.trans (Ext.only (by assumption) _) (by assumption)), ?_⟩
    have x6 : Var h6 p6 3 [N j] := x6
    have e36 : Ext h3 h6 := k6.oldV e5 b5 (Nat.le_refl _)
    have G6 := G3.ext e36
    have x26 := x23.ext e36
    have q6 := q3.ext e36
    have s6 := sx.ext e36
    have hv1 := s6.one
    refine runJ ?_
    rw [decide_eq_false (show ¬ ws.length ≠ n by omega)]
    refine runJ ?_
    apply (s_call Tryz_ent106 rfl rfl rfl)
    refine (containsFunc_spec vx p2 p6 g vq vt ws q j n qs h6 s6 x26 x6 G6 q6 hqj fx.2 (by omega)).mono ?_
    rintro _ _ ⟨rfl, rfl⟩
    refine ⟨trivial, ?_⟩
    refine runJ ?_
    apply again_normal (j + 1)
    · exact subs
    · exact ⟨e03.trans e36, e3.trans e36, hj⟩
    · omega
  · refine runJ ?_
    exact fin2 rfl rfl rfl ⟨rfl, e03⟩

theorem Tryz_ent111 : Ent Tryz.prog 111 := ent_of Tryz.func111 (by kernel_rfl) rfl
theorem pair_spec (g va vb : Value) (R : RngD) (xs ys : List (Value × List Nat)) (h : Hp) (K : RngOk R) (A : RngAt h g R) (sa : PolAt h va xs) (sb : PolAt h vb ys) (Pa : PolOk R xs) (Pb : PolOk R ys) (hab : xs.length = ys.length) :
    CallsH Tryz.prog 111 [g, .agg #[va], .agg #[vb]] h fun v' h' => v' = N 0 ∧ Ext h h' := by
  (apply enter Tryz.func111 rfl Tryz.ntmps111 rfl)
  refine runJ ?_
  (apply s_box; exact rfl; exact rfl; exact rfl; exact rfl)
  intro p4 h1 x1 e1 b1
  (try dsimp only [Value.cells, List.toList_toArray] at x1)
  refine clsI ?_
  refine runJ ?_
  (apply s_box; exact rfl; exact rfl; exact rfl; exact rfl)
  intro p5 h2 x2 e2 b2
  (try dsimp only [Value.cells, List.toList_toArray] at x2)
  refine clsI ?_
  have y1 := x1.ext e2
  have e12 := e1.trans e2
  refine runJ ?_
  apply (s_call Tryz_ent51 rfl rfl rfl)
  refine (level_spec g va R xs h2 K (A.ext e12) (sa.ext e12) Pa).mono ?_
  rintro _ h3 ⟨rfl, e3⟩
  refine ⟨trivial, ?_⟩
  have x3 := x2.ext e3
  refine runJ ?_
  apply (s_call Tryz_ent51 rfl rfl rfl)
  refine (level_spec g vb R ys h3 K (A.ext (e12.trans e3)) (sb.ext (e12.trans e3)) Pb).mono ?_
  rintro _ h4 ⟨rfl, e4⟩
  refine ⟨trivial, ?_⟩
  refine runJ ?_
  rw [decide_eq_false (show ¬ xs.length - 1 ≠ ys.length - 1 by omega)]
  refine runJ ?_
  exact fin1 rfl rfl ⟨rfl, e12.trans (e3.trans e4)⟩

theorem Tryz_ent56 : Ent Tryz.prog 56 := ent_of Tryz.func56 (by kernel_rfl) rfl
set_option maxHeartbeats 4000000 in
theorem ringMul_spec (g va vb : Value) (R : RngD) (xs ys : List (Value × List Nat)) (h : Hp) (K : RngOk R) (A : RngAt h g R) (sa : PolAt h va xs) (sb : PolAt h vb ys) (Pa : PolOk R xs) (Pb : PolOk R ys) (hab : xs.length = ys.length) :
    CallsH Tryz.prog 56 [g, .agg #[va], .agg #[vb]] h fun v' h' => Ext h h' ∧ ∃ vr rows p, v' = .tuple #[.agg #[vr], N 0] ∧ RowsAt h' h.size p vr rows ∧ rows.length = xs.length ∧
      ∀ (i : Nat) (x y : Value × List Nat) (t : Value × Tbl) (r : Value × List Nat), xs[i]? = some x → ys[i]? = some y → R.ts[i]? = some t → rows[i]? = some r → Prd t.2 x.2 y.2 r.2 := by
  have htl : R.ts.length = R.qs.length := by have := congrArg List.length K.map; rwa [List.length_map] at this
  have h24 := K.n24
  have hle := Pa.le
  (apply enter Tryz.func56 rfl Tryz.ntmps56 rfl)
  refine runJ ?_
  (apply s_box; exact rfl; exact rfl; exact rfl; exact rfl)
  intro p4 h1 x1 e1 b1
  (try dsimp only [Value.cells, List.toList_toArray] at x1)
  refine clsI ?_
  refine runJ ?_
  (apply s_box; exact rfl; exact rfl; exact rfl; exact rfl)
  intro p5 h2 x2 e2 b2
  (try dsimp only [Value.cells, List.toList_toArray] at x2)
  refine clsI ?_
  have y1 := x1.ext e2
  have e12 := e1.trans e2
  refine runJ ?_
  (apply s_alloc; exact rfl; exact rfl; exact rfl)
  intro p6 h3 x3 e3 b3
  (try dsimp only [Value.cells, List.toList_toArray] at x3)
  refine clsI ?_
  have z1 := y1.ext e3
  have z2 := x2.ext e3
  have e13 := e12.trans e3
  refine runJ ?_
  apply (s_call Tryz_ent111 rfl rfl rfl)
  refine (pair_spec g va vb R xs ys h3 K (A.ext e13) (sa.ext e13) (sb.ext e13) Pa Pb hab).mono ?_
  rintro _ h4 ⟨rfl, e4⟩
  refine ⟨trivial, ?_⟩
  have e14 := e13.trans e4
  have A4 := A.ext e14
  have G4 := A4.var
  have rt4 := A4.rt
  have w1 := z1.ext e4
  have w2 := z2.ext e4
  have w3 := x3.ext e4
  have sa4 := (sa.ext e14).row
  have sb4 := (sb.ext e14).row
  refine runJ ?_
  (apply (s_build ([.slice none 0 0])); exact rfl; exact rfl; exact rfl; (repeat (first | exact CellsAll.nil | (apply CellsAll.cons; (first | exact oneL (by assumption) | exact oneL (SlF.one (by assumption)) | exact oneL (SlF.one (OwnF.sl (by assumption))) | exact oneL (Var.one (by assumption)) | exact rfl)))); exact rfl; exact rfl)
  refine runJ ?_
  (apply s_alloc; exact rfl; exact rfl; exact rfl)
  intro p9 h5 x5 e5 b5
  (try dsimp only [Value.cells, List.toList_toArray] at x5)
  refine clsI ?_
  refine runJ ?_
  (apply s_storeV; exact rfl; exact rfl; exact rfl; (repeat (first | exact OneAll.nil | (apply OneAll.cons; (first | exact rfl | exact SlF.one (by assumption) | exact SlF.one (OwnF.sl (by assumption)) | exact Var.one (by assumption))))); exact rfl; exact rfl; exact x5; exact rfl)
  intro h6 x6 k6
  (try dsimp only [Value.cells, List.toList_toArray] at x6)
  refine ⟨(by first | exact trivial | exact Ext.refl _ | assumption | exact Ext.only (by assumption) _ | exact Only.trans (Ext.only (by assumption) _) (by assumption)), ?_⟩
  have e6 : Ext h4 h6 := k6.oldV e5 b5 (Nat.le_refl _)
  have e16 : Ext h h6 := e14.trans e6
  have G6 := G4.ext e6
  have v1 := w1.ext e6
  have v2 := w2.ext e6
  have v3 := w3.ext e6
  have rt6 := rt4.ext e6
  have sa6 := sa4.ext e6
  have sb6 := sb4.ext e6
  have c6 := rt6.cut (lo := 0) (hi := xs.length) (Nat.zero_le _) (by omega)
  rw [List.drop_zero, Nat.sub_zero] at c6
  have hcl : (R.ts.take xs.length).length = xs.length := by rw [List.length_take]; omega
  have ht : ∀ i t, (R.ts.take xs.length)[i]? = some t → R.ts[i]? = some t := fun i t k => by
    rw [List.getElem?_take] at k
    split at k
    · exact k
    · cases k
  have ht' : ∀ i t, i < xs.length → R.ts[i]? = some t → (R.ts.take xs.length)[i]? = some t := fun i t k k' => by
    rw [List.getElem?_take, if_pos k, k']
  have hk6s := e6.1
  have hb46 : h4.size < h6.size := by obtain ⟨j, hj, hlj⟩ := x6.blk; rw [b5] at hj; cases hj; exact hlj
  clear x5 k6 e5 x3 z1 z2 x1 y1 x2
  have c4 := rt4.cut (lo := 0) (hi := xs.length) (Nat.zero_le _) (by omega)
  rw [List.drop_zero, Nat.sub_zero] at c4
  have hb5 := b5
  refine runJ ?_
  generalize hrow : R.ts.take xs.length = row at *
  have ela := (sa.ext e14).el
  have elb := (sb.ext e14).el
  have tb4 := A4.tb
  have hok := K.ok
  have hmap := K.map
  have fa := Pa.fit
  have fb := Pb.fit
  clear v1 v2 v3 G6 rt6 sa6 sb6 c6 A4
  (first | (apply w_seqB; exact rfl; apply w_block; exact rfl) | skip)
  apply (w_loop (σ := Nat × List (Value × List Nat) × Value) rfl (fun j => [(4, p4), (5, p5), (6, p6), (9, p9), (10, .func (.func 112) #[] #[]), (31, cutV 1 R.vt 0 xs.length), (32, N row.length), (33, N j.1)])
    (fun j h' => Ext h4 h' ∧ h6.size ≤ h'.size ∧ j.1 ≤ xs.length ∧ Var h' p9 56 [j.2.2] ∧ RowsAt h' h4.size (some h4.size) j.2.2 j.2.1 ∧ j.2.1.length = j.1 ∧
      ∀ (i : Nat) (x y : Value × List Nat) (t : Value × Tbl) (r : Value × List Nat), xs[i]? = some x → ys[i]? = some y → R.ts[i]? = some t → j.2.1[i]? = some r → Prd t.2 x.2 y.2 r.2) (fun j => xs.length - j.1) (0, [], .slice none 0 0))
  · exact subs
  · exact ⟨e6, Nat.le_refl _, Nat.zero_le _, x6, RowsAt.nil _ _ _, rfl, by intro i x y t r _ _ _ hr; cases hr⟩
  rintro ⟨j, rows, vR⟩ h7 ⟨e7, z7, j1, x7, R7, l7, m7⟩
  dsimp only at e7 z7 j1 x7 R7 l7 m7 ⊢
  have u1 := w1.ext e7
  have u2 := w2.ext e7
  have c7 := c4.ext e7
  have sa7 := sa4.ext e7
  have sb7 := sb4.ext e7
  have hpv : pblk p9 ≠ vR.ownBlock := by
    rw [hb5]; intro e
    rcases R7.vp with h0 | h0
    · rw [h0] at e; cases e
    · exact h0 e.symm
  refine runJ ?_
  (apply w_condD; exact rfl; exact rfl) <;> intro hj
  · have hjx : j < xs.length := by omega
    obtain ⟨x, hxj⟩ := get_lt hjx
    obtain ⟨y, hyj⟩ := get_lt (l := ys) (j := j) (by omega)
    obtain ⟨t, htj⟩ := get_lt (l := R.ts) (j := j) (by omega)
    have htr := ht' j t hjx htj
    have htm := List.mem_of_getElem? htj
    have hqj : R.qs[j]? = some t.2.q := by rw [← hmap, List.getElem?_map, htj]; rfl
    have Kt := (hok t htm).1
    have hL := (hok t htm).2.1
    have At := (tb4 t htm).ext e7
    have sx := (ela x (List.mem_of_getElem? hxj)).ext e7
    have sy := (elb y (List.mem_of_getElem? hyj)).ext e7
    have fx := fa j _ x hxj hqj
    have fy := fb j _ y hyj hqj
    rw [← hL] at fx fy
    obtain ⟨vx, xx⟩ := x
    obtain ⟨vy, yy⟩ := y
    obtain ⟨gt, T⟩ := t
    dsimp only at Kt At sx sy fx fy ⊢
    refine runJ ?_
    refine s_callV rfl Tryz_ent112 rfl rfl rfl ?_
    refine (nttMul_spec gt vx vy T xx yy h7 Kt At sx sy fx fy).mono ?_
    rintro _ h8 ⟨e8, wr, rs, rfl, o8, hprd⟩
    refine ⟨(by first | exact trivial | exact e8), ?_⟩
    have R8 := R7.ext e8
    have x8 := x7.ext e8
    have e48 := e7.trans e8
    have o8one := o8.sl.one
    have hlen : rows.length + 1 < 1000000 := by omega
    refine runJ ?_
    (refine s_app1V (bytes := 24) ((wr, rs)) R8.own e48 rfl rfl rfl rfl rfl rfl rfl rfl rfl (by first | exact rfl | exact congrArg some (congrArg I (by omega))) o8one rfl rfl (fun _ _ => trivial) (by omega) (by simp only [maxLen]; omega) ?_)
    intro v9 h9 o9 e9 k9 b9
    have x9 := x8.only k9 hpv
    refine runJ ?_
    (apply s_storeC; exact rfl; exact rfl; (first | exact rfl | exact SlF.one (by assumption) | exact SlF.one (OwnF.sl (by assumption)) | exact Var.one (by assumption)); exact rfl; exact rfl; exact x9; exact rfl)
    intro h10 x10 k10
    refine ⟨(by first | exact trivial | exact Ext.refl _ | assumption | exact Ext.only (by assumption) _ | exact Only.trans (Ext.only (by assumption) _) (by assumption)), ?_⟩
    have e10 : Ext h4 h10 := k10.oldV e9 hb5 (Nat.le_refl _)
    rw [hb5] at k10
    have R10 := R8.push (z := h7.size) (o8.base (Nat.le_trans hk6s z7)) (fun k hk => (o8.blk k hk).1) (fun k hk => (R7.own.blk k hk).2) (Nat.lt_of_lt_of_le hb46 z7) e8.1 o9 k9 b9 k10
    refine runJ ?_
    apply again_normal (j + 1, rows ++ [(wr, rs)], v9)
    · exact subs
    · refine ⟨e10, Nat.le_trans z7 (Nat.le_trans e8.1 (Nat.le_trans k9.1 k10.1)), hjx, x10, R10, by dsimp only; rw [List.length_append]; simp [l7], ?_⟩
      dsimp only
      intro i x y t r hx hy ht2 hr
      rcases Nat.lt_or_ge i j with hij | hij
      · rw [List.getElem?_append_left (by omega)] at hr
        exact m7 i x y t r hx hy ht2 hr
      · have hi := (List.getElem?_eq_some_iff.1 hr).1
        rw [List.length_append] at hi
        simp only [List.length_cons, List.length_nil] at hi
        obtain rfl : i = j := by omega
        rw [List.getElem?_append_right (by omega), l7, Nat.sub_self] at hr
        rw [hxj] at hx
        rw [hyj] at hy
        rw [htj] at ht2
        cases hx; cases hy; cases ht2; cases hr
        exact hprd
    · dsimp only; omega
  · have hjn : j = xs.length := by omega
    subst hjn
    have w37 := w3.ext e7
    refine runJ ?_
    (apply s_storeV; exact rfl; exact rfl; exact rfl; exact (OneAll.cons R7.own.sl.one OneAll.nil : OneAll [vR]); exact rfl; exact rfl; exact w37; exact rfl)
    intro h8 x8 k8
    refine ⟨trivial, ?_⟩
    have x8 : Var h8 p6 56 [vR] := x8
    have e8 : Ext h h8 := k8.oldV (e14.trans e7) b3 (Nat.le_trans e1.1 e2.1)
    rw [b3] at k8
    have hb23 : h2.size < h4.size := by obtain ⟨b, hb, hlb⟩ := w3.blk; rw [b3] at hb; cases hb; exact hlb
    refine runJ ?_
    exact finCT rfl rfl rfl x8 rfl rfl ⟨e8, _, rows, _, rfl, (R7.low k8 hb23).base e14.1, l7, m7⟩

theorem Tryz_ent113 : Ent Tryz.prog 113 := ent_of Tryz.func113 (by kernel_rfl) rfl
theorem Tryz_ent57 : Ent Tryz.prog 57 := ent_of Tryz.func57 (by kernel_rfl) rfl
theorem Tryz_ent69 : Ent Tryz.prog 69 := ent_of Tryz.func69 (by kernel_rfl) rfl

def pow3 (n k : Nat) : Nat := 3 ^ k % (2 * n)

structure BatD where
  L : Nat
  t : Nat
  vt : Value
  T : Tbl
  vp : Value
  ps : List (Nat × Nat)
def pr2 (x : Nat × Nat) : List Value := [N x.1, N x.2]
structure BatAt (h : Hp) (g : Value) (B : BatD) : Prop where mk ::
  var : Var h g 199 [N (2 ^ B.L), N (2 ^ B.L / 2), U B.t, B.vt, B.vp]
  tab : TblAt h B.vt B.T
  pl : SlA h pr2 2 B.vp B.ps
theorem BatAt.ext {h h' : Hp} {g : Value} {B : BatD} (s : BatAt h g B) (e : Ext h h') : BatAt h' g B := ⟨s.var.ext e, s.tab.ext e, s.pl.ext e⟩
def place (n i : Nat) : Nat × Nat := ((pow3 n i - 1) / 2, (2 * n - pow3 n i - 1) / 2)
structure BatOk (B : BatD) : Prop where mk ::
  l1 : 1 ≤ B.L
  l9 : B.L ≤ 9
  tl : B.T.L = B.L
  tq : B.T.q = B.t
  ok : TblOk B.T
  root : RootR B.t (2 ^ (B.L + 1)) B.T.w
  ps : B.ps = (List.range (2 ^ B.L / 2)).map (place (2 ^ B.L))
theorem liftm_lt9 {v : Int} {t : Nat} (ht : 0 < t) : liftm v t < t := by
  unfold liftm
  rw [if_neg (by omega)]
  have h1 := Int.emod_nonneg v (show (t : Int) ≠ 0 by omega)
  have h2 := Int.emod_lt_of_pos v (show (0 : Int) < t by omega)
  omega
end Go.Proofs.YtfcmdefigldpnaaGreatDoor


namespace Go.Proofs.YtfcmdefigldpnaaGreatDoor
set_option linter.unusedVariables false
set_option maxRecDepth 8000
open Go Go.Den Go.RowKit Go.Mth

def fp (m : Nat) : Nat → Nat → Nat → Nat
  | 0, _, _ => 1 % m
  | f + 1, a, n => if n = 0 then 1 % m else if n % 2 = 1 then a * fp m f (a * a % m) (n / 2) % m else fp m f (a * a % m) (n / 2)
theorem fp_eq (m : Nat) : ∀ f a n, n < 2 ^ f → fp m f a n = a ^ n % m
  | 0, a, n, h => by
    obtain rfl : n = 0 := by rw [Nat.pow_zero] at h; omega
    rfl
  | f + 1, a, n, h => by
    unfold fp
    by_cases h0 : n = 0
    · rw [if_pos h0, h0, Nat.pow_zero]
    rw [if_neg h0, fp_eq m f _ _ (by rw [Nat.pow_succ] at h; omega)]
    have e : (a * a % m) ^ (n / 2) % m = a ^ (2 * (n / 2)) % m := by rw [← Nat.pow_mod, Nat.pow_mul, Nat.pow_two]
    rw [e]
    by_cases h1 : n % 2 = 1
    · rw [if_pos h1, Nat.mul_mod_mod, ← Nat.pow_succ', show (2 * (n / 2)).succ = n by omega]
    · rw [if_neg h1, show 2 * (n / 2) = n by omega]
theorem powm_fp {a n m : Nat} (hn : n < 18446744073709551616) (hm : m ≠ 0) : powm a n m = fp m 64 a n := by
  unfold powm; rw [if_neg hm, fp_eq m 64 a n hn]

def holdsF (n d s a : Nat) : Bool := a % n == 0 || (fp n 64 (a % n) d == 1 || (fp n 64 (a % n) d == n - 1 || holdsLoop n (s - 1) (fp n 64 (a % n) d)))
def isF (n : Nat) : Bool := if n < 4 ∨ n % 2 = 0 then n == 2 || n == 3 else bases.all (holdsF n ((n - 1) / 2 ^ tz (n - 1)) (tz (n - 1)))
theorem isB_fast {n : Nat} (hn : n < 18446744073709551616) (h0 : n ≠ 0) : isB n = isF n := by
  unfold isB isF
  have hd : (n - 1) / 2 ^ tz (n - 1) < 18446744073709551616 := Nat.lt_of_le_of_lt (Nat.div_le_self _ _) (by omega)
  have : holdsB n ((n - 1) / 2 ^ tz (n - 1)) (tz (n - 1)) = holdsF n ((n - 1) / 2 ^ tz (n - 1)) (tz (n - 1)) := by
    funext a
    unfold holdsB holdsF
    rw [powm_fp hd h0]
  rw [this]

def q3 : List Nat := [12289, 40961, 1152921504606830593]
def x3 : List Nat := [11, 3, 5]
def facts (r : Nat) (q X : Nat) : Bool := Nat.beq (q % (2 * 2 ^ (r + 1))) 1 && Nat.beq (fp q 64 (fp q 64 X ((q - 1) / 2 ^ (r + 2))) (2 ^ (r + 2) / 2)) (q - 1)
end Go.Proofs.YtfcmdefigldpnaaGreatDoor


namespace Go.Proofs.YtfcmdefigldpnaaGreatDoor
set_option linter.unusedVariables false
set_option maxRecDepth 8000
open Go Go.Den Go.RowKit Go.Mth Go.Dig

theorem par17 (w : Value) : parP ⟨8, 17, w, [97], 1⟩ := (by decide +kernel : parP ⟨8, 17, .bool false, [97], 1⟩)

def apart (n : Nat) : Bool := (List.range (n / 2)).all fun i => Nat.blt (place n i).1 n && Nat.blt (place n i).2 n && !(Nat.beq (place n i).1 (place n i).2) && (List.range i).all fun j => !(Nat.beq (place n i).1 (place n j).1) && !(Nat.beq (place n i).1 (place n j).2) && !(Nat.beq (place n i).2 (place n j).1) && !(Nat.beq (place n i).2 (place n j).2)
def fillL (n t : Nat) (xs : List Int) : List Nat := (List.range (n / 2)).map fun i => if i < xs.length then liftm (xs.getD i 0) t else 0
end Go.Proofs.YtfcmdefigldpnaaGreatDoor


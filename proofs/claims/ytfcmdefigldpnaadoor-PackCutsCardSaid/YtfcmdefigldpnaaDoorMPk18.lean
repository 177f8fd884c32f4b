/- Texts ParC to BatA of this work, joined: each says in its own head what it proves, and of which condition. -/
import Derived.Test.YtfcmdefigldpnaaDoorMPk17
/- Package param: the fixed calls, and the laws of steps and rows. Condition: the table of math/bits reads as it is laid. -/
namespace Go.Proofs.YtfcmdefigldpnaaDoor
set_option linter.unusedVariables false
set_option maxRecDepth 8000
open Go Go.Den Go.RowKit Go.Dig

/-- Parameters whose row may be as long as any. -/
structure ParA0 (h : Hp) (p : ParD) : Prop where mk ::
  row : SlF h U p.vq p.q
  al : Al 18446744073709551616 p.q
  t64 : p.t < 18446744073709551616
  ln : p.q.length < 9223372036854775808

theorem par97 (w : Value) : parP ⟨8, 17, w, [97, 193], 2⟩ := (by decide +kernel : parP ⟨8, 17, .bool false, [97, 193], 2⟩)
theorem par0 (w : Value) : ¬ parP ⟨0, 0, w, [], 0⟩ := (by decide +kernel : ¬ parP ⟨0, 0, .bool false, [], 0⟩)
theorem lev97 (w : Value) : levE ⟨8, 17, w, [97, 193], 2⟩ 1 = 0 := by unfold levE; rw [if_pos (par97 w)]; rfl
theorem levM97 (w : Value) : levM ⟨8, 17, w, [97, 193], 2⟩ 1 = 18721 := rfl

theorem levE_par {p : ParD} {l : Int} (h : levE p l = 0) : parP p ∧ 0 ≤ l ∧ l < p.q.length := by
  unfold levE at h
  by_cases hp : parP p
  · rw [if_pos hp] at h
    by_cases hl : l < 0 ∨ (p.q.length : Int) ≤ l
    · rw [if_pos hl] at h; omega
    · exact ⟨hp, by omega, by omega⟩
  · rw [if_neg hp] at h; omega
theorem par_t {p : ParD} (hp : parP p) : 0 < p.t := by
  have := hp.2.1.2.1
  by_cases e : p.t = 0
  · rw [e, Nat.zero_mod] at this; omega
  · omega
theorem levM_len {p : ParD} {l : Int} (hp : parP p) (A : Al 18446744073709551616 p.q) : (dg 18446744073709551616 (levM p l)).length ≤ 9 := by
  have h1 := dg_len (b := 18446744073709551616) (n := levM p l) (k := (p.q.take (l.toNat + 1)).length + 1) (by decide) (prodL_lt (al_take A _))
  have h2 := hp.2.2.1.2.2.2
  rw [List.length_take] at h1
  omega

theorem levE_top {p : ParD} (hp : parP p) {m : Nat} (hm : m < p.q.length) : levE p (m : Int) = 0 := by
  unfold levE
  rw [if_pos hp, if_neg (by omega)]
theorem levM_all {p : ParD} {m : Nat} (hm : m + 1 = p.q.length) : levM p (m : Int) = prodL p.q := by
  unfold levM
  rw [Int.toNat_natCast, hm, List.take_length]
theorem levM_step {p : ParD} {m q : Nat} (hq : p.q[m + 1]? = some q) : levM p ((m + 1 : Nat) : Int) = levM p (m : Int) * q := by
  unfold levM
  rw [Int.toNat_natCast, Int.toNat_natCast, take_snoc hq, prodL_snoc]

end Go.Proofs.YtfcmdefigldpnaaDoor

/- Package param: parameters compared, and the law of it. Condition of the fixed calls: the table of math/bits reads as it is laid. -/
namespace Go.Proofs.YtfcmdefigldpnaaDoor
set_option linter.unusedVariables false
set_option maxRecDepth 8000
open Go Go.Den Go.RowKit Go.Dig

/-- What the closure 'rest' makes of parameters. -/
def restL (p : ParD) : List Int := [p.n, IntKind.i64.wrap p.t, p.w]
def sameP (a b : ParD) : Prop := a.n = b.n ∧ a.t = b.t ∧ a.w = b.w ∧ a.q = b.q
instance (a b : ParD) : Decidable (sameP a b) := by unfold sameP; exact inferInstance
theorem wrap_inj {a b : Nat} (ha : a < 18446744073709551616) (hb : b < 18446744073709551616) (h : IntKind.i64.wrap a = IntKind.i64.wrap b) : a = b := by
  rw [IntKind.wrap_i64, IntKind.wrap_i64] at h
  omega
theorem restL_eq {a b : ParD} (ha : a.t < 18446744073709551616) (hb : b.t < 18446744073709551616) : restL a = restL b ↔ (a.n = b.n ∧ a.t = b.t ∧ a.w = b.w) := by
  unfold restL
  constructor
  · intro h
    simp only [List.cons.injEq, and_true] at h
    exact ⟨h.1, wrap_inj ha hb h.2.1, h.2.2⟩
  · rintro ⟨h1, h2, h3⟩
    rw [h1, h2, h3]

theorem sameU9_spec (va vb : Value) (xs ys : List Nat) (h : Hp) (ha : SlF h U va xs) (hb : SlF h U vb ys) (hl : xs.length < 9223372036854775808) (hl2 : ys.length < 9223372036854775808) :
    CallsH Tryd.prog 28 [va, vb] h fun v' h' => v' = .bool (decide (xs = ys)) ∧ h = h' := by
  (apply enter Tryd.func28 rfl Tryd.ntmps28 rfl)
  refine runJ ?_
  (apply w_condD; exact rfl; exact rfl) <;> intro hne
  · refine runJ ?_
    exact fin1 rfl rfl ⟨dec_f (fun e => hne (by rw [e])), rfl⟩
  have hle : xs.length = ys.length := by omega
  refine runJ ?_
  (first | (apply w_seqB; exact rfl; apply w_block; exact rfl) | skip)
  apply (w_loop (σ := Nat) rfl (fun j => [(0, va), (1, vb), (12, N xs.length), (13, N j)])
    (fun j h' => h = h' ∧ j ≤ xs.length ∧ ∀ (i : Nat) (x y : Nat), i < j → xs[i]? = some x → ys[i]? = some y → x = y) (fun j => xs.length - j) 0)
  · exact (Sub.cons rfl (Sub.cons rfl (Sub.cons rfl (Sub.cons rfl (Sub.nil _)))))
  · exact ⟨rfl, Nat.zero_le _, fun i x y hi => by omega⟩
  rintro j h' ⟨rfl, j1, j2⟩
  refine runJ ?_
  (apply w_condD; exact rfl; exact rfl) <;> intro hj
  · obtain ⟨x, hx⟩ := get_lt hj
    obtain ⟨y, hy⟩ := get_lt (l := ys) (j := j) (by omega)
    refine runJ ?_
    (apply w_condD; exact rfl; exact rfl) <;> intro hd
    · refine runJ ?_
      exact fin1 rfl rfl ⟨dec_f (list_ne hx hy hd), rfl⟩
    · refine runJ ?_
      apply again_normal (j + 1)
      · exact (Sub.cons rfl (Sub.cons rfl (Sub.cons rfl (Sub.cons rfl (Sub.nil _)))))
      · refine ⟨rfl, hj, fun i x' y' hi hx' hy' => ?_⟩
        rcases Nat.lt_succ_iff_lt_or_eq.1 hi with hi | rfl
        · exact j2 i x' y' hi hx' hy'
        · rw [hx] at hx'; rw [hy] at hy'; cases hx'; cases hy'; exact Decidable.of_not_not hd
      · omega
  · refine runJ ?_
    exact fin1 rfl rfl ⟨dec_t (list_eq hle fun i x y hx hy => j2 i x y (by have := (List.getElem?_eq_some_iff.1 hx).1; omega) hx hy), rfl⟩

theorem sameP_comm (a b : ParD) : decide (sameP b a) = decide (sameP a b) := by
  rw [decide_eq_decide]
  unfold sameP
  constructor <;> rintro ⟨h1, h2, h3, h4⟩ <;> exact ⟨h1.symm, h2.symm, h3.symm, h4.symm⟩
theorem ParA0.ext {h h' : Hp} {p : ParD} (s : ParA0 h p) (e : Ext h h') : ParA0 h' p := ⟨s.row.ext e, s.al, s.t64, s.ln⟩

end Go.Proofs.YtfcmdefigldpnaaDoor

/- Package ntt: no table at all; the fixed calls; the law NttNil. Condition: the table of math/bits reads as it is laid. -/
namespace Go.Proofs.YtfcmdefigldpnaaDoor
set_option linter.unusedVariables false
set_option maxRecDepth 8000
open Go Go.Den Go.RowKit Go.Mth

theorem values_nil (va : Value) (h : Hp) : CallsH Tryd.prog 34 [.pointer none, va] h fun v' h' => v' = .tuple #[.slice none 0 0, N 1] ∧ h = h' := by
  (apply enter Tryd.func34 rfl Tryd.ntmps34 rfl)
  refine runJ ?_
  exact fin2 rfl rfl rfl ⟨rfl, rfl⟩
theorem back_nil (va : Value) (h : Hp) : CallsH Tryd.prog 32 [.pointer none, va] h fun v' h' => v' = .tuple #[.slice none 0 0, N 1] ∧ h = h' := by
  (apply enter Tryd.func32 rfl Tryd.ntmps32 rfl)
  refine runJ ?_
  exact fin2 rfl rfl rfl ⟨rfl, rfl⟩
theorem dft_inj {t : Tbl} (K : TblOk t) {xs ys : List Nat} (hx : Fit (2 ^ t.L) t.q xs) (hy : Fit (2 ^ t.L) t.q ys) (h : ∀ k, k < 2 ^ t.L → Cg t.q (dft (2 ^ t.L) t.w (gt xs) k) (dft (2 ^ t.L) t.w (gt ys) k)) : xs = ys :=
  lists_cg (by rw [hx.1, hy.1]) hx.2 hy.2 fun p hp => by
    have hp' : p < 2 ^ t.L := by rw [← hx.1]; exact hp
    have h1 := idft_dft K.cw K.cuw K.cp (gt xs) hp'
    have h2 := idft_dft K.cw K.cuw K.cp (gt ys) hp'
    exact h1.symm.trans ((idft_cg (fun j hj => h j hj) p).trans h2)
theorem val_eq {t : Tbl} {xs ys zs : List Nat} (h : Val t xs ys) (hz : Fit (2 ^ t.L) t.q zs) (e : ∀ k, k < 2 ^ t.L → Cg t.q (gt zs k) (dft (2 ^ t.L) t.w (gt xs) k)) : ys = zs :=
  lists_cg (by rw [h.1.1, hz.1]) h.1.2 hz.2 fun p hp => (h.2 p (by rw [← h.1.1]; exact hp)).trans (e p (by rw [← h.1.1]; exact hp)).symm
theorem prd_eq {t : Tbl} (K : TblOk t) {xs ys rs zs : List Nat} (h : Prd t xs ys rs) (hz : Fit (2 ^ t.L) t.q zs) (e : ∀ k, k < 2 ^ t.L → Cg t.q (dft (2 ^ t.L) t.w (gt zs) k) (dft (2 ^ t.L) t.w (gt xs) k * dft (2 ^ t.L) t.w (gt ys) k)) : rs = zs :=
  dft_inj K h.1 hz fun k hk => (h.2 k hk).trans (e k hk).symm

theorem root5 {r : Nat} (h : RootR 5 4 r) : r = 2 := by
  obtain ⟨hr, w, hw, hp, ⟨j, hj, rfl⟩, hall⟩ := h
  have h0 := hall 0 (by decide)
  have h1 := hall 1 (by decide)
  have key : ∀ w, w < 5 → powm w (4 / 2) 5 = 5 - 1 → ∀ j, j < 4 / 2 → w ^ (2 * j + 1) % 5 ≤ w ^ (2 * 0 + 1) % 5 → w ^ (2 * j + 1) % 5 ≤ w ^ (2 * 1 + 1) % 5 → w ^ (2 * j + 1) % 5 = 2 := by decide
  exact key w hw hp j hj h0 h1
theorem isB5 : isB 5 = true := by decide +kernel
theorem cgd {q : Nat} {a b : Int} (h : (a - b) % (q : Int) = 0) : Cg q a b := ⟨(a - b) / q, by have := Int.emod_add_mul_ediv (a - b) q; omega⟩

end Go.Proofs.YtfcmdefigldpnaaDoor

/- Package ring: what a ring holds, and how it is made. Condition: the table of math/bits reads as it is laid. -/
namespace Go.Proofs.YtfcmdefigldpnaaDoor
set_option linter.unusedVariables false
set_option maxRecDepth 8000
open Go Go.Den Go.RowKit Go.Mth Go.Dig

theorem Tryd_ent88 : Ent Tryd.prog 88 := ent_of Tryd.func88 (by kernel_rfl) rfl
theorem clone_spec (v : Value) (xs : List Nat) (h : Hp) (s : SlF h U v xs) (hl : xs.length < 1000000) :
    CallsH Tryd.prog 88 [v] h fun v' h' => Ext h h' ∧ OwnF h' h.size 22 U v' xs := by
  (apply enter Tryd.func88 rfl Tryd.ntmps88 rfl)
  refine runH ?_
  (apply w_cond; exact rfl; exact rfl) <;> intro hn
  · obtain ⟨rfl, rfl⟩ := s.nilE hn
    refine runH ?_
    exact fin1 rfl rfl ⟨Ext.refl _, OwnF.nil _ _ _ _⟩
  · refine runH ?_
    (apply (s_litF (f := U) [] (fun _ => rfl)); exact rfl; exact rfl; exact rfl; exact rfl; exact rfl; exact rfl; exact rfl; exact rfl; omega)
    intro w h1 o1 e1 b1
    refine ⟨(by first | exact trivial | exact Ext.refl _ | assumption | exact Ext.trans (by assumption) (by assumption)), ?_⟩
    have s1 := s.ext e1
    refine runH ?_
    (apply (s_appendF (bytes := 8)); exact rfl; exact rfl; exact rfl; exact rfl; exact rfl; exact rfl; exact rfl; exact o1; exact s1; exact fun _ => rfl; (first | exact Nat.le_refl _ | exact ext_size (by assumption) | omega); ((try simp only [maxLen]); (try simp only [List.length_nil]); (try simp only [List.length_append]); omega); ((try simp only [List.length_nil]); (try simp only [List.length_append]); omega))
    intro w2 h2 o2 k2 b2
    refine ⟨(by first | exact trivial | exact Ext.refl _ | assumption | exact Ext.trans (by assumption) (by assumption)), ?_⟩
    refine runH ?_
    exact fin1 rfl rfl ⟨k2.old e1 fun j hj => by rw [b1] at hj; cases hj; exact Nat.le_refl _, o2⟩

/-- A prime that serves a ring of that size. -/
structure QOk (L q : Nat) : Prop where mk ::
  q61 : q < 2305843009213693952
  qm : q % (2 * 2 ^ L) = 1
  q1 : 1 < q
  is : isB q = true
  root : ∃ X, 2 ≤ X ∧ X < 18446744073709551615 ∧ powm (powm X ((q - 1) / 2 ^ (L + 1)) q) (2 ^ (L + 1) / 2) q = q - 1

/-- A table that lies in other blocks than that one. -/
structure TblSep (r : Option Nat) (x : Value × Tbl) : Prop where mk ::
  p : pblk x.1 ≠ r
  vr : x.2.vr.ownBlock = none ∨ x.2.vr.ownBlock ≠ r
  vu : x.2.vu.ownBlock = none ∨ x.2.vu.ownBlock ≠ r
theorem TblAt.only {h h' : Hp} {g : Value} {t : Tbl} {r : Option Nat} (s : TblAt h g t) (k : Only r h h') (e : TblSep r (g, t)) : TblAt h' g t := ⟨s.var.only k e.p, s.rr.only k e.vr, s.ru.only k e.vu⟩
theorem TblAt.lt {h : Hp} {g : Value} {t : Tbl} (K : TblOk t) (s : TblAt h g t) {b : Nat} (hb : h.size ≤ b) : TblSep (some b) (g, t) := by
  have hn := K.size
  have hp : ∀ w, 0 < (pows w t.q (2 ^ t.L)).length := fun w => by rw [pows_len]; omega
  refine ⟨?_, ?_, ?_⟩
  · obtain ⟨j, hj, hl⟩ := s.var.blk
    dsimp only
    rw [hj]; intro e; cases e; omega
  · cases hv : t.vr.ownBlock with
    | none => exact .inl rfl
    | some j =>
      refine .inr fun e => ?_
      cases e
      have := s.rr.lt (hp _) _ hv; omega
  · cases hv : t.vu.ownBlock with
    | none => exact .inl rfl
    | some j =>
      refine .inr fun e => ?_
      cases e
      have := s.ru.lt (hp _) _ hv; omega
theorem TblAt.sep0 {h : Hp} {g : Value} {t : Tbl} (s : TblAt h g t) : TblSep none (g, t) := by
  refine ⟨?_, ?_, ?_⟩
  · obtain ⟨j, hj, -⟩ := s.var.blk
    dsimp only
    rw [hj]; intro e; cases e
  · cases t.vr.ownBlock <;> simp
  · cases t.vu.ownBlock <;> simp
theorem NewT.sep {B b : Nat} {g : Value} {t : Tbl} (s : NewT B g t) (hb : b < B) : TblSep (some b) (g, t) := by
  obtain ⟨k, hk, hkl⟩ := s.p
  refine ⟨?_, ?_, ?_⟩
  · dsimp only
    rw [hk]; intro e; cases e; omega
  · cases hv : t.vr.ownBlock with
    | none => exact .inl rfl
    | some j =>
      refine .inr fun e => ?_
      cases e
      have := s.vr _ hv; omega
  · cases hv : t.vu.ownBlock with
    | none => exact .inl rfl
    | some j =>
      refine .inr fun e => ?_
      cases e
      have := s.vu _ hv; omega

/-- A ring. -/
structure RngD where mk ::
  L : Nat
  qs : List Nat
  ts : List (Value × Tbl)
  vq : Value
  vt : Value
structure RngAt (h : Hp) (g : Value) (R : RngD) : Prop where mk ::
  var : Var h g 126 [N (2 ^ R.L), R.vq, R.vt]
  rq : SlF h U R.vq R.qs
  rt : SlF h Prod.fst R.vt R.ts
  tb : ∀ x ∈ R.ts, TblAt h x.1 x.2
structure RngOk (R : RngD) : Prop where mk ::
  l1 : 1 ≤ R.L
  l9 : R.L ≤ 9
  q : ∀ q ∈ R.qs, QOk R.L q
  n0 : 0 < R.qs.length
  n24 : R.qs.length ≤ 24
  map : R.ts.map (fun x => x.2.q) = R.qs
  ok : ∀ x ∈ R.ts, TblOk x.2 ∧ x.2.L = R.L ∧ RootR x.2.q (2 ^ (R.L + 1)) x.2.w
theorem RngAt.ext {h h' : Hp} {g : Value} {R : RngD} (s : RngAt h g R) (e : Ext h h') : RngAt h' g R := ⟨s.var.ext e, s.rq.ext e, s.rt.ext e, fun x hx => (s.tb x hx).ext e⟩

theorem Tryd_ent66 : Ent Tryd.prog 66 := ent_of Tryd.func66 (by kernel_rfl) rfl
set_option maxHeartbeats 2000000 in
theorem ringNew_spec (L : Nat) (vp : Value) (qs : List Nat) (h : Hp) (T : TB h) (s : SlF h U vp qs) (hL1 : 1 ≤ L) (hL9 : L ≤ 9) (hq : ∀ q ∈ qs, QOk L q) (hnd : qs.Nodup) (h0 : 0 < qs.length) (h24 : qs.length ≤ 24) :
    CallsH Tryd.prog 66 [N (2 ^ L), vp] h fun v' h' => Ext h h' ∧ ∃ (g : Value) (R : RngD), v' = .tuple #[g, N 0] ∧ RngAt h' g R ∧ RngOk R ∧ R.L = L ∧ R.qs = qs := by
  have CL := fun h s => clone_spec vp qs h s (by omega)
  have NW := fun q (hq : QOk L q) h T => nttNewX_spec L q hq.root.choose h T hL1 hL9 hq.q61 hq.qm hq.q1 hq.is hq.root.choose_spec.1 hq.root.choose_spec.2.1 hq.root.choose_spec.2.2
  (apply enter Tryd.func66 rfl Tryd.ntmps66 rfl)
  refine runJ ?_
  (apply s_splitG; exact rfl; exact rfl; exact rfl; exact rfl) <;> intro g1
  · exact absurd g1 (by omega)
  refine runJ ?_
  (apply w_condF; exact rfl; exact rfl; exact (show ¬ 24 < qs.length by omega))
  refine runJ ?_
  apply (s_call Tryd_ent88 rfl rfl rfl)
  refine (CL h s).mono ?_
  rintro vq h1 ⟨e1, o1⟩
  refine ⟨(by first | exact trivial | exact trivial), ?_⟩
  refine runJ ?_
  (apply (s_build ([N (2 ^ L), vq, .slice none 0 0])); exact rfl; exact rfl; exact rfl; (repeat (first | exact CellsAll.nil | (apply CellsAll.cons; (first | exact oneL (by assumption) | exact oneL (SlF.one (by assumption)) | exact oneL (SlF.one (OwnF.sl (by assumption))) | exact oneL (Var.one (by assumption)) | exact rfl)))); exact rfl; exact rfl)
  refine runJ ?_
  (apply s_box; exact rfl; exact rfl; exact rfl; exact rfl)
  intro g h2 G2 e2 b2
  (try dsimp only [Value.cells, List.toList_toArray] at G2)
  refine ⟨(by first | exact trivial | exact Ext.refl _ | assumption | exact Ext.trans (by assumption) (by assumption)), ?_⟩
  have e02 := e1.trans e2
  have hgl : h.size ≤ h1.size := e1.1
  have hg2 : h1.size < h2.size := by obtain ⟨j, hj, hl⟩ := G2.blk; rw [b2] at hj; cases hj; exact hl
  have nq : vq.ownBlock = none ∨ vq.ownBlock ≠ pblk g := SlF.neV (f := U) (xs := []) (fun j hj => (o1.blk j hj).2) b2 (Nat.le_refl _)
  have q2 := o1.sl.ext e2
  have s02 := s.ext e02
  refine runJ ?_
  (first | (apply w_seqB; exact rfl; apply w_block; exact rfl) | skip)
  apply (w_loop (σ := Nat × List (Value × Tbl) × Value) rfl (fun j => [(0, N (2 ^ L)), (1, vp), (6, g), (24, vp), (25, N qs.length), (26, N j.1)])
    (fun j h' => Ext h1 h' ∧ h2.size ≤ h'.size ∧ j.1 ≤ qs.length ∧ Var h' g 126 [N (2 ^ L), vq, j.2.2] ∧ OwnF h' h1.size 74 Prod.fst j.2.2 j.2.1 ∧ (∀ k, j.2.2.ownBlock = some k → h2.size ≤ k) ∧ j.2.1.map (fun x => x.2.q) = qs.take j.1 ∧
      ∀ x ∈ j.2.1, TblAt h' x.1 x.2 ∧ (TblOk x.2 ∧ x.2.L = L ∧ RootR x.2.q (2 ^ (L + 1)) x.2.w) ∧ TblSep (pblk g) x ∧ TblSep j.2.2.ownBlock x) (fun j => qs.length - j.1) (0, [], .slice none 0 0))
  · exact (Sub.cons rfl (Sub.cons rfl (Sub.cons rfl (Sub.cons rfl (Sub.cons rfl (Sub.cons rfl (Sub.nil _)))))))
  · exact ⟨e2, Nat.le_refl _, Nat.zero_le _, G2, OwnF.nil _ _ _ _, (by intro k hk; cases hk), rfl, (by intro x hx; cases hx)⟩
  rintro ⟨j, ts, vt⟩ h3 ⟨e3, z3, j1, G3, o3, v3, m3, t3⟩
  dsimp only at e3 z3 j1 G3 o3 v3 m3 t3 ⊢
  have s3 := (s.ext e1).ext e3
  refine runJ ?_
  (apply w_condD; exact rfl; exact rfl) <;> intro hj
  · obtain ⟨q, hqj⟩ := get_lt hj
    have hqm := List.mem_of_getElem? hqj
    have hqk := hq q hqm
    refine runJ ?_
    apply (s_call Tryd_ent30 rfl rfl rfl)
    refine (NW q hqk h3 (T.ext (e1.trans e3))).mono ?_
    rintro _ h4 ⟨e4, tg, t, rfl, A4, K4, hL4, hq4, hR4, N4⟩
    refine ⟨(by first | exact trivial | exact trivial), ?_⟩
    have e14 := e3.trans e4
    have s4 := s3.ext e4
    have c4 := s4.cut (lo := 0) (hi := j) (Nat.zero_le _) j1
    rw [List.drop_zero, Nat.sub_zero] at c4
    have hnin : q ∉ qs.take j := fun hin => not_nodup_at hqj hin hnd
    have CT := contains_spec _ (qs.take j) q h4 c4 (by rw [List.length_take]; omega)
    rw [decide_eq_false hnin] at CT
    refine runJ ?_
    apply (s_call Tryd_ent72 rfl rfl rfl)
    refine (CT).mono ?_
    rintro _ _ ⟨rfl, rfl⟩
    refine ⟨(by first | exact trivial | exact trivial), ?_⟩
    have G4 := G3.ext e4
    have o4 := o3.ext e4
    have htl : ts.length = j := by
      have := congrArg List.length m3
      rw [List.length_map, List.length_take] at this
      omega
    refine runJ ?_
    (refine s_app1V (bytes := 8) ((tg, t)) o4 e14 rfl rfl rfl rfl rfl rfl rfl rfl rfl (by first | exact rfl | exact congrArg some (congrArg I (by omega))) (A4.var.one) rfl rfl (fun _ _ => trivial) (by omega) (by simp only [maxLen]; omega) ?_)
    intro v5 h5 o5 e5 k5 b5
    have hpg : pblk g ≠ vt.ownBlock := by
      rw [b2]; intro e
      have := v3 _ e.symm; omega
    have hv5 : ∀ k, v5.ownBlock = some k → h2.size ≤ k := fun k hk => by
      rcases b5 with b5 | ⟨b, hb, hbl⟩
      · exact v3 k (by rw [← b5]; exact hk)
      · rw [hk] at hb; cases hb
        exact Nat.le_trans z3 (Nat.le_trans e4.1 hbl)
    have G5 := G4.only k5 hpg
    have hsepN : TblSep vt.ownBlock (tg, t) := by
      cases hvt : vt.ownBlock with
      | none => exact A4.sep0
      | some k => exact N4.sep (o3.blk k hvt).2
    have hsep5 : ∀ x : Value × Tbl, TblOk x.2 → TblAt h4 x.1 x.2 → TblSep vt.ownBlock x → TblSep v5.ownBlock x := fun x hk ha hs => by
      rcases b5 with b5 | ⟨b, hb, hbl⟩
      · rw [b5]; exact hs
      · rw [hb]; exact ha.lt hk hbl
    refine runJ ?_
    (apply s_storeC; exact rfl; exact rfl; (first | exact rfl | exact SlF.one (by assumption) | exact SlF.one (OwnF.sl (by assumption)) | exact Var.one (by assumption)); exact rfl; exact rfl; exact G5; exact rfl)
    intro h6 G6 k6
    refine ⟨(by first | exact trivial | exact Ext.refl _ | assumption | exact Ext.only (by assumption) _ | exact Only.trans (Ext.only (by assumption) _) (by assumption)), ?_⟩
    have e6 : Ext h1 h6 := k6.oldV e5 b2 (Nat.le_refl _)
    have ne5 : v5.ownBlock = none ∨ v5.ownBlock ≠ pblk g := by
      cases h5v : v5.ownBlock with
      | none => exact .inl rfl
      | some k =>
        refine .inr fun e => ?_
        rw [b2] at e; cases e
        have := hv5 _ h5v; omega
    have o6 := o5.only k6 ne5
    refine runJ ?_
    apply again_normal (j + 1, ts ++ [(tg, t)], v5)
    · exact (Sub.cons rfl (Sub.cons rfl (Sub.cons rfl (Sub.cons rfl (Sub.cons rfl (Sub.cons rfl (Sub.nil _)))))))
    · refine ⟨e6, Nat.le_trans z3 (Nat.le_trans e4.1 (Nat.le_trans k5.1 k6.1)), hj, G6, o6, hv5, ?_, fun x hx => ?_⟩
      · dsimp only
        rw [List.map_append, m3, take_snoc hqj, List.map_cons, List.map_nil, hq4]
      · rcases List.mem_append.1 hx with hx | hx
        · obtain ⟨a1, a2, a3, a4⟩ := t3 x hx
          have a5 := a1.ext e4
          exact ⟨(a5.only k5 a4).only k6 a3, a2, a3, hsep5 x a2.1 a5 a4⟩
        · simp only [List.mem_singleton] at hx
          subst hx
          have a3 : TblSep (pblk g) (tg, t) := by rw [b2]; exact N4.sep (Nat.lt_of_lt_of_le hg2 z3)
          exact ⟨(A4.only k5 hsepN).only k6 a3, ⟨K4, hL4, by rw [hq4]; exact hR4⟩, a3, hsep5 _ K4 A4 hsepN⟩
    · dsimp only; omega
  · have hjn : j = qs.length := by omega
    subst hjn
    rw [List.take_length] at m3
    refine runJ ?_
    refine fin2 rfl rfl rfl ⟨e1.trans e3, g, ⟨L, qs, ts, vq, vt⟩, rfl, ⟨G3, o1.sl.ext e3, o3.sl, fun x hx => (t3 x hx).1⟩, ⟨hL1, hL9, hq, h0, h24, m3, fun x hx => (t3 x hx).2.1⟩, rfl, rfl⟩
end Go.Proofs.YtfcmdefigldpnaaDoor

/- The tape: what it holds, and how a draw is taken. No condition. -/
namespace Go.Proofs.YtfcmdefigldpnaaDoor
set_option linter.unusedVariables false
set_option maxRecDepth 8000
open Go Go.Den Go.RowKit Go.Dig


/-- Where a tape's row lies. -/
structure Blk (h : Hp) (t v : Value) (B : Option Nat) : Prop where mk ::
  own : v.ownBlock = none ∨ v.ownBlock = B
  neq : B ≠ pblk t
  lt : ∀ b, B = some b → b < h.size
theorem Blk.ne {h : Hp} {t v : Value} {B : Option Nat} (s : Blk h t v B) : v.ownBlock = none ∨ v.ownBlock ≠ pblk t := by
  rcases s.own with e | e
  · exact .inl e
  · exact .inr (by rw [e]; exact s.neq)
theorem Blk.mono {h h' : Hp} {t v : Value} {B : Option Nat} (s : Blk h t v B) (e : h.size ≤ h'.size) : Blk h' t v B := ⟨s.own, s.neq, fun b hb => Nat.lt_of_lt_of_le (s.lt b hb) e⟩
theorem Blk.cut {h : Hp} {t v : Value} {B : Option Nat} {s lo hi : Nat} (k : Blk h t v B) : Blk h t (cutV s v lo hi) B := ⟨by
  cases v with
  | slice a n c =>
    cases a with
    | none => left; simp only [cutV, Option.map_none]; split <;> rfl
    | some a =>
      have e : (cutV s (.slice (some a) n c) lo hi).ownBlock = (Value.slice (some a) n c).ownBlock := by
        simp only [cutV, Option.map_some]
        split
        · rfl
        · simp only [Value.ownBlock, Addr.add]
          try (split <;> rfl)
      rw [e]; exact k.own
  | _ => exact k.own, k.neq, k.lt⟩
def tern (d : Nat) : Int := ((d &&& 1 : Nat) : Int) - ((d / 2 ^ 1 &&& 1 : Nat) : Int)
/-- The first draw that tells one of three, and what is left. -/
def firstT : List Nat → Option (Int × List Nat)
  | [] => none
  | d :: ds => if d &&& 3 = 3 then firstT ds else some (tern d, ds)

end Go.Proofs.YtfcmdefigldpnaaDoor

/- Package ring: elements, and numbers lifted. No condition. -/
namespace Go.Proofs.YtfcmdefigldpnaaDoor
set_option linter.unusedVariables false
set_option maxRecDepth 8000
open Go Go.Den Go.RowKit Go.Mth Go.Dig

/-- An element as it lies. -/
structure PolAt (h : Hp) (v : Value) (rows : List (Value × List Nat)) : Prop where mk ::
  row : SlF h Prod.fst v rows
  el : ∀ x ∈ rows, SlF h U x.1 x.2
theorem PolAt.ext {h h' : Hp} {v : Value} {rows : List (Value × List Nat)} (s : PolAt h v rows) (e : Ext h h') : PolAt h' v rows := ⟨s.row.ext e, fun x hx => (s.el x hx).ext e⟩
/-- A row of rows that grows, beside a variable in the block p. -/
structure RowsAt (h : Hp) (B : Nat) (p : Option Nat) (v : Value) (rows : List (Value × List Nat)) : Prop where mk ::
  own : OwnF h B 23 Prod.fst v rows
  el : ∀ x ∈ rows, OwnF h B 22 U x.1 x.2
  ne : ∀ x ∈ rows, x.1.ownBlock = none ∨ x.1.ownBlock ≠ v.ownBlock
  np : ∀ x ∈ rows, x.1.ownBlock = none ∨ x.1.ownBlock ≠ p
  vp : v.ownBlock = none ∨ v.ownBlock ≠ p
theorem RowsAt.ext {h h' : Hp} {B : Nat} {p : Option Nat} {v : Value} {rows : List (Value × List Nat)} (s : RowsAt h B p v rows) (e : Ext h h') : RowsAt h' B p v rows :=
  ⟨s.own.ext e, fun x hx => (s.el x hx).ext e, s.ne, s.np, s.vp⟩
theorem RowsAt.nil (h : Hp) (B : Nat) (p : Option Nat) : RowsAt h B p (.slice none 0 0) [] :=
  RowsAt.mk (OwnF.nil _ _ _ _) (fun x hx => absurd hx List.not_mem_nil) (fun x hx => absurd hx List.not_mem_nil) (fun x hx => absurd hx List.not_mem_nil) (.inl rfl)
theorem RowsAt.pol {h : Hp} {B : Nat} {p : Option Nat} {v : Value} {rows : List (Value × List Nat)} (s : RowsAt h B p v rows) : PolAt h v rows := ⟨s.own.sl, fun x hx => (s.el x hx).sl⟩
theorem RowsAt.push {h4 h5 h6 : Hp} {B z pb : Nat} {v v5 w : Value} {rows : List (Value × List Nat)} {ws : List Nat} (S : RowsAt h4 B (some pb) v rows) (ow : OwnF h4 B 22 U w ws) (hw : ∀ k, w.ownBlock = some k → z ≤ k) (hv : ∀ k, v.ownBlock = some k → k < z) (hp : pb < z) (hz : z ≤ h4.size)
    (o5 : OwnF h5 B 23 Prod.fst v5 (rows ++ [(w, ws)])) (k5 : Only v.ownBlock h4 h5) (b5 : v5.ownBlock = v.ownBlock ∨ ∃ b, v5.ownBlock = some b ∧ h4.size ≤ b) (k6 : Only (some pb) h5 h6) : RowsAt h6 B (some pb) v5 (rows ++ [(w, ws)]) := by
  have nw : w.ownBlock = none ∨ w.ownBlock ≠ v.ownBlock := by
    cases hwb : w.ownBlock with
    | none => exact .inl rfl
    | some k =>
      refine .inr fun e => ?_
      have h1 := hw k hwb
      have h2 := hv k e.symm
      omega
  have nwp : w.ownBlock = none ∨ w.ownBlock ≠ some pb := by
    cases hwb : w.ownBlock with
    | none => exact .inl rfl
    | some k =>
      refine .inr fun e => ?_
      cases e
      have h1 := hw _ hwb
      omega
  have n5 : ∀ x : Value × List Nat, (∀ k, x.1.ownBlock = some k → k < h4.size) → (x.1.ownBlock = none ∨ x.1.ownBlock ≠ v.ownBlock) → x.1.ownBlock = none ∨ x.1.ownBlock ≠ v5.ownBlock := fun x hx hn => by
    rcases b5 with b5 | ⟨b, hb, hbl⟩
    · rw [b5]; exact hn
    · rw [hb]
      cases hxb : x.1.ownBlock with
      | none => exact .inl rfl
      | some k =>
        refine .inr fun e => ?_
        cases e
        have := hx _ hxb
        omega
  have v5p : v5.ownBlock = none ∨ v5.ownBlock ≠ some pb := by
    rcases b5 with b5 | ⟨b, hb, hbl⟩
    · rw [b5]; exact S.vp
    · refine .inr fun e => ?_
      rw [hb] at e; cases e
      omega
  refine ⟨o5.only k6 v5p, fun x hx => ?_, fun x hx => ?_, fun x hx => ?_, v5p⟩
  · rcases List.mem_append.1 hx with hx | hx
    · exact ((S.el x hx).only k5 (S.ne x hx)).only k6 (S.np x hx)
    · simp only [List.mem_singleton] at hx; subst hx
      exact (ow.only k5 nw).only k6 nwp
  · rcases List.mem_append.1 hx with hx | hx
    · exact n5 x (fun k hk => ((S.el x hx).blk k hk).2) (S.ne x hx)
    · simp only [List.mem_singleton] at hx; subst hx
      exact n5 _ (fun k hk => (ow.blk k hk).2) nw
  · rcases List.mem_append.1 hx with hx | hx
    · exact S.np x hx
    · simp only [List.mem_singleton] at hx; subst hx
      exact nwp

theorem RowsAt.low {h h' : Hp} {B b : Nat} {p : Option Nat} {v : Value} {rows : List (Value × List Nat)} (s : RowsAt h B p v rows) (k : Only (some b) h h') (hb : b < B) : RowsAt h' B p v rows := by
  have key : ∀ w : Value, (∀ j, w.ownBlock = some j → B ≤ j) → w.ownBlock = none ∨ w.ownBlock ≠ some b := fun w hw => by
    cases hv : w.ownBlock with
    | none => exact .inl rfl
    | some j =>
      refine .inr fun e => ?_
      cases e
      have := hw _ hv
      omega
  exact ⟨s.own.only k (key _ fun j hj => (s.own.blk j hj).1), fun x hx => (s.el x hx).only k (key _ fun j hj => ((s.el x hx).blk j hj).1), s.ne, s.np, s.vp⟩
theorem RowsAt.base {h : Hp} {B B' : Nat} {p : Option Nat} {v : Value} {rows : List (Value × List Nat)} (s : RowsAt h B p v rows) (hB : B' ≤ B) : RowsAt h B' p v rows :=
  ⟨s.own.base hB, fun x hx => (s.el x hx).base hB, s.ne, s.np, s.vp⟩

def liftL (xs : List Int) (q : Nat) : List Nat := xs.map fun x => liftm x q

end Go.Proofs.YtfcmdefigldpnaaDoor

/- Package ring: levels, products. No condition. -/
namespace Go.Proofs.YtfcmdefigldpnaaDoor
set_option linter.unusedVariables false
set_option maxRecDepth 8000
open Go Go.Den Go.RowKit Go.Mth Go.Dig

theorem Tryd_ent68 : Ent Tryd.prog 68 := ent_of Tryd.func68 (by kernel_rfl) rfl
theorem level1_spec (x q i : Nat) (p2 p6 g vq vt : Value) (n : Nat) (qs : List Nat) (h : Hp) (P2 : Var h p2 92 [g]) (P6 : Var h p6 3 [N i]) (G : Var h g 126 [N n, vq, vt]) (s : SlF h U vq qs) (hi : qs[i]? = some q) :
    CallsH Tryd.prog 68 [U x, p2, p6] h fun v' h' => v' = .bool (decide (q ≤ x)) ∧ h = h' := by
  (apply enter Tryd.func68 rfl Tryd.ntmps68 rfl)
  refine runJ ?_
  exact fin1 rfl rfl ⟨rfl, rfl⟩

theorem Tryd_ent89 : Ent Tryd.prog 89 := ent_of Tryd.func89 (by kernel_rfl) rfl
theorem indexFunc_spec (v p2 p6 g vq vt : Value) (xs : List Nat) (q i n : Nat) (qs : List Nat) (h : Hp) (s : SlF h U v xs) (P2 : Var h p2 92 [g]) (P6 : Var h p6 3 [N i]) (G : Var h g 126 [N n, vq, vt]) (sq : SlF h U vq qs) (hi : qs[i]? = some q) (hx : ∀ x ∈ xs, x < q) (hl : xs.length < 1000000) :
    CallsH Tryd.prog 89 [v, .func (.func 68) #[] #[p2, p6]] h fun v' h' => v' = I (-1) ∧ h = h' := by
  (apply enter Tryd.func89 rfl Tryd.ntmps89 rfl)
  refine runJ ?_
  (first | (apply w_seqB; exact rfl; apply w_block; exact rfl) | skip)
  apply (w_loop (σ := Nat) rfl (fun j => [(0, v), (1, .func (.func 68) #[] #[p2, p6]), (6, v), (7, N xs.length), (8, N j)])
    (fun j h' => h = h' ∧ j ≤ xs.length) (fun j => xs.length - j) 0)
  · exact (Sub.cons rfl (Sub.cons rfl (Sub.cons rfl (Sub.cons rfl (Sub.cons rfl (Sub.nil _))))))
  · exact ⟨rfl, Nat.zero_le _⟩
  rintro j h' ⟨rfl, j1⟩
  refine runJ ?_
  (apply w_condD; exact rfl; exact rfl) <;> intro hj
  · obtain ⟨x, hxj⟩ := get_lt hj
    have hxq := hx x (List.mem_of_getElem? hxj)
    have LV := level1_spec x q i p2 p6 g vq vt n qs h P2 P6 G sq hi
    rw [decide_eq_false (show ¬ q ≤ x by omega)] at LV
    refine runJ ?_
    refine s_callV rfl Tryd_ent68 rfl rfl rfl ?_
    refine (LV).mono ?_
    rintro _ _ ⟨rfl, rfl⟩
    refine ⟨(by first | exact trivial | exact trivial), ?_⟩
    refine runJ ?_
    apply again_normal (j + 1)
    · exact (Sub.cons rfl (Sub.cons rfl (Sub.cons rfl (Sub.cons rfl (Sub.cons rfl (Sub.nil _))))))
    · exact ⟨rfl, hj⟩
    · omega
  · refine runJ ?_
    exact fin1 rfl rfl ⟨rfl, rfl⟩
theorem Tryd_ent67 : Ent Tryd.prog 67 := ent_of Tryd.func67 (by kernel_rfl) rfl
theorem containsFunc_spec (v p2 p6 g vq vt : Value) (xs : List Nat) (q i n : Nat) (qs : List Nat) (h : Hp) (s : SlF h U v xs) (P2 : Var h p2 92 [g]) (P6 : Var h p6 3 [N i]) (G : Var h g 126 [N n, vq, vt]) (sq : SlF h U vq qs) (hi : qs[i]? = some q) (hx : ∀ x ∈ xs, x < q) (hl : xs.length < 1000000) :
    CallsH Tryd.prog 67 [v, .func (.func 68) #[] #[p2, p6]] h fun v' h' => v' = .bool false ∧ h = h' := by
  (apply enter Tryd.func67 rfl Tryd.ntmps67 rfl)
  refine runJ ?_
  apply (s_call Tryd_ent89 rfl rfl rfl)
  refine (indexFunc_spec v p2 p6 g vq vt xs q i n qs h s P2 P6 G sq hi hx hl).mono ?_
  rintro _ _ ⟨rfl, rfl⟩
  refine ⟨(by first | exact trivial | exact trivial), ?_⟩
  refine runJ ?_
  exact fin1 rfl rfl ⟨rfl, rfl⟩

/-- A right element of a ring. -/
structure PolOk (R : RngD) (rows : List (Value × List Nat)) : Prop where mk ::
  n0 : 0 < rows.length
  le : rows.length ≤ R.qs.length
  fit : ∀ (i q : Nat) (x : Value × List Nat), rows[i]? = some x → R.qs[i]? = some q → Fit (2 ^ R.L) q x.2

theorem level_nil (vr : Value) (h : Hp) : CallsH Tryd.prog 42 [.pointer none, .agg #[vr]] h fun v' h' => v' = .tuple #[N 0, N 1] ∧ Ext h h' := by
  (apply enter Tryd.func42 rfl Tryd.ntmps42 rfl)
  refine runJ ?_
  (apply s_box; exact rfl; exact rfl; exact rfl; exact rfl)
  intro p2 h1 x1 e1 b1
  (try dsimp only [Value.cells, List.toList_toArray] at x1)
  refine ⟨(by first | exact trivial | exact Ext.refl _ | assumption | exact Ext.trans (by assumption) (by assumption)), ?_⟩
  refine runJ ?_
  (apply s_box; exact rfl; exact rfl; exact rfl; exact rfl)
  intro p3 h2 x2 e2 b2
  (try dsimp only [Value.cells, List.toList_toArray] at x2)
  refine ⟨(by first | exact trivial | exact Ext.refl _ | assumption | exact Ext.trans (by assumption) (by assumption)), ?_⟩
  have y1 := x1.ext e2
  refine runJ ?_
  exact fin2 rfl rfl rfl ⟨rfl, e1.trans e2⟩

theorem Tryd_ent42 : Ent Tryd.prog 42 := ent_of Tryd.func42 (by kernel_rfl) rfl
set_option maxHeartbeats 2000000 in
theorem level_spec (g vr : Value) (R : RngD) (rows : List (Value × List Nat)) (h : Hp) (K : RngOk R) (A : RngAt h g R) (S : PolAt h vr rows) (P : PolOk R rows) :
    CallsH Tryd.prog 42 [g, .agg #[vr]] h fun v' h' => v' = .tuple #[N (rows.length - 1), N 0] ∧ Ext h h' := by
  have hn : 2 ≤ 2 ^ R.L ∧ 2 ^ R.L ≤ 512 := ⟨Nat.pow_le_pow_right (n := 2) (by omega) K.l1, Nat.pow_le_pow_right (n := 2) (by omega) K.l9⟩
  have h24 := K.n24
  have G := A.var
  have rq := A.rq
  have pn := P.n0
  have pl := P.le
  have pf := P.fit
  have sr := S.row
  have se := S.el
  obtain ⟨L, qs, ts, vq, vt⟩ := R
  dsimp only at G rq hn h24 pl pf ⊢
  generalize 2 ^ L = n at *
  obtain ⟨gb, hgp, hgc⟩ := G
  subst hgp
  have G : Var h (.pointer (some ⟨gb, 0, none⟩)) 126 [N n, vq, vt] := ⟨gb, rfl, hgc⟩
  clear hgc
  (apply enter Tryd.func42 rfl Tryd.ntmps42 rfl)
  refine runJ ?_
  (apply s_box; exact rfl; exact rfl; exact rfl; exact rfl)
  intro p2 h1 x1 e1 b1
  (try dsimp only [Value.cells, List.toList_toArray] at x1)
  refine ⟨(by first | exact trivial | exact Ext.refl _ | assumption | exact Ext.trans (by assumption) (by assumption)), ?_⟩
  refine runJ ?_
  (apply s_box; exact rfl; exact rfl; exact rfl; exact rfl)
  intro p3 h2 x3 e2 b2
  (try dsimp only [Value.cells, List.toList_toArray] at x3)
  refine ⟨(by first | exact trivial | exact Ext.refl _ | assumption | exact Ext.trans (by assumption) (by assumption)), ?_⟩
  have x1 : Var h1 p2 92 [.pointer (some ⟨gb, 0, none⟩)] := x1
  have x2 := x1.ext e2
  have e12 := e1.trans e2
  have G2 := G.ext e12
  generalize Value.pointer (some ⟨gb, 0, none⟩) = g at *
  have q2 := rq.ext e12
  have r2 := sr.ext e12
  refine runJ ?_
  rw [decide_eq_false (show ¬ rows.length < 1 by omega)]
  refine runJ ?_
  rw [decide_eq_false (show ¬ qs.length < rows.length by omega)]
  refine runJ ?_
  (first | (apply w_seqB; exact rfl; apply w_block; exact rfl) | skip)
  apply (w_loop (σ := Nat) rfl (fun j => [(2, p2), (3, p3), (26, vr), (27, N rows.length), (28, N j)])
    (fun j h' => Ext h h' ∧ Ext h2 h' ∧ j ≤ rows.length) (fun j => rows.length - j) 0)
  · exact (Sub.cons rfl (Sub.cons rfl (Sub.cons rfl (Sub.cons rfl (Sub.cons rfl (Sub.nil _))))))
  · exact ⟨e12, Ext.refl _, Nat.zero_le _⟩
  rintro j h3 ⟨e03, e3, j1⟩
  have G3 := G2.ext e3
  have x23 := x2.ext e3
  have x33 := x3.ext e3
  have q3 := q2.ext e3
  have r3 := r2.ext e3
  refine runJ ?_
  (apply w_condD; exact rfl; exact rfl) <;> intro hj
  · obtain ⟨x, hxj⟩ := get_lt hj
    obtain ⟨q, hqj⟩ := get_lt (l := qs) (j := j) (by omega)
    have fx := pf j q x hxj hqj
    have hm := List.mem_of_getElem? hxj
    have sx := (se x hm).ext e03
    obtain ⟨vx, ws⟩ := x
    dsimp only at sx fx ⊢
    have hwl := fx.1
    refine runJ ?_
    (apply s_alloc; exact rfl; exact rfl; exact rfl)
    intro p6 h5 x5 e5 b5
    (try dsimp only [Value.cells, List.toList_toArray] at x5)
    refine ⟨(by first | exact trivial | exact Ext.refl _ | assumption | exact Ext.trans (by assumption) (by assumption)), ?_⟩
    refine runJ ?_
    (apply s_storeV; exact rfl; exact rfl; exact rfl; (repeat (first | exact OneAll.nil | (apply OneAll.cons; (first | exact rfl | exact SlF.one (by assumption) | exact SlF.one (OwnF.sl (by assumption)) | exact Var.one (by assumption))))); exact rfl; exact rfl; exact x5; exact rfl)
    intro h6 x6 k6
    (try dsimp only [Value.cells, List.toList_toArray] at x6)
    refine ⟨(by first | exact trivial | exact Ext.refl _ | assumption | exact Ext.only (by assumption) _ | exact Only.trans (Ext.only (by assumption) _) (by assumption)), ?_⟩
    have x6 : Var h6 p6 3 [N j] := x6
    have e36 : Ext h3 h6 := k6.oldV e5 b5 (Nat.le_refl _)
    have G6 := G3.ext e36
    have x26 := x23.ext e36
    have q6 := q3.ext e36
    have s6 := sx.ext e36
    have hv1 := s6.one
    refine runJ ?_
    rw [decide_eq_false (show ¬ ws.length ≠ n by omega)]
    refine runJ ?_
    apply (s_call Tryd_ent67 rfl rfl rfl)
    refine (containsFunc_spec vx p2 p6 g vq vt ws q j n qs h6 s6 x26 x6 G6 q6 hqj fx.2 (by omega)).mono ?_
    rintro _ _ ⟨rfl, rfl⟩
    refine ⟨(by first | exact trivial | exact trivial), ?_⟩
    refine runJ ?_
    apply again_normal (j + 1)
    · exact (Sub.cons rfl (Sub.cons rfl (Sub.cons rfl (Sub.cons rfl (Sub.cons rfl (Sub.nil _))))))
    · exact ⟨e03.trans e36, e3.trans e36, hj⟩
    · omega
  · refine runJ ?_
    exact fin2 rfl rfl rfl ⟨rfl, e03⟩
end Go.Proofs.YtfcmdefigldpnaaDoor

/- Package ring: a power of X for X. No condition. -/
namespace Go.Proofs.YtfcmdefigldpnaaDoor
set_option linter.unusedVariables false
set_option maxRecDepth 8000
open Go Go.Den Go.RowKit Go.Mth Go.Dig

/-- One coefficient is laid where it comes to lie. -/
def turnStep (n q kk : Nat) (s : List Nat × Nat) (v : Nat) : List Nat × Nat :=
  (if s.2 < n then s.1.set s.2 v else s.1.set (s.2 - n) (subm 0 v q), (s.2 + kk) % (2 * n))
def turnF (n q k : Nat) (xs : List Nat) : List Nat × Nat := xs.foldl (turnStep n q (k % (2 * n))) (List.replicate n 0, 0)
def turnL (n q k : Nat) (xs : List Nat) : List Nat := (turnF n q k xs).1
theorem turnF_ok {n : Nat} (hn : 0 < n) (q k : Nat) (xs : List Nat) : (turnF n q k xs).1.length = n ∧ (turnF n q k xs).2 < 2 * n := by
  suffices H : ∀ (xs : List Nat) (s : List Nat × Nat), s.1.length = n ∧ s.2 < 2 * n → (xs.foldl (turnStep n q (k % (2 * n))) s).1.length = n ∧ (xs.foldl (turnStep n q (k % (2 * n))) s).2 < 2 * n from H xs _ ⟨by simp, by omega⟩
  intro xs
  induction xs with
  | nil => intro s h; exact h
  | cons x xs ih =>
    intro s h
    rw [List.foldl_cons]
    refine ih _ ⟨?_, Nat.mod_lt _ (by omega)⟩
    unfold turnStep
    dsimp only
    split <;> simp [h.1]
theorem turnF_snoc (n q k : Nat) (xs : List Nat) (v : Nat) : turnF n q k (xs ++ [v]) = turnStep n q (k % (2 * n)) (turnF n q k xs) v := by
  unfold turnF; rw [List.foldl_append]; rfl
theorem turn_and {L a : Nat} (ha : a < 2 * 2 ^ L) : (a &&& 2 ^ L = 0) ↔ a < 2 ^ L := by
  constructor
  · intro h
    refine Classical.byContradiction fun hc => ?_
    have ht : a.testBit L = true := by
      have : a / 2 ^ L = 1 := by
        refine Nat.div_eq_of_lt_le ?_ ?_ <;> omega
      rw [Nat.testBit_eq_decide_div_mod_eq, this]; rfl
    have h2 : (a &&& 2 ^ L).testBit L = (0 : Nat).testBit L := by rw [h]
    rw [Nat.testBit_and, ht, Nat.testBit_two_pow_self, Nat.zero_testBit] at h2
    cases h2
  · intro h
    refine Nat.eq_of_testBit_eq fun i => ?_
    rw [Nat.testBit_and, Nat.zero_testBit, Nat.testBit_two_pow]
    by_cases hi : L = i
    · subst hi
      rw [Nat.testBit_lt_two_pow h]; rfl
    · rw [decide_eq_false hi, Bool.and_false]

end Go.Proofs.YtfcmdefigldpnaaDoor

/- Package ring: the fixed calls. Condition: the table of math/bits reads as it is laid. -/
namespace Go.Proofs.YtfcmdefigldpnaaDoor
set_option linter.unusedVariables false
set_option maxRecDepth 8000
open Go Go.Den Go.RowKit Go.Mth Go.Dig

theorem two_of {α : Type} {l : List α} (h : l.length = 2) : ∃ a b, l = [a, b] := by
  rcases l with _ | ⟨a, _ | ⟨b, _ | ⟨c, l⟩⟩⟩ <;> simp at h
  exact ⟨a, b, rfl⟩
theorem root13 {r : Nat} (h : RootR 13 4 r) : r = 5 := by
  obtain ⟨hr, w, hw, hp, ⟨j, hj, rfl⟩, hall⟩ := h
  have h0 := hall 0 (by decide)
  have h1 := hall 1 (by decide)
  have key : ∀ w, w < 13 → powm w (4 / 2) 13 = 13 - 1 → ∀ j, j < 4 / 2 → w ^ (2 * j + 1) % 13 ≤ w ^ (2 * 0 + 1) % 13 → w ^ (2 * j + 1) % 13 ≤ w ^ (2 * 1 + 1) % 13 → w ^ (2 * j + 1) % 13 = 5 := by decide
  exact key w hw hp j hj h0 h1
theorem isB13 : isB 13 = true := by decide +kernel
theorem qok5 : QOk 1 5 := ⟨by decide, by decide, by decide, isB5, 2, by decide, by decide, by decide⟩
theorem qok13 : QOk 1 13 := ⟨by decide, by decide, by decide, isB13, 2, by decide, by decide, by decide⟩
theorem mul5 {t : Tbl} {rs : List Nat} (K : TblOk t) (hL : t.L = 1) (hq : t.q = 5) (hR : RootR t.q 4 t.w) (P : Prd t [0, 1] [0, 1] rs) : rs = [4, 0] := by
  obtain ⟨L, q, w, u, p, vr, vu⟩ := t
  dsimp only at hL hq hR
  subst hL hq
  have hw := root5 hR
  subst hw
  exact prd_eq K P (by dsimp only; decide) (by
    intro k hk
    rcases (show k = 0 ∨ k = 1 by change k < 2 at hk; omega) with rfl | rfl <;> exact cgd (by dsimp only; decide))
theorem mul13 {t : Tbl} {rs : List Nat} (K : TblOk t) (hL : t.L = 1) (hq : t.q = 13) (hR : RootR t.q 4 t.w) (P : Prd t [0, 1] [0, 1] rs) : rs = [12, 0] := by
  obtain ⟨L, q, w, u, p, vr, vu⟩ := t
  dsimp only at hL hq hR
  subst hL hq
  have hw := root13 hR
  subst hw
  exact prd_eq K P (by dsimp only; decide) (by
    intro k hk
    rcases (show k = 0 ∨ k = 1 by change k < 2 at hk; omega) with rfl | rfl <;> exact cgd (by dsimp only; decide))

theorem same_two {u0 u1 v0 v1 : Value} {a b : List Nat} : ∀ (i : Nat) (x y : Value × List Nat), [(u0, a), (u1, b)][i]? = some x → [(v0, a), (v1, b)][i]? = some y → x.2 = y.2 := by
  intro i x y hx hy
  rcases i with _ | _ | i
  · cases hx; cases hy; rfl
  · cases hx; cases hy; rfl
  · cases hx
theorem short_two {u0 u1 : Value} {a b : List Nat} (ha : a.length < 1000000) (hb : b.length < 1000000) : ∀ x ∈ [(u0, a), (u1, b)], x.2.length < 1000000 := by
  intro x hx
  simp only [List.mem_cons, List.not_mem_nil, or_false] at hx
  rcases hx with rfl | rfl
  · exact ha
  · exact hb

end Go.Proofs.YtfcmdefigldpnaaDoor

/- Package batch: no batch at all; the powers that move slots. No condition. -/
namespace Go.Proofs.YtfcmdefigldpnaaDoor
set_option linter.unusedVariables false
set_option maxRecDepth 8000
open Go Go.Den Go.RowKit Go.Mth Go.Dig

theorem Tryd_ent8 : Ent Tryd.prog 8 := ent_of Tryd.func8 (by kernel_rfl) rfl
theorem pack_nil (vv : Value) (h : Hp) : CallsH Tryd.prog 8 [.pointer none, vv] h fun v' h' => v' = .tuple #[.slice none 0 0, N 1] ∧ h = h' := by
  (apply enter Tryd.func8 rfl Tryd.ntmps8 rfl)
  refine runJ ?_
  exact fin2 rfl rfl rfl ⟨rfl, rfl⟩
theorem Tryd_ent12 : Ent Tryd.prog 12 := ent_of Tryd.func12 (by kernel_rfl) rfl
theorem unpack_nil (vv : Value) (h : Hp) : CallsH Tryd.prog 12 [.pointer none, vv] h fun v' h' => v' = .tuple #[.slice none 0 0, N 1] ∧ h = h' := by
  (apply enter Tryd.func12 rfl Tryd.ntmps12 rfl)
  refine runJ ?_
  exact fin2 rfl rfl rfl ⟨rfl, rfl⟩
theorem Tryd_ent11 : Ent Tryd.prog 11 := ent_of Tryd.func11 (by kernel_rfl) rfl
theorem power_nil (k : Int) (h : Hp) : CallsH Tryd.prog 11 [.pointer none, I k] h fun v' h' => v' = N 0 ∧ h = h' := by
  (apply enter Tryd.func11 rfl Tryd.ntmps11 rfl)
  refine runJ ?_
  exact fin1 rfl rfl ⟨rfl, rfl⟩

/-- The power of X that so many steps make. -/
def pow3 (n k : Nat) : Nat := 3 ^ k % (2 * n)
set_option maxHeartbeats 1000000 in
theorem power_spec (g vt vp : Value) (L t : Nat) (k : Int) (h : Hp) (G : Var h g 77 [N (2 ^ L), N (2 ^ L / 2), U t, vt, vp]) (hL : 1 ≤ L) (hL2 : L ≤ 12) (hk : -9223372036854775808 ≤ k ∧ k < 9223372036854775808) :
    CallsH Tryd.prog 11 [g, I k] h fun v' h' => v' = N (pow3 (2 ^ L) (k.emod ((2 ^ L / 2 : Nat) : Int)).toNat) ∧ h = h' := by
  have hn : 2 ≤ 2 ^ L ∧ 2 ^ L ≤ 4096 := ⟨Nat.pow_le_pow_right (n := 2) (by omega) hL, Nat.pow_le_pow_right (n := 2) (by omega) hL2⟩
  have hM : ∀ a : Nat, a &&& (2 * 2 ^ L - 1) = a % (2 * 2 ^ L) := fun a => by
    rw [show 2 * 2 ^ L = 2 ^ (L + 1) by rw [Nat.pow_succ, Nat.mul_comm]]; exact Nat.and_two_pow_sub_one_eq_mod _ _
  generalize 2 ^ L = n at *
  obtain ⟨s, hs⟩ : ∃ s, s = n / 2 := ⟨_, rfl⟩
  rw [← hs] at G ⊢
  have hs1 : 1 ≤ s := by omega
  obtain ⟨gb, hgp, -⟩ := id G
  obtain ⟨e, he, hes, htm⟩ : ∃ e : Nat, (k.emod (s : Int)).toNat = e ∧ e < s ∧ (k.tmod (s : Int) = e ∨ k.tmod (s : Int) = (e : Int) - s) := by
    have h1 := Int.emod_nonneg k (show (s : Int) ≠ 0 by omega)
    have h2 := Int.emod_lt_of_pos k (show (0 : Int) < s by omega)
    have h3 := Int.tmod_eq_emod (a := k) (b := s)
    refine ⟨(k.emod (s : Int)).toNat, rfl, ?_, ?_⟩
    · change (k % (s : Int)).toNat < s
      omega
    · change k.tmod (s : Int) = ((k % (s : Int)).toNat : Int) ∨ k.tmod (s : Int) = ((k % (s : Int)).toNat : Int) - s
      rw [h3]
      split <;> omega
  rw [he]
  (apply enter Tryd.func11 rfl Tryd.ntmps11 rfl)
  refine runJ ?_
  refine s_remI (b := (s : Int)) rfl rfl rfl (by omega) ?_
  generalize k.tmod (s : Int) = tm at *
  have hp0 : 1 = pow3 n 0 := by unfold pow3; rw [Nat.pow_zero, Nat.mod_eq_of_lt (by omega)]
  have hps : ∀ j, pow3 n j < 2 * n ∧ pow3 n j * 3 &&& (2 * n - 1) = pow3 n (j + 1) := fun j => by
    refine ⟨Nat.mod_lt _ (by omega), ?_⟩
    rw [hM]
    unfold pow3
    rw [Nat.pow_succ, Nat.mod_mul_mod]
  refine runJ ?_
  (apply w_condD; exact rfl; exact rfl) <;> intro hc
  · refine runJ ?_
    (apply w_know (t := 22) (u := N (e)) rfl (congrArg I (by omega)))
    (first | (apply w_seqB; exact rfl; apply w_block; exact rfl) | skip)
    apply (w_loop (σ := Nat) rfl (fun j => [(0, g), (5, N (pow3 n j)), (22, N e), (23, N j)]) (fun j h' => h = h' ∧ j ≤ e) (fun j => e - j) 0)
    · rw [← hp0]; exact (Sub.cons rfl (Sub.cons rfl (Sub.cons rfl (Sub.cons rfl (Sub.nil _)))))
    · exact ⟨rfl, Nat.zero_le _⟩
    rintro j h' ⟨rfl, j1⟩
    have hpj := (hps j).1
    have hpn := (hps j).2
    refine runJ ?_
    (apply w_condD; exact rfl; exact rfl) <;> intro hj
    · refine runJ ?_
      rw [hpn]
      refine runJ ?_
      apply again_normal (j + 1)
      · exact (Sub.cons rfl (Sub.cons rfl (Sub.cons rfl (Sub.cons rfl (Sub.nil _)))))
      · exact ⟨rfl, hj⟩
      · omega
    · obtain rfl : j = e := by omega
      refine runJ ?_
      exact fin1 rfl rfl ⟨rfl, rfl⟩
  · refine runJ ?_
    (apply w_know (t := 22) (u := N (e)) rfl (congrArg I (by omega)))
    (first | (apply w_seqB; exact rfl; apply w_block; exact rfl) | skip)
    apply (w_loop (σ := Nat) rfl (fun j => [(0, g), (5, N (pow3 n j)), (22, N e), (23, N j)]) (fun j h' => h = h' ∧ j ≤ e) (fun j => e - j) 0)
    · rw [← hp0]; exact (Sub.cons rfl (Sub.cons rfl (Sub.cons rfl (Sub.cons rfl (Sub.nil _)))))
    · exact ⟨rfl, Nat.zero_le _⟩
    rintro j h' ⟨rfl, j1⟩
    have hpj := (hps j).1
    have hpn := (hps j).2
    refine runJ ?_
    (apply w_condD; exact rfl; exact rfl) <;> intro hj
    · refine runJ ?_
      rw [hpn]
      refine runJ ?_
      apply again_normal (j + 1)
      · exact (Sub.cons rfl (Sub.cons rfl (Sub.cons rfl (Sub.cons rfl (Sub.nil _)))))
      · exact ⟨rfl, hj⟩
      · omega
    · obtain rfl : j = e := by omega
      refine runJ ?_
      exact fin1 rfl rfl ⟨rfl, rfl⟩
end Go.Proofs.YtfcmdefigldpnaaDoor

/- Texts KeyA to KeyB of this work, joined, without what the law does not lean on. -/
import Derived.Test.YtfcmdefigldpnaaGreatDoorMCb22
import Derived.Laws.CopyRow
namespace Go.Proofs.YtfcmdefigldpnaaGreatDoor
set_option linter.unusedVariables false
set_option maxRecDepth 8000
open Go Go.Den Go.RowKit Go.Mth Go.Dig

structure KeyD where mk ::
  L : Nat
  t : Nat
  w : Nat
  vq : Value
  R : RngD
  vs : Value
  S : List (Value × List Nat)
structure KeyAt (h : Hp) (d g tp : Value) (D : KeyD) : Prop where mk ::
  var : Var h d 144 [N (2 ^ D.L), U D.t, D.vq, N D.w, g, D.vs, tp]
  rng : RngAt h g D.R
  pol : PolAt h D.vs D.S
  row : SlF h U D.vq D.R.qs
structure KeyOk (D : KeyD) : Prop where mk ::
  rok : RngOk D.R
  rl : D.R.L = D.L
  l3 : 3 ≤ D.L
  w1 : 1 ≤ D.w
  w16 : D.w ≤ 16
  t64 : D.t < 18446744073709551616
  q8 : D.R.qs.length ≤ 8
  sok : PolOk D.R D.S
  sl : D.S.length = D.R.qs.length
theorem KeyAt.ext {h h' : Hp} {d g tp : Value} {D : KeyD} (s : KeyAt h d g tp D) (e : Ext h h') : KeyAt h' d g tp D := ⟨s.var.ext e, s.rng.ext e, s.pol.ext e, s.row.ext e⟩
def hideG (n w : Nat) (qs ds : List Nat) : Option ((List (List Nat) × List Int) × List Nat) := match uniG n qs ds with
  | none => none
  | some (a, ds1) => match rowG (firstE w) n ds1 with
    | none => none
    | some (e, ds2) => some ((a, e), ds2)
def HidB (n q : Nat) (s hr a : List Nat) (e : List Int) (b : List Nat) : Prop := ∃ zs, Cnv n q a s zs ∧ b = subL q hr (addL q zs (liftL e q))
structure KeySep (d g tp : Value) (D : KeyD) : Prop where mk ::
  dt : pblk d ≠ pblk tp
  gt : pblk g ≠ pblk tp
  qt : D.vq.ownBlock = none ∨ D.vq.ownBlock ≠ pblk tp
  st : D.vs.ownBlock = none ∨ D.vs.ownBlock ≠ pblk tp
  sr : ∀ x ∈ D.S, x.1.ownBlock = none ∨ x.1.ownBlock ≠ pblk tp
  rq : D.R.vq.ownBlock = none ∨ D.R.vq.ownBlock ≠ pblk tp
  rt : D.R.vt.ownBlock = none ∨ D.R.vt.ownBlock ≠ pblk tp
  tb : ∀ x ∈ D.R.ts, TblSep (pblk tp) x
theorem KeyAt.only {h h' : Hp} {d g tp : Value} {D : KeyD} (s : KeyAt h d g tp D) (z : KeySep d g tp D) (k : Only (pblk tp) h h') : KeyAt h' d g tp D :=
  ⟨s.var.only k z.dt, ⟨s.rng.var.only k z.gt, s.rng.rq.only k z.rq, s.rng.rt.only k z.rt, fun x hx => (s.rng.tb x hx).only k (z.tb x hx)⟩, ⟨s.pol.row.only k z.st, fun x hx => (s.pol.el x hx).only k (z.sr x hx)⟩, s.row.only k z.qt⟩

theorem uniG_all9 {n : Nat} : ∀ (qs ds : List Nat) (ls : List (List Nat)) (ds' : List Nat), (∀ q ∈ qs, 0 < q) → uniG n qs ds = some (ls, ds') → ls.length = qs.length ∧ ∀ (i q : Nat) (l : List Nat), ls[i]? = some l → qs[i]? = some q → l.length = n ∧ ∀ x ∈ l, x < q
  | [], ds, ls, ds', _, h => by
    simp only [uniG, Option.some.injEq, Prod.mk.injEq] at h
    obtain ⟨rfl, -⟩ := h
    exact ⟨rfl, fun i q l hi => by cases hi⟩
  | q :: qs, ds, ls, ds', hq, h => by
    simp only [uniG] at h
    cases h1 : rowG (firstB q) n ds with
    | none => rw [h1] at h; cases h
    | some x =>
      obtain ⟨l, ds1⟩ := x
      rw [h1] at h
      dsimp only at h
      cases h2 : uniG n qs ds1 with
      | none => rw [h2] at h; cases h
      | some x2 =>
        obtain ⟨ls2, ds2⟩ := x2
        rw [h2] at h
        simp only [Option.some.injEq, Prod.mk.injEq] at h
        obtain ⟨rfl, rfl⟩ := h
        obtain ⟨a1, a2⟩ := uniG_all9 qs ds1 ls2 ds2 (fun q hq' => hq q (by simp [hq'])) h2
        refine ⟨by simp [a1], fun i q' l' hi hq' => ?_⟩
        cases i with
        | zero =>
          cases hi; cases hq'
          exact rowG_all (p := fun x => x < q) (fun ds r ds' h => firstB_lt (hq q (by simp)) ds r ds' h) n ds _ _ h1
        | succ i => exact a2 i q' l' hi hq'

theorem Tryz_ent47 : Ent Tryz.prog 47 := ent_of Tryz.func47 (by kernel_rfl) rfl
set_option maxHeartbeats 8000000 in
theorem hide_spec (d g tp vh : Value) (D : KeyD) (B : Option Nat) (ds : List Nat) (H : List (Value × List Nat)) (h : Hp) (K : KeyOk D) (A : KeyAt h d g tp D) (Z : KeySep d g tp D) (T : TapeAt h tp B ds false) (SH : PolAt h vh H) (PH : PolOk D.R H) (lH : H.length = D.R.qs.length) (nh : vh.ownBlock = none ∨ vh.ownBlock ≠ pblk tp) (nhr : ∀ x ∈ H, x.1.ownBlock = none ∨ x.1.ownBlock ≠ pblk tp) :
    CallsH Tryz.prog 47 [d, .agg #[vh]] h fun v' h' => Only (pblk tp) h h' ∧ match hideG (2 ^ D.L) D.w D.R.qs ds with
      | none => ∃ u1 u2, v' = .tuple #[.agg #[u1], .agg #[u2], N 11] ∧ u1.oneCell' = true ∧ u2.oneCell' = true ∧ TapeAt h' tp B [] true
      | some ((a, e), ds') => ∃ vb va rb ra pa, v' = .tuple #[.agg #[vb], .agg #[va], N 0] ∧ RowsAt h' h.size none vb rb ∧ RowsAt h' h.size pa va ra ∧ ra.map (·.2) = a ∧ rb.length = D.R.qs.length ∧ TapeAt h' tp B ds' false ∧
          ∀ (i q : Nat) (s hr : Value × List Nat) (ai : List Nat) (b : Value × List Nat), D.R.qs[i]? = some q → D.S[i]? = some s → H[i]? = some hr → a[i]? = some ai → rb[i]? = some b → HidB (2 ^ D.L) q s.2 hr.2 ai e b.2 := by
  have hp9 : 2 ^ D.L ≤ 2 ^ 9 := Nat.pow_le_pow_right (by decide) (by have := K.rok.l9; have := K.rl; omega)
  have hp3 : 2 ^ 3 ≤ 2 ^ D.L := Nat.pow_le_pow_right (by decide) K.l3
  have e9 : (2 : Nat) ^ 9 = 512 := by decide
  have e3' : (2 : Nat) ^ 3 = 8 := by decide
  obtain ⟨tk, htk, htl⟩ := T.pb
  have x0 := A.var
  (apply enter Tryz.func47 rfl Tryz.ntmps47 rfl)
  refine runJ ?_
  (apply s_box; exact rfl; exact rfl; exact rfl; exact rfl)
  intro p3 h1 x1 e1 b1
  (try dsimp only [Value.cells, List.toList_toArray] at x1)
  refine clsI ?_
  refine runJ ?_
  (apply s_alloc; exact rfl; exact rfl; exact rfl)
  intro p4 h2 x2 e2 b2
  (try dsimp only [Value.cells, List.toList_toArray] at x2)
  refine clsI ?_
  refine runJ ?_
  (apply s_alloc; exact rfl; exact rfl; exact rfl)
  intro p5 h3 x3 e3 b3
  (try dsimp only [Value.cells, List.toList_toArray] at x3)
  refine clsI ?_
  have E2 := e1.trans e2
  have E3 := E2.trans e3
  have x13 : Var h3 p3 56 [vh] := (x1.ext e2).ext e3
  have x23 : Var h3 p4 56 [.slice none 0 0] := x2.ext e3
  have x33 : Var h3 p5 56 [.slice none 0 0] := x3
  have A3 := A.ext E3
  have T3 := T.ext E3
  have v3 := A3.var
  have hdt := Z.dt
  have hs1 : h.size < h1.size := by obtain ⟨j, hj, hl⟩ := x1.blk; rw [b1] at hj; cases hj; exact hl
  have hs2 : h1.size < h2.size := by obtain ⟨j, hj, hl⟩ := x2.blk; rw [b2] at hj; cases hj; exact hl
  have hs3 : h2.size < h3.size := by obtain ⟨j, hj, hl⟩ := x3.blk; rw [b3] at hj; cases hj; exact hl
  have hp5 : pblk d ≠ pblk p5 := by
    obtain ⟨b, hb, hl⟩ := x0.blk
    rw [hb, b3]; intro e; have := Option.some.inj e; omega
  have PV : ∀ h', Two (some tk) (pblk p5) h3 h' → Var h' d 144 [N (2 ^ D.L), U D.t, D.vq, N D.w, g, D.vs, tp] := fun h' c => var_two v3 c (Nat.lt_trans htl (Nat.lt_trans hs1 (Nat.lt_trans hs2 hs3))) (by rw [← htk]; exact hdt) hp5
  have hq64 : ∀ q ∈ D.R.qs, 0 < q ∧ q < 18446744073709551616 := fun q hq => by have := (K.rok.q q hq).q61; have := (K.rok.q q hq).q1; omega
  refine runJN ?_
  (apply (r_drawnCl (Two (some tk) (pblk p5) h3)); exact rfl; exact mixed; kernel_rfl; exact Two.refl _ _ _)
  refine runJ ?_
  refine s_loadCell (u := tp) (off := 6) rfl rfl (rd_cl fun h' hc => ⟨_, _, PV h' hc, rfl⟩) rfl ?_
  refine runJ ?_
  refine s_loadCell (u := N (2 ^ D.L)) (off := 0 + 0) rfl rfl (rd_cl fun h' hc => ⟨_, _, PV h' hc, rfl⟩) rfl ?_
  refine runJ ?_
  refine s_loadCell (u := D.vq) (off := 0 + 2) rfl rfl (rd_cl fun h' hc => ⟨_, _, PV h' hc, rfl⟩) rfl ?_
  refine runJ ?_
  apply (s_call Tryz_ent104 rfl rfl rfl)
  refine (uniformP_spec tp B (2 ^ D.L) D.vq D.R.qs ds h3 T3 A3.row Z.qt hq64 (by omega) (by omega) (by have := K.rok.n0; omega) (by have := K.q8; omega)).mono ?_
  rintro r h4 ⟨k4, G4⟩
  refine ⟨(by first | exact trivial | exact by rw [← htk]; exact only_two1 k4), ?_⟩
  have hk4s := k4.1
  have hp45 : pblk p4 ≠ pblk p5 := by rw [b2, b3]; intro e; have := Option.some.inj e; omega
  have hp4t : pblk p4 ≠ pblk tp := by rw [b2, htk]; intro e; have := Option.some.inj e; omega
  have hp5t : pblk p5 ≠ pblk tp := by rw [b3, htk]; intro e; have := Option.some.inj e; omega
  have hp3t : pblk p3 ≠ pblk tp := by rw [b1, htk]; intro e; have := Option.some.inj e; omega
  have hp3 : pblk p3 ≠ pblk p5 := by rw [b1, b3]; intro e; have := Option.some.inj e; omega
  have hpk' : ∀ j, pblk tp = some j → j < h.size := fun j hj => by rw [htk] at hj; cases hj; exact htl
  have hBl := T.bl
  have hge4 : ∀ j, pblk p4 = some j → h.size ≤ j := fun j hj => by rw [b2] at hj; have := Option.some.inj hj; omega
  have hge5 : ∀ j, pblk p5 = some j → h.size ≤ j := fun j hj => by rw [b3] at hj; have := Option.some.inj hj; omega
  have x14 := x13.only k4 hp3t
  have x24 := x23.only k4 hp4t
  have x34 := x33.only k4 hp5t
  cases hU : uniG (2 ^ D.L) D.R.qs ds with
  | none =>
    have hG : hideG (2 ^ D.L) D.w D.R.qs ds = none := by unfold hideG; rw [hU]
    rw [hG]
    rw [hU] at G4
    obtain ⟨rfl, T4⟩ := G4
    refine runJ ?_
    (apply s_storeV; exact rfl; exact rfl; exact rfl; (repeat (first | exact OneAll.nil | (apply OneAll.cons; (first | exact rfl | exact SlF.one (by assumption) | exact SlF.one (OwnF.sl (by assumption)) | exact Var.one (by assumption))))); exact rfl; exact rfl; exact x34; exact rfl)
    intro h5 x5 k5
    (try dsimp only [Value.cells, List.toList_toArray] at x5)
    refine ⟨(by first | exact (by rw [← htk]; exact (only_two1 k4).trans (only_two2 k5)) | exact trivial | exact Ext.refl _ | assumption | exact Ext.only (by assumption) _ | exact Only.trans (Ext.only (by assumption) _) (by assumption)), ?_⟩
    have x5 : Var h5 p5 56 [.slice none 0 0] := x5
    have x25 := x24.only k5 hp45
    have T5 := T4.own k5 hpk' hBl hge5
    have K5 : Only (pblk tp) h h5 := only_own ((E3.only _).trans k4) k5 hge5
    refine runJN ?_
    (apply (r_drawnCl (fun h' => Two (pblk p4) (pblk p5) h5 h' ∧ Var h' p4 56 [.slice none 0 0] ∧ Var h' p5 56 [.slice none 0 0])); exact rfl; exact mixed; kernel_rfl; exact ⟨Two.refl _ _ _, x25, x5⟩)
    refine runJ ?_
    refine s_loadV rfl rfl (rd_cl fun h' hc => hc.2.1) rfl rfl ?_
    refine runJ ?_
    refine s_loadV rfl rfl (rd_cl fun h' hc => hc.2.2) rfl rfl ?_
    refine runJ ?_
    (apply s_storeV; exact rfl; exact rfl; exact rfl; exact (OneAll.cons rfl OneAll.nil : OneAll [.slice none 0 0]); exact rfl; exact rfl; exact x25; exact rfl)
    intro hA xA kA
    have xA : Var hA p4 56 [.slice none 0 0] := xA
    have xA5 := x5.only kA (fun e => hp45 e.symm)
    refine ⟨⟨only_two1 kA, xA, xA5⟩, ?_⟩
    refine runJ ?_
    (apply s_storeV; exact rfl; exact rfl; exact rfl; exact (OneAll.cons rfl OneAll.nil : OneAll [.slice none 0 0]); exact rfl; exact rfl; exact xA5; exact rfl)
    intro hB xB kB
    have xB : Var hB p5 56 [.slice none 0 0] := xB
    have xB4 := xA.only kB hp45
    refine ⟨⟨(only_two1 kA).trans (only_two2 kB), xB4, xB⟩, ?_⟩
    have KB := only_own (only_own K5 kA hge4) kB hge5
    refine runJ ?_
    exact finCCT rfl rfl rfl rfl xB4 xB rfl rfl rfl rfl ⟨KB, _, _, rfl, rfl, rfl, (T5.own kA hpk' hBl hge4).own kB hpk' hBl hge5⟩
  | some q =>
    obtain ⟨als, ds1⟩ := q
    rw [hU] at G4
    obtain ⟨vr, ra, pa, rfl, RA, hma, T4⟩ := G4
    have hvr := RA.own.sl.one
    refine runJ ?_
    (apply s_storeV; exact rfl; exact rfl; exact rfl; exact (OneAll.cons hvr OneAll.nil : OneAll [vr]); exact rfl; exact rfl; exact x34; exact rfl)
    intro h5 x5 k5
    refine ⟨by rw [← htk]; exact (only_two1 k4).trans (only_two2 k5), ?_⟩
    have x5 : Var h5 p5 56 [vr] := x5
    have x25 := x24.only k5 hp45
    have x15 := x14.only k5 hp3
    have T5 := T4.own k5 hpk' hBl hge5
    have K5 : Only (pblk tp) h h5 := only_own ((E3.only _).trans k4) k5 hge5
    have RA5 := RA.low (by rw [← b3]; exact k5) hs3
    have A5 := A.only Z K5
    have v5 := A5.var
    refine runJN ?_
    (apply (r_drawnO (pblk tp)); exact rfl; exact mixed; kernel_rfl)
    refine runJ ?_
    apply (s_call Tryz_ent54 rfl rfl rfl)
    refine (errorsP_spec tp B (2 ^ D.L) D.w ds1 h5 T5 (by omega) (by omega) K.w1 K.w16).mono ?_
    rintro r h6 ⟨k6, G6⟩
    refine ⟨(by first | exact trivial | exact k6), ?_⟩
    have K6 := K5.trans k6
    have x16 := x15.only k6 hp3t
    have x26 := x25.only k6 hp4t
    have x56 := x5.only k6 hp5t
    have hs3t : tk < h3.size := by omega
    have RA6 := RA5.low (by rw [← htk]; exact k6) hs3t
    cases hE : rowG (firstE D.w) (2 ^ D.L) ds1 with
    | none =>
      have hG : hideG (2 ^ D.L) D.w D.R.qs ds = none := by unfold hideG; rw [hU]; dsimp only; rw [hE]
      rw [hG]
      rw [hE] at G6
      obtain ⟨rfl, T6⟩ := G6
      refine runJN ?_
      (apply (r_drawnCl (fun h' => Two (pblk p4) (pblk p5) h6 h' ∧ Var h' p4 56 [.slice none 0 0] ∧ Var h' p5 56 [vr])); exact rfl; exact mixed; kernel_rfl; exact ⟨Two.refl _ _ _, x26, x56⟩)
      refine runJ ?_
      refine s_loadV rfl rfl (rd_cl fun h' hc => hc.2.1) rfl rfl ?_
      refine runJ ?_
      refine s_loadV rfl rfl (rd_cl fun h' hc => hc.2.2) rfl rfl ?_
      refine runJ ?_
      (apply s_storeV; exact rfl; exact rfl; exact rfl; exact (OneAll.cons rfl OneAll.nil : OneAll [.slice none 0 0]); exact rfl; exact rfl; exact x26; exact rfl)
      intro hA xA kA
      have xA : Var hA p4 56 [.slice none 0 0] := xA
      have xA5 := x56.only kA (fun e => hp45 e.symm)
      refine ⟨⟨only_two1 kA, xA, xA5⟩, ?_⟩
      refine runJ ?_
      (apply s_storeV; exact rfl; exact rfl; exact rfl; exact (OneAll.cons hvr OneAll.nil : OneAll [vr]); exact rfl; exact rfl; exact xA5; exact rfl)
      intro hB xB kB
      have xB : Var hB p5 56 [vr] := xB
      have xB4 := xA.only kB hp45
      refine ⟨⟨(only_two1 kA).trans (only_two2 kB), xB4, xB⟩, ?_⟩
      have KB := only_own (only_own K6 kA hge4) kB hge5
      refine runJ ?_
      exact finCCT rfl rfl rfl rfl xB4 xB rfl rfl rfl rfl ⟨KB, _, _, rfl, rfl, hvr, (T6.own kA hpk' hBl hge4).own kB hpk' hBl hge5⟩
    | some q =>
      obtain ⟨es, ds2⟩ := q
      have hG : hideG (2 ^ D.L) D.w D.R.qs ds = some ((als, es), ds2) := by unfold hideG; rw [hU]; dsimp only; rw [hE]
      rw [hG]
      rw [hE] at G6
      obtain ⟨ue, rfl, OE, T6⟩ := G6
      obtain ⟨le, be⟩ := rowG_all (p := fun r : Int => -(D.w : Int) ≤ r ∧ r ≤ D.w) (fun ds r ds' h => by
        cases ds with
        | nil => cases h
        | cons d0 ds0 => cases h; exact errV_le D.w d0) _ ds1 es ds2 hE
      have hw16 := K.w16
      have be64 : ∀ x ∈ es, -9223372036854775808 ≤ x ∧ x < 9223372036854775808 := fun x hx => by have := be x hx; omega
      have A6 := A.only Z K6
      have v6 := A6.var
      have hRL := K.rl
      have sE := OE.sl
      have hlq : 0 < D.R.qs.length := K.rok.n0
      have hq8 := K.q8
      have P6 : ∀ h', Ext h6 h' → ParAt h' ⟨((2 ^ D.L : Nat) : Int), D.t, D.vq, D.R.qs, ((D.w : Nat) : Int)⟩ := fun h' e => ⟨A6.row.ext e, fun q hq => (hq64 q hq).2, K.t64, by show D.R.qs.length ≤ _; omega⟩
      refine runJN ?_
      refine r_drawnKR (h := h6) (Ext h6) (fun i => Nat.beq i 14) (fun _ => false) Ext (fun _ p g => Var g p 56 [.slice none 0 0] ∧ ∃ b, pblk p = some b ∧ h6.size ≤ b) rfl mixed (by kernel_rfl) (fun _ _ e => e) (fun _ _ _ _ a e => ⟨a.1.ext e, a.2⟩) (Ext.refl _) ?_
      refine k_run (j := 9) h6 rfl rfl (by kernel_rfl) (by kernel_rfl) ?_
      refine runJ ?_
      refine s_loadA [N (2 ^ D.L), U D.t, D.vq, N D.w] (off := 0) rfl rfl (rd_varX v6) rfl rfl rfl ?_
      refine runJ ?_
      refine ⟨⟨rfl, ?_⟩⟩
      refine k_call rfl rfl rfl rfl Tryz_ent52 rfl ?_
      intro h7 hC7 hD7 hT7
      refine (top_spec ⟨((2 ^ D.L : Nat) : Int), D.t, D.vq, D.R.qs, ((D.w : Nat) : Int)⟩ h7 (P6 h7 hC7)).mono ?_
      rintro _ h8 ⟨rfl, e8⟩
      refine ⟨hC7.trans e8, .inl ⟨e8, ?_⟩⟩
      rw [show (D.R.qs.length : Int) - 1 = ((D.R.qs.length - 1 : Nat) : Int) by omega]
      refine k_call rfl rfl rfl rfl Tryz_ent55 rfl ?_
      intro h9 hC9 hD9 hT9
      refine (ringLift_spec g ue D.R es (D.R.qs.length - 1) h9 K.rok (A6.rng.ext hC9) (sE.ext hC9) be64 (by rw [hRL]; exact le) (by omega)).mono ?_
      rintro _ hL ⟨eL, vl, rl, pl, rfl, RL, ml⟩
      refine ⟨hC9.trans eL, .inl ⟨eL, ?_⟩⟩
      have hvl := RL.own.sl.one
      refine k_run (j := 14) hL rfl rfl (by kernel_rfl) (by kernel_rfl) ?_
      refine runJ ?_
      refine ⟨⟨rfl, ?_⟩⟩
      refine k_alloc rfl rfl rfl rfl rfl (fun g p g' hC x e b => ⟨hC.trans e, x, _, b, hC.1⟩) ?_
      intro p8
      refine k_storeV (p := p8) (u := .agg #[vl]) (us := [vl]) (cs := [.slice none 0 0]) (fun g => Ext h6 g ∧ Var g p8 56 [vl] ∧ RowsAt g h6.size pl vl rl ∧ ∃ b, pblk p8 = some b ∧ h6.size ≤ b) rfl rfl rfl rfl rfl rfl (OneAll.cons hvl OneAll.nil) rfl rfl (by kernel_rfl) (fun _ _ a e => ⟨a.1.trans e, a.2.1.ext e, a.2.2.1.ext e, a.2.2.2⟩) (fun g hC hD hT => (hT (14, p8) (by simp)).1) (fun g g' hC hD hT x k => ?_) ?_
      · obtain ⟨xo, b, hb, hbl⟩ := hT (14, p8) (by simp)
        have hC' := hC.1
        have e' : Ext h6 g' := ext_onlyR hC k fun j hj => by rw [hb] at hj; cases hj; exact hbl
        exact ⟨e', e', x, ((RL.ext hD).neT xo k).base hC9.1, b, hb, hbl⟩
      refine k_run (j := 17) hL rfl rfl (by kernel_rfl) (by kernel_rfl) ?_
      refine runJ ?_
      refine ⟨⟨rfl, ?_⟩⟩
      refine k_done rfl ?_
      rintro h10 hC10 ⟨e10, x10, RL10, b8, hb8, hl8⟩ -
      refine runJN ?_
      have K10 : Only (pblk tp) h h10 := ⟨Nat.le_trans K6.1 e10.1, fun i hi hn => (e10.2 i (Nat.lt_of_lt_of_le hi K6.1)).trans (K6.2 i hi hn)⟩
      have A10 := A.only Z K10
      have v10 := A10.var
      have x510 := x56.ext e10
      have RA10 := RA6.ext e10
      have hs610 := e10.1
      have lenA : ra.length = D.R.qs.length := by
        have := (uniG_all9 D.R.qs ds als ds1 (fun q hq => (hq64 q hq).1) hU).1
        rw [← hma, List.length_map] at this
        exact this
      have PA : PolOk D.R ra := by
        obtain ⟨q1, q2⟩ := uniG_all9 D.R.qs ds als ds1 (fun q hq => (hq64 q hq).1) hU
        refine ⟨by omega, by omega, fun i q x hx hq => ?_⟩
        have hl : als[i]? = some x.2 := by rw [← hma, List.getElem?_map, hx]; rfl
        have := q2 i q x.2 hl hq
        rw [hRL]; exact this
      have lS := K.sl
      refine r_drawnKR (h := h10) (Ext h10) (fun i => Nat.beq i 13) (fun _ => false) Ext (fun _ p g => Var g p 56 [.slice none 0 0] ∧ ∃ b, pblk p = some b ∧ h10.size ≤ b) rfl mixed (by kernel_rfl) (fun _ _ e => e) (fun _ _ _ _ a e => ⟨a.1.ext e, a.2⟩) (Ext.refl _) ?_
      refine k_run (j := 9) h10 rfl rfl (by kernel_rfl) (by kernel_rfl) ?_
      refine runJ ?_
      refine s_loadA [D.vs] (off := 5) rfl rfl (rd_varX v10) rfl rfl rfl ?_
      refine runJ ?_
      refine ⟨⟨rfl, ?_⟩⟩
      refine k_call rfl rfl rfl rfl Tryz_ent56 rfl ?_
      intro h11 hC11 hD11 hT11
      refine (ringMul_spec g vr D.vs D.R ra D.S h11 K.rok (A10.rng.ext hC11) (RA10.pol.ext hC11) (A10.pol.ext hC11) PA K.sok (by omega)).mono ?_
      rintro _ hM ⟨eM, vm, rm, pm, rfl, RM, lm, mm⟩
      refine ⟨hC11.trans eM, .inl ⟨eM, ?_⟩⟩
      have hvm := RM.own.sl.one
      refine k_run (j := 13) hM rfl rfl (by kernel_rfl) (by kernel_rfl) ?_
      refine runJ ?_
      refine ⟨⟨rfl, ?_⟩⟩
      refine k_alloc rfl rfl rfl rfl rfl (fun g p g' hC x e b => ⟨hC.trans e, x, _, b, hC.1⟩) ?_
      intro p10
      refine k_storeV (p := p10) (u := .agg #[vm]) (us := [vm]) (cs := [.slice none 0 0]) (fun g => Ext h10 g ∧ Var g p10 56 [vm] ∧ RowsAt g h10.size pm vm rm ∧ ∃ b, pblk p10 = some b ∧ h10.size ≤ b) rfl rfl rfl rfl rfl rfl (OneAll.cons hvm OneAll.nil) rfl rfl (by kernel_rfl) (fun _ _ a e => ⟨a.1.trans e, a.2.1.ext e, a.2.2.1.ext e, a.2.2.2⟩) (fun g hC hD hT => (hT (13, p10) (by simp)).1) (fun g g' hC hD hT x k => ?_) ?_
      · obtain ⟨xo, b, hb, hbl⟩ := hT (13, p10) (by simp)
        have hC' := hC.1
        have e' : Ext h10 g' := ext_onlyR hC k fun j hj => by rw [hb] at hj; cases hj; exact hbl
        exact ⟨e', e', x, ((RM.ext hD).neT xo k).base hC11.1, b, hb, hbl⟩
      refine k_run (j := 16) hM rfl rfl (by kernel_rfl) (by kernel_rfl) ?_
      refine runJ ?_
      refine ⟨⟨rfl, ?_⟩⟩
      refine k_done rfl ?_
      rintro h12 hC12 ⟨e12, x12, RM12, b10, hb10, hl10⟩ -
      refine runJN ?_
      have lSq : D.S.length = D.R.qs.length := K.sl
      have htl2 : D.R.ts.length = D.R.qs.length := by have := congrArg List.length K.rok.map; rwa [List.length_map] at this
      have cm : ∀ (i q : Nat) (x y r : Value × List Nat), ra[i]? = some x → D.S[i]? = some y → D.R.qs[i]? = some q → rm[i]? = some r → Cnv (2 ^ D.L) q x.2 y.2 r.2 := fun i q x y r hx hy hq hr => by
        obtain ⟨t, ht⟩ := get_lt (l := D.R.ts) (j := i) (by have := (List.getElem?_eq_some_iff.1 hq).1; omega)
        obtain ⟨k1, k2, -⟩ := K.rok.ok t (List.mem_of_getElem? ht)
        have hqt : t.2.q = q := by
          have := congrArg (fun l => l[i]?) K.rok.map
          simp only [List.getElem?_map, ht, Option.map_some, hq] at this
          exact Option.some.inj this
        have := prd_cnv k1 (mm i x y t r hx hy ht hr)
        rw [k2, hqt, hRL] at this
        exact this
      have lenL : rl.length = D.R.qs.length := by
        have := congrArg List.length ml
        rw [List.length_map, List.length_map, List.length_take] at this
        omega
      have cl : ∀ (i q : Nat) (r : Value × List Nat), D.R.qs[i]? = some q → rl[i]? = some r → r.2 = liftL es q := fun i q r hq hr => by
        have h1 := congrArg (fun l => l[i]?) ml
        simp only [List.getElem?_map, hr, Option.map_some] at h1
        have h2 : (D.R.qs.take (D.R.qs.length - 1 + 1))[i]? = some q := by
          rw [List.getElem?_take, if_pos (by have := (List.getElem?_eq_some_iff.1 hq).1; omega)]; exact hq
        rw [h2] at h1
        simpa using h1
      have PM : PolOk D.R rm := ⟨by omega, by omega, fun i q x hx hq => by
        have hi := (List.getElem?_eq_some_iff.1 hq).1
        obtain ⟨a, ha⟩ := get_lt (l := ra) (j := i) (by omega)
        obtain ⟨s, hs⟩ := get_lt (l := D.S) (j := i) (by omega)
        rw [hRL]
        exact (cm i q a s x ha hs hq hx).1⟩
      have PL : PolOk D.R rl := ⟨by omega, by omega, fun i q x hx hq => by
        rw [cl i q x hq hx, hRL]
        have hq0 := (hq64 q (List.mem_of_getElem? hq)).1
        exact ⟨by unfold liftL; rw [List.length_map]; exact le, fun a ha => by
          unfold liftL at ha
          obtain ⟨b, -, rfl⟩ := List.mem_map.1 ha
          exact liftm_lt9 hq0⟩⟩
      have K12 : Only (pblk tp) h h12 := ⟨Nat.le_trans K10.1 e12.1, fun i hi hn => (e12.2 i (Nat.lt_of_lt_of_le hi K10.1)).trans (K10.2 i hi hn)⟩
      have A12 := A.only Z K12
      have v12 := A12.var
      have x812 := x10.ext e12
      have RL12 := RL10.ext e12
      have ADD := ringAdd_spec g vm vl D.R rm rl h12 K.rok A12.rng RM12.pol RL12.pol PM PL (by omega)
      have hge10 : ∀ j, pblk p10 = some j → h10.size ≤ j := fun j hj => by rw [hb10] at hj; cases hj; exact hl10
      have hd10 : pblk d ≠ pblk p10 := by
        obtain ⟨b, hb, hl⟩ := x0.blk
        rw [hb, hb10]; intro e; have := Option.some.inj e; have := K10.1; omega
      have h810 : pblk p8 ≠ pblk p10 := by
        obtain ⟨b, hb, hl⟩ := x10.blk
        rw [hb, hb10]; intro e; have := Option.some.inj e; omega
      have x12 : Var h12 p10 56 [vm] := x12
      (apply (r_drawnR (Only (pblk p10) h12) (fun i => Nat.beq i 4)); exact rfl; exact mixed; kernel_rfl; exact Only.refl _ _)
      refine runJ ?_
      refine s_loadV rfl rfl (rd_now rfl (Only.refl _ _) x12) rfl rfl ?_
      refine runJ ?_
      apply (s_call Tryz_ent57 rfl rfl rfl)
      refine (ADD).mono ?_
      rintro _ h13 ⟨e13, v9, r9, rfl, R9, l9, c9⟩
      refine ⟨(by first | exact trivial | exact e13.only _), ?_⟩
      have hv9 := R9.own.sl.one
      have x1213 := x12.ext e13
      refine runJ ?_
      (apply s_storeV; exact rfl; exact rfl; exact rfl; exact (OneAll.cons hv9 OneAll.nil : OneAll [v9]); exact rfl; exact rfl; exact x1213; exact rfl)
      intro h14 x14' k14
      refine ⟨(e13.only _).trans k14, ?_⟩
      have x14' : Var h14 p10 56 [v9] := x14'
      have R9' := R9.neT x1213 k14
      have e1013 := e12.trans e13
      have e14 : Ext h10 h14 := ext_onlyR e1013 k14 hge10
      have K14 : Only (pblk tp) h h14 := ⟨Nat.le_trans K10.1 e14.1, fun i hi hn => (e14.2 i (Nat.lt_of_lt_of_le hi K10.1)).trans (K10.2 i hi hn)⟩
      have A14 := A.only Z K14
      have v14 := A14.var
      have SH14 : PolAt h14 vh H := ⟨SH.row.only K14 nh, fun x hx => (SH.el x hx).only K14 (nhr x hx)⟩
      have x314 : Var h14 p3 56 [vh] := ((x16.ext e10).ext e14)
      have x414 : Var h14 p4 56 [.slice none 0 0] := ((x26.ext e10).ext e14)
      have x514 : Var h14 p5 56 [vr] := (x510.ext e14)
      have P9 : PolOk D.R r9 := ⟨by omega, by omega, fun i q x hx hq => by
        have hi := (List.getElem?_eq_some_iff.1 hq).1
        obtain ⟨a, ha⟩ := get_lt (l := rm) (j := i) (by omega)
        obtain ⟨s, hs⟩ := get_lt (l := rl) (j := i) (by omega)
        rw [c9 i q a s x ha hs hq hx]
        exact addL_fit (hq64 q (List.mem_of_getElem? hq)).1 (PM.fit i q a ha hq).1 (PL.fit i q s hs hq).1⟩
      have SUB := ringSub_spec g vh v9 D.R H r9 h14 K.rok A14.rng SH14 R9'.pol PH P9 (by omega)
      have hd4 : pblk d ≠ pblk p4 := by
        obtain ⟨b, hb, hl⟩ := x0.blk
        rw [hb, b2]; intro e; have := Option.some.inj e; omega
      have hp34 : pblk p3 ≠ pblk p4 := by rw [b1, b2]; intro e; have := Option.some.inj e; omega
      have hp104 : pblk p10 ≠ pblk p4 := by rw [hb10, b2]; intro e; have := Option.some.inj e; have hs310 : h3.size ≤ h10.size := Nat.le_trans (Nat.le_trans k4.1 k5.1) (Nat.le_trans k6.1 e10.1); omega
      refine runJN ?_
      (apply (r_drawnO (pblk p4)); exact rfl; exact mixed; kernel_rfl)
      refine runJ ?_
      apply (s_call Tryz_ent69 rfl rfl rfl)
      refine (SUB).mono ?_
      rintro _ h15 ⟨e15, vb, rb, rfl, RB, lb, cb⟩
      refine ⟨(by first | exact trivial | exact e15.only _), ?_⟩
      have hvb := RB.own.sl.one
      have x415 := x414.ext e15
      refine runJ ?_
      (apply s_storeV; exact rfl; exact rfl; exact rfl; exact (OneAll.cons hvb OneAll.nil : OneAll [vb]); exact rfl; exact rfl; exact x415; exact rfl)
      intro h16 x416 k16
      refine ⟨(e15.only _).trans k16, ?_⟩
      have x416 : Var h16 p4 56 [vb] := x416
      have RB16 := RB.neT x415 k16
      have RA15 := ((RA10.ext e14).ext e15)
      have RA16 := RA15.neT x415 k16
      have x516 := (x514.ext e15).only k16 (fun e => hp45 e.symm)
      have T16 := ((((T6.ext e10).ext e14).ext e15)).own k16 hpk' hBl hge4
      have K16 : Only (pblk tp) h h16 := only_own (⟨Nat.le_trans K14.1 e15.1, fun i hi hn => (e15.2 i (Nat.lt_of_lt_of_le hi K14.1)).trans (K14.2 i hi hn)⟩) k16 hge4
      refine runJN ?_
      (apply (r_drawnCl (fun h' => Two (pblk p4) (pblk p5) h16 h' ∧ Var h' p4 56 [vb] ∧ Var h' p5 56 [vr])); exact rfl; exact mixed; kernel_rfl; exact ⟨Two.refl _ _ _, x416, x516⟩)
      refine runJ ?_
      refine s_loadV rfl rfl (rd_cl fun h' hc => hc.2.1) rfl rfl ?_
      refine runJ ?_
      refine s_loadV rfl rfl (rd_cl fun h' hc => hc.2.2) rfl rfl ?_
      refine runJ ?_
      (apply s_storeV; exact rfl; exact rfl; exact rfl; exact (OneAll.cons hvb OneAll.nil : OneAll [vb]); exact rfl; exact rfl; exact x416; exact rfl)
      intro hA xA kA
      have xA : Var hA p4 56 [vb] := xA
      have xA5 := x516.only kA (fun e => hp45 e.symm)
      refine ⟨⟨only_two1 kA, xA, xA5⟩, ?_⟩
      refine runJ ?_
      (apply s_storeV; exact rfl; exact rfl; exact rfl; exact (OneAll.cons hvr OneAll.nil : OneAll [vr]); exact rfl; exact rfl; exact xA5; exact rfl)
      intro hB xB kB
      have xB : Var hB p5 56 [vr] := xB
      have xB4 := xA.only kB hp45
      refine ⟨⟨(only_two1 kA).trans (only_two2 kB), xB4, xB⟩, ?_⟩
      have KB := only_own (only_own K16 kA hge4) kB hge5
      refine runJ ?_
      have RBz := ((RB16.neT x416 kA).neT xA5 kB).base K14.1
      have RAz := ((RA16.neT x416 kA).neT xA5 kB).base E3.1
      refine finCCT rfl rfl rfl rfl xB4 xB rfl rfl rfl rfl ⟨KB, vb, vr, rb, ra, pa, rfl, RBz, RAz, hma, by omega, (T16.own kA hpk' hBl hge4).own kB hpk' hBl hge5, fun i q s hr ai b hq hs hh ha hb => ?_⟩
      have hi := (List.getElem?_eq_some_iff.1 hq).1
      obtain ⟨x9, hx9⟩ := get_lt (l := r9) (j := i) (by omega)
      obtain ⟨xm, hxm⟩ := get_lt (l := rm) (j := i) (by omega)
      obtain ⟨xl, hxl⟩ := get_lt (l := rl) (j := i) (by omega)
      obtain ⟨xa, hxa⟩ := get_lt (l := ra) (j := i) (by omega)
      have hai : xa.2 = ai := by
        rw [← hma, List.getElem?_map, hxa] at ha
        exact Option.some.inj ha
      refine ⟨xm.2, ?_, ?_⟩
      · rw [← hai]; exact cm i q xa s xm hxa hs hq hxm
      · rw [cb i q hr x9 b hh hx9 hq hb, c9 i q xm xl x9 hxm hxl hq hx9, cl i q xl hq hxl]

def RowSep (rows : List (Value × List Nat)) : Prop := ∀ (i j : Nat) (x y : Value × List Nat), rows[i]? = some x → rows[j]? = some y → i ≠ j → x.1.ownBlock = none ∨ x.1.ownBlock ≠ y.1.ownBlock
theorem RowSep.push {rows : List (Value × List Nat)} {w : Value} {ws : List Nat} {z : Nat} (s : RowSep rows) (hr : ∀ x ∈ rows, ∀ k, x.1.ownBlock = some k → k < z) (hw : ∀ k, w.ownBlock = some k → z ≤ k) : RowSep (rows ++ [(w, ws)]) := by
  intro i j x y hx hy hij
  have key : ∀ (i : Nat) (x : Value × List Nat), (rows ++ [(w, ws)])[i]? = some x → rows[i]? = some x ∨ i = rows.length ∧ x = (w, ws) := fun i x hx => by
    by_cases hi : i < rows.length
    · rw [List.getElem?_append_left hi] at hx; exact .inl hx
    · rw [List.getElem?_append_right (by omega)] at hx
      have : i - rows.length = 0 := by
        have := (List.getElem?_eq_some_iff.1 hx).1
        simp at this; omega
      rw [this] at hx
      exact .inr ⟨by omega, (Option.some.inj hx).symm⟩
  rcases key i x hx with hx | ⟨hi, rfl⟩ <;> rcases key j y hy with hy | ⟨hj, rfl⟩
  · exact s i j x y hx hy hij
  · cases hb : x.1.ownBlock with
    | none => exact .inl rfl
    | some k =>
      refine .inr fun e => ?_
      have h1 := hr x (List.mem_of_getElem? hx) k hb
      have h2 := hw k e.symm
      omega
  · show w.ownBlock = none ∨ w.ownBlock ≠ y.1.ownBlock
    cases hb : w.ownBlock with
    | none => exact .inl rfl
    | some k =>
      refine .inr fun e => ?_
      have h1 := hr y (List.mem_of_getElem? hy) k e.symm
      have h2 := hw k hb
      omega
  · omega

set_option maxHeartbeats 4000000 in
theorem ringLiftS_spec (g vv : Value) (R : RngD) (xs : List Int) (l : Nat) (h : Hp) (K : RngOk R) (A : RngAt h g R) (s : SlF h I vv xs) (hx : ∀ x ∈ xs, -9223372036854775808 ≤ x ∧ x < 9223372036854775808) (hl : xs.length = 2 ^ R.L) (hlev : l < R.qs.length) :
    CallsH Tryz.prog 55 [g, vv, N l] h fun v' h' => Ext h h' ∧ ∃ vr rows p, v' = .tuple #[.agg #[vr], N 0] ∧ RowsAt h' h.size p vr rows ∧ rows.map (·.2) = (R.qs.take (l + 1)).map (liftL xs) ∧ RowSep rows := by
  have hn : 2 ≤ 2 ^ R.L ∧ 2 ^ R.L ≤ 512 := ⟨Nat.pow_le_pow_right (n := 2) (by omega) K.l1, Nat.pow_le_pow_right (n := 2) (by omega) K.l9⟩
  have h24 := K.n24
  have G := A.var
  have rq := A.rq
  have hqk := K.q
  obtain ⟨L, qs, ts, vq, vt⟩ := R
  dsimp only at G rq hqk hn hl hlev h24 ⊢
  generalize 2 ^ L = n at *
  (apply enter Tryz.func55 rfl Tryz.ntmps55 rfl)
  refine runJ ?_
  (apply s_alloc; exact rfl; exact rfl; exact rfl)
  intro p6 h1 x1 e1 b1
  (try dsimp only [Value.cells, List.toList_toArray] at x1)
  refine clsI ?_
  have G1 := G.ext e1
  refine runJ ?_
  (apply w_condF; exact rfl; exact rfl; exact (show ¬ qs.length ≤ l by omega))
  refine runJ ?_
  (apply w_condF; exact rfl; exact rfl; exact (show ¬ xs.length ≠ n by omega))
  have c0 := rq.cut (lo := 0) (hi := l + 1) (Nat.zero_le _) (by omega)
  rw [List.drop_zero, Nat.sub_zero] at c0
  refine runJ ?_
  (apply (s_build ([.slice none 0 0])); exact rfl; exact rfl; exact rfl; (repeat (first | exact CellsAll.nil | (apply CellsAll.cons; (first | exact oneL (by assumption) | exact oneL (SlF.one (by assumption)) | exact oneL (SlF.one (OwnF.sl (by assumption))) | exact oneL (Var.one (by assumption)) | exact rfl)))); exact rfl; exact rfl)
  refine runJ ?_
  (apply s_alloc; exact rfl; exact rfl; exact rfl)
  intro p8 h2 x2 e2 b2
  (try dsimp only [Value.cells, List.toList_toArray] at x2)
  refine clsI ?_
  refine runJ ?_
  (apply s_storeV; exact rfl; exact rfl; exact rfl; (repeat (first | exact OneAll.nil | (apply OneAll.cons; (first | exact rfl | exact SlF.one (by assumption) | exact SlF.one (OwnF.sl (by assumption)) | exact Var.one (by assumption))))); exact rfl; exact rfl; exact x2; exact rfl)
  intro h3 x3 k3
  (try dsimp only [Value.cells, List.toList_toArray] at x3)
  refine ⟨(by first | exact trivial | exact Ext.refl _ | assumption | exact Ext.only (by assumption) _ | exact Only.trans (Ext.only (by assumption) _) (by assumption)), ?_⟩
  have e3 : Ext h1 h3 := k3.oldV e2 b2 (Nat.le_refl _)
  have e03 := e1.trans e3
  have G3 := G1.ext e3
  have x13 := x1.ext e3
  have q3 := rq.ext e03
  have c3 := q3.cut (lo := 0) (hi := l + 1) (Nat.zero_le _) (by omega)
  rw [List.drop_zero, Nat.sub_zero] at c3
  have hcl : (qs.take (l + 1)).length = l + 1 := by rw [List.length_take]; omega
  have hcq : ∀ q ∈ qs.take (l + 1), QOk L q := fun q hq => hqk q (List.mem_of_mem_take hq)
  have hk3s := k3.1
  have hb23 : h1.size < h3.size := by obtain ⟨j, hj, hlj⟩ := x3.blk; rw [b2] at hj; cases hj; exact hlj
  refine runJ ?_
  generalize qs.take (l + 1) = row at *
  (first | (apply w_seqB; exact rfl; apply w_block; exact rfl) | skip)
  apply (w_loop (σ := Nat × List (Value × List Nat) × Value) rfl (fun j => [(0, g), (1, vv), (6, p6), (8, p8), (47, cutV 1 vq 0 (l + 1)), (48, N row.length), (49, N j.1)])
    (fun j h' => Ext h1 h' ∧ h3.size ≤ h'.size ∧ j.1 ≤ row.length ∧ Var h' p8 56 [j.2.2] ∧ RowsAt h' h1.size (some h1.size) j.2.2 j.2.1 ∧ j.2.1.map (·.2) = (row.take j.1).map (liftL xs) ∧ RowSep j.2.1) (fun j => row.length - j.1) (0, [], .slice none 0 0))
  · exact subs
  · exact ⟨e3, Nat.le_refl _, Nat.zero_le _, x3, RowsAt.nil _ _ _, rfl, fun i j x y hx => by cases hx⟩
  rintro ⟨j, rows, vR⟩ h4 ⟨e4, z4, j1, x4, R4, m4, d4⟩
  dsimp only at e4 z4 j1 x4 R4 m4 d4 ⊢
  have G4 := G1.ext e4
  have s4 := s.ext (e1.trans e4)
  have c4 := c0.ext (e1.trans e4)
  have hpv : pblk p8 ≠ vR.ownBlock := by
    rw [b2]; intro e
    rcases R4.vp with h0 | h0
    · rw [h0] at e; cases e
    · exact h0 e.symm
  refine runJ ?_
  (apply w_condD; exact rfl; exact rfl) <;> intro hj
  · obtain ⟨q, hqj⟩ := get_lt hj
    have hq := hcq q (List.mem_of_getElem? hqj)
    have hq61 := hq.q61
    have hq1 := hq.q1
    have hrl : rows.length = j := by
      have := congrArg List.length m4
      rw [List.length_map, List.length_map, List.length_take] at this
      omega
    refine runJ ?_
    (apply (s_make (f := U) (bytes := 8) (0)); (first | exact isK_c | exact isK_t rfl); (first | exact isK_c | exact isK_t rfl); exact rfl; exact rfl; exact rfl; exact rfl; exact rfl; exact rfl; omega; omega; omega)
    intro w5 h5 o5 e5 b5
    refine clsI ?_
    refine runJ ?_
    (first | (apply w_seqB; exact rfl; apply w_block; exact rfl) | skip)
    apply (w_loop (σ := Nat × List Nat) rfl (fun k => [(0, g), (1, vv), (6, p6), (8, p8), (47, cutV 1 vq 0 (l + 1)), (48, N row.length), (49, N j), (10, U q), (11, w5), (58, vv), (59, N xs.length), (60, N k.1)])
      (fun k h' => Ext h4 h' ∧ k.1 ≤ n ∧ OwnF h' h4.size 26 U w5 k.2 ∧ k.2.length = n ∧ ∀ (i : Nat) (y : Nat), k.2[i]? = some y → y = if i < k.1 then liftm (xs.getD i 0) q else 0) (fun k => n - k.1) (0, List.replicate n 0))
    · exact subs
    · exact ⟨e5, Nat.zero_le _, o5, by simp, fun i y hy => by rw [if_neg (Nat.not_lt_zero _)]; have := List.mem_of_getElem? hy; simp at this; exact this.2⟩
    clear o5
    rintro ⟨k, ys⟩ h6 ⟨e6, k1, o6, k2, k3⟩
    dsimp only at e6 k1 o6 k2 k3 ⊢
    have s6 := s4.ext e6
    refine runJ ?_
    (apply w_condD; exact rfl; exact rfl) <;> intro hk
    · obtain ⟨x, hxk⟩ := get_lt hk
      have hxb := hx x (List.mem_of_getElem? hxk)
      have hky : k < ys.length := by omega
      have hxg : xs.getD k 0 = x := by rw [List.getD_eq_getElem?_getD, hxk]; rfl
      refine runJ ?_
      apply (s_call Tryz_ent110 rfl rfl rfl)
      refine (lift_spec x q h6 hxb (by omega)).mono ?_
      rintro _ _ ⟨rfl, rfl⟩
      refine clsI ?_
      refine runJ ?_
      (apply (s_storeF (liftm x q)); exact rfl; exact rfl; exact rfl; exact rfl; exact rfl; exact o6; exact rfl; (first | assumption | omega))
      intro h7 o7 k7
      refine clsI ?_
      refine runJ ?_
      apply again_normal (k + 1, ys.set k (liftm x q))
      · exact subs
      · refine ⟨o6.old k7 e6 (Nat.le_refl _), by dsimp only; omega, o7, by simp [k2], fun i y hy => ?_⟩
        dsimp only at hy ⊢
        rcases set_get hky hy with ⟨rfl, rfl⟩ | ⟨hik, hy⟩
        · rw [if_pos (by omega), hxg]
        · rw [k3 i y hy]
          by_cases hi : i < k
          · rw [if_pos hi, if_pos (show i < k + 1 by omega)]
          · rw [if_neg hi, if_neg (show ¬ i < k + 1 by omega)]
      · dsimp only; omega
    · have hys : ys = liftL xs q := by
        refine list_eq (by unfold liftL; rw [List.length_map]; omega) fun i a b ha hb => ?_
        have hi := (List.getElem?_eq_some_iff.1 ha).1
        rw [k3 i a ha, if_pos (by omega)]
        obtain ⟨x, hxi⟩ := get_lt (l := xs) (j := i) (by omega)
        unfold liftL at hb
        rw [List.getElem?_map, hxi] at hb
        rw [List.getD_eq_getElem?_getD, hxi]
        exact Option.some.inj hb
      subst hys
      have R6 := R4.ext e6
      have x6 := x4.ext e6
      have e16 := e4.trans e6
      have o6one := o6.sl.one
      refine runJ ?_
      (refine s_app1V (bytes := 24) ((w5, liftL xs q)) R6.own e16 rfl rfl rfl rfl rfl rfl rfl rfl rfl (by first | exact rfl | exact congrArg some (congrArg I (by omega))) o6one rfl rfl (fun _ _ => trivial) (by omega) (by simp only [maxLen]; omega) ?_)
      intro v7 h7 o7 e7 k7 b7
      have x7 := x6.only k7 hpv
      refine runJ ?_
      (apply s_storeC; exact rfl; exact rfl; (first | exact rfl | exact SlF.one (by assumption) | exact SlF.one (OwnF.sl (by assumption)) | exact Var.one (by assumption)); exact rfl; exact rfl; exact x7; exact rfl)
      intro h8 x8 k8
      refine ⟨(by first | exact trivial | exact Ext.refl _ | assumption | exact Ext.only (by assumption) _ | exact Only.trans (Ext.only (by assumption) _) (by assumption)), ?_⟩
      have e8 : Ext h1 h8 := k8.oldV e7 b2 (Nat.le_refl _)
      rw [b2] at k8
      have R8 := R6.push (z := h4.size) (o6.base (Nat.le_trans e2.1 (Nat.le_trans hk3s z4))) (fun k hk => (o6.blk k hk).1) (fun k hk => (R4.own.blk k hk).2) (Nat.lt_of_lt_of_le hb23 z4) e6.1 o7 k7 b7 k8
      refine runJ ?_
      apply again_normal (j + 1, rows ++ [(w5, liftL xs q)], v7)
      · exact subs
      · refine ⟨e8, Nat.le_trans z4 (Nat.le_trans e6.1 (Nat.le_trans k7.1 k8.1)), hj, x8, R8, ?_, d4.push (z := h4.size) (fun x hx k hk => ((R4.el x hx).blk k hk).2) fun k hk => (o6.blk k hk).1⟩
        dsimp only
        rw [List.map_append, m4, take_snoc hqj, List.map_append]; rfl
      · dsimp only; omega
  · have hjn : j = row.length := by omega
    subst hjn
    rw [List.take_length] at m4
    have x14 := x1.ext e4
    refine runJ ?_
    (apply s_storeV; exact rfl; exact rfl; exact rfl; exact (OneAll.cons R4.own.sl.one OneAll.nil : OneAll [vR]); exact rfl; exact rfl; exact x14; exact rfl)
    intro h5 x5 k5
    refine ⟨trivial, ?_⟩
    have x5 : Var h5 p6 56 [vR] := x5
    have e5 : Ext h h5 := k5.oldV (e1.trans e4) b1 (Nat.le_refl _)
    rw [b1] at k5
    have hb01 : h.size < h1.size := by obtain ⟨b, hb, hlb⟩ := x1.blk; rw [b1] at hb; cases hb; exact hlb
    refine runJ ?_
    exact finCT rfl rfl rfl x5 rfl rfl ⟨e5, _, rows, _, rfl, (R4.low k5 hb01).base e1.1, m4, d4⟩
end Go.Proofs.YtfcmdefigldpnaaGreatDoor


namespace Go.Den
set_option linter.unusedVariables false
set_option maxRecDepth 8000
open Go Go.RowKit

section rules
variable {P : Program} {n : Nat} {Q : Post} {l : Fr} {ops : List Oper} {Ch : Hp → Prop} {E F : Nat → Bool} {K : Hp → Hp → Prop} {Φ : Nat → Value → Hp → Prop} {i : Nat} {D : Hp → Prop} {fl : List (Nat × Value)}

theorem k_make {α : Type} {f : α → Value} {d : Nat} {t : TypeId} {x y : Operand} {ln c bytes : Nat} {e : TypeId} {kl kc : IntKind} {z0 : Value} {ty : TypeId} {ps : String} {af : Array Edge} {g : Option (Nat × Bool)} (ho : opAt ops i = some ⟨some d, .makeSlice t x y, ty, ps, af, g⟩) (hg : gd ops l g = some true) (hF : F i = true) (hb : Nat.blt d n = true)
    (z1 : α) (hx : IsK (ev l x) kl ln) (hy : IsK (ev l y) kc c) (ht : P.underlying t = some (.slice e)) (hi : (P.info? e).map (fun i => (i.size, i.bytes, i.zero)) = some (1, bytes, some z0)) (hzs : z0.oneCell' = true) (hz1 : f z1 = z0)
    (h1 : ln ≤ c) (h2 : bytes * c ≤ 281474976710656) (h3 : c ≤ 9223372036854775807)
    (hc : ∀ h v h', Ch h → OwnF h' h.size e f v (List.replicate ln z1) → Ext h h' → v.ownBlock = some h.size → Ch h' ∧ Φ i v h')
    (k : ∀ v, SK P n ops Ch E F K Φ Q (i + 1) D ((i, v) :: fl) ((d, v) :: l)) : SK P n ops Ch E F K Φ Q i D fl l :=
  k_float ho hF hg (fun a w h hf hw hC hT => by
    subst hw
    cases hq : P.info? e with
    | none => rw [hq] at hi; cases hi
    | some inf =>
      rw [hq] at hi
      simp only [Option.map_some, Option.some.injEq, Prod.mk.injEq] at hi
      obtain ⟨i1, i2, i3⟩ := hi
      have hr := run_make (P := P) w t e inf z0 ht hq i3 kl kc ln c (by omega) (by omega) (by rw [i2, ← Int.natCast_mul]; omega) (by omega)
      simp only [Int.toNat_natCast, i1, Nat.mul_one] at hr
      have hmade : (madeCells z0.cells c).toList = List.replicate c z0 := by
        rw [cells_one hzs]
        apply List.ext_getElem
        · simp [madeCells]
        · intro j h1 h2
          simp [madeCells, Nat.mod_one]
      have ho : OwnF (w.alloc (.cells (madeCells z0.cells c) e)).heap w.heap.size e f (.slice (some ⟨w.heap.size, 0, none⟩) ln c) (List.replicate ln z1) := by
        refine ⟨by simp, .inr ⟨w.heap.size, c, _, by simp, Nat.le_refl _, heap_alloc_new w _, by simpa using h1, by simp [maxLen]; omega, by rw [size_madeCells]; simp, ?_⟩⟩
        rw [hmade]; simp [hz1, List.take_replicate, Nat.min_eq_left h1]
      have := hc _ _ _ hC ho (Ext.push _ _) rfl
      unfold Eff
      simp only [execOp, hf.ev hx.h, hf.ev hy.h, Sem.run_bind, hr]
      exact ⟨⟨rfl, rfl, rfl⟩, Ext.push _ _, this.1, this.2⟩) (fun a v hf => ⟨_, hf.put d v hb, k v⟩)
end rules

section copy
variable {P : Program} {n : Nat} {Q : Post} {l : Fr} {ops : List Oper} {Ch : Hp → Prop} {E : Nat → Bool} {i d : Nat} {h : Hp} {x y : Operand} {t : TypeId}
end copy
end Go.Den


namespace Go.Proofs.YtfcmdefigldpnaaGreatDoor
set_option linter.unusedVariables false
set_option maxRecDepth 8000
open Go Go.Den Go.RowKit Go.Mth Go.Dig

def zerosL (n : Nat) (qs : List Nat) : List (List Nat) := qs.map (liftL (List.replicate n 0))
theorem KeyAt.par {h : Hp} {d g tp : Value} {D : KeyD} (K : KeyOk D) (A : KeyAt h d g tp D) : ParAt h ⟨((2 ^ D.L : Nat) : Int), D.t, D.vq, D.R.qs, ((D.w : Nat) : Int)⟩ :=
  ⟨A.row, fun q hq => by have := (K.rok.q q hq).q61; show q < 18446744073709551616; omega, K.t64, by have := K.q8; show D.R.qs.length ≤ _; omega⟩
theorem lvl_nat {l : List Nat} (h : 0 < l.length) : (l.length : Int) - 1 = ((l.length - 1 : Nat) : Int) := by omega

theorem Tryz_ent48 : Ent Tryz.prog 48 := ent_of Tryz.func48 (by kernel_rfl) rfl
set_option maxHeartbeats 4000000 in
theorem zero_spec (d g tp : Value) (D : KeyD) (h : Hp) (K : KeyOk D) (A : KeyAt h d g tp D) :
    CallsH Tryz.prog 48 [d] h fun v' h' => Ext h h' ∧ ∃ vz rz p, v' = .agg #[vz] ∧ RowsAt h' h.size p vz rz ∧ rz.map (·.2) = zerosL (2 ^ D.L) D.R.qs ∧ RowSep rz := by
  have hp9 : 2 ^ D.L ≤ 2 ^ 9 := Nat.pow_le_pow_right (by decide) (by have := K.rok.l9; have := K.rl; omega)
  have e9 : (2 : Nat) ^ 9 = 512 := by decide
  have x0 := A.var
  have hlq : 0 < D.R.qs.length := K.rok.n0
  have hRL := K.rl
  have hq8 := K.q8
  (apply enter Tryz.func48 rfl Tryz.ntmps48 rfl)
  refine runJ ?_
  (apply s_alloc; exact rfl; exact rfl; exact rfl)
  intro p2 h1 x1 e1 b1
  (try dsimp only [Value.cells, List.toList_toArray] at x1)
  refine clsI ?_
  have A1 := A.ext e1
  have v1 := A1.var
  refine runJN ?_
  refine r_drawnKR (h := h1) (Ext h1) (fun i => Nat.beq i 9 || Nat.beq i 14 || Nat.beq i 19) (fun _ => false) Ext (fun i p g => match i with
    | 9 => OwnF g h1.size 2 I p (List.replicate (2 ^ D.L) 0)
    | 14 => p = N (D.R.qs.length - 1)
    | _ => Var g p 56 [.slice none 0 0] ∧ ∃ b, pblk p = some b ∧ h1.size ≤ b) rfl mixed (by kernel_rfl) (fun _ _ e => e) (fun i p g g' a e => ?_) (Ext.refl _) ?_
  · split at a
    · exact a.ext e
    · exact a
    · exact ⟨a.1.ext e, a.2⟩
  refine k_run (j := 9) h1 rfl rfl (by kernel_rfl) (by kernel_rfl) ?_
  refine runJ ?_
  refine ⟨⟨rfl, ?_⟩⟩
  refine k_make rfl rfl rfl rfl (0 : Int) (bytes := 8) (ln := 2 ^ D.L) (c := 2 ^ D.L) ⟨rfl⟩ ⟨rfl⟩ rfl rfl rfl rfl (Nat.le_refl _) (by omega) (by omega) (fun g v g' hC o e b => ⟨hC.trans e, o.base hC.1⟩) ?_
  intro v9
  refine k_run (j := 14) h1 rfl rfl (by kernel_rfl) (by kernel_rfl) ?_
  refine runJ ?_
  refine s_loadA [N (2 ^ D.L), U D.t, D.vq, N D.w] (off := 0) rfl rfl (rd_varX v1) rfl rfl rfl ?_
  refine runJ ?_
  refine ⟨⟨rfl, ?_⟩⟩
  refine k_fcallX rfl rfl rfl rfl Tryz_ent52 rfl (fun h7 hC7 _ => (top_spec ⟨((2 ^ D.L : Nat) : Int), D.t, D.vq, D.R.qs, ((D.w : Nat) : Int)⟩ h7 (KeyAt.par K (A.ext (e1.trans hC7)))).mono fun v h' ⟨hv, e⟩ => ⟨e, hC7.trans e, by rw [hv]; exact congrArg I (lvl_nat hlq)⟩) (fun v14 hx14 => ?_)
  obtain ⟨-, -, rfl⟩ := hx14
  refine k_call rfl rfl rfl rfl Tryz_ent55 rfl ?_
  intro h9 hC9 hD9 hT9
  have o9 : OwnF h9 h1.size 2 I v9 (List.replicate (2 ^ D.L) 0) := hT9 (9, v9) (by simp)
  refine (ringLiftS_spec g v9 D.R (List.replicate (2 ^ D.L) 0) (D.R.qs.length - 1) h9 K.rok (A1.rng.ext hC9) o9.sl (fun x hx => by have := List.eq_of_mem_replicate hx; omega) (by rw [hRL]; simp) (by omega)).mono ?_
  rintro _ hL ⟨eL, vl, rl, pl, rfl, RL, ml, sl⟩
  refine ⟨hC9.trans eL, .inl ⟨eL, ?_⟩⟩
  have hvl := RL.own.sl.one
  refine k_run (j := 19) hL rfl rfl (by kernel_rfl) (by kernel_rfl) ?_
  refine runJ ?_
  refine ⟨⟨rfl, ?_⟩⟩
  refine k_alloc rfl rfl rfl rfl rfl (fun g p g' hC x e b => ⟨hC.trans e, x, _, b, hC.1⟩) ?_
  intro p8
  refine k_storeV (p := p8) (u := .agg #[vl]) (us := [vl]) (cs := [.slice none 0 0]) (fun g => Ext h1 g ∧ Var g p8 56 [vl] ∧ RowsAt g h1.size pl vl rl ∧ ∃ b, pblk p8 = some b ∧ h1.size ≤ b) rfl rfl rfl rfl rfl rfl (OneAll.cons hvl OneAll.nil) rfl rfl (by kernel_rfl) (fun _ _ a e => ⟨a.1.trans e, a.2.1.ext e, a.2.2.1.ext e, a.2.2.2⟩) (fun g hC hD hT => (hT (19, p8) (by simp)).1) (fun g g' hC hD hT x k => ?_) ?_
  · obtain ⟨xo, b, hb, hbl⟩ := hT (19, p8) (by simp)
    have e' : Ext h1 g' := ext_onlyR hC k fun j hj => by rw [hb] at hj; cases hj; exact hbl
    exact ⟨e', e', x, ((RL.ext hD).neT xo k).base hC9.1, b, hb, hbl⟩
  refine k_run (j := 22) hL rfl rfl (by kernel_rfl) (by kernel_rfl) ?_
  refine runJ ?_
  refine ⟨⟨rfl, ?_⟩⟩
  refine k_done rfl ?_
  rintro h10 hC10 ⟨e10, x10, RL10, b8, hb8, hl8⟩ -
  have x1A := x1.ext e10
  refine runJ ?_
  (apply s_storeV; exact rfl; exact rfl; exact rfl; exact (OneAll.cons hvl OneAll.nil : OneAll [vl]); exact rfl; exact rfl; exact x1A; exact rfl)
  intro h11 x11 k11
  refine ⟨trivial, ?_⟩
  have x11 : Var h11 p2 56 [vl] := x11
  refine runJ ?_
  have e11 : Ext h h11 := k11.oldV (e1.trans e10) b1 (Nat.le_refl _)
  refine finC rfl rfl x11 rfl rfl ⟨e11, vl, rl, pl, rfl, (RL10.neT x1A k11).base e1.1, ?_, sl⟩
  rw [ml]
  unfold zerosL
  rw [show D.R.qs.length - 1 + 1 = D.R.qs.length by omega, List.take_length]

end Go.Proofs.YtfcmdefigldpnaaGreatDoor


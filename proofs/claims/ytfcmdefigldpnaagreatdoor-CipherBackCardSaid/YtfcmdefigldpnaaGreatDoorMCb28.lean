/- Texts CipC to CipC of this work, joined, without what the law does not lean on. -/
import Derived.Test.YtfcmdefigldpnaaGreatDoorMCb27
namespace Go.Proofs.YtfcmdefigldpnaaGreatDoor
set_option linter.unusedVariables false
set_option maxRecDepth 8000
open Go Go.Den Go.RowKit Go.Mth Go.Dig

theorem mul_cnv {R : RngD} (K : RngOk R) {xs ys rows : List (Value × List Nat)} (h : ∀ (i : Nat) (x y : Value × List Nat) (t : Value × Tbl) (r : Value × List Nat), xs[i]? = some x → ys[i]? = some y → R.ts[i]? = some t → rows[i]? = some r → Prd t.2 x.2 y.2 r.2) :
    ∀ (i q : Nat) (x y r : Value × List Nat), xs[i]? = some x → ys[i]? = some y → R.qs[i]? = some q → rows[i]? = some r → Cnv (2 ^ R.L) q x.2 y.2 r.2 := fun i q x y r hx hy hq hr => by
  have htl : R.ts.length = R.qs.length := by have := congrArg List.length K.map; rwa [List.length_map] at this
  obtain ⟨t, ht⟩ := get_lt (l := R.ts) (j := i) (by have := (List.getElem?_eq_some_iff.1 hq).1; omega)
  have hk := K.ok t (List.mem_of_getElem? ht)
  have tq : t.2.q = q := by
    have := congrArg (fun l => l[i]?) K.map
    simp only [List.getElem?_map, ht, Option.map_some, hq, Option.some.injEq] at this
    exact this
  have := prd_cnv hk.1 (h i x y t r hx hy ht hr)
  rwa [hk.2.1, tq] at this
structure CipR (n : Nat) (qs : List Nat) (rb ra : List (List Nat)) (us xs ys zs : List Int) (c0 c1 : List (List Nat)) : Prop where mk ::
  l0 : c0.length = qs.length
  l1 : c1.length = qs.length
  r0 : ∀ (i q : Nat) (b c : List Nat), qs[i]? = some q → rb[i]? = some b → c0[i]? = some c → ∃ zB, Cnv n q b (liftL us q) zB ∧ c = addL q (addL q zB (liftL xs q)) (liftL zs q)
  r1 : ∀ (i q : Nat) (a c : List Nat), qs[i]? = some q → ra[i]? = some a → c1[i]? = some c → ∃ zU, Cnv n q a (liftL us q) zU ∧ c = addL q zU (liftL ys q)

theorem Tryz_ent53 : Ent Tryz.prog 53 := ent_of Tryz.func53 (by kernel_rfl) rfl
theorem hide1_spec (tp p7 p4 vq : Value) (n t w : Nat) (B : Option Nat) (ds : List Nat) (h : Hp) (T : TapeAt h tp B ds false) (x7 : Var h p7 38 [tp]) (x4 : Var h p4 28 [N n, U t, vq, N w]) (hn : 1 ≤ n) (hn2 : n ≤ 4096) (hw : 1 ≤ w) (hw2 : w ≤ 16) :
    CallsH Tryz.prog 53 [N n, p7, p4] h fun v' h' => Only (pblk tp) h h' ∧ RowP I 2 h h' tp B v' (rowG (firstE w) n ds) := by
  (apply enter Tryz.func53 rfl Tryz.ntmps53 rfl)
  refine runJ ?_
  apply (s_call Tryz_ent54 rfl rfl rfl)
  refine (errorsP_spec tp B n w ds h T hn hn2 hw hw2).mono ?_
  rintro v h1 ⟨k1, R1⟩
  refine ⟨trivial, ?_⟩
  cases hZ : rowG (firstE w) n ds with
  | none =>
    rw [hZ] at R1
    obtain ⟨rfl, T1⟩ := R1
    refine runJ ?_
    exact fin2 rfl rfl rfl ⟨k1, rfl, T1⟩
  | some x =>
    obtain ⟨rs, ds'⟩ := x
    rw [hZ] at R1
    obtain ⟨u, rfl, o1, T1⟩ := R1
    refine runJ ?_
    exact fin2 rfl rfl rfl ⟨k1, u, rfl, o1, T1⟩

theorem Tryz_ent20 : Ent Tryz.prog 20 := ent_of Tryz.func20 (by kernel_rfl) rfl
set_option maxHeartbeats 16000000 in
theorem hideC_spec (L t w : Nat) (vq vB vA vt tp : Value) (ms qs : List Nat) (rb ra : List (Value × List Nat)) (Bt : Option Nat) (ds ds1 ds2 ds3 : List Nat) (us xs ys : List Int) (h : Hp) (TB0 : TB h) (A : ParAt h ⟨((2 ^ L : Nat) : Int), t, vq, qs, (w : Int)⟩) (P : parP ⟨((2 ^ L : Nat) : Int), t, vq, qs, (w : Int)⟩) (hL3 : 3 ≤ L) (hL9 : L ≤ 9) (hQ : ∀ q ∈ qs, QOk L q)
    (sm : SlF h U vt ms) (hm : Fit (2 ^ L) t ms) (SB : PolAt h vB rb) (SA : PolAt h vA ra) (lb : rb.length = qs.length) (la : ra.length = qs.length) (fb : ∀ (i q : Nat) (x : Value × List Nat), rb[i]? = some x → qs[i]? = some q → Fit (2 ^ L) q x.2) (fa : ∀ (i q : Nat) (x : Value × List Nat), ra[i]? = some x → qs[i]? = some q → Fit (2 ^ L) q x.2)
    (T : TapeAt h tp Bt ds false) (hgt : pblk tp ≠ some 2) (nq : vq.ownBlock = none ∨ vq.ownBlock ≠ pblk tp) (nt : vt.ownBlock = none ∨ vt.ownBlock ≠ pblk tp) (nB : vB.ownBlock = none ∨ vB.ownBlock ≠ pblk tp) (nA : vA.ownBlock = none ∨ vA.ownBlock ≠ pblk tp) (nb : ∀ x ∈ rb, x.1.ownBlock = none ∨ x.1.ownBlock ≠ pblk tp) (na : ∀ x ∈ ra, x.1.ownBlock = none ∨ x.1.ownBlock ≠ pblk tp)
    (d1 : rowG firstT (2 ^ L) ds = some (us, ds1)) (d2 : rowG (firstE w) (2 ^ L) ds1 = some (xs, ds2)) (d3 : rowG (firstE w) (2 ^ L) ds2 = some (ys, ds3)) :
    CallsH Tryz.prog 20 [.agg #[N (2 ^ L), U t, vq, N w], .agg #[vB, vA], vt, tp] h fun v' h' => Only (pblk tp) h h' ∧ ∃ vc c0 c1, v' = .tuple #[.agg #[vc], N 0] ∧ SwAt h' h.size vc [c0, c1] ∧ TapeAt h' tp Bt ds3 false ∧
      CipR (2 ^ L) qs (rb.map (·.2)) (ra.map (·.2)) us xs ys (sprZ (prodL qs / t) t ms) (c0.2.map (·.2)) (c1.2.map (·.2)) := by
  obtain ⟨tk, htk, htl⟩ := T.pb
  obtain ⟨ct, xt⟩ : ∃ ct, Var h tp 87 ct := by
    obtain ⟨v, s1, -⟩ := T
    exact ⟨_, s1⟩
  have hpk : ∀ j, pblk tp = some j → j < h.size := fun j hj => by rw [htk] at hj; cases hj; exact htl
  have hq0 : 0 < qs.length := P.2.2.1.2.2.1
  have hq8 : qs.length ≤ 8 := P.2.2.1.2.2.2
  have hnd : qs.Nodup := P.2.2.1.2.1
  have ht30 : t < 1073741824 := P.2.1.1
  have hw1 : 1 ≤ w := by have := P.1.2.1; dsimp only at this; omega
  have hw16 : w ≤ 16 := by have := P.1.2.2; dsimp only at this; omega
  have hp9 : 2 ^ L ≤ 2 ^ 9 := Nat.pow_le_pow_right (by decide) hL9
  have e9 : (2 : Nat) ^ 9 = 512 := by decide
  have hp3 : 2 ^ 3 ≤ 2 ^ L := Nat.pow_le_pow_right (by decide) hL3
  have e3' : (2 : Nat) ^ 3 = 8 := by decide
  have hp0 : 0 < 2 ^ L := Nat.two_pow_pos _
  have ht0 : 0 < t := by
    have := P.2.1.2.1
    dsimp only at this
    rcases Nat.eq_zero_or_pos t with h | h
    · rw [h, Nat.zero_mod] at this; cases this
    · exact h
  have hqo : vq.oneCell' = true := A.row.one
  have tpone : tp.oneCell' = true := by obtain ⟨g, rfl, -⟩ := xt; rfl
  have hBo := SB.row.one
  have hAo := SA.row.one
  have TOP := fun h A => top_spec ⟨((2 ^ L : Nat) : Int), t, vq, qs, (w : Int)⟩ h A
  unfold ParD.cells at TOP
  dsimp only [List.toArray] at TOP
  rw [show (qs.length : Int) - 1 = ((qs.length - 1 : Nat) : Int) by omega] at TOP
  (apply enter Tryz.func20 rfl Tryz.ntmps20 rfl)
  refine runJ ?_
  (apply s_box; exact rfl; exact rfl; exact rfl; exact rfl)
  intro p4 h1 x1 e1 b1
  (try dsimp only [Value.cells, List.toList_toArray] at x1)
  refine clsI ?_
  refine runJ ?_
  (apply s_box; exact rfl; exact rfl; exact rfl; exact rfl)
  intro p5 h2 x2 e2 b2
  (try dsimp only [Value.cells, List.toList_toArray] at x2)
  refine clsI ?_
  have x2 : Var h2 p5 58 [vB, vA] := x2
  refine runJ ?_
  (apply s_box; exact rfl; exact rfl; exact rfl; exact rfl)
  intro p7 h3 x3 e3 b3
  (try dsimp only [Value.cells, List.toList_toArray] at x3)
  refine clsI ?_
  have x3 : Var h3 p7 38 [tp] := by rw [← oneL tpone]; exact x3
  refine runJ ?_
  (apply s_alloc; exact rfl; exact rfl; exact rfl)
  intro p8 h4 x4 e4 b4
  (try dsimp only [Value.cells, List.toList_toArray] at x4)
  refine clsI ?_
  have E4 := ((e1.trans e2).trans e3).trans e4
  have x14 := ((x1.ext e2).ext e3).ext e4
  have x24 := (x2.ext e3).ext e4
  have x34 := x3.ext e4
  refine runJ ?_
  apply (s_call Tryz_ent49 rfl rfl rfl)
  refine (start_spec L t w vq qs h4 (TB0.ext E4) (A.ext E4) P hL3 hL9 hQ).mono ?_
  rintro _ h5 ⟨e5, g, R, rfl, RA, RO, hRL, hRq, RN⟩
  refine ⟨trivial, ?_⟩
  have E5 := E4.trans e5
  have x15 := x14.ext e5
  have x25 := x24.ext e5
  have x35 := x34.ext e5
  have x45 := x4.ext e5
  have gone : g.oneCell' = true := RA.var.one
  refine runJ ?_
  apply (s_call Tryz_ent50 rfl rfl rfl)
  refine (isText_spec (2 ^ L) t w vq vt ms h5 (sm.ext E5) hqo hm (by omega) ht0 (by omega)).mono ?_
  rintro _ h6 ⟨rfl, e6⟩
  refine ⟨trivial, ?_⟩
  have E6 := E5.trans e6
  have x16 := x15.ext e6
  have x26 := x25.ext e6
  have x36 := x35.ext e6
  have x46 := x45.ext e6
  have RA6 := RA.ext e6
  have rv6 := RA6.var
  refine runJ ?_
  refine s_loadA [vB] rfl rfl (rd_varP x26) rfl rfl rfl ?_
  refine runJ ?_
  refine s_loadA [vA] rfl rfl (rd_varP x26) rfl rfl rfl ?_
  refine runJ ?_
  (apply (s_litC (s := 1) ([vB, vA])); exact rfl; (repeat (first | exact CellsAll.nil | (apply CellsAll.cons; (first | exact oneL (by assumption) | exact oneL (SlF.one (by assumption)) | exact oneL (SlF.one (OwnF.sl (by assumption))) | exact oneL (Var.one (by assumption)) | exact rfl)))); exact rfl; exact rfl; exact rfl; exact rfl; exact rfl; exact rfl; exact rfl; exact rfl; exact rfl; exact rfl)
  intro vl h7 o7 e7 b7
  refine clsI ?_
  have E7 := E6.trans e7
  have x17 := x16.ext e7
  have x27 := x26.ext e7
  have x37 := x36.ext e7
  have x47 := x46.ext e7
  have RA7 := RA6.ext e7
  have s7 : SlA h7 (fun x : Value × List (Value × List Nat) => [x.1]) 1 vl [(vB, rb), (vA, ra)] := ⟨fun _ => rfl, o7.sl⟩
  have hps : ∀ x ∈ [(vB, rb), (vA, ra)], PolAt h x.1 x.2 ∧ x.2.length = qs.length ∧ ∀ (i q : Nat) (y : Value × List Nat), x.2[i]? = some y → qs[i]? = some q → Fit (2 ^ L) q y.2 := fun x hx => by
    rcases List.mem_cons.1 hx with rfl | hx
    · exact ⟨SB, lb, fb⟩
    · rw [List.mem_singleton.1 hx]; exact ⟨SA, la, fa⟩
  refine runJ ?_
  (first | (apply w_seqB; exact rfl; apply w_block; exact rfl) | skip)
  have hpol : ∀ x : Value × List (Value × List Nat), x.2.length = qs.length → (∀ (i q : Nat) (y : Value × List Nat), x.2[i]? = some y → qs[i]? = some q → Fit (2 ^ L) q y.2) → PolOk R x.2 := fun x hl hf => ⟨by omega, by rw [hRq]; omega, fun i q y hy hq => by rw [hRL]; rw [hRq] at hq; exact hf i q y hy hq⟩
  apply (w_loop (σ := Nat) rfl (fun j => [(2, vt), (4, p4), (5, p5), (7, p7), (8, p8), (10, g), (48, vl), (49, N 2), (50, N j)])
    (fun j h' => Ext h7 h' ∧ j ≤ 2) (fun j => 2 - j) 0)
  · exact subs
  · exact ⟨Ext.refl _, Nat.zero_le _⟩
  rintro j h8 ⟨e8, j1⟩
  have E8 := E7.trans e8
  have x18 := x17.ext e8
  have x28 := x27.ext e8
  have x38 := x37.ext e8
  have x48 := x47.ext e8
  have s8 := s7.ext e8
  have RA8 := RA7.ext e8
  have xt8 := xt.ext E8
  refine runJ ?_
  (apply w_condD; exact rfl; exact rfl) <;> intro hj
  · obtain ⟨⟨vx, rx⟩, hxj⟩ := get_lt (l := [(vB, rb), (vA, ra)]) (j := j) hj
    obtain ⟨Sx, lx, fx⟩ := hps _ (List.mem_of_getElem? hxj)
    have hvx := Sx.row.one
    dsimp only at hvx lx fx
    refine runJ ?_
    (apply s_alloc; exact rfl; exact rfl; exact rfl)
    intro p13 h9 x9 e9 b9
    (try dsimp only [Value.cells, List.toList_toArray] at x9)
    refine clsI ?_
    refine runJ ?_
    (apply s_storeV; exact rfl; exact rfl; exact rfl; exact (OneAll.cons hvx OneAll.nil : OneAll [vx]); exact rfl; exact rfl; exact x9; exact rfl)
    intro h10 x10 k10
    refine ⟨trivial, ?_⟩
    have x10 : Var h10 p13 56 [vx] := x10
    have e810 : Ext h8 h10 := k10.oldV e9 b9 (Nat.le_refl _)
    have E10 := E8.trans e810
    have LV := level_spec g vx R rx h10 RO (RA8.ext e810) (Sx.ext E10) (hpol (vx, rx) lx fx)
    refine runJ ?_
    apply (s_call Tryz_ent51 rfl rfl rfl)
    refine (LV).mono ?_
    rintro _ h11 ⟨rfl, e11⟩
    refine ⟨trivial, ?_⟩
    have E11 := E10.trans e11
    have x111 := (x18.ext e810).ext e11
    refine runJ ?_
    apply (s_call Tryz_ent52 rfl rfl rfl)
    refine (TOP h11 (A.ext E11)).mono ?_
    rintro _ h12 ⟨rfl, e12⟩
    refine ⟨trivial, ?_⟩
    refine runJ ?_
    (apply w_condF; exact rfl; exact rfl; exact (show ¬ rx.length - 1 ≠ qs.length - 1 by omega))
    refine runJ ?_
    apply again_normal (j + 1)
    · exact subs
    · exact ⟨e8.trans ((e810.trans e11).trans e12), hj⟩
    · omega
  have hj2 : j = 2 := by omega
  clear hps s8
  refine runJ ?_
  (apply (s_make (f := Prod.fst) (bytes := 24) (((.slice none 0 0, []) : Value × List Int))); (first | exact isK_c | exact isK_t rfl); (first | exact isK_c | exact isK_t rfl); exact rfl; exact rfl; exact rfl; exact rfl; exact rfl; exact rfl; omega; omega; omega)
  intro vw h9 o9 e9 b9
  refine clsI ?_
  have x19 := x18.ext e9
  have x29 := x28.ext e9
  have x39 := x38.ext e9
  have x49 := x48.ext e9
  have RA9 := RA8.ext e9
  have hs89 : h8.size < h9.size := (o9.blk _ b9).2
  have hh8 : h.size ≤ h8.size := E8.1
  have nvw : vw.ownBlock = none ∨ vw.ownBlock ≠ pblk tp := by rw [b9, htk]; exact .inr fun e => by have := Option.some.inj e; omega
  have nx : ∀ {p : Value} {n : Nat}, pblk p = some n → h.size ≤ n → pblk p ≠ pblk tp := fun {p n} hb hn => by rw [hb, htk]; intro e; cases e; omega
  have n4 : pblk p4 ≠ pblk tp := nx b1 (Nat.le_refl _)
  have n5 : pblk p5 ≠ pblk tp := nx b2 e1.1
  have n7 : pblk p7 ≠ pblk tp := nx b3 (e1.trans e2).1
  have n8 : pblk p8 ≠ pblk tp := nx b4 ((e1.trans e2).trans e3).1
  have T9 := T.ext (E8.trans e9)
  obtain ⟨dsF, hdsF⟩ : ∃ f : Nat → List Nat, f 0 = ds ∧ f 1 = ds1 ∧ f 2 = ds2 ∧ f 3 = ds3 := ⟨fun i => match i with | 0 => ds | 1 => ds1 | 2 => ds2 | _ => ds3, rfl, rfl, rfl, rfl⟩
  obtain ⟨rsF, hrsF⟩ : ∃ f : Nat → List Int, f 0 = us ∧ f 1 = xs ∧ f 2 = ys := ⟨fun i => match i with | 0 => us | 1 => xs | _ => ys, rfl, rfl, rfl⟩
  refine runJ ?_
  rw [List.length_replicate]
  (first | (apply w_seqB; exact rfl; apply w_block; exact rfl) | skip)
  apply (w_loop (σ := Nat × List (Value × List Int)) rfl (fun j => [(2, vt), (4, p4), (5, p5), (7, p7), (8, p8), (10, g), (16, vw), (75, N 3), (76, N j.1)])
    (fun j h' => j.1 ≤ 3 ∧ Only (pblk tp) h8 h' ∧ h9.size ≤ h'.size ∧ OwnF h' h8.size 30 Prod.fst vw j.2 ∧ j.2.length = 3 ∧ TapeAt h' tp Bt (dsF j.1) false ∧ ∀ (i : Nat), i < j.1 → ∃ v, j.2[i]? = some (v, rsF i) ∧ OwnF h' h9.size 2 I v (rsF i)) (fun j => 3 - j.1) (0, List.replicate 3 (.slice none 0 0, [])))
  · exact subs
  · exact ⟨Nat.zero_le _, e9.only _, Nat.le_refl _, o9, rfl, by rw [hdsF.1]; exact T9, fun i hi => absurd hi (Nat.not_lt_zero _)⟩
  rintro ⟨j3, rows⟩ h10 ⟨j31, k10, z10, o10, l10, T10, r10⟩
  dsimp only at j31 k10 z10 o10 l10 T10 r10 ⊢
  have x110 := x18.only k10 n4
  have x210 := x28.only k10 n5
  have x310 := x38.only k10 n7
  have x410 := x48.only k10 n8
  refine runJ ?_
  (apply w_condD; exact rfl; exact rfl) <;> intro hj3
  · have fin : ∀ (v : Value) (h11 : Hp), Only (pblk tp) h10 h11 → RowP I 2 h10 h11 tp Bt v (rowG (if j3 = 0 then firstT else firstE w) (2 ^ L) (dsF j3)) → ∃ u, v = .tuple #[u, N 0] ∧ OwnF h11 h10.size 2 I u (rsF j3) ∧ TapeAt h11 tp Bt (dsF (j3 + 1)) false := by
      intro v h11 k11 R
      have hd : rowG (if j3 = 0 then firstT else firstE w) (2 ^ L) (dsF j3) = some (rsF j3, dsF (j3 + 1)) := by
        rcases (show j3 = 0 ∨ j3 = 1 ∨ j3 = 2 by omega) with rfl | rfl | rfl
        · rw [if_pos rfl, hdsF.1, hdsF.2.1, hrsF.1]; exact d1
        · rw [if_neg (by decide), hdsF.2.1, hdsF.2.2.1, hrsF.2.1]; exact d2
        · rw [if_neg (by decide), hdsF.2.2.1, hdsF.2.2.2, hrsF.2.2]; exact d3
      rw [hd] at R
      exact R
    refine runJ ?_
    (apply w_condD; exact rfl; exact rfl) <;> intro hj0
    case' ht =>
      have TS := ternariesP_spec tp Bt (2 ^ L) (dsF j3) h10 T10 (by omega) (by omega)
      have fin' := fin
      rw [if_pos hj0] at fin'
      refine runJ ?_
      refine s_callV rfl Tryz_ent46 rfl rfl rfl ?_
      refine (TS).mono ?_
      rintro v h11 ⟨k11, R11⟩
      refine ⟨trivial, ?_⟩
    case' hf =>
      have TS := hide1_spec tp p7 p4 vq (2 ^ L) t w Bt (dsF j3) h10 T10 x310 x110 (by omega) (by omega) hw1 hw16
      have fin' := fin
      rw [if_neg hj0] at fin'
      refine runJ ?_
      refine s_callV rfl Tryz_ent53 rfl rfl rfl ?_
      refine (TS).mono ?_
      rintro v h11 ⟨k11, R11⟩
      refine ⟨trivial, ?_⟩
    all_goals
      obtain ⟨u, rfl, o11, T11⟩ := fin' v h11 k11 R11
      have hu := o11.sl.one
      have ow11 := o10.only k11 nvw
      refine runJ ?_
      refine s_storeF ((u, rsF j3) : Value × List Int) rfl rfl rfl rfl rfl ow11 hu (by omega) ?_
      intro h12 o12 k12
      refine ⟨trivial, ?_⟩
      have hvwb : ∀ b, vw.ownBlock = some b → h8.size ≤ b := fun b hb => (o10.blk b hb).1
      have hvwb2 : ∀ b, vw.ownBlock = some b → b < h9.size := fun b hb => by rw [b9] at hb; cases hb; exact hs89
      have nu : u.ownBlock = none ∨ u.ownBlock ≠ vw.ownBlock := by
        cases hb : u.ownBlock with
        | none => exact .inl rfl
        | some b => exact .inr fun e => by have := (o11.blk _ hb).1; have := hvwb2 _ e.symm; omega
      have T12 := T11.own k12 hpk (T.bl) (fun j hj => Nat.le_trans hh8 (hvwb j hj))
      refine runJ ?_
      apply again_normal (j3 + 1, rows.set j3 (u, rsF j3))
      · exact subs
      · refine ⟨hj3, only_own (k10.trans k11) k12 hvwb, Nat.le_trans z10 (Nat.le_trans k11.1 k12.1), o12, by dsimp only; rw [List.length_set]; exact l10, T12, fun i hi => ?_⟩
        dsimp only at hi ⊢
        by_cases hij : i = j3
        · subst hij
          exact ⟨u, List.getElem?_set_self (by omega), (o11.base z10).only k12 nu⟩
        · obtain ⟨v, hv, ov⟩ := r10 i (by omega)
          refine ⟨v, by rw [List.getElem?_set_ne (fun e => hij e.symm)]; exact hv, ?_⟩
          have nv : v.ownBlock = none ∨ v.ownBlock ≠ vw.ownBlock := by
            cases hb : v.ownBlock with
            | none => exact .inl rfl
            | some b => exact .inr fun e => by have := (ov.blk _ hb).1; have := hvwb2 _ e.symm; omega
          have nv2 : v.ownBlock = none ∨ v.ownBlock ≠ pblk tp := by
            cases hb : v.ownBlock with
            | none => exact .inl rfl
            | some b => exact .inr fun e => by rw [htk] at e; cases e; have := (ov.blk _ hb).1; omega
          exact (ov.only k11 nv2).only k12 nv
      · dsimp only; omega
  have hj33 : j3 = 3 := by omega
  subst hj33
  obtain ⟨v0, hv0, ov0⟩ := r10 0 (by decide)
  obtain ⟨v1, hv1, ov1⟩ := r10 1 (by decide)
  obtain ⟨v2, hv2, ov2⟩ := r10 2 (by decide)
  rw [hrsF.1] at hv0 ov0
  rw [hrsF.2.1] at hv1 ov1
  rw [hrsF.2.2] at hv2 ov2
  rw [hdsF.2.2.2] at T10
  clear r10 hdsF hrsF
  have hd4 : ∀ j, pblk tp = some j → j < h4.size := fun j hj => Nat.lt_of_lt_of_le (hpk j hj) E4.1
  have RA10 := RA8.onlyN RN k10 hd4
  have A10 : ParAt h10 ⟨((2 ^ L : Nat) : Int), t, vq, qs, (w : Int)⟩ := ⟨(A.row.ext E8).only k10 nq, A.al, A.t64, A.ln⟩
  have K10 : Only (pblk tp) h h10 := (E8.only _).trans k10
  have SB10 : PolAt h10 vB rb := ⟨SB.row.only K10 nB, fun x hx => (SB.el x hx).only K10 (nb x hx)⟩
  have SA10 : PolAt h10 vA ra := ⟨SA.row.only K10 nA, fun x hx => (SA.el x hx).only K10 (na x hx)⟩
  have sm10 := sm.only K10 nt
  have hE64 : ∀ (ds ds' : List Nat) (es : List Int), rowG (firstE w) (2 ^ L) ds = some (es, ds') → es.length = 2 ^ L ∧ ∀ x ∈ es, -9223372036854775808 ≤ x ∧ x < 9223372036854775808 := fun ds ds' es hE => by
    obtain ⟨le, be⟩ := rowG_all (p := fun r : Int => -(w : Int) ≤ r ∧ r ≤ w) (fun ds r ds' h => by
      cases ds with
      | nil => cases h
      | cons d0 ds0 => cases h; exact errV_le w d0) _ ds es ds' hE
    exact ⟨le, fun x hx => by have := be x hx; omega⟩
  obtain ⟨lus, hus⟩ := rowG_all (p := fun r => r = 0 ∨ r = 1 ∨ r = -1) firstT_val9 (2 ^ L) ds us ds1 d1
  have bus : ∀ x ∈ us, -9223372036854775808 ≤ x ∧ x < 9223372036854775808 := fun x hx => by have := hus x hx; omega
  obtain ⟨lxs, bxs⟩ := hE64 _ _ _ d2
  obtain ⟨lys, bys⟩ := hE64 _ _ _ d3
  have hTB10 : TB h10 := (TB0.ext E8).onlyG k10 hgt
  have liftR : ∀ (zs : List Int) (rl : List (Value × List Nat)), zs.length = 2 ^ L → rl.map (·.2) = (R.qs.take (qs.length - 1 + 1)).map (liftL zs) → rl.length = qs.length ∧ (∀ (i q : Nat) (x : Value × List Nat), rl[i]? = some x → qs[i]? = some q → x.2 = liftL zs q) ∧ ∀ (i q : Nat) (y : Value × List Nat), rl[i]? = some y → qs[i]? = some q → Fit (2 ^ L) q y.2 := fun zs rl hzl ml => by
    have mlr : rl.map (·.2) = qs.map (liftL zs) := by
      rw [ml, hRq, show qs.length - 1 + 1 = qs.length by omega, List.take_length]
    have mli : ∀ (i q : Nat) (x : Value × List Nat), rl[i]? = some x → qs[i]? = some q → x.2 = liftL zs q := fun i q x hx hq => by
      have h2 := congrArg (fun l => l[i]?) mlr
      simp only [List.getElem?_map, hx, hq, Option.map_some, Option.some.injEq] at h2
      exact h2
    refine ⟨by have := congrArg List.length mlr; rwa [List.length_map, List.length_map] at this, mli, fun i q y hy hq => ?_⟩
    rw [mli i q y hy hq]
    have hq1 := (hQ q (List.mem_of_getElem? hq)).q1
    refine ⟨by rw [lift_len]; exact hzl, fun z hz => ?_⟩
    unfold liftL at hz
    obtain ⟨z', -, rfl⟩ := List.mem_map.1 hz
    exact liftm_lt9 (by omega)
  have liftRs : ∀ (zs : List Int) (rl : List (Value × List Nat)), zs.length = 2 ^ L → rl.map (·.2) = qs.map (liftL zs) → rl.length = qs.length ∧ (∀ (i q : Nat) (x : Value × List Nat), rl[i]? = some x → qs[i]? = some q → x.2 = liftL zs q) ∧ ∀ (i q : Nat) (y : Value × List Nat), rl[i]? = some y → qs[i]? = some q → Fit (2 ^ L) q y.2 := fun zs rl hzl ml => liftR zs rl hzl (by rw [ml, hRq, show qs.length - 1 + 1 = qs.length by omega, List.take_length])
  have sw10 := o10.sl
  refine runJN ?_
  refine r_drawnKR (h := h10) (Ext h10) (fun i => Nat.beq i 10) (fun _ => false) Ext (fun _ p g => Var g p 56 [.slice none 0 0] ∧ ∃ b, pblk p = some b ∧ h10.size ≤ b) rfl mixed (by kernel_rfl) (fun _ _ e => e) (fun _ _ _ _ a e => ⟨a.1.ext e, a.2⟩) (Ext.refl _) ?_
  refine k_run (j := 5) h10 rfl rfl (by kernel_rfl) (by kernel_rfl) ?_
  refine runJ ?_
  refine ⟨⟨rfl, ?_⟩⟩
  refine k_call rfl rfl rfl rfl Tryz_ent52 rfl ?_
  intro g1 hC1 hD1 hT1
  refine (TOP g1 (A10.ext hC1)).mono ?_
  rintro _ g2 ⟨rfl, f2⟩
  refine ⟨hC1.trans f2, .inl ⟨f2, ?_⟩⟩
  refine k_call rfl rfl rfl rfl Tryz_ent55 rfl ?_
  intro g3 hC3 hD3 hT3
  refine (ringLift_spec g v0 R us (qs.length - 1) g3 RO (RA10.ext hC3) (ov0.sl.ext hC3) bus (by rw [hRL]; exact lus) (by rw [hRq]; omega)).mono ?_
  rintro _ g4 ⟨f4, vlu, rlu, plu, rfl, RLu, mlu⟩
  refine ⟨hC3.trans f4, .inl ⟨f4, ?_⟩⟩
  have hvlu := RLu.own.sl.one
  obtain ⟨llu, mliu, flu⟩ := liftR us rlu lus mlu
  refine k_run (j := 10) g4 rfl rfl (by kernel_rfl) (by kernel_rfl) ?_
  refine runJ ?_
  refine ⟨⟨rfl, ?_⟩⟩
  refine k_alloc rfl rfl rfl rfl rfl (fun g p g' hC x e b => ⟨hC.trans e, x, _, b, hC.1⟩) ?_
  intro p19
  refine k_storeV (p := p19) (u := .agg #[vlu]) (us := [vlu]) (cs := [.slice none 0 0]) (fun g => Ext h10 g ∧ Var g p19 56 [vlu] ∧ RowsAt g h10.size plu vlu rlu ∧ ∃ b, pblk p19 = some b ∧ h10.size ≤ b) rfl rfl rfl rfl rfl rfl (OneAll.cons hvlu OneAll.nil) rfl rfl (by kernel_rfl) (fun _ _ a e => ⟨a.1.trans e, a.2.1.ext e, a.2.2.1.ext e, a.2.2.2⟩) (fun g hC hD hT => (hT (10, p19) (by simp)).1) (fun g g' hC hD hT x k => ?_) ?_
  · obtain ⟨xo, b, hb, hbl⟩ := hT (10, p19) (by simp)
    have hC' := hC.1
    have e' : Ext h10 g' := ext_onlyR hC k fun j hj => by rw [hb] at hj; cases hj; exact hbl
    exact ⟨e', e', x, ((RLu.ext hD).neT xo k).base hC3.1, b, hb, hbl⟩
  refine k_run (j := 13) g4 rfl rfl (by kernel_rfl) (by kernel_rfl) ?_
  refine runJ ?_
  refine ⟨⟨rfl, ?_⟩⟩
  refine k_done rfl ?_
  rintro h11 hC11 ⟨e11, x1911, RLu11, b19, hb19, hl19⟩ -
  clear hC11 RLu mlu
  have x111 := x110.ext e11
  have x211 := x210.ext e11
  have x411 := x410.ext e11
  have sw11 := sw10.ext e11
  refine runJ ?_
  (apply (s_build ([.slice none 0 0])); exact rfl; exact rfl; exact rfl; (repeat (first | exact CellsAll.nil | (apply CellsAll.cons; (first | exact oneL (by assumption) | exact oneL (SlF.one (by assumption)) | exact oneL (SlF.one (OwnF.sl (by assumption))) | exact oneL (Var.one (by assumption)) | exact rfl)))); exact rfl; exact rfl)
  refine runJ ?_
  (apply s_alloc; exact rfl; exact rfl; exact rfl)
  intro p21 h12 x12 e12 b12
  (try dsimp only [Value.cells, List.toList_toArray] at x12)
  refine clsI ?_
  refine runJ ?_
  (apply s_storeV; exact rfl; exact rfl; exact rfl; exact (OneAll.cons rfl OneAll.nil : OneAll [.slice none 0 0]); exact rfl; exact rfl; exact x12; exact rfl)
  intro h13 x13 k13
  refine ⟨trivial, ?_⟩
  have x13 : Var h13 p21 62 [.slice none 0 0] := x13
  have e1113 : Ext h11 h13 := k13.oldV e12 b12 (Nat.le_refl _)
  have hs1113 : h11.size < h13.size := by obtain ⟨b, hb, hl⟩ := x13.blk; rw [b12] at hb; cases hb; exact hl
  have x113 := x111.ext e1113
  have x213 := x211.ext e1113
  have x413 := x411.ext e1113
  have x1913 := x1911.ext e1113
  refine runJ ?_
  refine s_loadA [vB] rfl rfl (rd_varP x213) rfl rfl rfl ?_
  refine runJ ?_
  refine s_loadA [vA] rfl rfl (rd_varP x213) rfl rfl rfl ?_
  refine runJ ?_
  (apply (s_litC (s := 1) ([vB, vA])); exact rfl; (repeat (first | exact CellsAll.nil | (apply CellsAll.cons; (first | exact oneL (by assumption) | exact oneL (SlF.one (by assumption)) | exact oneL (SlF.one (OwnF.sl (by assumption))) | exact oneL (Var.one (by assumption)) | exact rfl)))); exact rfl; exact rfl; exact rfl; exact rfl; exact rfl; exact rfl; exact rfl; exact rfl; exact rfl; exact rfl)
  intro vl2 h14 o14 e14 b14
  refine clsI ?_
  have e1114 := e1113.trans e14
  have e1014 := e11.trans e1114
  have x114 := x113.ext e14
  have x414 := x413.ext e14
  have x1914 := x1913.ext e14
  have x2114 := x13.ext e14
  have s14 : SlA h14 (fun x : Value × List (Value × List Nat) => [x.1]) 1 vl2 [(vB, rb), (vA, ra)] := ⟨fun _ => rfl, o14.sl⟩
  obtain ⟨eF, heF⟩ : ∃ f : Nat → Value × List Int, f 0 = (v1, xs) ∧ f 1 = (v2, ys) := ⟨fun i => match i with | 0 => (v1, xs) | _ => (v2, ys), rfl, rfl⟩
  obtain ⟨pF, hpF⟩ : ∃ f : Nat → Value × List (Value × List Nat), f 0 = (vB, rb) ∧ f 1 = (vA, ra) := ⟨fun i => match i with | 0 => (vB, rb) | _ => (vA, ra), rfl, rfl⟩
  have heR : ∀ i, i < 2 → rows[i + 1]? = some (eF i) ∧ OwnF h10 h9.size 2 I (eF i).1 (eF i).2 ∧ (eF i).2.length = 2 ^ L ∧ ∀ x ∈ (eF i).2, -9223372036854775808 ≤ x ∧ x < 9223372036854775808 := fun i hi => by
    rcases (show i = 0 ∨ i = 1 by omega) with rfl | rfl
    · rw [heF.1]; exact ⟨hv1, ov1, lxs, bxs⟩
    · rw [heF.2]; exact ⟨hv2, ov2, lys, bys⟩
  have hpR : ∀ i, i < 2 → [(vB, rb), (vA, ra)][i]? = some (pF i) ∧ PolAt h10 (pF i).1 (pF i).2 ∧ (pF i).2.length = qs.length ∧ ∀ (k q : Nat) (y : Value × List Nat), (pF i).2[k]? = some y → qs[k]? = some q → Fit (2 ^ L) q y.2 := fun i hi => by
    rcases (show i = 0 ∨ i = 1 by omega) with rfl | rfl
    · rw [hpF.1]; exact ⟨rfl, SB10, lb, fb⟩
    · rw [hpF.2]; exact ⟨rfl, SA10, la, fa⟩
  refine runJ ?_
  (first | (apply w_seqB; exact rfl; apply w_block; exact rfl) | skip)
  apply (w_loop (σ := Nat × Value × List (Value × List (Value × List Nat))) rfl (fun j => [(2, vt), (4, p4), (8, p8), (10, g), (16, vw), (19, p19), (21, p21), (114, vl2), (115, N 2), (116, N j.1)])
    (fun j h' => Ext h11 h' ∧ h14.size ≤ h'.size ∧ j.1 ≤ 2 ∧ Var h' p21 62 [j.2.1] ∧ SlA h' (fun x : Value × List (Value × List Nat) => [x.1]) 1 vl2 [(vB, rb), (vA, ra)] ∧ SwAt h' h14.size j.2.1 j.2.2 ∧ j.2.2.length = j.1 ∧ ∀ (i : Nat) (c : Value × List (Value × List Nat)), j.2.2[i]? = some c → c.2.length = qs.length ∧ ∀ (k q : Nat) (b r : Value × List Nat), qs[k]? = some q → (pF i).2[k]? = some b → c.2[k]? = some r → ∃ zB, Cnv (2 ^ L) q b.2 (liftL us q) zB ∧ r.2 = addL q zB (liftL (eF i).2 q)) (fun j => 2 - j.1) (0, .slice none 0 0, []))
  · exact subs
  · exact ⟨e1114, Nat.le_refl _, Nat.zero_le _, x2114, s14, ⟨OwnF.nil _ _ _ _, fun x hx => by cases hx⟩, rfl, fun i c hc => by cases hc⟩
  rintro ⟨j, vC, cs⟩ h15 ⟨e15, z15, j1', x2115, s15, SC15, lc15, hc15⟩
  dsimp only at e15 z15 j1' x2115 s15 SC15 lc15 hc15 ⊢
  have e1015 := e11.trans e15
  have x115 := x111.ext e15
  have x415 := x411.ext e15
  have x1915 := x1911.ext e15
  have RA15 := RA10.ext e1015
  have sw15 := sw10.ext e1015
  have hCB : ∀ b, vC.ownBlock = some b → h14.size ≤ b := fun b hb => (SC15.own.blk b hb).1
  have hg21 : ∀ j, pblk p21 = some j → h11.size ≤ j := fun j hj => by rw [b12] at hj; cases hj; exact Nat.le_refl _
  refine runJ ?_
  (apply w_condD; exact rfl; exact rfl) <;> intro hjj
  · obtain ⟨hxj, Sx, lx, fx⟩ := hpR j hjj
    obtain ⟨hej, oe, le, be⟩ := heR j hjj
    generalize hpf : pF j = px at *
    generalize hef : eF j = ex at *
    obtain ⟨vx, rx⟩ := px
    obtain ⟨ve, es⟩ := ex
    dsimp only at Sx lx fx oe le be
    have hvx := Sx.row.one
    refine runJ ?_
    (apply s_alloc; exact rfl; exact rfl; exact rfl)
    intro p23 h16 x16 e16 b16
    (try dsimp only [Value.cells, List.toList_toArray] at x16)
    refine clsI ?_
    refine runJ ?_
    (apply s_storeV; exact rfl; exact rfl; exact rfl; exact (OneAll.cons hvx OneAll.nil : OneAll [vx]); exact rfl; exact rfl; exact x16; exact rfl)
    intro h17 x17 k17
    refine ⟨trivial, ?_⟩
    have x17 : Var h17 p23 56 [vx] := x17
    have e1517 : Ext h15 h17 := k17.oldV e16 b16 (Nat.le_refl _)
    have e1017 := e1015.trans e1517
    have x117 := x115.ext e1517
    have x417 := x415.ext e1517
    have x1917 := x1915.ext e1517
    have x2117 := x2115.ext e1517
    have sw17 := sw15.ext e1517
    have RA17 := RA15.ext e1517
    have A17 := A10.ext e1017
    refine runJN ?_
    refine r_drawnKR (h := h17) (Ext h17) (fun i => Nat.beq i 12) (fun _ => false) Ext (fun _ p g => Var g p 56 [.slice none 0 0] ∧ ∃ b, pblk p = some b ∧ h17.size ≤ b) rfl mixed (by kernel_rfl) (fun _ _ e => e) (fun _ _ _ _ a e => ⟨a.1.ext e, a.2⟩) (Ext.refl _) ?_
    refine k_run (j := 7) h17 rfl rfl (by kernel_rfl) (by kernel_rfl) ?_
    refine runJ ?_
    refine ⟨⟨rfl, ?_⟩⟩
    refine k_call rfl rfl rfl rfl Tryz_ent52 rfl ?_
    intro g1 hC1 hD1 hT1
    refine (TOP g1 (A17.ext hC1)).mono ?_
    rintro _ g2 ⟨rfl, f2⟩
    refine ⟨hC1.trans f2, .inl ⟨f2, ?_⟩⟩
    refine k_call rfl rfl rfl rfl Tryz_ent55 rfl ?_
    intro g3 hC3 hD3 hT3
    refine (ringLift_spec g ve R es (qs.length - 1) g3 RO (RA17.ext hC3) ((oe.sl.ext e1017).ext hC3) be (by rw [hRL]; exact le) (by rw [hRq]; omega)).mono ?_
    rintro _ g4 ⟨f4, vle, rle, ple, rfl, RLe, mle⟩
    refine ⟨hC3.trans f4, .inl ⟨f4, ?_⟩⟩
    have hvle := RLe.own.sl.one
    obtain ⟨lle, mlie, fle⟩ := liftR es rle le mle
    refine k_run (j := 12) g4 rfl rfl (by kernel_rfl) (by kernel_rfl) ?_
    refine runJ ?_
    refine ⟨⟨rfl, ?_⟩⟩
    refine k_alloc rfl rfl rfl rfl rfl (fun g p g' hC x e b => ⟨hC.trans e, x, _, b, hC.1⟩) ?_
    intro p24
    refine k_storeV (p := p24) (u := .agg #[vle]) (us := [vle]) (cs := [.slice none 0 0]) (fun g => Ext h17 g ∧ Var g p24 56 [vle] ∧ RowsAt g h17.size ple vle rle ∧ ∃ b, pblk p24 = some b ∧ h17.size ≤ b) rfl rfl rfl rfl rfl rfl (OneAll.cons hvle OneAll.nil) rfl rfl (by kernel_rfl) (fun _ _ a e => ⟨a.1.trans e, a.2.1.ext e, a.2.2.1.ext e, a.2.2.2⟩) (fun g hC hD hT => (hT (12, p24) (by simp)).1) (fun g g' hC hD hT x k => ?_) ?_
    · obtain ⟨xo, b, hb, hbl⟩ := hT (12, p24) (by simp)
      have hC' := hC.1
      have e' : Ext h17 g' := ext_onlyR hC k fun j hj => by rw [hb] at hj; cases hj; exact hbl
      exact ⟨e', e', x, ((RLe.ext hD).neT xo k).base hC3.1, b, hb, hbl⟩
    refine k_run (j := 15) g4 rfl rfl (by kernel_rfl) (by kernel_rfl) ?_
    refine runJ ?_
    refine ⟨⟨rfl, ?_⟩⟩
    refine k_done rfl ?_
    rintro h18 hC18 ⟨e18, x2418, RLe18, b24, hb24, hl24⟩ -
    clear hC18 RLe mle
    have x1718 := x17.ext e18
    have x1918 := x1917.ext e18
    have e1018 := e1017.trans e18
    have RA18 := RA17.ext e18
    have RLu18 := RLu11.ext (e15.trans (e1517.trans e18))
    have MU := ringMul_spec g vx vlu R rx rlu h18 RO RA18 (Sx.ext e1018) RLu18.pol (hpol (vx, rx) lx fx) (hpol (vlu, rlu) llu flu) (by omega)
    refine runJ ?_
    apply (s_call Tryz_ent56 rfl rfl rfl)
    refine (MU).mono ?_
    rintro _ h19 ⟨e19, vm, rm, pm, rfl, RM, lm, mm⟩
    refine ⟨trivial, ?_⟩
    have mm := mul_cnv RO mm
    rw [hRL, hRq] at mm
    have hvm := RM.own.sl.one
    have x2419 := x2418.ext e19
    have RA19 := RA18.ext e19
    have fm : ∀ (i q : Nat) (x : Value × List Nat), rm[i]? = some x → qs[i]? = some q → Fit (2 ^ L) q x.2 := fun i q x hx hqi => by
      have hi := (List.getElem?_eq_some_iff.1 hqi).1
      obtain ⟨xa, hxa⟩ := get_lt (l := rx) (j := i) (by omega)
      obtain ⟨xl, hxl⟩ := get_lt (l := rlu) (j := i) (by omega)
      exact (mm i q xa xl x hxa hxl hqi hx).1
    refine runJ ?_
    (apply s_alloc; exact rfl; exact rfl; exact rfl)
    intro p26 h20 x20 e20 b20
    (try dsimp only [Value.cells, List.toList_toArray] at x20)
    refine clsI ?_
    refine runJ ?_
    (apply s_storeV; exact rfl; exact rfl; exact rfl; exact (OneAll.cons hvm OneAll.nil : OneAll [vm]); exact rfl; exact rfl; exact x20; exact rfl)
    intro h21 x21 k21
    refine ⟨trivial, ?_⟩
    have x21 : Var h21 p26 56 [vm] := x21
    have e1921 : Ext h19 h21 := k21.oldV e20 b20 (Nat.le_refl _)
    have RM21 := (RM.ext e20).neT x20 k21
    have x2421 := x2419.ext e1921
    have RA21 := RA19.ext e1921
    have RLe21 := (RLe18.ext e19).ext e1921
    have AD := ringAdd_spec g vm vle R rm rle h21 RO RA21 RM21.pol RLe21.pol (hpol (vm, rm) (by dsimp only; omega) fm) (hpol (vle, rle) lle fle) (by omega)
    refine runJ ?_
    apply (s_call Tryz_ent57 rfl rfl rfl)
    refine (AD).mono ?_
    rintro _ h22 ⟨e22, va, rA, rfl, RAd, lad, mad⟩
    refine ⟨trivial, ?_⟩
    rw [hRq] at mad
    have hva := RAd.own.sl.one
    have x2622 := x21.ext e22
    refine runJ ?_
    (apply s_storeV; exact rfl; exact rfl; exact rfl; exact (OneAll.cons hva OneAll.nil : OneAll [va]); exact rfl; exact rfl; exact x2622; exact rfl)
    intro h23 x23 k23
    refine ⟨trivial, ?_⟩
    have x23 : Var h23 p26 56 [va] := x23
    have e1723 : Ext h17 h23 := k23.oldV ((e18.trans e19).trans (e1921.trans e22)) b20 (e18.trans e19).1
    have RAd23 := RAd.neT x2622 k23
    have e1523 := e1517.trans e1723
    have x2123 := x2115.ext e1523
    have SC23 := SC15.ext e1523
    have s23 := s15.ext e1523
    have z2123 : h14.size ≤ h21.size := Nat.le_trans z15 (e1517.trans ((e18.trans e19).trans e1921)).1
    have hvC := SC23.own.sl.one
    refine runJ ?_
    (apply (s_litC (s := 1) ([va])); exact rfl; (repeat (first | exact CellsAll.nil | (apply CellsAll.cons; (first | exact oneL (by assumption) | exact oneL (SlF.one (by assumption)) | exact oneL (SlF.one (OwnF.sl (by assumption))) | exact oneL (Var.one (by assumption)) | exact rfl)))); exact rfl; exact rfl; exact rfl; exact rfl; exact rfl; exact rfl; exact rfl; exact rfl; exact rfl; exact rfl)
    intro vla h24 o24 e24 b24
    refine clsI ?_
    have SC24 := SC23.ext e24
    have x2124 := x2123.ext e24
    have RAd24 := (RAd23.base z2123).ext e24
    have s24 := s23.ext e24
    have e1124 := e15.trans (e1523.trans e24)
    have z24 : h14.size ≤ h24.size := Nat.le_trans z15 (e1523.trans e24).1
    refine runJ ?_
    (apply (s_append (s := 1) (bytes := 24) (B := h14.size) (m := cs.length) (k' := 1)); exact rfl; exact rfl; exact rfl; exact rfl; exact rfl; exact (by decide); exact rfl; exact rfl; exact SC24.own; exact o24.sl; exact rfl; exact (fun u hu => by rw [List.mem_singleton.1 hu]; exact hva); exact z24; (simp only [maxLen]; omega); omega)
    intro v25 h25 o25 k25 b25
    refine ⟨trivial, ?_⟩
    have n21C : pblk p21 ≠ vC.ownBlock := by rw [b12]; intro e; have := hCB _ e.symm; have := e1113.1; have := e14.1; omega
    have nl2C : vl2.ownBlock = none ∨ vl2.ownBlock ≠ vC.ownBlock := by
      rw [b14]; exact .inr fun e => by have := hCB _ e.symm; have := (o14.blk _ b14).2; omega
    have x2125 := x2124.only k25 n21C
    have s25 := s24.only k25 nl2C
    have e1125 : Ext h11 h25 := ext_onlyR e1124 k25 fun b hb => Nat.le_trans e1114.1 (hCB b hb)
    have el25 : ∀ x ∈ cs, ∃ p, RowsAt h25 h14.size p x.1 x.2 := fun x hx => by obtain ⟨p, hp⟩ := SC24.el x hx; exact ⟨p, hp.neO SC24.own k25⟩
    have RAd25 := RAd24.neO SC24.own k25
    have hv25 := o25.sl.one
    refine runJ ?_
    (apply s_storeC; exact rfl; exact rfl; exact hv25; exact rfl; exact rfl; exact x2125; exact rfl)
    intro h26 x26 k26
    refine ⟨trivial, ?_⟩
    have x26 : Var h26 p21 62 [v25] := x26
    have e1126 : Ext h11 h26 := ext_onlyR e1125 k26 hg21
    have o26 := o25.only k26 (Own.neT o25 x2125 rfl)
    have n21l : vl2.ownBlock = none ∨ vl2.ownBlock ≠ pblk p21 := by
      rw [b14, b12]; exact .inr fun e => by have := Option.some.inj e; omega
    refine runJ ?_
    apply again_normal (j + 1, v25, cs ++ [(va, rA)])
    · exact subs
    · refine ⟨e1126, Nat.le_trans z24 (Nat.le_trans k25.1 k26.1), hjj, x26, s25.only k26 n21l, ⟨by unfold OwnF; rw [List.length_append, List.map_append]; exact o26, fun x hx => ?_⟩, by dsimp only; rw [List.length_append, lc15]; rfl, fun i c hi => ?_⟩
      · rcases List.mem_append.1 hx with hx | hx
        · obtain ⟨p, hp⟩ := el25 x hx; exact ⟨p, hp.neE x2125 k26 rfl rfl⟩
        · rw [List.mem_singleton.1 hx]; exact ⟨_, RAd25.neE x2125 k26 rfl rfl⟩
      · dsimp only at hi
        rcases snoc_get hi with ⟨ha1, ha2⟩ | ⟨hji, rfl⟩
        · exact hc15 i c ha2
        · have hij : i = j := by omega
          subst hij
          rw [hpf, hef]
          refine ⟨by show rA.length = _; omega, fun k q b r hqk hbk hrk => ?_⟩
          dsimp only at hbk hrk ⊢
          have hk := (List.getElem?_eq_some_iff.1 hqk).1
          obtain ⟨xm, hxm⟩ := get_lt (l := rm) (j := k) (by omega)
          obtain ⟨xu, hxu⟩ := get_lt (l := rlu) (j := k) (by omega)
          obtain ⟨xe, hxe⟩ := get_lt (l := rle) (j := k) (by omega)
          have hM := mm k q b xu xm hbk hxu hqk hxm
          rw [mliu k q xu hxu hqk] at hM
          refine ⟨xm.2, hM, ?_⟩
          rw [mad k q xm xe r hxm hxe hqk hrk, mlie k q xe hxe hqk]
    · dsimp only; omega
  have hj22 : j = 2 := by omega
  subst hj22
  obtain ⟨⟨vc0, r0⟩, ⟨vc1, r1⟩, rfl⟩ : ∃ a b, cs = [a, b] := by
    match cs, lc15 with
    | [a, b], _ => exact ⟨a, b, rfl⟩
  obtain ⟨lc0, rc0⟩ := hc15 0 _ rfl
  obtain ⟨lc1, rc1⟩ := hc15 1 _ rfl
  rw [hpF.1, heF.1] at rc0
  rw [hpF.2, heF.2] at rc1
  dsimp only at lc0 rc0 lc1 rc1
  have sC15 : SlA h15 (fun x : Value × List (Value × List Nat) => [x.1]) 1 vC [(vc0, r0), (vc1, r1)] := ⟨fun _ => rfl, SC15.own.sl⟩
  have hC0 : [(vc0, r0), (vc1, r1)][0]? = some (vc0, r0) := rfl
  obtain ⟨pc0, SE0⟩ := SC15.el (vc0, r0) (List.mem_cons_self ..)
  have A15 := A10.ext e1015
  have hq0' : ∀ (k q : Nat), qs[k]? = some q → 0 < q := fun k q hqk => by
    have := (hQ q (List.mem_of_getElem? hqk)).q1; omega
  have fc0 : ∀ (k q : Nat) (y : Value × List Nat), r0[k]? = some y → qs[k]? = some q → Fit (2 ^ L) q y.2 := fun k q y hy hqk => by
    obtain ⟨xb, hxb⟩ := get_lt (l := rb) (j := k) (by have := (List.getElem?_eq_some_iff.1 hqk).1; omega)
    obtain ⟨zB, hz, he⟩ := rc0 k q xb y hqk hxb hy
    rw [he]
    exact addL_fit (hq0' k q hqk) hz.1.1 (by rw [lift_len]; exact lxs)
  have vc0one : vc0.oneCell' = true := SE0.own.sl.one
  have n21C : pblk p21 ≠ vC.ownBlock := by rw [b12]; intro e; have := hCB _ e.symm; have := e1113.1; have := e14.1; omega
  have nC : ∀ b, b < h14.size → some b ≠ vC.ownBlock := fun b hb e => by have := hCB _ e.symm; omega
  have n4C : pblk p4 ≠ vC.ownBlock := by obtain ⟨b, hb, hl⟩ := x114.blk; rw [hb]; exact nC _ hl
  have n8C : pblk p8 ≠ vC.ownBlock := by obtain ⟨b, hb, hl⟩ := x414.blk; rw [hb]; exact nC _ hl
  have nOld : ∀ {w : Value}, (∀ b, w.ownBlock = some b → b < h14.size) → w.ownBlock = none ∨ w.ownBlock ≠ vC.ownBlock := fun {w} hw => by
    cases hb : w.ownBlock with
    | none => exact .inl rfl
    | some b => exact .inr (nC _ (hw _ hb))
  have h1014 : h10.size ≤ h14.size := e1014.1
  have nqC := nOld (w := vq) fun b hb => Nat.lt_of_lt_of_le (A10.row.lt hq0 b hb) h1014
  have ntC := nOld (w := vt) fun b hb => Nat.lt_of_lt_of_le (sm10.lt (by rw [hm.1]; exact hp0) b hb) h1014
  have ngC : vC.ownBlock ≠ some 2 := fun e => by have := hCB _ e; have := hTB10.lt; omega
  have sm15 := sm10.ext e1015
  have TB15 := hTB10.ext e1015
  have lspr : (sprZ (prodL qs / t) t ms).length = 2 ^ L := by unfold sprZ; rw [List.length_map]; exact hm.1
  generalize hspr : sprZ (prodL qs / t) t ms = spr at *
  refine runJN ?_
  refine r_drawnKR (h := h15) (Only vC.ownBlock h15) (fun i => Nat.beq i 10 || Nat.beq i 11) (fun i => Nat.beq i 6) Ext (fun i v g => match i with
    | 10 => v = N (qs.length - 1)
    | _ => ∃ vs rsp psp, v = .agg #[vs] ∧ RowsAt g h15.size psp vs rsp ∧ rsp.map (·.2) = qs.map (liftL spr)) rfl mixed (by kernel_rfl) (fun _ _ e => e) (fun i v g g' a e => ?_) (Only.refl _ _) ?_
  · split at a
    · exact a
    · obtain ⟨vs, rsp, psp, h1, h2, h3⟩ := a
      exact ⟨vs, rsp, psp, h1, h2.ext e, h3⟩
  refine k_run (j := 6) h15 rfl rfl (by kernel_rfl) (by kernel_rfl) ?_
  refine runJ ?_
  refine ⟨⟨rfl, ?_⟩⟩
  refine k_loadPA (cs := [vc0]) rfl rfl rfl rfl rfl rfl rfl (fun _ _ a e => a.trans e) (fun g => Ext.refl g) (fun g hC hD _ => (sC15.ext hD).cells hC0) ?_
  refine k_run (j := 10) h15 rfl rfl (by kernel_rfl) (by kernel_rfl) ?_
  refine runJ ?_
  refine ⟨⟨rfl, ?_⟩⟩
  refine k_fcallX rfl rfl rfl rfl Tryz_ent52 rfl (fun g hC _ => (TOP g ⟨A15.row.only hC nqC, A15.al, A15.t64, A15.ln⟩).mono fun v g' ⟨hv, e⟩ => ⟨e, hC.trans (e.only _), hv⟩) (fun v10 hx10 => ?_)
  obtain ⟨-, -, rfl⟩ := hx10
  refine k_fcallX rfl rfl rfl rfl Tryz_ent58 rfl (fun g hC _ => (spread_spec L t w vq vt ms qs g (TB15.onlyG hC ngC) ⟨A15.row.only hC nqC, A15.al, A15.t64, A15.ln⟩ P hL3 hL9 hQ (sm15.only hC ntC) hm).mono fun v g' ⟨e, vs, rsp, psp, hv, RS, ms'⟩ => ⟨e, hC.trans (e.only _), vs, rsp, psp, hv, RS.base hC.1, by rw [ms', hspr]⟩) (fun v11 hx11 => ?_)
  obtain ⟨-, -, vs, -, -, rfl, -, -⟩ := hx11
  refine k_call rfl rfl rfl rfl Tryz_ent57 rfl ?_
  intro g3 hC3 hD3 hT3
  obtain ⟨vs', rsp, psp, hvs, RS, msp⟩ := hT3 (11, .agg #[vs]) (by simp)
  have hvs' : vs = vs' := by injection hvs with h1; injection h1 with h1; injection h1
  subst hvs'
  obtain ⟨lsp, msi, fsp⟩ := liftRs _ rsp lspr msp
  refine (ringAdd_spec g vc0 vs R r0 rsp g3 RO (RA15.ext hD3) (SE0.pol.ext hD3) RS.pol (hpol (vc0, r0) (by dsimp only; omega) fc0) (hpol (vs, rsp) (by dsimp only; omega) fsp) (by omega)).mono ?_
  rintro _ g4 ⟨f4, va, rA, rfl, RAd, lad, mad⟩
  refine ⟨hC3.trans (f4.only _), .inr ⟨by kernel_rfl, ?_⟩⟩
  rw [hRq] at mad
  have hva := RAd.own.sl.one
  have z14g : h14.size ≤ g3.size := Nat.le_trans z15 hD3.1
  refine k_run (j := 17) g4 rfl rfl (by kernel_rfl) (by kernel_rfl) ?_
  refine runJ ?_
  refine ⟨⟨rfl, ?_⟩⟩
  refine k_storeO (v := vC) (j := 0) (us := [va]) (cs := [vc0, vc1]) (B := h14.size) (s := 1) (n' := 2) (e := 56) (fun g => SwAt g h14.size vC [(va, rA), (vc1, r1)]) rfl rfl rfl rfl rfl rfl (fun c hc => by rw [List.mem_singleton.1 hc]; exact hva) rfl Nat.zero_lt_one (by simp) (by kernel_rfl) (fun _ _ a e => a.ext e) (fun g hC hD _ => (SC15.ext (hD3.trans (f4.trans hD))).own) (fun g g' hC hD _ o k => ?_) ?_
  · have SCg := SC15.ext (hD3.trans (f4.trans hD))
    obtain ⟨p1, SE1⟩ := SCg.el (vc1, r1) (by simp)
    refine ⟨hC.trans k, o, fun x hx => ?_⟩
    rcases List.mem_cons.1 hx with rfl | hx
    · exact ⟨_, ((RAd.ext hD).neO SCg.own k).base z14g⟩
    · rw [List.mem_singleton.1 hx]; exact ⟨p1, SE1.neO SCg.own k⟩
  refine k_done rfl ?_
  rintro h19 k1519 SC19 -
  clear hC3 hT3
  have x2119 := x2115.only k1519 n21C
  have x819 := x415.only k1519 n8C
  have e1119 : Ext h11 h19 := ext_onlyR e15 k1519 fun b hb => Nat.le_trans e1114.1 (hCB b hb)
  have hvC := SC19.own.sl.one
  refine runJ ?_
  (apply s_storeV; exact rfl; exact rfl; exact rfl; exact (OneAll.cons hvC OneAll.nil : OneAll [vC]); exact rfl; exact rfl; exact x819; exact rfl)
  intro h20 x20 k20
  refine ⟨trivial, ?_⟩
  have SC20 := SC19.neE x819 k20 rfl rfl rfl
  have x20 : Var h20 p8 62 [vC] := x20
  have hge8 : ∀ j, pblk p8 = some j → h.size ≤ j := fun j hj => by
    rw [b4] at hj; cases hj; exact ((e1.trans e2).trans e3).1
  have K19 : Only (pblk tp) h h19 := K10.trans ((e11.trans e1119).only _)
  have T19 : TapeAt h19 tp Bt ds3 false := T10.ext (e11.trans e1119)
  have hz14 : h.size ≤ h14.size := by have := K10.1; have := e1014.1; omega
  refine runJ ?_
  refine finCT rfl rfl rfl x20 rfl rfl ⟨only_own K19 k20 hge8, vC, (va, rA), (vc1, r1), rfl, SC20.base hz14, T19.own k20 hpk T.bl hge8, ?_⟩
  refine ⟨by rw [List.length_map]; show rA.length = _; omega, by rw [List.length_map]; show r1.length = _; omega, fun i q b c hqi hb hc => ?_, fun i q a c hqi ha hc => ?_⟩
  · rw [List.getElem?_map] at hb hc
    obtain ⟨xb, hxb, rfl⟩ := Option.map_eq_some_iff.1 hb
    obtain ⟨xc, hxc, rfl⟩ := Option.map_eq_some_iff.1 hc
    have hi := (List.getElem?_eq_some_iff.1 hqi).1
    obtain ⟨x0, hx0⟩ := get_lt (l := r0) (j := i) (by omega)
    obtain ⟨xs', hxs'⟩ := get_lt (l := rsp) (j := i) (by omega)
    obtain ⟨zB, hz, he⟩ := rc0 i q xb x0 hqi hxb hx0
    refine ⟨zB, hz, ?_⟩
    rw [mad i q x0 xs' xc hx0 hxs' hqi hxc, he, msi i q xs' hxs' hqi]
  · rw [List.getElem?_map] at ha hc
    obtain ⟨xa, hxa, rfl⟩ := Option.map_eq_some_iff.1 ha
    obtain ⟨xc, hxc, rfl⟩ := Option.map_eq_some_iff.1 hc
    exact rc1 i q xa xc hqi hxa hxc
end Go.Proofs.YtfcmdefigldpnaaGreatDoor


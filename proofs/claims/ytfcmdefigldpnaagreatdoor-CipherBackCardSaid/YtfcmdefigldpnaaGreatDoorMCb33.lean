/- Texts CipP to CipU of this work, joined, without what the law does not lean on. -/
import Derived.Test.YtfcmdefigldpnaaGreatDoorMCb32
namespace Go.Proofs.YtfcmdefigldpnaaGreatDoor
set_option linter.unusedVariables false
set_option maxRecDepth 8000
open Go Go.Den Go.RowKit Go.Mth Go.Dig

theorem cmpI_gtN (m n : Nat) : 0 < cmpI m n ↔ n < m := by
  unfold cmpI
  by_cases h : m < n
  · rw [if_pos h]; constructor
    · intro h'; omega
    · intro h'; omega
  · rw [if_neg h]
    by_cases h2 : n < m
    · rw [if_pos h2]; exact ⟨fun _ => h2, fun _ => by omega⟩
    · rw [if_neg h2]; constructor
      · intro h'; omega
      · intro h'; omega

theorem Tryz_ent24 : Ent Tryz.prog 24 := ent_of Tryz.func24 (by kernel_rfl) rfl
set_option maxHeartbeats 8000000 in
theorem noiseC_spec (L t w : Nat) (vq vs vc vt : Value) (ms qs : List Nat) (ss : List Int) (c0 c1 : Value × List (Value × List Nat)) (es us xs ys : List Int) (h : Hp) (TB0 : TB h) (A : ParAt h ⟨((2 ^ L : Nat) : Int), t, vq, qs, (w : Int)⟩) (P : parP ⟨((2 ^ L : Nat) : Int), t, vq, qs, (w : Int)⟩) (hL3 : 3 ≤ L) (hL9 : L ≤ 9) (hQ : ∀ q ∈ qs, QOk L q)
    (s : SlF h I vs ss) (hS : SecP ((2 ^ L : Nat) : Int) ss) (sc : SlA h (fun x : Value × List (Value × List Nat) => [x.1]) 1 vc [c0, c1])
    (hp : ∀ x ∈ [c0, c1], PolAt h x.1 x.2 ∧ x.2.length = qs.length ∧ ∀ (i q : Nat) (y : Value × List Nat), x.2[i]? = some y → qs[i]? = some q → Fit (2 ^ L) q y.2)
    (sm : SlF h U vt ms) (hm : Fit (2 ^ L) t ms)
    (C : Cop qs) (hH : ∀ (R : RngD), RngOk R → R.L = L → R.qs = qs → ∀ x, HoldR (2 ^ L) qs ss (c0.2.map (·.2)) (c1.2.map (·.2)) x → ResOf (2 ^ L) qs x (heldZ (2 ^ L) ss es us xs ys (sprZ (prodL qs / t) t ms))) (hz : ∀ z ∈ noiseZ (2 ^ L) ss es us xs ys, -(prodL qs : Int) < 2 * z ∧ 2 * z < prodL qs) :
    CallsH Tryz.prog 24 [.agg #[N (2 ^ L), U t, vq, N w], vs, .agg #[vc], vt] h fun v' h' => Ext h h' ∧ (∃ vo, v' = .tuple #[vo, N 0] ∧ SlF h' U vo (dg 18446744073709551616 (mostN (noiseZ (2 ^ L) ss es us xs ys)))) ∧ ∃ R : RngD, RngOk R ∧ R.L = L ∧ R.qs = qs := by
  have b64 : (1 : Nat) < 18446744073709551616 := by decide
  have b640 : (0 : Nat) < 18446744073709551616 := by decide
  have hq0 : 0 < qs.length := P.2.2.1.2.2.1
  have hq8 : qs.length ≤ 8 := P.2.2.1.2.2.2
  have hnd : qs.Nodup := P.2.2.1.2.1
  have ht30 : t < 1073741824 := P.2.1.1
  have hp9 : 2 ^ L ≤ 2 ^ 9 := Nat.pow_le_pow_right (by decide) hL9
  have e9 : (2 : Nat) ^ 9 = 512 := by decide
  have ht0 : 0 < t := by
    have := P.2.1.2.1
    dsimp only at this
    rcases Nat.eq_zero_or_pos t with h | h
    · rw [h, Nat.zero_mod] at this; cases this
    · exact h
  have hal : Al 18446744073709551616 qs := A.al
  have hR := rightP_of hL3 hQ hnd hq0 (by omega)
  have hqo : vq.oneCell' = true := A.row.one
  have hPl := prodL_lt hal
  have hqp : ∀ q ∈ qs, 0 < q := fun q hq => by have := (hQ q hq).q1; omega
  have hQ0 : 0 < prodL qs := prodL_pos9 fun q hq => hqp q hq
  have lms := hm.1
  have lspr : (sprZ (prodL qs / t) t ms).length = 2 ^ L := by unfold sprZ; rw [List.length_map]; exact lms
  generalize hns : noiseZ (2 ^ L) ss es us xs ys = ns at *
  have lns : ns.length = 2 ^ L := by rw [← hns]; unfold noiseZ; rw [List.length_map, List.length_range]
  have hmx : ∀ j, mostN (ns.take j) < prodL qs := fun j => mostN_lt hQ0 fun z hz' => hz z (List.mem_of_mem_take hz')
  have ldg : ∀ {m : Nat}, m < prodL qs → (dg 18446744073709551616 m).length ≤ 9 := fun {m} hm' => by
    have := dg_len (b := 18446744073709551616) (n := m) (k := qs.length + 1) b64 (by omega)
    omega
  (apply enter Tryz.func24 rfl Tryz.ntmps24 rfl)
  refine runJ ?_
  (apply s_box; exact rfl; exact rfl; exact rfl; exact rfl)
  intro p4 h1 x1 e1 b1
  (try dsimp only [Value.cells, List.toList_toArray] at x1)
  refine clsI ?_
  refine runJ ?_
  (apply s_box; exact rfl; exact rfl; exact rfl; exact rfl)
  intro p6 h2 x2 e2 b2
  (try dsimp only [Value.cells, List.toList_toArray] at x2)
  refine clsI ?_
  have x2 : Var h2 p6 62 [vc] := x2
  have E2 := e1.trans e2
  have x12 := x1.ext e2
  refine runJ ?_
  apply (s_call Tryz_ent59 rfl rfl rfl)
  refine (holdsC_spec L t w vq vs vc qs ss c0 c1 h2 (TB0.ext E2) (A.ext E2) P hL3 hL9 hQ (s.ext E2) hS (sc.ext E2) (fun x hx => ⟨(hp x hx).1.ext E2, (hp x hx).2⟩)).mono ?_
  rintro _ h3 ⟨e3, vr, rows, pr, rfl, RW, HR, R, RO, hRL, hRq⟩
  refine ⟨trivial, ?_⟩
  have E3 := E2.trans e3
  have x13 := x12.ext e3
  have hvr := RW.own.sl.one
  have RS := hH R RO hRL hRq _ HR
  refine runJ ?_
  (apply s_alloc; exact rfl; exact rfl; exact rfl)
  intro p10 h4 x4 e4 b4
  (try dsimp only [Value.cells, List.toList_toArray] at x4)
  refine clsI ?_
  refine runJ ?_
  (apply s_storeV; exact rfl; exact rfl; exact rfl; exact (OneAll.cons hvr OneAll.nil : OneAll [vr]); exact rfl; exact rfl; exact x4; exact rfl)
  intro h5 x5 k5
  refine ⟨trivial, ?_⟩
  have x5 : Var h5 p10 56 [vr] := x5
  have e35 : Ext h3 h5 := k5.oldV e4 b4 (Nat.le_refl _)
  have E5 := E3.trans e35
  have x15 := x13.ext e35
  have RW5 := RW.ext e35
  refine runJ ?_
  apply (s_call Tryz_ent50 rfl rfl rfl)
  refine (isText_spec (2 ^ L) t w vq vt ms h5 (sm.ext E5) hqo hm (by omega) ht0 (by omega)).mono ?_
  rintro _ h6 ⟨rfl, e6⟩
  refine ⟨trivial, ?_⟩
  have E6 := E5.trans e6
  have x16 := x15.ext e6
  have x56 := x5.ext e6
  have RW6 := RW5.ext e6
  have A6 := A.ext E6
  refine runJ ?_
  apply (s_call Tryz_ent68 rfl rfl rfl)
  refine (ringNew_spec L vq qs h6 (TB0.ext E6) A6.row (by omega) hL9 hQ hnd hq0 (by omega)).mono ?_
  rintro _ h7 ⟨e7, g, R2, rfl, RA, RO2, hRL2, hRq2⟩
  refine ⟨trivial, ?_⟩
  have E7 := E6.trans e7
  have x17 := x16.ext e7
  have x57 := x56.ext e7
  have RW7 := RW6.ext e7
  have gone : g.oneCell' = true := RA.var.one
  have hpol : ∀ rs : List (Value × List Nat), rs.length = qs.length → (∀ (i q : Nat) (y : Value × List Nat), rs[i]? = some y → qs[i]? = some q → Fit (2 ^ L) q y.2) → PolOk R2 rs := fun rs hl hf => ⟨by omega, by rw [hRq2]; omega, fun i q y hy hq => by rw [hRL2]; rw [hRq2] at hq; exact hf i q y hy hq⟩
  have lrow : rows.length = qs.length := by have := HR.1; rwa [List.length_map] at this
  have PX : PolOk R2 rows := hpol rows lrow fun i q y hy hq => (RS.2.2 i q y.2 (by rw [List.getElem?_map, hy]; rfl) hq).1
  refine runJN ?_
  refine r_drawnKR (h := h7) (Ext h7) (fun i => Nat.beq i 10) (fun _ => false) Ext (fun _ p g => Var g p 56 [.slice none 0 0] ∧ ∃ b, pblk p = some b ∧ h7.size ≤ b) rfl mixed (by kernel_rfl) (fun _ _ e => e) (fun _ _ _ _ a e => ⟨a.1.ext e, a.2⟩) (Ext.refl _) ?_
  refine k_run (j := 5) h7 rfl rfl (by kernel_rfl) (by kernel_rfl) ?_
  refine runJ ?_
  refine ⟨⟨rfl, ?_⟩⟩
  refine k_call rfl rfl rfl rfl Tryz_ent58 rfl ?_
  intro g1 hC1 hD1 hT1
  refine (spread_spec L t w vq vt ms qs g1 (TB0.ext (E7.trans hC1)) (A.ext (E7.trans hC1)) P hL3 hL9 hQ (sm.ext (E7.trans hC1)) hm).mono ?_
  rintro _ g2 ⟨f2, vy, ry, py, rfl, RY, my⟩
  refine ⟨hC1.trans f2, .inl ⟨f2, ?_⟩⟩
  have lry : ry.length = qs.length := by have := congrArg List.length my; rwa [List.length_map, List.length_map] at this
  have hryi : ∀ (i q : Nat) (y : Value × List Nat), ry[i]? = some y → qs[i]? = some q → y.2 = liftL (sprZ (prodL qs / t) t ms) q := fun i q y hy hq => by
    have h2 := congrArg (fun l => l[i]?) my
    simp only [List.getElem?_map, hy, hq, Option.map_some, Option.some.injEq] at h2
    exact h2
  have PY : PolOk R2 ry := hpol ry lry fun i q y hy hq => by
    rw [hryi i q y hy hq]
    refine ⟨by rw [lift_len]; exact lspr, fun z hz' => ?_⟩
    unfold liftL at hz'
    obtain ⟨z', -, rfl⟩ := List.mem_map.1 hz'
    exact liftm_lt9 (hqp q (List.mem_of_getElem? hq))
  refine k_call rfl rfl rfl rfl Tryz_ent69 rfl ?_
  intro g3 hC3 hD3 hT3
  refine (ringSub_spec g vr vy R2 rows ry g3 RO2 (RA.ext hC3) (RW7.pol.ext hC3) (RY.pol.ext hD3) PX PY (by omega)).mono ?_
  rintro _ g4 ⟨f4, vd, rd, rfl, RD, ld, cd⟩
  refine ⟨hC3.trans f4, .inl ⟨f4, ?_⟩⟩
  have hvd := RD.own.sl.one
  refine k_run (j := 10) g4 rfl rfl (by kernel_rfl) (by kernel_rfl) ?_
  refine runJ ?_
  refine ⟨⟨rfl, ?_⟩⟩
  refine k_alloc rfl rfl rfl rfl rfl (fun g p g' hC x e b => ⟨hC.trans e, x, _, b, hC.1⟩) ?_
  intro p15
  refine k_storeV (p := p15) (u := .agg #[vd]) (us := [vd]) (cs := [.slice none 0 0]) (fun g => Ext h7 g ∧ Var g p15 56 [vd] ∧ RowsAt g h7.size none vd rd) rfl rfl rfl rfl rfl rfl (OneAll.cons hvd OneAll.nil) rfl rfl (by kernel_rfl) (fun _ _ a e => ⟨a.1.trans e, a.2.1.ext e, a.2.2.ext e⟩) (fun g hC hD hT => (hT (10, p15) (by simp)).1) (fun g g' hC hD hT x k => ?_) ?_
  · obtain ⟨xo, b, hb, hbl⟩ := hT (10, p15) (by simp)
    have e' : Ext h7 g' := ext_onlyR hC k fun j hj => by rw [hb] at hj; cases hj; exact hbl
    exact ⟨e', e', x, ((RD.base hC3.1).ext hD).neE xo k rfl rfl⟩
  refine k_run (j := 13) g4 rfl rfl (by kernel_rfl) (by kernel_rfl) ?_
  refine runJ ?_
  refine ⟨⟨rfl, ?_⟩⟩
  refine k_done rfl ?_
  rintro h8 hC8 ⟨e8, x8, RD8⟩ -
  have x18 := x17.ext e8
  have E8 := E7.trans e8
  have sq8 : SlF h8 U vq qs := A.row.ext E8
  have c8 := sq8.cut (lo := 0) (hi := qs.length - 1 + 1) (Nat.zero_le _) (by omega)
  rw [List.drop_zero, Nat.sub_zero, List.take_of_length_le (by omega)] at c8
  have RN : ResOf (2 ^ L) qs (rd.map (·.2)) ns := by
    rw [← hns]
    refine res_noise hqp lspr RS my (by rw [List.length_map]; omega) fun i q a b d hq ha hb hd => ?_
    rw [List.getElem?_map] at ha hb hd
    cases hx : rows[i]? with
    | none => rw [hx] at ha; cases ha
    | some x =>
      cases hy : ry[i]? with
      | none => rw [hy] at hb; cases hb
      | some y =>
        cases hr : rd[i]? with
        | none => rw [hr] at hd; cases hd
        | some r =>
          rw [hx] at ha; rw [hy] at hb; rw [hr] at hd
          cases ha; cases hb; cases hd
          exact .inl (cd i q x y r hx hy (by rw [hRq2]; exact hq) hr)
  refine runJ ?_
  apply (s_call Tryz_ent60 rfl rfl rfl)
  refine (cWholes_spec vd _ rd qs (2 ^ L) ns h8 (TB0.ext E8) RD8.pol c8 hR C (by omega) RN hz).mono ?_
  rintro _ h9 ⟨e9', v17, xz, rfl, I9, mx⟩
  refine ⟨(by first | exact trivial | exact e9'), ?_⟩
  have E9 := E8.trans e9'
  have hxl : xz.length = 2 ^ L := by have := congrArg List.length mx; rw [List.length_map] at this; omega
  have sI9 := I9.sla
  refine runJ ?_
  (first | (apply w_seqB; exact rfl; apply w_block; exact rfl) | skip)
  apply (w_loop (σ := Nat × Value) rfl (fun j => [(17, v17), (19, j.2), (67, v17), (68, N xz.length), (69, N j.1)])
    (fun j h' => Ext h9 h' ∧ j.1 ≤ xz.length ∧ SlF h' U j.2 (dg 18446744073709551616 (mostN (ns.take j.1)))) (fun j => xz.length - j.1) (0, .slice none 0 0))
  · exact subs
  · exact ⟨Ext.refl _, Nat.zero_le _, SlF.nil _ _⟩
  rintro ⟨j, m⟩ h10 ⟨e10, j1, s10⟩
  dsimp only at e10 j1 s10 ⊢
  have E10 := E9.trans e10
  have I10 := I9.ext e10
  have sI10 := I10.sla
  refine runJ ?_
  (apply w_condD; exact rfl; exact rfl) <;> intro hj
  · obtain ⟨⟨va, z⟩, hxj⟩ := get_lt hj
    have hxm := List.mem_of_getElem? hxj
    have sva := (I10.el _ hxm).sl
    dsimp only at sva
    have hvo := sva.one
    have hzj : ns[j]? = some z := by rw [← mx, List.getElem?_map, hxj]; rfl
    have hzb := hz z (List.mem_of_getElem? hzj)
    have lz : (dg 18446744073709551616 z.natAbs).length ≤ 9 := ldg (by omega)
    have lm := ldg (hmx j)
    have hmt := mostN_take hzj
    refine runJ ?_
    (apply s_alloc; exact rfl; exact rfl; exact rfl)
    intro p21 h11 x11 e11 b11
    (try dsimp only [Value.cells, List.toList_toArray] at x11)
    refine clsI ?_
    refine runJ ?_
    (apply s_storeV; exact rfl; exact rfl; exact rfl; exact (OneAll.cons rfl (OneAll.cons hvo OneAll.nil) : OneAll [.bool (decide (z < 0)), va]); exact rfl; exact rfl; exact x11; exact rfl)
    intro h12 x12' k12
    refine ⟨trivial, ?_⟩
    have x12' : Var h12 p21 124 [.bool (decide (z < 0)), va] := x12'
    have e1012 : Ext h10 h12 := k12.oldV e11 b11 (Nat.le_refl _)
    have s12 := s10.ext e1012
    have sva12 := sva.ext e1012
    have CP := cmp_spec va m _ _ h12 sva12 s12 (al_dg b640 _) (al_dg b640 _) (by omega) (by omega)
    rw [vl_dg b64, vl_dg b64] at CP
    refine runJ ?_
    apply (s_call Tryz_ent70 rfl rfl rfl)
    refine (CP).mono ?_
    rintro _ _ ⟨rfl, rfl⟩
    refine ⟨trivial, ?_⟩
    refine runJ ?_
    (apply w_condD; exact rfl; exact rfl) <;> intro hc
    · have hc' := (cmpI_gtN _ _).1 (by omega)
      refine runJ ?_
      apply again_normal (j + 1, va)
      · exact subs
      · refine ⟨e10.trans e1012, hj, ?_⟩
        dsimp only
        rw [hmt, show max (mostN (ns.take j)) z.natAbs = z.natAbs by omega]
        exact sva12
      · dsimp only; omega
    · have hc' : ¬ mostN (ns.take j) < z.natAbs := fun hh => hc (by have := (cmpI_gtN _ _).2 hh; omega)
      refine runJ ?_
      apply again_normal (j + 1, m)
      · exact subs
      · refine ⟨e10.trans e1012, hj, ?_⟩
        dsimp only
        rw [hmt, show max (mostN (ns.take j)) z.natAbs = mostN (ns.take j) by omega]
        exact s12
      · dsimp only; omega
  · rw [List.take_of_length_le (by omega)] at s10
    refine runJ ?_
    exact fin2 rfl rfl rfl ⟨E10, ⟨m, rfl, s10⟩, R, RO, hRL, hRq⟩

theorem Tryz_ent79 : Ent Tryz.prog 79 := ent_of Tryz.func79 (by kernel_rfl) rfl
set_option maxHeartbeats 1000000 in
theorem refNumbers12_spec (n0 t w : Nat) (va vq : Value) (rows : List (Value × List Nat)) (qs : List Nat) (n : Nat) (zs : List Int) (h : Hp) (S : PolAt h va rows) (sq : SlF h U vq qs) (h0 : 0 < qs.length) (h24 : qs.length ≤ 24) (hq : ∀ q ∈ qs, 3 ≤ q ∧ q < 2305843009213693952 ∧ isR q = true) (hnd : qs.Nodup) (C : Cop qs) (I6 : Inv6 qs) (hn : n ≤ 4096)
    (hR : ResOf n qs (rows.map (·.2)) zs) (hz : ∀ z ∈ zs, -(prodL qs : Int) < 2 * z ∧ 2 * z < prodL qs) :
    CallsH Tryz.prog 79 [.agg #[N n0, U t, vq, N w], .agg #[va]] h fun v' h' => Ext h h' ∧ ∃ xs, IntsAt h' h.size v' xs ∧ xs.map (·.2) = zs := by
  have hrl : rows.length = qs.length := by have := hR.1; rwa [List.length_map] at this
  have hqo := sq.one
  (apply enter Tryz.func79 rfl Tryz.ntmps79 rfl)
  refine runJ ?_
  (apply s_box; exact rfl; exact rfl; exact rfl; exact rfl)
  intro p2 h1 x1 e1 b1
  (try dsimp only [Value.cells, List.toList_toArray] at x1)
  refine clsI ?_
  refine runJ ?_
  (apply s_box; exact rfl; exact rfl; exact rfl; exact rfl)
  intro p3 h2 x2 e2 b2
  (try dsimp only [Value.cells, List.toList_toArray] at x2)
  refine clsI ?_
  have x2 : Var h2 p3 56 [va] := x2
  have E2 := e1.trans e2
  have x12 := x1.ext e2
  have S2 := S.ext E2
  have r2 := S2.row
  have sq2 := sq.ext E2
  have c2 := sq2.cut (lo := 0) (hi := rows.length) (Nat.zero_le _) (by omega)
  rw [List.drop_zero, Nat.sub_zero, List.take_of_length_le (by omega)] at c2
  refine runJ ?_
  apply (s_call Tryz_ent139 rfl rfl rfl)
  refine (refWholes6_spec va _ rows qs n zs h2 S2 c2 h0 h24 hq hnd C I6 hn hR hz).mono ?_
  rintro _ h3 ⟨e3, v, xs, rfl, I3, mx⟩
  refine ⟨(by first | exact trivial | exact e3), ?_⟩
  refine runJ ?_
  exact fin1 rfl rfl ⟨E2.trans e3, xs, ⟨I3.own.base E2.1, fun x hx => (I3.el x hx).base E2.1, I3.ne⟩, mx⟩

theorem Tryz_ent30 : Ent Tryz.prog 30 := ent_of Tryz.func30 (by kernel_rfl) rfl
set_option maxHeartbeats 8000000 in
theorem refNoise12_spec (L t w : Nat) (vq vs vc vt : Value) (ms qs : List Nat) (ss : List Int) (c0 c1 : Value × List (Value × List Nat)) (es us xs ys : List Int) (h : Hp) (sq : SlF h U vq qs) (h0 : 0 < qs.length) (h8 : qs.length ≤ 8) (hq : ∀ q ∈ qs, 3 ≤ q ∧ q < 2305843009213693952 ∧ isR q = true) (hnd : qs.Nodup) (C : Cop qs) (I6 : Inv6 qs) (hL9 : L ≤ 9) (ht0 : 0 < t) (ht30 : t < 1073741824)
    (s : SlF h I vs ss) (hsn : ss.length = 2 ^ L) (hsb : ∀ x ∈ ss, -9223372036854775808 ≤ x ∧ x < 9223372036854775808) (sc : SlA h (fun x : Value × List (Value × List Nat) => [x.1]) 1 vc [c0, c1])
    (hp : ∀ x ∈ [c0, c1], PolAt h x.1 x.2 ∧ x.2.length = qs.length ∧ ∀ (i q : Nat) (y : Value × List Nat), x.2[i]? = some y → qs[i]? = some q → Fit (2 ^ L) q y.2)
    (sm : SlF h U vt ms) (hm : Fit (2 ^ L) t ms) (hH : ∀ x, HoldR (2 ^ L) qs ss (c0.2.map (·.2)) (c1.2.map (·.2)) x → ResOf (2 ^ L) qs x (heldZ (2 ^ L) ss es us xs ys (sprZ (prodL qs / t) t ms))) (hz : ∀ z ∈ noiseZ (2 ^ L) ss es us xs ys, -(prodL qs : Int) < 2 * z ∧ 2 * z < prodL qs) :
    CallsH Tryz.prog 30 [.agg #[N (2 ^ L), U t, vq, N w], vs, .agg #[vc], vt] h fun v' h' => Ext h h' ∧ SlF h' U v' (dg 18446744073709551616 (mostN (noiseZ (2 ^ L) ss es us xs ys))) := by
  have b64 : (1 : Nat) < 18446744073709551616 := by decide
  have b640 : (0 : Nat) < 18446744073709551616 := by decide
  have hp9 : 2 ^ L ≤ 2 ^ 9 := Nat.pow_le_pow_right (by decide) hL9
  have e9 : (2 : Nat) ^ 9 = 512 := by decide
  have hp0 : 0 < 2 ^ L := Nat.two_pow_pos _
  have hqo := sq.one
  have hqp : ∀ q ∈ qs, 0 < q := fun q hq' => by have := hq q hq'; omega
  have hq64 : ∀ q ∈ qs, 0 < q ∧ q < 18446744073709551616 := fun q hq' => by have := hq q hq'; omega
  have hq641 : ∀ q ∈ qs, 1 < q ∧ q < 18446744073709551616 := fun q hq' => by have := hq q hq'; omega
  have hal : Al 18446744073709551616 qs := fun q h => (hq64 q h).2
  have hPl := prodL_lt hal
  have hQ0 : 0 < prodL qs := prodL_pos9 fun q hq' => hqp q hq'
  have lms := hm.1
  have lspr : (sprZ (prodL qs / t) t ms).length = 2 ^ L := by unfold sprZ; rw [List.length_map]; exact lms
  obtain ⟨SC0, lc0, fc0⟩ := hp c0 (by simp)
  generalize hns : noiseZ (2 ^ L) ss es us xs ys = ns at *
  have lns : ns.length = 2 ^ L := by rw [← hns]; unfold noiseZ; rw [List.length_map, List.length_range]
  have hmx : ∀ j, mostN (ns.take j) < prodL qs := fun j => mostN_lt hQ0 fun z hz' => hz z (List.mem_of_mem_take hz')
  have ldg : ∀ {m : Nat}, m < prodL qs → (dg 18446744073709551616 m).length ≤ 9 := fun {m} hm' => by
    have := dg_len (b := 18446744073709551616) (n := m) (k := qs.length + 1) b64 (by omega)
    omega
  (apply enter Tryz.func30 rfl Tryz.ntmps30 rfl)
  refine runJ ?_
  (apply s_box; exact rfl; exact rfl; exact rfl; exact rfl)
  intro p4 h1 x1 e1 b1
  (try dsimp only [Value.cells, List.toList_toArray] at x1)
  refine clsI ?_
  refine runJ ?_
  (apply s_box; exact rfl; exact rfl; exact rfl; exact rfl)
  intro p6 h2 x2 e2 b2
  (try dsimp only [Value.cells, List.toList_toArray] at x2)
  refine clsI ?_
  have x2 : Var h2 p6 62 [vc] := x2
  have E2 := e1.trans e2
  have x12 := x1.ext e2
  refine runJN ?_
  refine r_drawnKR (h := h2) (Ext h2) (fun i => Nat.beq i 12) (fun _ => false) Ext (fun _ p g => Var g p 56 [.slice none 0 0] ∧ ∃ b, pblk p = some b ∧ h2.size ≤ b) rfl mixed (by kernel_rfl) (fun _ _ e => e) (fun _ _ _ _ a e => ⟨a.1.ext e, a.2⟩) (Ext.refl _) ?_
  refine k_run (j := 5) h2 rfl rfl (by kernel_rfl) (by kernel_rfl) ?_
  refine runJ ?_
  refine ⟨⟨rfl, ?_⟩⟩
  refine k_call rfl rfl rfl rfl Tryz_ent76 rfl ?_
  intro g1 hC1 hD1 hT1
  refine (refHolds12_spec (2 ^ L) t w vq vs vc qs ss c0 c1 g1 (sq.ext (E2.trans hC1)) (s.ext (E2.trans hC1)) hsn hsb (sc.ext (E2.trans hC1)) (fun x hx => ⟨(hp x hx).1.ext (E2.trans hC1), (hp x hx).2⟩) h0 h8 (by omega) (by omega) hq641).mono ?_
  rintro _ g2 ⟨f2, vr, rows, pr, rfl, RW, HR⟩
  have RS := hH _ HR
  have lrow : rows.length = qs.length := by have := HR.1; rwa [List.length_map] at this
  refine ⟨hC1.trans f2, .inl ⟨f2, ?_⟩⟩
  refine k_run (j := 9) g2 rfl rfl (by kernel_rfl) (by kernel_rfl) ?_
  refine runJ ?_
  refine ⟨⟨rfl, ?_⟩⟩
  refine k_call rfl rfl rfl rfl Tryz_ent78 rfl ?_
  intro g3 hC3 hD3 hT3
  refine (refLevel12_spec vc c0 c1 (qs.length - 1) g3 (sc.ext (E2.trans hC3)) (SC0.ext (E2.trans hC3)) (by omega) (by omega)).mono ?_
  rintro _ g4 ⟨rfl, f4⟩
  refine ⟨hC3.trans f4, .inl ⟨f4, ?_⟩⟩
  refine k_call rfl rfl rfl rfl Tryz_ent77 rfl ?_
  intro g5 hC5 hD5 hT5
  refine (refSpread12_spec (2 ^ L) t w vq vt ms qs g5 (sq.ext (E2.trans hC5)) hq64 h0 h8 ht0 ht30 (sm.ext (E2.trans hC5)) hm (by omega)).mono ?_
  rintro _ g6 ⟨f6, vy, ry, py, rfl, RY, my⟩
  refine ⟨hC5.trans f6, .inl ⟨f6, ?_⟩⟩
  have lry : ry.length = qs.length := by have := congrArg List.length my; rwa [List.length_map, List.length_map] at this
  have hryi : ∀ (i q : Nat) (y : Value × List Nat), ry[i]? = some y → qs[i]? = some q → y.2 = liftL (sprZ (prodL qs / t) t ms) q := fun i q y hy hq => by
    have h2 := congrArg (fun l => l[i]?) my
    simp only [List.getElem?_map, hy, hq, Option.map_some, Option.some.injEq] at h2
    exact h2
  have fy : ∀ (i q : Nat) (y : Value × List Nat), ry[i]? = some y → qs[i]? = some q → Fit (2 ^ L) q y.2 := fun i q y hy hq => by
    rw [hryi i q y hy hq]
    refine ⟨by rw [lift_len]; exact lspr, fun z hz' => ?_⟩
    unfold liftL at hz'
    obtain ⟨z', -, rfl⟩ := List.mem_map.1 hz'
    exact liftm_lt9 (hqp q (List.mem_of_getElem? hq))
  have fx : ∀ (i q : Nat) (y : Value × List Nat), rows[i]? = some y → qs[i]? = some q → Fit (2 ^ L) q y.2 := fun i q y hy hq => (RS.2.2 i q y.2 (by rw [List.getElem?_map, hy]; rfl) hq).1
  refine k_call rfl rfl rfl rfl Tryz_ent75 rfl ?_
  intro g7 hC7 hD7 hT7
  have e27 : Ext g2 g7 := hD3.trans (f4.trans (hD5.trans (f6.trans hD7)))
  refine (refSub5_spec vq vr vy qs rows ry g7 (sq.ext (E2.trans hC7)) (RW.pol.ext e27) (RY.pol.ext hD7) (by omega) (by omega) (by omega) (fun i q x y hx hy hq' => by
    have a := fx i q x hx hq'
    have b := fy i q y hy hq'
    have := hq64 q (List.mem_of_getElem? hq')
    exact ⟨by rw [a.1, b.1], by rw [a.1]; omega, fun u hu => by have := a.2 u hu; omega, fun u hu => by have := b.2 u hu; omega, this⟩)).mono ?_
  rintro _ g8 ⟨f8, vd, rd, pd, rfl, RD, ld, cd⟩
  refine ⟨hC7.trans f8, .inl ⟨f8, ?_⟩⟩
  have hvd := RD.own.sl.one
  refine k_alloc rfl rfl rfl rfl rfl (fun g p g' hC x e b => ⟨hC.trans e, x, _, b, hC.1⟩) ?_
  intro p9
  refine k_storeV (p := p9) (u := .agg #[vd]) (us := [vd]) (cs := [.slice none 0 0]) (fun g => Ext h2 g ∧ Var g p9 56 [vd] ∧ RowsAt g h2.size pd vd rd) rfl rfl rfl rfl rfl rfl (OneAll.cons hvd OneAll.nil) rfl rfl (by kernel_rfl) (fun _ _ a e => ⟨a.1.trans e, a.2.1.ext e, a.2.2.ext e⟩) (fun g hC hD hT => (hT (12, p9) (by simp)).1) (fun g g' hC hD hT x k => ?_) ?_
  · obtain ⟨xo, b, hb, hbl⟩ := hT (12, p9) (by simp)
    have e' : Ext h2 g' := ext_onlyR hC k fun j hj => by rw [hb] at hj; cases hj; exact hbl
    exact ⟨e', e', x, ((RD.base hC7.1).ext hD).neE xo k rfl rfl⟩
  refine k_done rfl ?_
  rintro h3 hC3' ⟨e3, x3, RD3⟩ -
  have x13 := x12.ext e3
  have E3 := E2.trans e3
  have RN : ResOf (2 ^ L) qs (rd.map (·.2)) ns := by
    rw [← hns]
    refine res_noise hqp lspr RS my (by rw [List.length_map]; omega) fun i q a b d hq ha hb hd => ?_
    rw [List.getElem?_map] at ha hb hd
    cases hx : rows[i]? with
    | none => rw [hx] at ha; cases ha
    | some x =>
      cases hy : ry[i]? with
      | none => rw [hy] at hb; cases hb
      | some y =>
        cases hr : rd[i]? with
        | none => rw [hr] at hd; cases hd
        | some r =>
          rw [hx] at ha; rw [hy] at hb; rw [hr] at hd
          cases ha; cases hb; cases hd
          exact .inr (cd i q x y r hx hy hq hr)
  refine runJ ?_
  apply (s_call Tryz_ent79 rfl rfl rfl)
  refine (refNumbers12_spec (2 ^ L) t w vd vq rd qs (2 ^ L) ns h3 RD3.pol (sq.ext E3) h0 (by omega) hq hnd C I6 (by omega) RN hz).mono ?_
  rintro v27 h9 ⟨e9', xz, I9, mx⟩
  refine ⟨trivial, ?_⟩
  have E9 := E3.trans e9'
  have hxl : xz.length = 2 ^ L := by have := congrArg List.length mx; rw [List.length_map] at this; omega
  have sI9 := I9.sla
  refine runJ ?_
  (first | (apply w_seqB; exact rfl; apply w_block; exact rfl) | skip)
  apply (w_loop (σ := Nat × Value) rfl (fun j => [(10, j.2), (27, v27), (28, N xz.length), (29, N j.1)])
    (fun j h' => Ext h9 h' ∧ j.1 ≤ xz.length ∧ SlF h' U j.2 (dg 18446744073709551616 (mostN (ns.take j.1)))) (fun j => xz.length - j.1) (0, .slice none 0 0))
  · exact subs
  · exact ⟨Ext.refl _, Nat.zero_le _, SlF.nil _ _⟩
  rintro ⟨j, m⟩ h10 ⟨e10, j1, s10⟩
  dsimp only at e10 j1 s10 ⊢
  have E10 := E9.trans e10
  have I10 := I9.ext e10
  have sI10 := I10.sla
  refine runJ ?_
  (apply w_condD; exact rfl; exact rfl) <;> intro hj
  · obtain ⟨⟨va, z⟩, hxj⟩ := get_lt hj
    have hxm := List.mem_of_getElem? hxj
    have sva := (I10.el _ hxm).sl
    dsimp only at sva
    have hvo := sva.one
    have hzj : ns[j]? = some z := by rw [← mx, List.getElem?_map, hxj]; rfl
    have hzb := hz z (List.mem_of_getElem? hzj)
    have lz : (dg 18446744073709551616 z.natAbs).length ≤ 9 := ldg (by omega)
    have lm := ldg (hmx j)
    have hmt := mostN_take hzj
    refine runJ ?_
    (apply s_alloc; exact rfl; exact rfl; exact rfl)
    intro p12 h11 x11 e11 b11
    (try dsimp only [Value.cells, List.toList_toArray] at x11)
    refine clsI ?_
    refine runJ ?_
    (apply s_storeV; exact rfl; exact rfl; exact rfl; exact (OneAll.cons rfl (OneAll.cons hvo OneAll.nil) : OneAll [.bool (decide (z < 0)), va]); exact rfl; exact rfl; exact x11; exact rfl)
    intro h12 x12' k12
    refine ⟨trivial, ?_⟩
    have x12' : Var h12 p12 124 [.bool (decide (z < 0)), va] := x12'
    have e1012 : Ext h10 h12 := k12.oldV e11 b11 (Nat.le_refl _)
    have s12 := s10.ext e1012
    have sva12 := sva.ext e1012
    have CP := rcmp_spec va m _ _ h12 sva12 s12 (al_dg b640 _) (al_dg b640 _) (by omega) (by omega)
    rw [vl_dg b64, vl_dg b64] at CP
    refine runJ ?_
    apply (s_call Tryz_ent28 rfl rfl rfl)
    refine (CP).mono ?_
    rintro _ h13 ⟨rfl, e13⟩
    refine ⟨trivial, ?_⟩
    have e1013 := e1012.trans e13
    have x13' := x12'.ext e13
    refine runJ ?_
    (apply w_condD; exact rfl; exact rfl) <;> intro hc
    · have hc' := (cmpI_gtN _ _).1 (by omega)
      refine runJ ?_
      apply again_normal (j + 1, va)
      · exact subs
      · refine ⟨e10.trans e1013, hj, ?_⟩
        dsimp only
        rw [hmt, show max (mostN (ns.take j)) z.natAbs = z.natAbs by omega]
        exact sva12.ext e13
      · dsimp only; omega
    · have hc' : ¬ mostN (ns.take j) < z.natAbs := fun hh => hc (by have := (cmpI_gtN _ _).2 hh; omega)
      refine runJ ?_
      apply again_normal (j + 1, m)
      · exact subs
      · refine ⟨e10.trans e1013, hj, ?_⟩
        dsimp only
        rw [hmt, show max (mostN (ns.take j)) z.natAbs = mostN (ns.take j) by omega]
        exact s12.ext e13
      · dsimp only; omega
  · rw [List.take_of_length_le (by omega)] at s10
    refine runJ ?_
    exact fin1 rfl rfl ⟨E10, s10⟩

theorem varNeT {h : Hp} {p q : Value} {e e2 : TypeId} {cs ds : List Value} (x : Var h p e cs) (y : Var h q e2 ds) (hne : Nat.beq e e2 = false) : pblk p ≠ pblk q := by
  obtain ⟨b, rfl, hb⟩ := x
  obtain ⟨c, rfl, hc⟩ := y
  intro h1
  have h1 : some b = some c := h1
  cases h1
  rw [hb] at hc
  simp only [Option.some.injEq, Obj.cells.injEq] at hc
  have := hc.2.1
  subst this
  simp at hne
theorem SwAt.sla {h : Hp} {B : Nat} {v : Value} {ps : List (Value × List (Value × List Nat))} (s : SwAt h B v ps) : SlA h (fun x : Value × List (Value × List Nat) => [x.1]) 1 v ps := ⟨fun _ => rfl, by
  have := s.own.sl
  unfold SlF at this
  have e : ps.flatMap (fun x : Value × List (Value × List Nat) => [x.1]) = ps.map Prod.fst := by
    clear this s
    induction ps with
    | nil => rfl
    | cons a l ih => rw [List.flatMap_cons, ih]; rfl
  rw [e]
  exact this⟩
theorem TapeAt.varT {h : Hp} {t : Value} {B : Option Nat} {ds : List Nat} {o : Bool} (s : TapeAt h t B ds o) : ∃ ct, Var h t 87 ct := by
  obtain ⟨v, s1, -⟩ := s
  exact ⟨_, s1⟩
theorem cip_hp {h : Hp} {B n : Nat} {v : Value} {c0 c1 : Value × List (Value × List Nat)} {qs : List Nat} {rb ra : List (List Nat)} {us xs ys zs : List Int} (S : SwAt h B v [c0, c1]) (hq : ∀ q ∈ qs, 0 < q) (lX : xs.length = n) (lY : ys.length = n) (lZ : zs.length = n) (lrb : rb.length = qs.length) (lra : ra.length = qs.length)
    (CR : CipR n qs rb ra us xs ys zs (c0.2.map (·.2)) (c1.2.map (·.2))) : ∀ x ∈ [c0, c1], PolAt h x.1 x.2 ∧ x.2.length = qs.length ∧ ∀ (i q : Nat) (y : Value × List Nat), x.2[i]? = some y → qs[i]? = some q → Fit n q y.2 := by
  obtain ⟨f0, f1⟩ := cip_fit hq lX lY lZ lrb lra CR
  have l0 := CR.l0
  have l1 := CR.l1
  rw [List.length_map] at l0 l1
  have key : ∀ x ∈ [c0, c1], PolAt h x.1 x.2 := fun x hx => by obtain ⟨p, hp⟩ := S.el x hx; exact hp.pol
  intro x hx
  refine ⟨key x hx, ?_⟩
  rcases List.mem_cons.1 hx with rfl | hx
  · exact ⟨l0, fun i q y hy hq => f0 i q y.2 (by rw [List.getElem?_map, hy]; rfl) hq⟩
  · rw [List.mem_singleton.1 hx]
    exact ⟨l1, fun i q y hy hq => f1 i q y.2 (by rw [List.getElem?_map, hy]; rfl) hq⟩
structure Beside (vq vM vB vA tx : Value) (rb ra : List (Value × List Nat)) : Prop where mk ::
  q : vq.ownBlock = none ∨ vq.ownBlock ≠ pblk tx
  m : vM.ownBlock = none ∨ vM.ownBlock ≠ pblk tx
  b : vB.ownBlock = none ∨ vB.ownBlock ≠ pblk tx
  a : vA.ownBlock = none ∨ vA.ownBlock ≠ pblk tx
  rb : ∀ x ∈ rb, x.1.ownBlock = none ∨ x.1.ownBlock ≠ pblk tx
  ra : ∀ x ∈ ra, x.1.ownBlock = none ∨ x.1.ownBlock ≠ pblk tx
  g : pblk tx ≠ some 2
structure KeyPure (a b L : Nat) (rb rA : List (Value × List Nat)) (ss es : List Int) : Prop where mk ::
  hL : pI a + 3 = L
  lb : rb.length = (qPar a b).length
  la : rA.length = (qPar a b).length
  fb : ∀ (i q : Nat) (x : Value × List Nat), rb[i]? = some x → (qPar a b)[i]? = some q → Fit (2 ^ L) q x.2
  fa : ∀ (i q : Nat) (x : Value × List Nat), rA[i]? = some x → (qPar a b)[i]? = some q → Fit (2 ^ L) q x.2
  hb : ∀ (i q : Nat) (ai bb : List Nat), (qPar a b)[i]? = some q → (rA.map (·.2))[i]? = some ai → (rb.map (·.2))[i]? = some bb → HidB (2 ^ L) q (liftL ss q) (liftL (List.replicate (2 ^ L) 0) q) ai es bb
  lss : ss.length = 2 ^ L
  hss : ∀ v ∈ ss, v = 0 ∨ v = 1 ∨ v = -1
  les : es.length = 2 ^ L
  bes : ∀ v ∈ es, -((1 + b / 16 % 16 : Nat) : Int) ≤ v ∧ v ≤ ((1 + b / 16 % 16 : Nat) : Int)
structure KeyMade (a b L : Nat) (vq vB vA u : Value) (rb rA : List (Value × List Nat)) (ss : List Int) (h : Hp) : Prop where mk ::
  tb : TB h
  par : ParAt h ⟨((2 ^ L : Nat) : Int), tPar a, vq, qPar a b, ((1 + b / 16 % 16 : Nat) : Int)⟩
  sec : SlF h I u ss
  pb : PolAt h vB rb
  pa : PolAt h vA rA
theorem KeyMade.ext {a b L : Nat} {vq vB vA u : Value} {rb rA : List (Value × List Nat)} {ss : List Int} {h h' : Hp} (K : KeyMade a b L vq vB vA u rb rA ss h) (e : Ext h h') : KeyMade a b L vq vB vA u rb rA ss h' :=
  ⟨K.tb.ext e, K.par.ext e, K.sec.ext e, K.pb.ext e, K.pa.ext e⟩
theorem KeyMade.only {a b L : Nat} {vq vB vA u vM tx : Value} {rb rA : List (Value × List Nat)} {ss : List Int} {h h' : Hp} (K : KeyMade a b L vq vB vA u rb rA ss h) (k : Only (pblk tx) h h') (N5 : Beside vq vM vB vA tx rb rA) (nu : u.ownBlock = none ∨ u.ownBlock ≠ pblk tx) : KeyMade a b L vq vB vA u rb rA ss h' :=
  ⟨K.tb.onlyG k N5.g, ⟨K.par.row.only k N5.q, K.par.al, K.par.t64, K.par.ln⟩, K.sec.only k nu, ⟨K.pb.row.only k N5.b, fun x hx => (K.pb.el x hx).only k (N5.rb x hx)⟩, ⟨K.pa.row.only k N5.a, fun x hx => (K.pa.el x hx).only k (N5.ra x hx)⟩⟩
structure DrawsH (n w : Nat) (ds : List Nat) (us xs ys : List Int) (ds' : List Nat) : Prop where mk ::
  dr : ∃ d1 d2, rowG firstT n ds = some (us, d1) ∧ rowG (firstE w) n d1 = some (xs, d2) ∧ rowG (firstE w) n d2 = some (ys, ds')
theorem draws_h {n w : Nat} {ds : List Nat} (h : AltE ds) (hl : 6 * n ≤ ds.length) : ∃ us xs ys ds', DrawsH n w ds us xs ys ds' := by
  obtain ⟨us, xs, ys, d1, d2, d3, h1, h2, h3⟩ := takes_hid (n := n) (w := w) h hl
  exact ⟨us, xs, ys, d3, ⟨d1, d2, h1, h2, h3⟩⟩
theorem DrawsH.lens {n w : Nat} {ds ds' : List Nat} {us xs ys : List Int} (D : DrawsH n w ds us xs ys ds') : (us.length = n ∧ ∀ v ∈ us, v = 0 ∨ v = 1 ∨ v = -1) ∧ (xs.length = n ∧ ∀ v ∈ xs, -(w : Int) ≤ v ∧ v ≤ w) ∧ (ys.length = n ∧ ∀ v ∈ ys, -(w : Int) ≤ v ∧ v ≤ w) := by
  obtain ⟨d1, d2, h1, h2, h3⟩ := D.dr
  exact ⟨rows_T h1, rows_E h2, rows_E h3⟩

section made
variable {a b L : Nat} {vq vB vA u : Value} {rb rA : List (Value × List Nat)} {ss es : List Int}
theorem KeyPure.two (P : KeyPure a b L rb rA ss es) : 8 ≤ 2 ^ L ∧ 2 ^ L ≤ 32 ∧ 3 ≤ L ∧ L ≤ 5 := by
  have hpi : pI a < 3 := Nat.mod_lt _ (by decide)
  have hL := P.hL
  have h1 : 2 ^ 3 ≤ 2 ^ L := Nat.pow_le_pow_right (by decide) (by omega)
  have h2 : 2 ^ L ≤ 2 ^ 5 := Nat.pow_le_pow_right (by decide) (by omega)
  have e3 : (2 : Nat) ^ 3 = 8 := by decide
  have e5 : (2 : Nat) ^ 5 = 32 := by decide
  omega
theorem KeyPure.par (P : KeyPure a b L rb rA ss es) (vq : Value) : parP ⟨((2 ^ L : Nat) : Int), tPar a, vq, qPar a b, ((1 + b / 16 % 16 : Nat) : Int)⟩ := by
  have := parM_ok a b vq
  unfold parM at this
  rwa [P.hL] at this
theorem KeyPure.qok (P : KeyPure a b L rb rA ss es) : ∀ q ∈ qPar a b, QOk L q := by
  obtain ⟨-, q2, -, -⟩ := qPar_facts a b
  rw [← P.hL]
  exact fun q hq => (q2 q hq).2.2
theorem q_pos (a b : Nat) : ∀ q ∈ qPar a b, 0 < q := by
  obtain ⟨-, q2, -, -⟩ := qPar_facts a b
  exact fun q hq => by have := q2 q hq; omega
theorem KeyPure.lrb (P : KeyPure a b L rb rA ss es) : (rb.map (·.2)).length = (qPar a b).length := by rw [List.length_map]; exact P.lb
theorem KeyPure.lra (P : KeyPure a b L rb rA ss es) : (rA.map (·.2)).length = (qPar a b).length := by rw [List.length_map]; exact P.la
theorem KeyPure.fra (P : KeyPure a b L rb rA ss es) : ∀ (i q : Nat) (aa : List Nat), (qPar a b)[i]? = some q → (rA.map (·.2))[i]? = some aa → aa.length = 2 ^ L := fun i q aa hq haa => by
  rw [List.getElem?_map] at haa
  cases hy : rA[i]? with
  | none => rw [hy] at haa; cases haa
  | some y => rw [hy] at haa; cases haa; exact (P.fa i q y hy hq).1
theorem KeyPure.sec (P : KeyPure a b L rb rA ss es) : SecP ((2 ^ L : Nat) : Int) ss := ⟨fun x hx => by have := P.hss x hx; omega, by rw [P.lss]⟩
theorem KeyPure.odd (P : KeyPure a b L rb rA ss es) : tPar a < 100000 ∧ tPar a % 2 = 1 ∧ 0 < tPar a := by
  obtain ⟨t1, t2⟩ := tPar_facts a
  obtain ⟨r1, r2, -, -⟩ := made_isR a b
  have := odd_of r2
  exact ⟨t1, this, by omega⟩
theorem spr_len {n t Q : Nat} {ms : List Nat} (h : Fit n t ms) : (sprZ Q t ms).length = n := by unfold sprZ; rw [List.length_map]; exact h.1

theorem hide_made {vM tx : Value} {ms : List Nat} {Bx : Option Nat} {ds ds' : List Nat} {us xs ys : List Int} {g : Hp} (P : KeyPure a b L rb rA ss es) (K : KeyMade a b L vq vB vA u rb rA ss g) (sm : SlF g U vM ms) (hm : Fit (2 ^ L) (tPar a) ms) (T : TapeAt g tx Bx ds false) (N5 : Beside vq vM vB vA tx rb rA) (D : DrawsH (2 ^ L) (1 + b / 16 % 16) ds us xs ys ds') :
    CallsH Tryz.prog 20 [.agg #[N (2 ^ L), U (tPar a), vq, N (1 + b / 16 % 16)], .agg #[vB, vA], vM, tx] g fun v' h' => Only (pblk tx) g h' ∧ ∃ vc c0 c1, v' = .tuple #[.agg #[vc], N 0] ∧ SwAt h' g.size vc [c0, c1] ∧ TapeAt h' tx Bx ds' false ∧
      CipR (2 ^ L) (qPar a b) (rb.map (·.2)) (rA.map (·.2)) us xs ys (sprZ (prodL (qPar a b) / tPar a) (tPar a) ms) (c0.2.map (·.2)) (c1.2.map (·.2)) := by
  obtain ⟨d1, d2, g1, g2, g3⟩ := D.dr
  obtain ⟨-, -, h3, h5⟩ := P.two
  exact hideC_spec L (tPar a) (1 + b / 16 % 16) vq vB vA vM tx ms (qPar a b) rb rA Bx ds d1 d2 ds' us xs ys g K.tb K.par (P.par vq) h3 (by omega) P.qok sm hm K.pb K.pa P.lb P.la P.fb P.fa T N5.g N5.q N5.m N5.b N5.a N5.rb N5.ra g1 g2 g3
theorem tell_made {vc : Value} {c0 c1 : Value × List (Value × List Nat)} {ms : List Nat} {B : Nat} {ds ds' : List Nat} {us xs ys : List Int} {g : Hp} (P : KeyPure a b L rb rA ss es) (K : KeyMade a b L vq vB vA u rb rA ss g) (S : SwAt g B vc [c0, c1]) (hm : Fit (2 ^ L) (tPar a) ms) (D : DrawsH (2 ^ L) (1 + b / 16 % 16) ds us xs ys ds')
    (CR : CipR (2 ^ L) (qPar a b) (rb.map (·.2)) (rA.map (·.2)) us xs ys (sprZ (prodL (qPar a b) / tPar a) (tPar a) ms) (c0.2.map (·.2)) (c1.2.map (·.2))) :
    CallsH Tryz.prog 21 [.agg #[N (2 ^ L), U (tPar a), vq, N (1 + b / 16 % 16)], u, .agg #[vc]] g fun v' h' => Ext g h' ∧ ∃ vo, v' = .tuple #[vo, N 0] ∧ OwnF h' g.size 26 U vo ms := by
  obtain ⟨⟨lU, bU⟩, ⟨lX, bX⟩, lY, bY⟩ := D.lens
  obtain ⟨h8, h32, h3, h5⟩ := P.two
  obtain ⟨C, hbig⟩ := made_cop a b
  obtain ⟨t1, todd, -⟩ := P.odd
  have n1 := noise_small P.lss P.les lU lX lY P.hss bU P.bes bX bY h32 (by omega)
  obtain ⟨e1, z1⟩ := held_tell (n := 2 ^ L) (ss := ss) (es := es) (us := us) (xs := xs) (ys := ys) (w := 0) hm.1 hm.2 t1 todd hbig n1
  have TL := tellC_spec L (tPar a) (1 + b / 16 % 16) vq u vc (qPar a b) ss c0 c1 _ g K.tb K.par (P.par vq) h3 (by omega) P.qok K.sec P.sec S.sla (cip_hp S (q_pos a b) lX lY (spr_len hm) P.lrb P.lra CR) C (fun R RO hRL hRq x HR => hold_res RO hRL hRq P.lss P.les lU lX lY (spr_len hm) P.lrb P.lra P.fra P.hb CR HR) z1 (by unfold heldZ; rw [List.length_map, List.length_range])
  rw [e1] at TL
  exact TL
theorem noise_z {ds ds' : List Nat} {us xs ys : List Int} (P : KeyPure a b L rb rA ss es) (D : DrawsH (2 ^ L) (1 + b / 16 % 16) ds us xs ys ds') : (∀ z ∈ noiseZ (2 ^ L) ss es us xs ys, -(prodL (qPar a b) : Int) < 2 * z ∧ 2 * z < prodL (qPar a b)) ∧ mostN (noiseZ (2 ^ L) ss es us xs ys) ≤ (1 + b / 16 % 16) * (2 * 2 ^ L + 1) := by
  obtain ⟨⟨lU, bU⟩, ⟨lX, bX⟩, lY, bY⟩ := D.lens
  obtain ⟨h8, h32, h3, h5⟩ := P.two
  obtain ⟨C, hbig⟩ := made_cop a b
  have n1 := noise_small P.lss P.les lU lX lY P.hss bU P.bes bX bY h32 (by omega)
  refine ⟨fun z hz => ?_, mostN_le fun z hz => ?_⟩
  · unfold noiseZ at hz
    obtain ⟨p, hp, rfl⟩ := List.mem_map.1 hz
    have := n1 p (List.mem_range.1 hp)
    omega
  · unfold noiseZ at hz
    obtain ⟨p, hp, rfl⟩ := List.mem_map.1 hz
    exact noise_bd P.lss P.les lU lX lY P.hss bU P.bes bX bY (List.mem_range.1 hp)
theorem noise_made {vc vM : Value} {c0 c1 : Value × List (Value × List Nat)} {ms : List Nat} {B : Nat} {ds ds' : List Nat} {us xs ys : List Int} {g : Hp} (P : KeyPure a b L rb rA ss es) (K : KeyMade a b L vq vB vA u rb rA ss g) (S : SwAt g B vc [c0, c1]) (sm : SlF g U vM ms) (hm : Fit (2 ^ L) (tPar a) ms) (D : DrawsH (2 ^ L) (1 + b / 16 % 16) ds us xs ys ds')
    (CR : CipR (2 ^ L) (qPar a b) (rb.map (·.2)) (rA.map (·.2)) us xs ys (sprZ (prodL (qPar a b) / tPar a) (tPar a) ms) (c0.2.map (·.2)) (c1.2.map (·.2))) :
    CallsH Tryz.prog 24 [.agg #[N (2 ^ L), U (tPar a), vq, N (1 + b / 16 % 16)], u, .agg #[vc], vM] g fun v' h' => Ext g h' ∧ (∃ vo, v' = .tuple #[vo, N 0] ∧ SlF h' U vo (dg 18446744073709551616 (mostN (noiseZ (2 ^ L) ss es us xs ys)))) ∧ ∃ R : RngD, RngOk R ∧ R.L = L ∧ R.qs = qPar a b := by
  obtain ⟨⟨lU, bU⟩, ⟨lX, bX⟩, lY, bY⟩ := D.lens
  obtain ⟨h8, h32, h3, h5⟩ := P.two
  obtain ⟨C, hbig⟩ := made_cop a b
  exact noiseC_spec L (tPar a) (1 + b / 16 % 16) vq u vc vM ms (qPar a b) ss c0 c1 es us xs ys g K.tb K.par (P.par vq) h3 (by omega) P.qok K.sec P.sec S.sla (cip_hp S (q_pos a b) lX lY (spr_len hm) P.lrb P.lra CR) sm hm C (fun R RO hRL hRq x HR => hold_res RO hRL hRq P.lss P.les lU lX lY (spr_len hm) P.lrb P.lra P.fra P.hb CR HR) (noise_z P D).1
theorem q_ref (a b : Nat) : ∀ q ∈ qPar a b, 3 ≤ q ∧ q < 2305843009213693952 ∧ isR q = true := by
  obtain ⟨-, q2, -, -⟩ := qPar_facts a b
  obtain ⟨-, -, -, r4⟩ := made_isR a b
  exact fun q hq => by have h1 := q2 q hq; have h2 := r4 q hq; exact ⟨by omega, by omega, h2.2.2.2⟩
theorem q_len (a b : Nat) : 0 < (qPar a b).length ∧ (qPar a b).length ≤ 5 := by
  obtain ⟨q1, -, -, -⟩ := qPar_facts a b
  unfold pC at q1
  omega
theorem refNoise_made {R : RngD} (RO : RngOk R) (hRL : R.L = L) (hRq : R.qs = qPar a b) {vc vM : Value} {c0 c1 : Value × List (Value × List Nat)} {ms : List Nat} {B : Nat} {ds ds' : List Nat} {us xs ys : List Int} {g : Hp} (P : KeyPure a b L rb rA ss es) (K : KeyMade a b L vq vB vA u rb rA ss g) (S : SwAt g B vc [c0, c1]) (sm : SlF g U vM ms) (hm : Fit (2 ^ L) (tPar a) ms) (D : DrawsH (2 ^ L) (1 + b / 16 % 16) ds us xs ys ds')
    (CR : CipR (2 ^ L) (qPar a b) (rb.map (·.2)) (rA.map (·.2)) us xs ys (sprZ (prodL (qPar a b) / tPar a) (tPar a) ms) (c0.2.map (·.2)) (c1.2.map (·.2))) :
    CallsH Tryz.prog 30 [.agg #[N (2 ^ L), U (tPar a), vq, N (1 + b / 16 % 16)], u, .agg #[vc], vM] g fun v' h' => Ext g h' ∧ SlF h' U v' (dg 18446744073709551616 (mostN (noiseZ (2 ^ L) ss es us xs ys))) := by
  obtain ⟨⟨lU, bU⟩, ⟨lX, bX⟩, lY, bY⟩ := D.lens
  obtain ⟨h8, h32, h3, h5⟩ := P.two
  obtain ⟨C, hbig⟩ := made_cop a b
  obtain ⟨-, -, q3, -⟩ := qPar_facts a b
  obtain ⟨l0, l5⟩ := q_len a b
  obtain ⟨t1, -, t0⟩ := P.odd
  exact refNoise12_spec L (tPar a) (1 + b / 16 % 16) vq u vc vM ms (qPar a b) ss c0 c1 es us xs ys g K.par.row l0 (by omega) (q_ref a b) q3 C (made_inv a b) (by omega) t0 (by omega) K.sec P.lss (fun x hx => by have := P.hss x hx; omega) S.sla (cip_hp S (q_pos a b) lX lY (spr_len hm) P.lrb P.lra CR) sm hm (fun x HR => hold_res RO hRL hRq P.lss P.les lU lX lY (spr_len hm) P.lrb P.lra P.fra P.hb CR HR) (noise_z P D).1
theorem is_made {vc : Value} {c0 c1 : Value × List (Value × List Nat)} {ms : List Nat} {B : Nat} {ds ds' : List Nat} {us xs ys : List Int} {g : Hp} (P : KeyPure a b L rb rA ss es) (K : KeyMade a b L vq vB vA u rb rA ss g) (S : SwAt g B vc [c0, c1]) (hm : Fit (2 ^ L) (tPar a) ms) (D : DrawsH (2 ^ L) (1 + b / 16 % 16) ds us xs ys ds')
    (CR : CipR (2 ^ L) (qPar a b) (rb.map (·.2)) (rA.map (·.2)) us xs ys (sprZ (prodL (qPar a b) / tPar a) (tPar a) ms) (c0.2.map (·.2)) (c1.2.map (·.2))) :
    CallsH Tryz.prog 26 [.agg #[N (2 ^ L), U (tPar a), vq, N (1 + b / 16 % 16)], .agg #[vc]] g fun v' h' => v' = .bool true ∧ Ext g h' := by
  obtain ⟨⟨lU, bU⟩, ⟨lX, bX⟩, lY, bY⟩ := D.lens
  obtain ⟨h8, h32, h3, h5⟩ := P.two
  obtain ⟨l0, l5⟩ := q_len a b
  exact refIs12_spec (2 ^ L) (tPar a) (1 + b / 16 % 16) vq vc (qPar a b) c0 c1 g K.par.row S.sla (cip_hp S (q_pos a b) lX lY (spr_len hm) P.lrb P.lra CR) l0 (by omega) (by omega) fun q hq => by have := q_ref a b q hq; omega
end made
def txt (t : Nat) (text : List Nat) (i : Nat) : Nat := if i < text.length then text.getD i 0 % t else 0
def txtL (n t : Nat) (text : List Nat) : List Nat := (List.range n).map (txt t text)
theorem txtL_get {n t : Nat} {text : List Nat} {i : Nat} (hi : i < n) : (txtL n t text)[i]? = some (txt t text i) := by
  unfold txtL; rw [List.getElem?_map, List.getElem?_range hi]; rfl
theorem txtL_fit {n t : Nat} {text : List Nat} (ht : 0 < t) : Fit n t (txtL n t text) := ⟨by unfold txtL; rw [List.length_map, List.length_range], fun x hx => by
  unfold txtL at hx
  obtain ⟨i, -, rfl⟩ := List.mem_map.1 hx
  unfold txt
  split
  · exact Nat.mod_lt _ ht
  · exact ht⟩

end Go.Proofs.YtfcmdefigldpnaaGreatDoor


/- Texts CipI to OpenT of this work, joined, without what the law does not lean on. -/
import Derived.Test.YtfcmdefigldpnaaGreatDoorMCb33
import Derived.ProofKit
import Derived.OpenShut
import Derived.ShutString
import Derived.ChangeOld
import Derived.Below
import Derived.Test.YtfcmdefigldpnaaGreatDoorRows
import Derived.LaidMore
import Derived.LaidLaws
import Derived.MakeChecks
namespace Go.Proofs.YtfcmdefigldpnaaGreatDoor
set_option linter.unusedVariables false
set_option maxRecDepth 8000
open Go Go.Den Go.RowKit Go.Mth Go.Dig

theorem sameU_selfB (va vb : Value) (xs : List Nat) (h : Hp) (ha : SlF h U va xs) (hb : SlF h U vb xs) (hl : xs.length < 4611686018427387904) :
    CallsH Tryz.prog 23 [va, vb] h fun v' h' => v' = .bool true ∧ h = h' :=
  (sameU_spec va vb xs xs h ha hb hl hl).mono fun v h' ⟨e, k⟩ => ⟨by rw [e, decide_eq_true rfl], k⟩

set_option maxHeartbeats 8000000 in
theorem back_tail {a b L : Nat} {vq vB vA u vM tp p11 p15 : Value} {rb rA : List (Value × List Nat)} {ss es : List Int} {ms : List Nat} {Bt : Option Nat} {ds2 ds3 : List Nat} {us3 xs3 ys3 : List Int} {h h0 h12 : Hp} (P : KeyPure a b L rb rA ss es) (K : KeyMade a b L vq vB vA u rb rA ss h12) (sm : SlF h12 U vM ms) (hm : Fit (2 ^ L) (tPar a) ms) (T : TapeAt h12 tp Bt ds2 false) (OLD : Beside vq vM vB vA tp rb rA) (nu : u.ownBlock = none ∨ u.ownBlock ≠ pblk tp)
    (D3 : DrawsH (2 ^ L) (1 + b / 16 % 16) ds2 us3 xs3 ys3 ds3) (x11 : Var h12 p11 28 [N (2 ^ L), U (tPar a), vq, N (1 + b / 16 % 16)]) (x15 : Var h12 p15 58 [vB, vA]) (E : Ext h h0) (k0 : Only (pblk tp) h0 h12) (hk : ∀ j, pblk tp = some j → h.size ≤ j) :
    W Tryz.prog 158 (cR (cR (cR (cR (cR (cR (cR (cR (cR (bodyOf Tryz.f5)))))))))) (Den.Fin Tryz.prog 158 Tryz.f5 fun v' h' => v' = .bool true ∧ Ext h h') [(9, p11), (10, tp), (11, u), (12, N 0), (13, p15), (14, N 0), (15, vM)] h12 := by
  have b64 : (1 : Nat) < 18446744073709551616 := by decide
  have b640 : (0 : Nat) < 18446744073709551616 := by decide
  obtain ⟨h8, h32, -, -⟩ := P.two
  have lms : ms.length ≤ 32 := by rw [hm.1]; exact h32
  have lss : ss.length ≤ 32 := by rw [P.lss]; exact h32
  have hw1 : (1 + b / 16 % 16) * (2 * 2 ^ L + 1) ≤ 16 * 65 := Nat.mul_le_mul (by omega) (by omega)
  have hw2 : (1 + b / 16 % 16) * (2 * 2 ^ L + 1) < 9223372036854775808 := by omega
  have hw3 : (1 + b / 16 % 16) * (2 * 2 ^ L + 1) < 18446744073709551616 := by omega
  obtain ⟨-, nle⟩ := noise_z P D3
  have OF := fun g => rof_spec ((1 + b / 16 % 16) * (2 * 2 ^ L + 1)) g hw3
  have ldg : ∀ {m : Nat}, m ≤ 16 * 65 → (dg 18446744073709551616 m).length ≤ 1 := fun {m} hm' => dg_len b64 (by omega)
  obtain ⟨ct, xt⟩ := T.varT
  have HD := hide_made P K sm hm T OLD D3
  refine runJ ?_
  apply (s_call Tryz_ent20 rfl rfl rfl)
  refine (HD).mono ?_
  rintro _ h23 ⟨k23, vc3, z0, z1, rfl, SW23, T23, CR3⟩
  refine ⟨trivial, ?_⟩
  have hvc3 := SW23.own.sl.one
  have x1123 := x11.only k23 (varNeT x11 xt rfl)
  have K23 := K.only k23 OLD nu
  have sm23 := sm.only k23 OLD.m
  have kk := k0.trans k23
  clear HD x11 x15 sm xt T K T23
  refine runJ ?_
  (apply s_alloc; exact rfl; exact rfl; exact rfl)
  intro p17 h24 x24 e24 b24
  (try dsimp only [Value.cells, List.toList_toArray] at x24)
  refine clsI ?_
  refine runJ ?_
  (apply s_storeV; exact rfl; exact rfl; exact rfl; exact (OneAll.cons hvc3 OneAll.nil : OneAll [vc3]); exact rfl; exact rfl; exact x24; exact rfl)
  intro h25 x25 k25
  refine ⟨trivial, ?_⟩
  have x25 : Var h25 p17 62 [vc3] := x25
  have e25 : Ext h23 h25 := k25.oldV e24 b24 (Nat.le_refl _)
  have x1125 := x1123.ext e25
  have NS := noise_made P (K23.ext e25) (SW23.ext e25) (sm23.ext e25) hm D3 CR3
  refine runJ ?_
  apply (s_call Tryz_ent24 rfl rfl rfl)
  refine (NS).mono ?_
  rintro _ h26 ⟨e26, ⟨vn, rfl, sn⟩, R, RO, hRL, hRq⟩
  refine ⟨trivial, ?_⟩
  have x1126 := x1125.ext e26
  have x2526 := x25.ext e26
  have e2326 := e25.trans e26
  have TL3 := tell_made P (K23.ext e2326) (SW23.ext e2326) hm D3 CR3
  refine runJ ?_
  apply (s_call Tryz_ent21 rfl rfl rfl)
  refine (TL3).mono ?_
  rintro _ h27 ⟨e27, vu3, rfl, ou3⟩
  refine ⟨trivial, ?_⟩
  have e2327 := e2326.trans e27
  have x1127 := x1126.ext e27
  have x2527 := x2526.ext e27
  have IS : CallsH Tryz.prog 25 [.agg #[N (2 ^ L), U (tPar a), vq, N (1 + b / 16 % 16)], u] h27 fun v' h' => v' = .bool true ∧ Ext h27 h' :=
    (isSecR_spec ⟨((2 ^ L : Nat) : Int), tPar a, vq, qPar a b, ((1 + b / 16 % 16 : Nat) : Int)⟩ u ss h27 (K23.ext e2327).sec (by omega)).mono fun v h' ⟨e, k⟩ => ⟨by rw [e, decide_eq_true P.sec], k⟩
  refine runJ ?_
  apply (s_call Tryz_ent25 rfl rfl rfl)
  refine (IS).mono ?_
  rintro _ h28 ⟨rfl, e28⟩
  refine ⟨trivial, ?_⟩
  have e2328 := e2327.trans e28
  have x1128 := x1127.ext e28
  have x2528 := x2527.ext e28
  have IM := is_made P (K23.ext e2328) (SW23.ext e2328) hm D3 CR3
  refine runJ ?_
  apply (s_call Tryz_ent26 rfl rfl rfl)
  refine (IM).mono ?_
  rintro _ h29 ⟨rfl, e29⟩
  refine ⟨trivial, ?_⟩
  have e2329 := e2328.trans e29
  have x1129 := x1128.ext e29
  have x2529 := x2528.ext e29
  refine runJ ?_
  apply (s_call Tryz_ent27 rfl rfl rfl)
  refine (OF h29).mono ?_
  rintro vm h30 ⟨e30, om⟩
  refine ⟨trivial, ?_⟩
  have e2330 := e2329.trans e30
  have x1130 := x1129.ext e30
  have x2530 := x2529.ext e30
  have sn30 := (((sn.ext e27).ext e28).ext e29).ext e30
  have CP := rcmp_spec vn vm _ _ h30 sn30 om.sl (al_dg b640 _) (al_dg b640 _) (by have := ldg (Nat.le_trans nle hw1); omega) (by have := ldg hw1; omega)
  rw [vl_dg b64, vl_dg b64] at CP
  refine runJ ?_
  apply (s_call Tryz_ent28 rfl rfl rfl)
  refine (CP).mono ?_
  rintro _ h31 ⟨rfl, e31⟩
  refine ⟨trivial, ?_⟩
  have e2331 := e2330.trans e31
  have x1131 := x1130.ext e31
  have x2531 := x2530.ext e31
  have sn31 := sn30.ext e31
  have RN := refNoise_made RO hRL hRq P (K23.ext e2331) (SW23.ext e2331) (sm23.ext e2331) hm D3 CR3
  have hneg : ¬ 0 < cmpI (mostN (noiseZ (2 ^ L) ss es us3 xs3 ys3)) ((1 + b / 16 % 16) * (2 * 2 ^ L + 1)) := fun hh => by have := (cmpI_gtN _ _).1 hh; omega
  have lsn := ldg (Nat.le_trans nle hw1)
  refine runJ ?_
  (apply s_splitG; exact rfl; exact rfl; exact rfl; exact rfl) <;> intro g1
  · exact absurd g1 (by omega)
  refine runJ ?_
  apply (s_call Tryz_ent30 rfl rfl rfl)
  refine (RN).mono ?_
  rintro vn2 h32' ⟨e32, sn2⟩
  refine ⟨trivial, ?_⟩
  have SS : CallsH Tryz.prog 29 [vn, vn2] h32' fun v' h' => v' = .bool true ∧ h32' = h' := (same_spec vn vn2 _ _ h32' (sn31.ext e32) sn2 (by omega)).mono fun v h' ⟨e, k⟩ => ⟨by rw [e, decide_eq_true rfl], k⟩
  refine runJ ?_
  apply (s_call Tryz_ent29 rfl rfl rfl)
  refine (SS).mono ?_
  rintro _ _ ⟨rfl, rfl⟩
  refine ⟨trivial, ?_⟩
  have e2332 := e2331.trans e32
  have sm32 := sm23.ext e2332
  have ou32 := (((((ou3.sl.ext e28).ext e29).ext e30).ext e31).ext e32)
  refine runJ ?_
  apply (s_call Tryz_ent23 rfl rfl rfl)
  refine (sameU_selfB vu3 vM ms h32' ou32 sm32 (by omega)).mono ?_
  rintro _ _ ⟨rfl, rfl⟩
  refine ⟨trivial, ?_⟩
  refine runJ ?_
  exact fin1 rfl rfl ⟨rfl, ext_onlyR E (kk.trans (e2332.only _)) hk⟩

set_option maxHeartbeats 8000000 in
theorem cipherBack_law (a b : Nat) (vs vt : Value) (seed text : List Nat) (h : Hp) (TB0 : TB h) (s : SlF h U vs seed) (al : Al 18446744073709551616 seed) (hl : seed.length < 9223372036854775808) (st : SlF h U vt text) (alt : Al 18446744073709551616 text) (hlt : text.length < 9223372036854775808) (ha : a < 256) (hb : b < 256) :
    CallsH Tryz.prog 5 [Y a, Y b, vs, vt] h fun v' h' => v' = .bool true ∧ Ext h h' := by
  have PM := fun h => params_spec a b h ha hb
  obtain ⟨q1, q2, q3, q4⟩ := qPar_facts a b
  obtain ⟨t1, t2⟩ := tPar_facts a
  obtain ⟨r1, r2, r3, r4⟩ := made_isR a b
  have hpi : pI a < 3 := Nat.mod_lt _ (by decide)
  have hpc : pC b ≤ 5 ∧ 2 ≤ pC b := by unfold pC; omega
  have PP := fun v => parM_ok a b v
  generalize hL : pI a + 3 = L at *
  have hN2 : 8 ≤ 2 ^ L := Nat.pow_le_pow_right (n := 2) (i := 3) (by decide) (by omega)
  have hNle : 2 ^ L ≤ 2 ^ 5 := Nat.pow_le_pow_right (by decide) (by omega)
  have e5 : (2 : Nat) ^ 5 = 32 := by decide
  have hPar : ∀ v, (parM a b v).cells = [N (2 ^ L), U (tPar a), v, N (1 + b / 16 % 16)] := fun v => by rw [← hL]; rfl
  have hParM : ∀ v, parM a b v = ⟨((2 ^ L : Nat) : Int), tPar a, v, qPar a b, ((1 + b / 16 % 16 : Nat) : Int)⟩ := fun v => by rw [← hL]; rfl
  simp only [hPar] at PM
  (apply enter Tryz.func5 rfl Tryz.ntmps5 rfl)
  refine runJ ?_
  apply (s_call Tryz_ent17 rfl rfl rfl)
  refine (fixed12_spec h TB0).mono ?_
  rintro _ h1 ⟨rfl, e1⟩
  refine ⟨trivial, ?_⟩
  refine runJ ?_
  apply (s_call Tryz_ent7 rfl rfl rfl)
  refine (PM h1).mono ?_
  rintro _ h2 ⟨e2, vq, rfl, A2, o2⟩
  refine ⟨trivial, ?_⟩
  refine runJ ?_
  (apply s_alloc; exact rfl; exact rfl; exact rfl)
  intro p11 h3 x3 e3 b3
  (try dsimp only [Value.cells, List.toList_toArray] at x3)
  refine clsI ?_
  refine runJ ?_
  have hqone := o2.sl.one
  (apply s_storeV; exact rfl; exact rfl; exact rfl; exact (OneAll.cons rfl (OneAll.cons rfl (OneAll.cons hqone (OneAll.cons rfl OneAll.nil))) : OneAll [N (2 ^ L), U (tPar a), vq, N (1 + b / 16 % 16)]); exact rfl; exact rfl; exact x3; exact rfl)
  intro h4 x4 k4
  refine ⟨trivial, ?_⟩
  have x4 : Var h4 p11 28 [N (2 ^ L), U (tPar a), vq, N (1 + b / 16 % 16)] := x4
  have E2 := e1.trans e2
  have e24 : Ext h2 h4 := k4.oldV e3 b3 (Nat.le_refl _)
  have E4 := E2.trans e24
  have s4 := s.ext E4
  have st4 := st.ext E4
  have A4 := A2.ext e24
  refine runJ ?_
  (apply s_splitG; exact rfl; exact rfl; exact rfl; exact rfl) <;> intro g1
  · refine runJ ?_
    exact fin1 rfl rfl ⟨rfl, E4⟩
  refine runJ ?_
  (apply w_condD; exact rfl; exact rfl) <;> intro g2
  · refine runJ ?_
    exact fin1 rfl rfl ⟨rfl, E4⟩
  refine runJ ?_
  apply (s_call Tryz_ent8 rfl rfl rfl)
  refine (draws_spec vs seed (300 * 2 ^ L) h4 s4 al (by omega) (by omega)).mono ?_
  rintro vd h5 ⟨e5', ds0, o5, l5, d5⟩
  refine ⟨trivial, ?_⟩
  have E5 := E4.trans e5'
  refine runJ ?_
  apply (s_call Tryz_ent10 rfl rfl rfl)
  refine (new_spec vd ds0 h5 o5.sl d5.1 (by omega)).mono ?_
  rintro tp h6 ⟨e6, kt, Bt, hkt, hkl, T6⟩
  refine ⟨trivial, ?_⟩
  have E6 := E5.trans e6
  have e46 := e5'.trans e6
  have x46 := x4.ext e46
  have A6 := A4.ext e46
  rw [hParM] at A6
  have P6 := PP vq
  rw [hParM] at P6
  have hgt : pblk tp ≠ some 2 := by
    rw [hkt]; intro e; have := Option.some.inj e; have := TB0.lt; have := E5.1; omega
  have n11 : pblk p11 ≠ pblk tp := by
    obtain ⟨j, hj, hl⟩ := x4.blk
    rw [hj, hkt]; intro e; have := Option.some.inj e; have := e5'.1; omega
  have hqs4 := o2.sl.ext e24
  have nvq : vq.ownBlock = none ∨ vq.ownBlock ≠ pblk tp := by
    cases hv : vq.ownBlock with
    | none => exact .inl rfl
    | some j => exact .inr fun e => by rw [hkt] at e; cases e; have := (o2.blk _ hv).2; have := e24.1; have := e5'.1; omega
  obtain ⟨ss, ds1, hZ1, a1, m1⟩ := takes_row takes_T (2 ^ L) d5.alt (by omega)
  obtain ⟨lss, hs3⟩ := rowG_all (p := fun r => r = 0 ∨ r = 1 ∨ r = -1) firstT_val9 (2 ^ L) ds0 ss ds1 hZ1
  have hsb : ∀ x ∈ ss, -9223372036854775808 ≤ x ∧ x < 9223372036854775808 := fun x hx => by have := hs3 x hx; omega
  have hS : SecP ((2 ^ L : Nat) : Int) ss := ⟨fun x hx => by have := hs3 x hx; omega, by rw [lss]⟩
  have KS := keysSecret_spec L (tPar a) (1 + b / 16 % 16) vq tp (qPar a b) Bt ds0 h6 (TB0.ext E6) A6 P6 (by omega) T6
  refine runJ ?_
  apply (s_call Tryz_ent18 rfl rfl rfl)
  refine (KS).mono ?_
  rintro v7 h7 ⟨k7, R7⟩
  refine ⟨trivial, ?_⟩
  rw [hZ1] at R7
  obtain ⟨u, rfl, ou, T7⟩ := R7
  have hq63 : ∀ q ∈ qPar a b, 0 < q ∧ q < 9223372036854775808 := fun q hq => by have := q2 q hq; omega
  have hql5 : (qPar a b).length * 2 ^ L ≤ 5 * 2 ^ L := Nat.mul_le_mul_right _ (by omega)
  obtain ⟨⟨ra, es⟩, ds2, hZ2, a2, m2⟩ := takes_hide (n := 2 ^ L) (w := 1 + b / 16 % 16) (qs := qPar a b) hq63 a1 (by omega)
  have A7 : ParAt h7 ⟨((2 ^ L : Nat) : Int), tPar a, vq, qPar a b, ((1 + b / 16 % 16 : Nat) : Int)⟩ := ⟨A6.row.only k7 nvq, A6.al, A6.t64, A6.ln⟩
  have TB7 : TB h7 := (TB0.ext E6).onlyG k7 hgt
  have x47 := x46.only k7 n11
  have PB := public_spec L (tPar a) (1 + b / 16 % 16) vq u tp (qPar a b) ss Bt ds1 ds2 ra es h7 TB7 A7 P6 (by omega) (by omega) (fun q hq => (q2 q hq).2.2) ou.sl (by omega) hsb hS T7 nvq hZ2
  refine runJ ?_
  apply (s_call Tryz_ent19 rfl rfl rfl)
  refine (PB).mono ?_
  rintro _ h8 ⟨k8, vB, vA, rb, rA, pA, rfl, RB, RA, ma, lb, T8, hH⟩
  refine ⟨trivial, ?_⟩
  have hvB := RB.own.sl.one
  have hvA := RA.own.sl.one
  have x48 := x47.only k8 n11
  refine runJ ?_
  (apply s_alloc; exact rfl; exact rfl; exact rfl)
  intro p15 h9 x9 e9 b9
  (try dsimp only [Value.cells, List.toList_toArray] at x9)
  refine clsI ?_
  refine runJ ?_
  (apply s_storeV; exact rfl; exact rfl; exact rfl; exact (OneAll.cons hvB (OneAll.cons hvA OneAll.nil) : OneAll [vB, vA]); exact rfl; exact rfl; exact x9; exact rfl)
  intro h10 x10 k10
  refine ⟨trivial, ?_⟩
  have x10 : Var h10 p15 58 [vB, vA] := x10
  have e810 : Ext h8 h10 := k10.oldV e9 b9 (Nat.le_refl _)
  have x410 := x48.ext e810
  refine runJ ?_
  (apply (s_make (f := U) (bytes := 8) (0)); (first | exact isK_c | exact isK_t rfl); (first | exact isK_c | exact isK_t rfl); exact rfl; exact rfl; exact rfl; exact rfl; exact rfl; exact rfl; omega; omega; omega)
  intro vM h11 o11 e11 b11
  refine clsI ?_
  have x411 := x410.ext e11
  have x1511 := x10.ext e11
  have ht0 : 0 < tPar a := by have := t2.q1; omega
  have hrl0 : (List.replicate (2 ^ L) 0).length = 2 ^ L := List.length_replicate
  have hB11 : ∀ j, vM.ownBlock = some j → h10.size ≤ j := fun j hj => (o11.blk j hj).1
  have E10 : Only (pblk tp) h4 h10 := (((e46.only _).trans k7).trans k8).trans (e810.only _)
  refine runJ ?_
  (first | (apply w_seqB; exact rfl; apply w_block; exact rfl) | skip)
  apply (w_loop (σ := Nat) rfl (fun j => [(3, vt), (9, p11), (10, tp), (11, u), (12, N 0), (13, p15), (14, N 0), (15, vM), (60, N (2 ^ L)), (61, N j)])
    (fun j h' => Ext h10 h' ∧ h11.size ≤ h'.size ∧ j ≤ 2 ^ L ∧ OwnF h' h10.size 26 U vM ((txtL (2 ^ L) (tPar a) text).take j ++ List.replicate (2 ^ L - j) 0)) (fun j => 2 ^ L - j) 0)
  · exact subsX
  · exact ⟨e11, Nat.le_refl _, Nat.zero_le _, o11⟩
  rintro j h12 ⟨e12, z12, j1, o12⟩
  have x412 := x410.ext e12
  have htj : ∀ {j : Nat}, j < 2 ^ L → (txtL (2 ^ L) (tPar a) text).take (j + 1) ++ List.replicate (2 ^ L - (j + 1)) 0 = ((txtL (2 ^ L) (tPar a) text).take j ++ List.replicate (2 ^ L - j) 0).set j (txt (tPar a) text j) := fun {j} hj => by
    have hl : ((txtL (2 ^ L) (tPar a) text).take j).length = j := by rw [List.length_take, (txtL_fit ht0).1]; omega
    rw [take_snoc (txtL_get hj), show 2 ^ L - j = (2 ^ L - (j + 1)) + 1 by omega, List.replicate_succ, List.set_append_right _ _ (by omega), hl, Nat.sub_self, List.append_assoc]
    rfl
  refine runJ ?_
  (apply w_condD; exact rfl; exact rfl) <;> intro hj
  · have hcl : ((txtL (2 ^ L) (tPar a) text).take j ++ List.replicate (2 ^ L - j) 0).length = 2 ^ L := by
      rw [List.length_append, List.length_take, List.length_replicate, (txtL_fit ht0).1]; omega
    have hset := htj hj
    refine runJ ?_
    (apply w_condD; exact rfl; exact rfl) <;> intro hjt
    · have hvt := st4.lt (show 0 < text.length by omega)
      have nvt : vt.ownBlock = none ∨ vt.ownBlock ≠ pblk tp := by
        cases hb : vt.ownBlock with
        | none => exact .inl rfl
        | some b => exact .inr fun e => by rw [hkt] at e; cases e; have := hvt _ hb; have := e5'.1; omega
      have st12 := (st4.only E10 nvt).ext e12
      obtain ⟨x, hx⟩ := get_lt hjt
      have hxt : txt (tPar a) text j = x % tPar a := by
        unfold txt
        rw [if_pos hjt, List.getD_eq_getElem?_getD, hx]; rfl
      obtain ⟨r, hrx⟩ : ∃ r, r = x % tPar a := ⟨_, rfl⟩
      generalize hcur : (txtL (2 ^ L) (tPar a) text).take j ++ List.replicate (2 ^ L - j) 0 = cur at *
      have h412 : Ext h4 h4 := Ext.refl _
      have hvM12 : ∀ b, vM.ownBlock = some b → h10.size ≤ b := fun b hb => (o12.blk b hb).1
      refine runJN ?_
      (apply (r_drawnT 10 (Ext h12)); exact rfl; exact mixed; kernel_rfl; exact rfl; first | exact Ext.refl _ | exact Only.refl _ _)
      refine runJ ?_
      apply tail_end
      refine runJ ?_
      (apply (s_storeF (HMod.hMod x (tPar a))); exact rfl; exact rfl; exact rfl; exact rfl; exact rfl; exact o12; exact rfl; (first | assumption | omega))
      intro h13 o13 k13
      refine clsI ?_
      have e1013 : Ext h10 h13 := ext_onlyR e12 k13 hvM12
      refine runJ ?_
      apply again_normal (j + 1)
      · exact subsX
      · refine ⟨e1013, by have := k13.1; omega, hj, ?_⟩
        rw [hxt] at hset
        rw [hset]
        exact o13
      · omega
    · have h0 : txt (tPar a) text j = 0 := by unfold txt; rw [if_neg hjt]
      refine runJ ?_
      apply again_normal (j + 1)
      · exact subsX
      · refine ⟨e12, z12, hj, ?_⟩
        have e : (txtL (2 ^ L) (tPar a) text).take (j + 1) ++ List.replicate (2 ^ L - (j + 1)) 0 = (txtL (2 ^ L) (tPar a) text).take j ++ List.replicate (2 ^ L - j) 0 := by
          rw [take_snoc (txtL_get hj), h0, show 2 ^ L - j = (2 ^ L - (j + 1)) + 1 by omega, List.replicate_succ, List.append_assoc]
          rfl
        rw [e]
        exact o12
      · omega
  · have hjn : j = 2 ^ L := by omega
    subst hjn
    rw [List.take_of_length_le (by rw [(txtL_fit ht0).1]; exact Nat.le_refl _), Nat.sub_self, List.replicate_zero, List.append_nil] at o12
    have hmf : Fit (2 ^ L) (tPar a) (txtL (2 ^ L) (tPar a) text) := txtL_fit ht0
    generalize txtL (2 ^ L) (tPar a) text = ms at *
    have x1512 : Var h12 p15 58 [vB, vA] := x10.ext e12
    have e812 : Ext h8 h12 := e810.trans e12
    have hq0 : ∀ q ∈ qPar a b, 0 < q := fun q hq => (hq63 q hq).1
    obtain ⟨lra, fra, les, bes⟩ := hideG_all hq0 hZ2
    have lrA : rA.length = (qPar a b).length := by rw [← lra, ← ma, List.length_map]
    have PU : KeyPure a b L rb rA ss es := by
      refine ⟨hL, lb, lrA, fun i q x hx hq => ?_, fun i q x hx hq => ?_, fun i q ai bb hq hai hbb => ?_, lss, hs3, les, bes⟩
      · obtain ⟨ai, hai⟩ := get_lt (l := ra) (j := i) (by rw [lra]; exact (List.getElem?_eq_some_iff.1 hq).1)
        exact hidB_fit (hq0 q (List.mem_of_getElem? hq)) (by rw [lift_len, List.length_replicate]) les (hH i q ai x hq hai hx)
      · refine fra i q x.2 ?_ hq
        rw [← ma, List.getElem?_map, hx]; rfl
      · rw [ma] at hai
        rw [List.getElem?_map] at hbb
        cases hy : rb[i]? with
        | none => rw [hy] at hbb; cases hbb
        | some y => rw [hy] at hbb; cases hbb; exact hH i q ai y hq hai hy
    have h78 := k8.1
    have h67 := k7.1
    obtain ⟨kt6, hkt6, hkl6⟩ := T6.pb
    have kt66 : kt < h6.size := by rw [hkt] at hkt6; cases hkt6; exact hkl6
    have nu : u.ownBlock = none ∨ u.ownBlock ≠ pblk tp := by
      cases hv : u.ownBlock with
      | none => exact .inl rfl
      | some j => exact .inr fun e => by rw [hkt] at e; cases e; have := (ou.blk _ hv).1; omega
    have KM8 : KeyMade a b L vq vB vA u rb rA ss h8 := ⟨TB7.onlyG k8 hgt, ⟨A7.row.only k8 nvq, A7.al, A7.t64, A7.ln⟩, ou.sl.only k8 nu, RB.pol, RA.pol⟩
    have OLD : Beside vq vM vB vA tp rb rA := by
      have nn : ∀ {v : Value}, (∀ j, v.ownBlock = some j → h6.size ≤ j) → v.ownBlock = none ∨ v.ownBlock ≠ pblk tp := fun {v} hv => by
        cases hb : v.ownBlock with
        | none => exact .inl rfl
        | some j => exact .inr fun e => by rw [hkt] at e; cases e; have := hv _ hb; omega
      have h810 := e810.1
      refine ⟨nvq, nn fun j hj => ?_, nn fun j hj => ?_, nn fun j hj => ?_, fun x hx => nn fun j hj => ?_, fun x hx => nn fun j hj => ?_, hgt⟩
      · have := (o12.blk _ hj).1; omega
      · have := (RB.own.blk _ hj).1; omega
      · have := (RA.own.blk _ hj).1; omega
      · have := ((RB.el x hx).blk _ hj).1; omega
      · have := ((RA.el x hx).blk _ hj).1; omega
    obtain ⟨us3, xs3, ys3, ds3, D3⟩ := draws_h (n := 2 ^ L) (w := 1 + b / 16 % 16) a2 (by omega)
    have hkh : ∀ j, pblk tp = some j → h.size ≤ j := fun j hj => by rw [hkt] at hj; cases hj; have := E4.1; have := e5'.1; omega
    repeat (first | (apply w_exit; exact rfl) | apply then_exit | apply again_exit | apply inb_here | apply then_normal)
    refine w_sub (l' := [(9, p11), (10, tp), (11, u), (12, N 0), (13, p15), (14, N 0), (15, vM)]) (by exact (Sub.cons rfl (Sub.cons rfl (Sub.cons rfl (Sub.cons rfl (Sub.cons rfl (Sub.cons rfl (Sub.cons rfl (Sub.nil _))))))))) ?_
    exact back_tail PU (KM8.ext e812) o12.sl hmf (T8.ext e812) OLD nu D3 x412 x1512 E4 (E10.trans (e12.only _)) hkh
end Go.Proofs.YtfcmdefigldpnaaGreatDoor


namespace Go.Den
set_option linter.unusedVariables false
set_option maxRecDepth 8000
open Go Go.RowKit Go.ChangeShapes Go.WideShapes

def Opn (P : Program) (w : World) (t : TypeId) (cs : List Value) : Prop := ∃ (H : Type) (enc : TypeId × Value → H) (fuel : Nat) (x : DataW H × List MemPlace), DataW.trod enc P w 0 (fun _ => true) true fuel t cs = some x

theorem opn_of {P : Program} {w : World} {t : TypeId} {v : Value} {H : Type} {enc : TypeId × Value → H} {d : DataW H} {ps : List MemPlace} (h : DataW.Trod enc P w 0 (fun _ => true) true t v d ps) : Opn P w t v.cells.toList := by
  obtain ⟨fuel, hf⟩ := h
  exact ⟨H, enc, fuel, _, hf⟩

section
variable {P : Program} {w : World} {t : TypeId} {cs : List Value}

theorem Opn.bool (ht : P.underlying t = some .bool) (h : Opn P w t cs) : ∃ b, cs = [.bool b] := by
  obtain ⟨H, enc, fuel, x, h⟩ := h
  obtain ⟨b, h1, -⟩ := DataW.trod_bool ht h
  exact ⟨b, h1⟩
theorem Opn.int {k : IntKind} (ht : P.underlying t = some (.int k)) (h : Opn P w t cs) : ∃ n, cs = [.int k n] ∧ (Lit.int k n).wf = true := by
  obtain ⟨H, enc, fuel, x, h⟩ := h
  obtain ⟨n, h1, -, h2⟩ := DataW.trod_int ht h
  exact ⟨n, h1, h2⟩
theorem Opn.struct {fs : Array Field} (ht : P.underlying t = some (.struct fs)) (h : Opn P w t cs) : cs.length = P.cellsOf t ∧ ∀ (i : Nat) (f : Field), fs[i]? = some f → Opn P w f.type ((cs.drop f.offset).take (P.cellsOf f.type)) := by
  obtain ⟨H, enc, fuel, x, h⟩ := h
  obtain ⟨xs, n, -, -, h1, h2, h3⟩ := DataW.trod_struct ht h
  refine ⟨h1, fun i f hf => ?_⟩
  have hi : i < xs.length := by rw [h2]; exact (Array.getElem?_eq_some_iff.1 hf).1
  exact ⟨H, enc, n, xs[i], by rw [h3 i f hf]; simp [hi]⟩
theorem Opn.slice {e : TypeId} {s : Nat} (ht : P.underlying t = some (.slice e)) (hs : P.cellsOf e = s) (hs0 : 0 < s) (h : Opn P w t cs) :
    ∃ v n es, cs = [v] ∧ Sl w.heap v n es ∧ es.length = n * s ∧ n ≤ maxLen ∧ ∀ i, i < n → Opn P w e ((es.drop (i * s)).take s) := by
  obtain ⟨H, enc, fuel, x, h⟩ := h
  rcases DataW.trod_slice ht h with ⟨rfl, -⟩ | ⟨a, len, cap, elems, rest, n, -, rfl, -, -, hl, hm, hlen, hel, -, -⟩
  · exact ⟨_, 0, [], rfl, Sl.nil _, by simp, Nat.zero_le _, fun i hi => by omega⟩
  · rw [hs] at hel
    have each : ∀ i, i < len → ∃ c, w.cells? 0 (a.add (i * s)) s = some c ∧ c.length = s ∧ Opn P w e c := fun i hi => by
      have h1 := hel i hi
      rw [List.getElem?_eq_getElem (by omega)] at h1
      cases hc : w.cells? 0 (a.add (i * s)) s with
      | none => rw [hc] at h1; cases h1
      | some c =>
        rw [hc] at h1
        refine ⟨c, rfl, (World.cells?_some hc).2.1, H, enc, n, _, h1⟩
    by_cases h0 : len = 0
    · subst h0
      exact ⟨_, 0, [], rfl, Sl.empty _ a cap, by simp, Nat.zero_le _, fun i hi => by omega⟩
    · have cellAt : ∀ i r, i < len → r < s → ∀ c, w.cells? 0 (a.add (i * s)) s = some c → w.cell? (a.add (i * s + r)) = c[r]? := fun i r hi hr c hc => by
        rw [← Addr.add_add]; exact (World.cells?_some hc).2.2 r hr
      have hspot : a.spot = none := by
        obtain ⟨c, hc, hcl, -⟩ := each 0 (by omega)
        have := cellAt 0 0 (by omega) hs0 c hc
        rw [List.getElem?_eq_getElem (by omega)] at this
        have e0 : a.add (0 * s + 0) = a := by simp [Addr.add]
        rw [e0] at this
        unfold World.cell? at this
        split at this
        · split at this
          · cases this
          · rename_i hsp; simpa using hsp
        · cases this
      obtain ⟨b, o, sp⟩ := a
      simp only at hspot
      subst hspot
      have total : ∀ j, j < len * s → ∃ u, w.cell? ((⟨b, o, none⟩ : Addr).add j) = some u := fun j hj => by
        have hi : j / s < len := (Nat.div_lt_iff_lt_mul hs0).2 hj
        have hr : j % s < s := Nat.mod_lt _ hs0
        obtain ⟨c, hc, hcl, -⟩ := each (j / s) hi
        have := cellAt (j / s) (j % s) hi hr c hc
        rw [List.getElem?_eq_getElem (by omega), Nat.mul_comm (j / s) s, Nat.div_add_mod] at this
        exact ⟨_, this⟩
      refine ⟨_, len, (List.range (len * s)).map (fun j => (w.cell? ((⟨b, o, none⟩ : Addr).add j)).getD undef), rfl, .inr ⟨b, o, cap, rfl, hl, fun j u hu => ?_⟩, by simp, Nat.le_trans hl hm, fun i hi => ?_⟩
      · rw [List.getElem?_map] at hu
        by_cases hj : j < len * s
        · rw [List.getElem?_range hj] at hu
          obtain ⟨u', hu'⟩ := total j hj
          rw [Option.map_some, hu', Option.getD_some] at hu
          cases hu
          rw [Addr.add_lit, cell?_cellH] at hu'
          exact hu'
        · rw [List.getElem?_eq_none (by simpa using hj)] at hu; cases hu
      · obtain ⟨c, hc, hcl, ho⟩ := each i hi
        have e : ((List.map (fun j => (w.cell? ((⟨b, o, none⟩ : Addr).add j)).getD undef) (List.range (len * s))).drop (i * s)).take s = c := by
          have hle : i * s + s ≤ len * s := by rw [← Nat.succ_mul]; exact Nat.mul_le_mul_right _ hi
          apply List.ext_getElem?
          intro r
          rw [List.getElem?_take]
          by_cases hr : r < s
          · rw [if_pos hr, List.getElem?_drop, List.getElem?_map, List.getElem?_range (by omega)]
            have := cellAt i r hi hr c hc
            rw [Option.map_some, this, List.getElem?_eq_getElem (by omega)]; rfl
          · rw [if_neg hr, List.getElem?_eq_none (by omega)]
        rw [e]; exact ho
end

theorem nat_of_lit {n : Int} (h : (Lit.int .u64 n).wf = true) : ∃ m : Nat, n = (m : Int) ∧ m < 18446744073709551616 := by
  have := bounds_u64 h
  exact ⟨n.toNat, by omega, by omega⟩

def wordOf : Option Value → Nat
  | some (.int _ z) => z.toNat
  | _ => 0
theorem opn_words {P : Program} {w : World} {t e : TypeId} {cs : List Value} (ht : P.underlying t = some (.slice e)) (he : P.underlying e = some (.int .u64)) (hc : P.cellsOf e = 1) (h : Opn P w t cs) :
    ∃ v xs, cs = [v] ∧ SlF w.heap U v xs ∧ Dig.Al 18446744073709551616 xs ∧ xs.length ≤ maxLen := by
  obtain ⟨v, n, es, h1, h2, h3, h4, h5⟩ := h.slice ht hc Nat.zero_lt_one
  have key : ∀ i, i < n → ∃ m : Nat, es[i]? = some (U m) ∧ m < 18446744073709551616 := fun i hi => by
    obtain ⟨z, hz, hw⟩ := (h5 i hi).int he
    obtain ⟨m, rfl, hm⟩ := nat_of_lit hw
    refine ⟨m, ?_, hm⟩
    rw [Nat.mul_one] at hz
    have : (es.drop i)[0]? = some (U m) := by
      have h0 : ((es.drop i).take 1)[0]? = some (U m) := by rw [hz]; rfl
      rwa [List.getElem?_take, if_pos (by omega)] at h0
    rwa [List.getElem?_drop, Nat.add_zero] at this
  have hxs : es = ((List.range n).map fun i => wordOf es[i]?).map U := by
    apply List.ext_getElem?
    intro i
    by_cases hi : i < n
    · obtain ⟨m, hm, -⟩ := key i hi
      rw [List.getElem?_map, List.getElem?_map, List.getElem?_range hi]
      simp [hm, wordOf]
    · rw [List.getElem?_eq_none (by omega), List.getElem?_eq_none (by simp; omega)]
  refine ⟨v, (List.range n).map fun i => wordOf es[i]?, h1, ?_, ?_, by simpa using h4⟩
  · unfold SlF
    rw [← hxs]; simpa using h2
  · intro x hx
    obtain ⟨i, hi, rfl⟩ := List.mem_map.1 hx
    obtain ⟨m, hm, hlt⟩ := key i (List.mem_range.1 hi)
    rw [hm]
    simpa [wordOf] using hlt

theorem arg_words {P : Program} {w : World} {t e : TypeId} {v : Value} (ht : P.underlying t = some (.slice e)) (he : P.underlying e = some (.int .u64)) (hc : P.cellsOf e = 1) (hv : ∃ a len cap, v = .slice a len cap) (h : Opn P w t v.cells.toList) :
    ∃ xs, SlF w.heap U v xs ∧ Dig.Al 18446744073709551616 xs ∧ xs.length ≤ maxLen := by
  obtain ⟨a, len, cap, rfl⟩ := hv
  obtain ⟨v, xs, e1, h2⟩ := opn_words ht he hc h
  simp [Value.cells] at e1
  subst e1
  exact ⟨xs, h2⟩

theorem chunks {α : Type} {f : α → List Value} {R : α → Prop} {s : Nat} : ∀ (n : Nat) (es : List Value), es.length = n * s → (∀ i, i < n → ∃ x, (es.drop (i * s)).take s = f x ∧ R x) → ∃ xs : List α, xs.length = n ∧ es = xs.flatMap f ∧ ∀ x ∈ xs, R x
  | 0, es, hl, _ => ⟨[], rfl, by simpa using hl, by simp⟩
  | n + 1, es, hl, h => by
    obtain ⟨x, hx, hr⟩ := h 0 (by omega)
    rw [Nat.zero_mul, List.drop_zero] at hx
    have hl' : (es.drop s).length = n * s := by rw [List.length_drop, hl, Nat.succ_mul]; omega
    obtain ⟨xs, h1, h2, h3⟩ := chunks (f := f) (R := R) n (es.drop s) hl' (fun i hi => by
      obtain ⟨y, hy, hr⟩ := h (i + 1) (by omega)
      refine ⟨y, ?_, hr⟩
      rw [List.drop_drop, show s + i * s = (i + 1) * s by rw [Nat.succ_mul]; omega]
      exact hy)
    refine ⟨x :: xs, by simp [h1], ?_, ?_⟩
    · rw [List.flatMap_cons, ← h2, ← hx, List.take_append_drop]
    · intro y hy
      rcases List.mem_cons.1 hy with rfl | hy
      · exact hr
      · exact h3 y hy

def ib64 (z : Int) : Prop := -9223372036854775808 ≤ z ∧ z < 9223372036854775808
section
variable {P : Program} {w : World} {t e : TypeId} {cs : List Value}
theorem Opn.i64 (ht : P.underlying t = some (.int .i64)) (h : Opn P w t cs) : ∃ n, cs = [I n] ∧ ib64 n := by
  obtain ⟨n, h1, h2⟩ := h.int ht
  exact ⟨n, h1, by have := bounds_i64 h2; unfold ib64; omega⟩
theorem Opn.rowA {α : Type} {f : α → List Value} {R : α → Prop} {s : Nat} (ht : P.underlying t = some (.slice e)) (hs : P.cellsOf e = s) (hs0 : 0 < s) (hf : ∀ x, (f x).length = s) (h : Opn P w t cs) (he : ∀ c, Opn P w e c → ∃ x, c = f x ∧ R x) :
    ∃ v xs, cs = [v] ∧ SlA w.heap f s v xs ∧ (∀ x ∈ xs, R x) ∧ xs.length ≤ maxLen := by
  obtain ⟨v, n, es, h1, h2, h3, h4, h5⟩ := h.slice ht hs hs0
  obtain ⟨xs, g1, g2, g3⟩ := chunks (f := f) (R := R) n es h3 (fun i hi => he _ (h5 i hi))
  subst g1
  exact ⟨v, xs, h1, ⟨hf, by rw [← g2]; exact h2⟩, g3, h4⟩
theorem flat_one {α : Type} (f : α → Value) (xs : List α) : xs.flatMap (fun x => [f x]) = xs.map f := by
  induction xs with
  | nil => rfl
  | cons x xs ih => rw [List.flatMap_cons, ih]; rfl
theorem SlA.one' {α : Type} {f : α → Value} {h : Hp} {v : Value} {xs : List α} (s : SlA h (fun x => [f x]) 1 v xs) : SlF h f v xs := by
  have := s.2
  rw [flat_one] at this
  exact this
theorem Opn.ints (ht : P.underlying t = some (.slice e)) (he : P.underlying e = some (.int .i64)) (hc : P.cellsOf e = 1) (h : Opn P w t cs) :
    ∃ v xs, cs = [v] ∧ SlF w.heap I v xs ∧ (∀ x ∈ xs, ib64 x) ∧ xs.length ≤ maxLen := by
  obtain ⟨v, xs, h1, h2, h3, h4⟩ := h.rowA (f := fun x => [I x]) (R := ib64) ht hc Nat.zero_lt_one (fun _ => rfl) (fun c hc => Opn.i64 he hc)
  exact ⟨v, xs, h1, h2.one', h3, h4⟩
theorem Opn.part {fs : Array Field} {tt : TypeId} {off s : Nat} (ht : P.underlying t = some (.struct fs)) (i : Nat) (hi : (fs[i]?).map (fun f => (f.type, f.offset, P.cellsOf f.type)) = some (tt, off, s)) (h : Opn P w t cs) : Opn P w tt ((cs.drop off).take s) := by
  obtain ⟨-, g2⟩ := h.struct ht
  cases hf : fs[i]? with
  | none => rw [hf] at hi; cases hi
  | some f =>
    rw [hf] at hi
    simp only [Option.map_some, Option.some.injEq, Prod.mk.injEq] at hi
    obtain ⟨rfl, rfl, rfl⟩ := hi
    exact g2 i f hf
end
end Go.Den


namespace Go.Proofs.YtfcmdefigldpnaaGreatDoor
set_option linter.unusedVariables false
set_option maxRecDepth 8000
open Go Go.Den Go.RowKit Go.ChangeShapes Go.WideShapes

def laidL : List (String × DataW Unit) := [("math/bits.deBruijn64tab", Rows.laid_math_bits_deBruijn64tab)]
theorem laid_eq : (Rows.laid_math_bits_deBruijn64tab : DataW Unit) = .agg (tzT.map fun b => .lit (.int .u8 ((b : Nat) : Int))) := rfl
theorem gTab : Tryz.prog.globalNamed "math/bits.deBruijn64tab" = some 2 := by kernel_rfl
theorem tTab : (Tryz.prog.globals[2]?).map (·.type) = some 245 := by kernel_rfl
theorem tb_of_laid {W : World} (h : laidMetH Tryz.prog laidL W) : TB W.heap := by
  rw [MakeChecks.laidMetH_plain _ _ _ (by kernel_rfl)] at h
  obtain ⟨ps, ⟨g0, t0, cs0, f0, p0, q0, hg0, ht0, hv0, hd0, hrest⟩, hrest2⟩ := h
  obtain rfl := Option.some.inj (gTab.symm.trans hg0)
  obtain rfl := Option.some.inj (tTab.symm.trans ht0)
  rw [laid_eq] at hd0
  obtain ⟨xs, m1, -, hx1, hlen, hn, hel⟩ := DataW.trod_array Tryz.underlying245 hd0
  have c5 : Tryz.prog.cellsOf 5 = 1 := by kernel_rfl
  simp only [Prod.mk.injEq, DataW.agg.injEq] at hx1
  have key : ∀ j, j < 64 → cs0.toList[j]? = some (.int .u8 ((tzT.getD j 0 : Nat) : Int)) := fun j hj => by
    have hxj : xs[j]? = some xs[j] := List.getElem?_eq_getElem (by omega)
    have h1 := hel j hj
    rw [c5, Nat.mul_one, hxj] at h1
    obtain ⟨k, e1, e2, -⟩ := DataW.trod_int Tryz.underlying5 h1
    have h2 := congrArg (fun l => l[j]?) hx1.1
    simp only [List.getElem?_map, hxj, Option.map_some] at h2
    rw [List.getElem?_eq_getElem (show j < tzT.length from hj), Option.map_some, Option.some.injEq] at h2
    rw [e2] at h2
    simp only [DataW.lit.injEq, Lit.int.injEq, true_and] at h2
    have h3 : (List.drop j cs0.toList)[0]? = some (Value.int .u8 k) := by
      have : ((List.drop j cs0.toList).take 1)[0]? = some (Value.int .u8 k) := by rw [e1]; rfl
      rwa [List.getElem?_take, if_pos (by omega)] at this
    rw [List.getElem?_drop, Nat.add_zero] at h3
    rw [h3, List.getD_eq_getElem?_getD, List.getElem?_eq_getElem (show j < tzT.length from hj), Option.getD_some, h2]
  refine ⟨_, 0, rfl, fun j u hu => ?_⟩
  rw [List.getElem?_map, Option.map_eq_some_iff] at hu
  obtain ⟨b, hb, rfl⟩ := hu
  have hj : j < 64 := (List.getElem?_eq_some_iff.1 hb).1
  have h4 := World.var?_cell hg0 hv0 j
  rw [cell?_cellH] at h4
  rw [Nat.zero_add, h4]
  have h5 := key j hj
  rw [List.getD_eq_getElem?_getD, hb, Option.getD_some] at h5
  simpa using h5

theorem door_met (os : Os) (args : Array Value) : laidMetH Tryz.prog laidL ((World.doorLaid Tryz.prog 400 os).forCall (fun _ _ => 0) ⟨#[], args, []⟩).memory :=
  laidMetH_of_parts3 (fuel := 8) (laidMet_of_run' 8 (by kernel_rfl) (by kernel_rfl)) (by kernel_rfl) (by kernel_rfl)
end Go.Proofs.YtfcmdefigldpnaaGreatDoor


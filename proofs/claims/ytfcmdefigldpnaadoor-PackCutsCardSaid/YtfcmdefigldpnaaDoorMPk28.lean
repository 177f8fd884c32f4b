/- Texts PckN to OpenB of this work, joined: each says in its own head what it proves, and of which condition. -/
import Derived.Test.YtfcmdefigldpnaaDoorMPk27
import Derived.ProofKit
import Derived.OpenShut
import Derived.ShutString
import Derived.ChangeOld
import Derived.Below
/- Package arraslaw15: the law PackCuts. Condition: the table of math/bits reads as it is laid. -/
namespace Go.Proofs.YtfcmdefigldpnaaDoor
set_option linter.unusedVariables false
set_option maxRecDepth 8000
open Go Go.Den Go.RowKit Go.Dig Go.Mth

theorem uniG_all {n : Nat} : ∀ (qs ds : List Nat) (ls : List (List Nat)) (ds' : List Nat), (∀ q ∈ qs, 0 < q) → uniG n qs ds = some (ls, ds') → ls.length = qs.length ∧ ∀ (i q : Nat) (l : List Nat), ls[i]? = some l → qs[i]? = some q → l.length = n ∧ ∀ x ∈ l, x < q
  | [], ds, ls, ds', _, h => by
    simp only [uniG, Option.some.injEq, Prod.mk.injEq] at h
    obtain ⟨rfl, -⟩ := h
    exact ⟨rfl, fun i q l hi => by cases hi⟩
  | q :: qs, ds, ls, ds', hq, h => by
    simp only [uniG] at h
    cases h1 : rowG (firstB q) n ds with
    | none => rw [h1] at h; cases h
    | some x =>
      obtain ⟨l, ds1⟩ := x
      rw [h1] at h
      dsimp only at h
      cases h2 : uniG n qs ds1 with
      | none => rw [h2] at h; cases h
      | some x2 =>
        obtain ⟨ls2, ds2⟩ := x2
        rw [h2] at h
        simp only [Option.some.injEq, Prod.mk.injEq] at h
        obtain ⟨rfl, rfl⟩ := h
        obtain ⟨a1, a2⟩ := uniG_all qs ds1 ls2 ds2 (fun q hq' => hq q (by simp [hq'])) h2
        refine ⟨by simp [a1], fun i q' l' hi hq' => ?_⟩
        cases i with
        | zero =>
          cases hi; cases hq'
          exact rowG_all (p := fun x => x < q) (fun ds r ds' h => firstB_lt (hq q (by simp)) ds r ds' h) n ds _ _ h1
        | succ i => exact a2 i q' l' hi hq'
theorem firstT_val : ∀ (ds : List Nat) (r : Int) (ds' : List Nat), firstT ds = some (r, ds') → r = 0 ∨ r = 1 ∨ r = -1
  | [], r, ds', h => by cases h
  | d :: ds, r, ds', h => by
    obtain ⟨m0, m1, m2, m3⟩ := tern_mod d
    unfold firstT at h
    split at h
    · exact firstT_val ds r ds' h
    · rename_i hd
      cases h
      rw [m3] at hd
      have : d % 4 < 4 := Nat.mod_lt _ (by decide)
      rcases (show d % 4 = 0 ∨ d % 4 = 1 ∨ d % 4 = 2 by omega) with h | h | h
      · exact .inl (m0 h)
      · exact .inr (.inl (m1 h))
      · exact .inr (.inr (m2 h))
/-- What a row of draws left. -/
theorem rowT_out {h h' : Hp} {t : Value} {B : Option Nat} {v' : Value} {n : Nat} {ds : List Nat} {o : Bool} (D : RowR I 2 h h' t B v' (if o then none else rowG firstT n ds)) :
    ∃ u e ds' o', v' = .tuple #[u, N e] ∧ u.oneCell' = true ∧ TapR h' t B ds' o' ∧ (o' = false → o = false ∧ ∃ rs, OwnF h' h.size 2 I u rs ∧ rs.length = n ∧ ∀ v ∈ rs, v = 0 ∨ v = 1 ∨ v = -1) := by
  cases o with
  | true =>
    obtain ⟨rfl, ds', T⟩ := D
    exact ⟨_, _, ds', true, rfl, rfl, T, (fun h => by cases h)⟩
  | false =>
    rw [if_neg (by simp)] at D
    cases hZ : rowG firstT n ds with
    | none =>
      rw [hZ] at D
      obtain ⟨rfl, ds', T⟩ := D
      exact ⟨_, _, ds', true, rfl, rfl, T, (fun h => by cases h)⟩
    | some x =>
      obtain ⟨rs, ds'⟩ := x
      rw [hZ] at D
      obtain ⟨u, rfl, O, T⟩ := D
      obtain ⟨a1, a2⟩ := rowG_all (p := fun r => r = 0 ∨ r = 1 ∨ r = -1) firstT_val n ds rs ds' hZ
      exact ⟨u, 0, ds', false, rfl, O.sl.one, T, fun _ => ⟨rfl, rs, O, a1, a2⟩⟩
theorem uni_out {h h' : Hp} {t : Value} {B : Option Nat} {v' : Value} {n : Nat} {qs ds : List Nat} {o : Bool} (hq : ∀ q ∈ qs, 0 < q) (D : UniR h h' t B v' (if o then none else uniG n qs ds)) :
    ∃ u e ds' o', v' = .tuple #[.agg #[u], N e] ∧ u.oneCell' = true ∧ TapR h' t B ds' o' ∧ (e = 0 → o' = false) ∧ (o' = false → o = false ∧ ∃ rows p, RowsAt h' h.size p u rows ∧ rows.length = qs.length ∧ ∀ (i q : Nat) (y : Value × List Nat), rows[i]? = some y → qs[i]? = some q → Fit n q y.2) := by
  cases o with
  | true =>
    obtain ⟨rfl, ds', T⟩ := D
    exact ⟨_, _, ds', true, rfl, rfl, T, (fun h => by cases h), (fun h => by cases h)⟩
  | false =>
    rw [if_neg (by simp)] at D
    cases hZ : uniG n qs ds with
    | none =>
      rw [hZ] at D
      obtain ⟨rfl, ds', T⟩ := D
      exact ⟨_, _, ds', true, rfl, rfl, T, (fun h => by cases h), (fun h => by cases h)⟩
    | some x =>
      obtain ⟨ls, ds'⟩ := x
      rw [hZ] at D
      obtain ⟨u, rows, p, rfl, O, hm, T⟩ := D
      obtain ⟨a1, a2⟩ := uniG_all qs ds ls ds' hq hZ
      refine ⟨u, 0, ds', false, rfl, O.own.sl.one, T, fun _ => rfl, fun _ => ⟨rfl, rows, p, O, ?_, fun i q y hi hq => ?_⟩⟩
      · have := congrArg List.length hm
        rw [List.length_map] at this
        omega
      · have hl : ls[i]? = some y.2 := by rw [← hm, List.getElem?_map, hi]; rfl
        exact a2 i q y.2 hl hq
theorem polsB_polsR (ps : List (Value × List (Value × List Nat))) : polsB ps = polsR (ps.map fun x => x.2.map (·.2)) := by
  unfold polsB polsR
  rw [List.flatMap_map]
theorem secB_le (ss : List Int) : ∀ x ∈ secB ss, x ≤ 2 := fun x hx => by
  unfold secB at hx
  obtain ⟨v, -, rfl⟩ := List.mem_map.1 hx
  unfold sec1
  split
  · omega
  · split <;> omega

theorem wordsB_lt (l : List Nat) : ∀ b ∈ wordsB l, b < 256 := fun b hb => by
  unfold wordsB at hb
  obtain ⟨v, -, hv⟩ := List.mem_flatMap.1 hb
  exact numB_lt v 8 b hv
theorem polsR_lt (ps : List (List (List Nat))) : ∀ b ∈ polsR ps, b < 256 := fun b hb => by
  unfold polsR polyB at hb
  obtain ⟨v, -, hv⟩ := List.mem_flatMap.1 hb
  obtain ⟨l, -, hl⟩ := List.mem_flatMap.1 hv
  exact wordsB_lt l b hl
theorem hdrB_lt {kind n t w : Nat} {q : List Nat} (hk : kind < 256) : ∀ b ∈ hdrB kind n t w q, b < 256 := fun b hb => by
  unfold hdrB at hb
  simp only [List.mem_append, List.mem_cons, List.not_mem_nil, or_false] at hb
  rcases hb with (((rfl | hb) | hb) | rfl | rfl) | hb
  · exact hk
  · exact numB_lt _ _ _ hb
  · exact numB_lt _ _ _ hb
  · exact Nat.mod_lt _ (by decide)
  · exact Nat.mod_lt _ (by decide)
  · exact wordsB_lt _ _ hb

theorem Tryd_ent4 : Ent Tryd.prog 4 := ent_of Tryd.func4 (by kernel_rfl) rfl
set_option maxHeartbeats 8000000 in
theorem packCuts_law (a b at_ m : Nat) (vs : Value) (seed : List Nat) (h : Hp) (T : TB h) (s : SlF h U vs seed) (al : Al 18446744073709551616 seed) (hl : seed.length < 9223372036854775808) (ha : a < 256) (hb : b < 256) (hat : at_ < 65536) (hm : m < 256) :
    CallsH Tryd.prog 4 [Y a, Y b, vs, .int .u16 (at_ : Int), Y m] h fun v' h' => v' = .bool true ∧ Ext h h' := by
  have PM := fun h => params_spec a b h ha hb
  obtain ⟨q1, q2, q3, q4⟩ := qPar_facts a b
  obtain ⟨t1, t2⟩ := tPar_facts a
  have hpi : pI a < 3 := Nat.mod_lt _ (by decide)
  have hpc : pC b ≤ 5 ∧ 2 ≤ pC b := by unfold pC; omega
  generalize hL : pI a + 3 = L at *
  have hN2 : 8 ≤ 2 ^ L := Nat.pow_le_pow_right (n := 2) (i := 3) (by decide) (by omega)
  have hNle : 2 ^ L ≤ 2 ^ 5 := Nat.pow_le_pow_right (by decide) (by omega)
  have e5 : (2 : Nat) ^ 5 = 32 := by decide
  have hPar : ∀ v, (parM a b v).cells = [N (2 ^ L), U (tPar a), v, N (1 + b / 16 % 16)] := fun v => by rw [← hL]; rfl
  simp only [hPar] at PM
  (apply enter Tryd.func4 rfl Tryd.ntmps4 rfl)
  refine runJ ?_
  apply (s_call Tryd_ent19 rfl rfl rfl)
  refine (fixed15_spec h T).mono ?_
  rintro _ h1 ⟨rfl, e1⟩
  refine ⟨(by first | exact trivial | exact trivial), ?_⟩
  refine runJ ?_
  apply (s_call Tryd_ent20 rfl rfl rfl)
  refine (PM h1).mono ?_
  rintro _ h2 ⟨e2, vq, rfl, A2, o2⟩
  refine ⟨(by first | exact trivial | exact trivial), ?_⟩
  refine runJ ?_
  (apply s_alloc; exact rfl; exact rfl; exact rfl)
  intro p11 h3 x3 e3 b3
  (try dsimp only [Value.cells, List.toList_toArray] at x3)
  refine ⟨(by first | exact trivial | exact Ext.refl _ | assumption | exact Ext.trans (by assumption) (by assumption)), ?_⟩
  refine runJ ?_
  have hqone := o2.sl.one
  (apply s_storeV; exact rfl; exact rfl; exact rfl; exact (OneAll.cons rfl (OneAll.cons rfl (OneAll.cons hqone (OneAll.cons rfl OneAll.nil))) : OneAll [N (2 ^ L), U (tPar a), vq, N (1 + b / 16 % 16)]); exact rfl; exact rfl; exact x3; exact rfl)
  intro h4 x4 k4
  refine ⟨trivial, ?_⟩
  have x4 : Var h4 p11 25 [N (2 ^ L), U (tPar a), vq, N (1 + b / 16 % 16)] := x4
  have E2 := e1.trans e2
  have e24 : Ext h2 h4 := k4.oldV e3 b3 (Nat.le_refl _)
  have E4 := E2.trans e24
  have s4 := s.ext E4
  have A4 := A2.ext e24
  refine runJ ?_
  (apply s_splitG; exact rfl; exact rfl; exact rfl; exact rfl) <;> intro g1
  · refine runJ ?_
    exact fin1 rfl rfl ⟨rfl, E4⟩
  refine runJ ?_
  (apply w_condD; exact rfl; exact rfl) <;> intro g2
  · refine runJ ?_
    exact fin1 rfl rfl ⟨rfl, E4⟩
  refine runJ ?_
  apply (s_call Tryd_ent21 rfl rfl rfl)
  refine (draws_spec vs seed (60 * 2 ^ L) h4 s4 al (by omega) (by omega)).mono ?_
  rintro vd h5 ⟨e5, ds, o5, l5, d5⟩
  refine ⟨(by first | exact trivial | exact trivial), ?_⟩
  have hs4 : h2.size < h4.size := by obtain ⟨j, hj, hl⟩ := x4.blk; rw [b3] at hj; cases hj; exact hl
  have dl5 : ds.length < 4611686018427387904 := by omega
  have E5 := E4.trans e5
  have x5 := x4.ext e5
  refine runJ ?_
  (apply (s_build ([vd, .bool false])); exact rfl; exact rfl; exact rfl; (repeat (first | exact CellsAll.nil | (apply CellsAll.cons; (first | exact oneL (by assumption) | exact oneL (SlF.one (by assumption)) | exact oneL (SlF.one (OwnF.sl (by assumption))) | exact oneL (Var.one (by assumption)) | exact rfl)))); exact rfl; exact rfl)
  refine runJ ?_
  (apply s_box; exact rfl; exact rfl; exact rfl; exact rfl)
  intro t h6 x6 e6 b6
  (try dsimp only [Value.cells, List.toList_toArray] at x6)
  refine ⟨(by first | exact trivial | exact Ext.refl _ | assumption | exact Ext.trans (by assumption) (by assumption)), ?_⟩
  have x6 : Var h6 t 54 [vd, .bool false] := x6
  have E6 := E5.trans e6
  have hs6 : h5.size < h6.size := by obtain ⟨j, hj, hl⟩ := x6.blk; rw [b6] at hj; cases hj; exact hl
  have T6 : TapR h6 t vd.ownBlock ds false := ⟨vd, x6, o5.sl.ext e6, ⟨.inr rfl, (by rw [b6]; intro e; have := (o5.blk _ e).2; omega), fun b hb => by have := (o5.blk b hb).2; omega⟩, d5.1, dl5⟩
  have n11 : pblk p11 ≠ pblk t := by rw [b3, b6]; intro e; have := Option.some.inj e; have := e5.1; omega
  have x116 := x5.ext e6
  refine runJ ?_
  apply (s_call Tryd_ent22 rfl rfl rfl)
  refine (ternariesR_spec t _ (2 ^ L) ds false h6 T6 (by omega) (by omega)).mono ?_
  rintro v7 h7 ⟨k7, D7⟩
  refine ⟨(by first | exact trivial | exact trivial), ?_⟩
  obtain ⟨us, es, ds7, o7, rfl, us1, T7, R7⟩ := rowT_out (o := false) D7
  clear D7
  have x117 := x116.only k7 n11
  have ht : ∀ j, pblk t = some j → h.size ≤ j := fun j hj => by rw [b6] at hj; have := Option.some.inj hj; have := E5.1; omega
  have htb : ∀ j, pblk t = some j → h5.size ≤ j := fun j hj => by rw [b6] at hj; have := Option.some.inj hj; omega
  have E7 := ext_only E6 k7 ht
  have e67 : Ext h5 h7 := ext_only e6 k7 htb
  have sq7 : SlF h7 U vq (qPar a b) := ((o2.sl.ext e24).ext e5).ext e67
  have nq : ∀ {g : Hp}, Ext h5 g → vq.ownBlock = none ∨ vq.ownBlock ≠ pblk t := fun _ => by
    rw [b6]
    cases hv : vq.ownBlock with
    | none => exact .inl rfl
    | some j => exact .inr fun e => by have := Option.some.inj e; have := (o2.blk j hv).2; have := e24.1; have := e5.1; omega
  have hq64 : ∀ q ∈ qPar a b, 0 < q ∧ q < 18446744073709551616 := fun q hq => by have := q2 q hq; omega
  refine runJ ?_
  apply (s_call Tryd_ent23 rfl rfl rfl)
  refine (uniformR_spec t _ (2 ^ L) vq (qPar a b) ds7 o7 h7 T7 sq7 (nq e67) hq64 (by omega) (by omega) (by omega) (by omega)).mono ?_
  rintro v8 h8 ⟨k8, D8⟩
  refine ⟨(by first | exact trivial | exact trivial), ?_⟩
  obtain ⟨ux, ex, ds8, o8, rfl, ux1, T8, Z8, R8⟩ := uni_out (fun q hq => (hq64 q hq).1) D8
  clear D8
  have E8 := ext_only E7 k8 ht
  have e68 : Ext h5 h8 := ext_only e67 k8 htb
  have x118 := x117.only k8 n11
  refine runJ ?_
  (apply s_alloc; exact rfl; exact rfl; exact rfl)
  intro p15 h9 x9 e9 b9
  (try dsimp only [Value.cells, List.toList_toArray] at x9)
  refine ⟨(by first | exact trivial | exact Ext.refl _ | assumption | exact Ext.trans (by assumption) (by assumption)), ?_⟩
  refine runJ ?_
  (apply s_storeV; exact rfl; exact rfl; exact rfl; exact (OneAll.cons ux1 OneAll.nil : OneAll [ux]); exact rfl; exact rfl; exact x9; exact rfl)
  intro h10 x10 k10
  refine ⟨trivial, ?_⟩
  have x10 : Var h10 p15 37 [ux] := x10
  have e810 : Ext h8 h10 := k10.oldV e9 b9 (Nat.le_refl _)
  have E10 := E8.trans e810
  have T10 := T8.ext e810
  have x1110 := x118.ext e810
  have sq10 : SlF h10 U vq (qPar a b) := ((o2.sl.ext e24).ext e5).ext (e68.trans e810)
  refine runJ ?_
  apply (s_call Tryd_ent23 rfl rfl rfl)
  refine (uniformR_spec t _ (2 ^ L) vq (qPar a b) ds8 o8 h10 T10 sq10 (nq e67) hq64 (by omega) (by omega) (by omega) (by omega)).mono ?_
  rintro v11 h11 ⟨k11, D11⟩
  refine ⟨(by first | exact trivial | exact trivial), ?_⟩
  obtain ⟨uy, ey, ds11, o11, rfl, uy1, T11, Z11, R11⟩ := uni_out (fun q hq => (hq64 q hq).1) D11
  clear D11
  have E11 := ext_only E10 k11 ht
  have e611 : Ext h5 h11 := ext_only (e68.trans e810) k11 htb
  have x1111 := x1110.only k11 n11
  have n15 : pblk p15 ≠ pblk t := by rw [b9, b6]; intro e; have := Option.some.inj e; have := e68.1; have := k8.1; have := k7.1; omega
  have x1511 := x10.only k11 n15
  refine runJ ?_
  (apply s_alloc; exact rfl; exact rfl; exact rfl)
  intro p17 h12 x12 e12 b12
  (try dsimp only [Value.cells, List.toList_toArray] at x12)
  refine ⟨(by first | exact trivial | exact Ext.refl _ | assumption | exact Ext.trans (by assumption) (by assumption)), ?_⟩
  refine runJ ?_
  (apply s_storeV; exact rfl; exact rfl; exact rfl; exact (OneAll.cons uy1 OneAll.nil : OneAll [uy]); exact rfl; exact rfl; exact x12; exact rfl)
  intro h13 x13 k13
  refine ⟨trivial, ?_⟩
  have x13 : Var h13 p17 37 [uy] := x13
  have e1113 : Ext h11 h13 := k13.oldV e12 b12 (Nat.le_refl _)
  have E13 := E11.trans e1113
  have x1113 := x1111.ext e1113
  have x1513 := x1511.ext e1113
  refine runJ ?_
  (apply w_condD; exact rfl; exact rfl) <;> intro g3
  · refine runJ ?_
    exact fin1 rfl rfl ⟨rfl, E13⟩
  obtain ⟨rfl, rowsy, py, RY, ly, fy⟩ := R11 (Z11 (by omega))
  obtain ⟨rfl, rowsx, px, RX, lx, fx⟩ := R8 rfl
  obtain ⟨-, ss, OS, lss, ass⟩ := R7 rfl
  refine runJ ?_
  have hs57 : h5.size < h7.size := Nat.lt_of_lt_of_le hs6 k7.1
  have RX13 := ((RX.ext e810).low (by rw [← b6]; exact k11) hs57).ext e1113
  have RY13 := RY.ext e1113
  have nus : us.ownBlock = none ∨ us.ownBlock ≠ pblk t := OS.neV b6 hs6
  have OS13 := ((((OS.only k8 nus).ext e810).only k11 nus).ext e1113)
  have e413 : Ext h4 h13 := e5.trans (e611.trans e1113)
  have A13 := A4.ext e413
  (apply (s_litC (s := 1) ([ux, uy])); exact rfl; (repeat (first | exact CellsAll.nil | (apply CellsAll.cons; (first | exact oneL (by assumption) | exact oneL (SlF.one (by assumption)) | exact oneL (SlF.one (OwnF.sl (by assumption))) | exact oneL (Var.one (by assumption)) | exact rfl)))); exact rfl; exact rfl; exact rfl; exact rfl; exact rfl; exact rfl; exact rfl; exact rfl; exact rfl; exact rfl)
  intro vc h14 o14 e14 b14
  refine ⟨(by first | exact trivial | exact Ext.refl _ | assumption | exact Ext.trans (by assumption) (by assumption)), ?_⟩
  have A14 := A13.ext e14
  have T14 := T.ext (E13.trans e14)
  have E14 := E13.trans e14
  have hPn : (parM a b vq).n = ((2 ^ L : Nat) : Int) := by rw [← hL]; rfl
  have hPw : (parM a b vq).w.toNat = 1 + b / 16 % 16 := Int.toNat_natCast _
  have hQk : ∀ q ∈ (parM a b vq).q, QOk L q := fun q hq => (q2 q hq).2.2
  have CS := cipher_spec L (parM a b vq) vc [(ux, rowsx), (uy, rowsy)] h14 T14 A14 (parM_ok a b vq) hPn (by omega) (by omega) hQk ⟨fun _ => rfl, o14.sl⟩ rfl (by
    intro x hx
    rcases List.mem_cons.1 hx with rfl | hx
    · exact ⟨RX13.pol.ext e14, lx, fx⟩
    · rw [List.mem_singleton.1 hx]
      exact ⟨RY13.pol.ext e14, ly, fy⟩)
  rw [hPar, hPw] at CS
  refine runJ ?_
  have vcone := o14.sl.one
  (apply (s_build ([vc])); exact rfl; exact rfl; exact rfl; (repeat (first | exact CellsAll.nil | (apply CellsAll.cons; (first | exact oneL (by assumption) | exact oneL (SlF.one (by assumption)) | exact oneL (SlF.one (OwnF.sl (by assumption))) | exact oneL (Var.one (by assumption)) | exact rfl)))); exact rfl; exact rfl)
  refine runJ ?_
  apply (s_call Tryd_ent24 rfl rfl rfl)
  refine (CS).mono ?_
  rintro _ h15 ⟨e15, wc, rfl, oc⟩
  refine ⟨(by first | exact trivial | exact trivial), ?_⟩
  have E15 := E14.trans e15
  have e1315 := e14.trans e15
  have x1115 := x1113.ext e1315
  have OS15 := OS13.ext e1315
  have SS := secret_spec L (parM a b vq) us ss h15 (T.ext E15) (A13.ext e1315) (parM_ok a b vq) hPn (by omega) (by omega) hQk OS15.sl lss ass
  rw [hPar, hPw] at SS
  refine runJ ?_
  apply (s_call Tryd_ent25 rfl rfl rfl)
  refine (SS).mono ?_
  rintro _ h16 ⟨e16, wd, rfl, od⟩
  refine ⟨(by first | exact trivial | exact trivial), ?_⟩
  have E16 := E15.trans e16
  have lc0 : ∀ j, wc.ownBlock = some j → j < h15.size := fun j hj => (oc.blk j hj).2
  have oc := oc.ext e16
  have hPq : (parM a b vq).q = qPar a b := rfl
  have hPt : (parM a b vq).t = tPar a := rfl
  rw [hPq, hPt] at oc od
  have PP : parP ⟨((2 ^ L : Nat) : Int), tPar a, vq, qPar a b, ((1 + b / 16 % 16 : Nat) : Int)⟩ := by rw [← hL]; exact parM_ok a b vq
  have hww : 1 + b / 16 % 16 < 256 := by omega
  generalize 1 + b / 16 % 16 = ww at *
  generalize tPar a = tp at *
  generalize qPar a b = qs at *
  have hps : ∀ rows ∈ [rowsx.map (·.2), rowsy.map (·.2)], rows.length = qs.length ∧ (∀ l ∈ rows, l.length = 2 ^ L) ∧ ∀ (i c : Nat) (l : List Nat), rows[i]? = some l → qs[i]? = some c → ∀ x ∈ l, x < c := by
    have key : ∀ rws : List (Value × List Nat), rws.length = qs.length → (∀ (i q : Nat) (y : Value × List Nat), rws[i]? = some y → qs[i]? = some q → Fit (2 ^ L) q y.2) → (rws.map (·.2)).length = qs.length ∧ (∀ l ∈ rws.map (·.2), l.length = 2 ^ L) ∧ ∀ (i c : Nat) (l : List Nat), (rws.map (·.2))[i]? = some l → qs[i]? = some c → ∀ x ∈ l, x < c := by
      intro rws hl hf
      refine ⟨by rw [List.length_map]; exact hl, fun l hlm => ?_, fun i c l hi hc => ?_⟩
      · obtain ⟨y, hy, rfl⟩ := List.mem_map.1 hlm
        obtain ⟨i, hi, hiy⟩ := List.mem_iff_getElem.1 hy
        obtain ⟨q, hq⟩ := get_lt (l := qs) (j := i) (by omega)
        exact (hf i q y (by rw [List.getElem?_eq_getElem hi, hiy]) hq).1
      · rw [List.getElem?_map] at hi
        obtain ⟨y, hy, rfl⟩ := Option.map_eq_some_iff.1 hi
        exact (hf i c y hy hc).2
    intro rows hr
    rcases List.mem_cons.1 hr with rfl | hr
    · exact key rowsx lx fx
    · rw [List.mem_singleton.1 hr]
      exact key rowsy ly fy
  have hC : hdrB 2 (2 ^ L) tp ww qs ++ [2, (qs.length - 1) % 256] ++ polsB [(ux, rowsx), (uy, rowsy)] = hdrB 2 (2 ^ L) tp ww qs ++ ([2] ++ ([qs.length - 1] ++ polsR [rowsx.map (·.2), rowsy.map (·.2)])) := by
    rw [polsB_polsR, Nat.mod_eq_of_lt (show qs.length - 1 < 256 by omega)]
    simp only [List.append_assoc, List.cons_append, List.nil_append, List.map_cons, List.map_nil]
  have lC : (hdrB 2 (2 ^ L) tp ww qs ++ [2, (qs.length - 1) % 256] ++ polsB [(ux, rowsx), (uy, rowsy)]).length ≤ 100000 := by
    have hp := polsB_len (n := 2 ^ L) (m := qs.length) [(ux, rowsx), (uy, rowsy)] (by
      intro x hx
      rcases List.mem_cons.1 hx with rfl | hx
      · exact ⟨lx, fun r hr => (hps _ (by simp)).2.1 _ (List.mem_map.2 ⟨r, hr, rfl⟩)⟩
      · rw [List.mem_singleton.1 hx]
        exact ⟨ly, fun r hr => (hps (rowsy.map (·.2)) (by simp)).2.1 _ (List.mem_map.2 ⟨r, hr, rfl⟩)⟩)
    have hm1 : 8 * 2 ^ L * qs.length ≤ 8 * 32 * 5 := Nat.mul_le_mul (Nat.mul_le_mul (Nat.le_refl _) (by omega)) (by omega)
    simp only [List.length_append, hdrB_len, hp, List.length_cons, List.length_nil]
    omega
  rw [hC] at oc lC
  have alC : ∀ b ∈ hdrB 2 (2 ^ L) tp ww qs ++ ([2] ++ ([qs.length - 1] ++ polsR [rowsx.map (·.2), rowsy.map (·.2)])), b < 256 := fun b hb => by
    simp only [List.mem_append, List.mem_cons, List.not_mem_nil, or_false] at hb
    rcases hb with hb | rfl | rfl | hb
    · exact hdrB_lt (by decide) b hb
    · decide
    · omega
    · exact polsR_lt _ b hb
  have alD : ∀ b ∈ hdrB 4 (2 ^ L) tp ww qs ++ secB ss, b < 256 := fun b hb => by
    rcases List.mem_append.1 hb with hb | hb
    · exact hdrB_lt (by decide) b hb
    · have := secB_le ss b hb; omega
  have lsec : (secB ss).length = 2 ^ L := by unfold secB; rw [List.length_map]; exact lss
  have lD : (hdrB 4 (2 ^ L) tp ww qs ++ secB ss).length ≤ 100000 := by rw [List.length_append, hdrB_len, lsec]; omega
  have pC0 : 0 < (hdrB 2 (2 ^ L) tp ww qs ++ ([2] ++ ([qs.length - 1] ++ polsR [rowsx.map (fun x : Value × List Nat => x.2), rowsy.map (fun x : Value × List Nat => x.2)]))).length := by rw [List.length_append, hdrB_len]; omega
  have pD0 : 0 < (hdrB 4 (2 ^ L) tp ww qs ++ secB ss).length := by rw [List.length_append, hdrB_len]; omega
  have hqa : ∀ x ∈ qs, x < 18446744073709551616 := fun x hx => (hq64 x hx).2
  have RC := fun vb bs md h T B hR hE => readCipher_spec vb bs md (2 ^ L) tp ww qs [rowsx.map (fun x => x.2), rowsy.map (fun x => x.2)] vq h T B hR (by omega) (by omega) hww (by omega) (by omega) hqa PP rfl hps hE
  have RS := fun vb bs md h T B hR hE => readSecret_spec vb bs md (2 ^ L) tp ww qs (secB ss) vq h T B hR (by omega) (by omega) hww (by omega) hqa PP lsec (secB_le ss) hE
  clear CS SS hC hps PP PM
  generalize hbC : hdrB 2 (2 ^ L) tp ww qs ++ ([2] ++ ([qs.length - 1] ++ polsR [rowsx.map (·.2), rowsy.map (·.2)])) = bC at *
  generalize hbD : hdrB 4 (2 ^ L) tp ww qs ++ secB ss = bD at *
  have sc := oc.sl
  have sd := od.sl
  refine runJ ?_
  rw [decide_eq_false (show ¬ bC.length = 0 by omega)]
  refine runJ ?_
  rw [decide_eq_false (show ¬ bD.length = 0 by omega)]
  have hcm := Nat.mod_lt at_ pC0
  have hdm := Nat.mod_lt at_ pD0
  have c1 := sc.cut (lo := 0) (hi := at_ % bC.length) (Nat.zero_le _) (by omega)
  rw [List.drop_zero, Nat.sub_zero] at c1
  refine runJ ?_
  have B1 : BytAt h16 (cutV 1 wc 0 (at_ % bC.length)) (bC.take (at_ % bC.length)) := ⟨c1, fun j hj => by
    rcases cutV_own 1 wc 0 (at_ % bC.length) with e | e
    · rw [e] at hj; cases hj
    · rw [e] at hj; exact Nat.lt_of_lt_of_le (lc0 j hj) e16.1, fun b hb => alC b (List.mem_of_mem_take hb), by rw [List.length_take]; exact Nat.lt_of_le_of_lt (Nat.min_le_right _ _) (Nat.lt_of_le_of_lt lC (by decide))⟩
  have hR1 : Rl none (bC.take (at_ % bC.length)) bC := ⟨bC.drop (at_ % bC.length), fun e => by
    have := congrArg List.length e
    rw [List.length_drop, List.length_nil] at this
    omega, List.take_append_drop _ _⟩
  apply (s_call Tryd_ent26 rfl rfl rfl)
  refine (RC _ _ none h16 (T.ext E16) B1 hR1 (by decide)).mono ?_
  rintro _ h17 ⟨e17, rfl⟩
  refine ⟨(by first | exact trivial | exact trivial), ?_⟩
  clear B1 hR1 c1
  refine runJ ?_
  (apply s_alloc; exact rfl; exact rfl; exact rfl)
  intro p23 h18 x18 e18 b18
  (try dsimp only [Value.cells, List.toList_toArray] at x18)
  refine ⟨(by first | exact trivial | exact Ext.refl _ | assumption | exact Ext.trans (by assumption) (by assumption)), ?_⟩
  refine runJ ?_
  (apply s_alloc; exact rfl; exact rfl; exact rfl)
  intro p24 h19 x19 e19 b19
  (try dsimp only [Value.cells, List.toList_toArray] at x19)
  refine ⟨(by first | exact trivial | exact Ext.refl _ | assumption | exact Ext.trans (by assumption) (by assumption)), ?_⟩
  have x1819 := x18.ext e19
  have hs18 : h17.size < h18.size := by obtain ⟨j, hj, hl⟩ := x18.blk; rw [b18] at hj; cases hj; exact hl
  refine runJ ?_
  (apply s_storeV; exact rfl; exact rfl; exact rfl; (repeat (first | exact OneAll.nil | (apply OneAll.cons; (first | exact rfl | exact SlF.one (by assumption) | exact SlF.one (OwnF.sl (by assumption)) | exact Var.one (by assumption))))); exact rfl; exact rfl; exact x1819; exact rfl)
  intro h20 x20 k20
  (try dsimp only [Value.cells, List.toList_toArray] at x20)
  refine ⟨(by first | exact trivial | exact Ext.refl _ | assumption | exact Ext.only (by assumption) _ | exact Only.trans (Ext.only (by assumption) _) (by assumption)), ?_⟩
  have e20 : Ext h17 h20 := k20.oldV (e18.trans e19) b18 (Nat.le_refl _)
  have x1920 := x19.only k20 (by rw [b18, b19]; intro e; have := Option.some.inj e; omega)
  refine runJ ?_
  (apply s_storeV; exact rfl; exact rfl; exact rfl; (repeat (first | exact OneAll.nil | (apply OneAll.cons; (first | exact rfl | exact SlF.one (by assumption) | exact SlF.one (OwnF.sl (by assumption)) | exact Var.one (by assumption))))); exact rfl; exact rfl; exact x1920; exact rfl)
  intro h21 x21 k21
  (try dsimp only [Value.cells, List.toList_toArray] at x21)
  refine ⟨(by first | exact trivial | exact Ext.refl _ | assumption | exact Ext.only (by assumption) _ | exact Only.trans (Ext.only (by assumption) _) (by assumption)), ?_⟩
  have e21 : Ext h17 h21 := k21.oldV e20 b19 e18.1
  clear x20 x21 x1819 x1920 x18 x19
  have e1621 := e17.trans e21
  have sd21 := sd.ext e1621
  have d1 := sd21.cut (lo := 0) (hi := at_ % bD.length) (Nat.zero_le _) (by omega)
  rw [List.drop_zero, Nat.sub_zero] at d1
  have ld0 : ∀ j, wd.ownBlock = some j → h15.size ≤ j ∧ j < h16.size := fun j hj => od.blk j hj
  have E21 := E16.trans e1621
  have B2 : BytAt h21 (cutV 1 wd 0 (at_ % bD.length)) (bD.take (at_ % bD.length)) := ⟨d1, fun j hj => by
    rcases cutV_own 1 wd 0 (at_ % bD.length) with e | e
    · rw [e] at hj; cases hj
    · rw [e] at hj; exact Nat.lt_of_lt_of_le (ld0 j hj).2 e1621.1, fun b hb => alD b (List.mem_of_mem_take hb), by rw [List.length_take]; exact Nat.lt_of_le_of_lt (Nat.min_le_right _ _) (Nat.lt_of_le_of_lt lD (by decide))⟩
  have hR2 : Rl none (bD.take (at_ % bD.length)) bD := ⟨bD.drop (at_ % bD.length), fun e => by
    have := congrArg List.length e
    rw [List.length_drop, List.length_nil] at this
    omega, List.take_append_drop _ _⟩
  refine runJ ?_
  apply (s_call Tryd_ent27 rfl rfl rfl)
  refine (RS _ _ none h21 (T.ext E21) B2 hR2 (by decide)).mono ?_
  rintro _ h22 ⟨e22, rfl⟩
  refine ⟨(by first | exact trivial | exact trivial), ?_⟩
  clear B2 hR2 d1
  refine runJ ?_
  (apply s_alloc; exact rfl; exact rfl; exact rfl)
  intro p26 h23 x23 e23 b23
  (try dsimp only [Value.cells, List.toList_toArray] at x23)
  refine ⟨(by first | exact trivial | exact Ext.refl _ | assumption | exact Ext.trans (by assumption) (by assumption)), ?_⟩
  refine runJ ?_
  (apply s_storeV; exact rfl; exact rfl; exact rfl; (repeat (first | exact OneAll.nil | (apply OneAll.cons; (first | exact rfl | exact SlF.one (by assumption) | exact SlF.one (OwnF.sl (by assumption)) | exact Var.one (by assumption))))); exact rfl; exact rfl; exact x23; exact rfl)
  intro h24 x24 k24
  (try dsimp only [Value.cells, List.toList_toArray] at x24)
  refine ⟨(by first | exact trivial | exact Ext.refl _ | assumption | exact Ext.only (by assumption) _ | exact Only.trans (Ext.only (by assumption) _) (by assumption)), ?_⟩
  have e24' : Ext h22 h24 := k24.oldV e23 b23 (Nat.le_refl _)
  clear x23 x24
  have e1624 := e1621.trans (e22.trans e24')
  have E24 := E16.trans e1624
  have oc24 := oc.ext e1624
  obtain ⟨hszc, exc⟩ := cutH_ext (show h14.size ≤ h24.size from Nat.le_trans (Nat.le_trans e15.1 e16.1) e1624.1)
  rw [← hszc] at oc24
  have lC9 : bC.length + 1 ≤ 100001 := Nat.succ_le_succ lC
  refine runJ ?_
  (refine s_app1 (bytes := 1) (m) oc24 exc rfl rfl rfl rfl rfl rfl rfl rfl rfl (by first | exact rfl | exact congrArg some (congrArg I (by omega))) (fun _ => rfl) rfl rfl (fun _ _ => trivial) (by omega) (by simp only [maxLen]; omega) ?_)
  intro v25 h25 o25 e25 k25 b25
  rw [hszc] at o25
  have hwcl : ∀ j, wc.ownBlock = some j → h14.size ≤ j := fun j hj => (oc.blk j hj).1
  have E25 : Ext h h25 := ext_only E24 k25 fun j hj => Nat.le_trans E14.1 (hwcl j hj)
  have nwd : wd.ownBlock = none ∨ wd.ownBlock ≠ wc.ownBlock := by
    cases hv : wd.ownBlock with
    | none => exact .inl rfl
    | some j => exact .inr fun e => Nat.lt_irrefl _ (Nat.lt_of_lt_of_le (lc0 j e.symm) (ld0 j hv).1)
  have od25 := (od.ext e1624).only k25 nwd
  have B3 : BytAt h25 v25 (bC ++ [m]) := ⟨o25.sl, fun j hj => (o25.blk j hj).2, fun b hb => by
    rcases List.mem_append.1 hb with hb | hb
    · exact alC b hb
    · rw [List.mem_singleton.1 hb]; exact hm, by rw [List.length_append]; exact Nat.lt_of_le_of_lt lC9 (by decide)⟩
  refine runJ ?_
  apply (s_call Tryd_ent26 rfl rfl rfl)
  refine (RC _ _ (some [m]) h25 (T.ext E25) B3 rfl (show (14 : Nat) ≠ 0 by decide)).mono ?_
  rintro _ h26 ⟨e26, rfl⟩
  refine ⟨(by first | exact trivial | exact trivial), ?_⟩
  clear B3
  refine runJ ?_
  (apply s_alloc; exact rfl; exact rfl; exact rfl)
  intro p29 h27 x27 e27 b27
  (try dsimp only [Value.cells, List.toList_toArray] at x27)
  refine ⟨(by first | exact trivial | exact Ext.refl _ | assumption | exact Ext.trans (by assumption) (by assumption)), ?_⟩
  refine runJ ?_
  (apply s_alloc; exact rfl; exact rfl; exact rfl)
  intro p30 h28 x28 e28 b28
  (try dsimp only [Value.cells, List.toList_toArray] at x28)
  refine ⟨(by first | exact trivial | exact Ext.refl _ | assumption | exact Ext.trans (by assumption) (by assumption)), ?_⟩
  have x2728 := x27.ext e28
  have hs27 : h26.size < h27.size := by obtain ⟨j, hj, hl⟩ := x27.blk; rw [b27] at hj; cases hj; exact hl
  refine runJ ?_
  (apply s_storeV; exact rfl; exact rfl; exact rfl; (repeat (first | exact OneAll.nil | (apply OneAll.cons; (first | exact rfl | exact SlF.one (by assumption) | exact SlF.one (OwnF.sl (by assumption)) | exact Var.one (by assumption))))); exact rfl; exact rfl; exact x2728; exact rfl)
  intro h29 x29 k29
  (try dsimp only [Value.cells, List.toList_toArray] at x29)
  refine ⟨(by first | exact trivial | exact Ext.refl _ | assumption | exact Ext.only (by assumption) _ | exact Only.trans (Ext.only (by assumption) _) (by assumption)), ?_⟩
  have e29 : Ext h26 h29 := k29.oldV (e27.trans e28) b27 (Nat.le_refl _)
  have x2829 := x28.only k29 (by rw [b27, b28]; intro e; have := Option.some.inj e; omega)
  refine runJ ?_
  (apply s_storeV; exact rfl; exact rfl; exact rfl; (repeat (first | exact OneAll.nil | (apply OneAll.cons; (first | exact rfl | exact SlF.one (by assumption) | exact SlF.one (OwnF.sl (by assumption)) | exact Var.one (by assumption))))); exact rfl; exact rfl; exact x2829; exact rfl)
  intro h30 x30 k30
  (try dsimp only [Value.cells, List.toList_toArray] at x30)
  refine ⟨(by first | exact trivial | exact Ext.refl _ | assumption | exact Ext.only (by assumption) _ | exact Only.trans (Ext.only (by assumption) _) (by assumption)), ?_⟩
  have e30 : Ext h26 h30 := k30.oldV e29 b28 e27.1
  clear x29 x30 x2728 x2829 x27 x28
  have e2530 := e26.trans e30
  have E30 := E25.trans e2530
  have od30 := od25.ext e2530
  obtain ⟨hszd, exd⟩ := cutH_ext (show h15.size ≤ h30.size from Nat.le_trans (Nat.le_trans e16.1 e1624.1) (Nat.le_trans k25.1 e2530.1))
  rw [← hszd] at od30
  have lD9 : bD.length + 1 ≤ 100001 := Nat.succ_le_succ lD
  refine runJ ?_
  (refine s_app1 (bytes := 1) (m) od30 exd rfl rfl rfl rfl rfl rfl rfl rfl rfl (by first | exact rfl | exact congrArg some (congrArg I (by omega))) (fun _ => rfl) rfl rfl (fun _ _ => trivial) (by omega) (by simp only [maxLen]; omega) ?_)
  intro v31 h31 o31 e31 k31 b31
  rw [hszd] at o31
  have E31 : Ext h h31 := ext_only E30 k31 fun j hj => Nat.le_trans (Nat.le_trans E14.1 e15.1) (ld0 j hj).1
  have B4 : BytAt h31 v31 (bD ++ [m]) := ⟨o31.sl, fun j hj => (o31.blk j hj).2, fun b hb => by
    rcases List.mem_append.1 hb with hb | hb
    · exact alD b hb
    · rw [List.mem_singleton.1 hb]; exact hm, by rw [List.length_append]; exact Nat.lt_of_le_of_lt lD9 (by decide)⟩
  refine runJ ?_
  apply (s_call Tryd_ent27 rfl rfl rfl)
  refine (RS _ _ (some [m]) h31 (T.ext E31) B4 rfl (show (14 : Nat) ≠ 0 by decide)).mono ?_
  rintro _ h32 ⟨e32, rfl⟩
  refine ⟨(by first | exact trivial | exact trivial), ?_⟩
  clear B4
  refine runJ ?_
  (apply s_alloc; exact rfl; exact rfl; exact rfl)
  intro p32 h33 x33 e33 b33
  (try dsimp only [Value.cells, List.toList_toArray] at x33)
  refine ⟨(by first | exact trivial | exact Ext.refl _ | assumption | exact Ext.trans (by assumption) (by assumption)), ?_⟩
  refine runJ ?_
  (apply s_storeV; exact rfl; exact rfl; exact rfl; (repeat (first | exact OneAll.nil | (apply OneAll.cons; (first | exact rfl | exact SlF.one (by assumption) | exact SlF.one (OwnF.sl (by assumption)) | exact Var.one (by assumption))))); exact rfl; exact rfl; exact x33; exact rfl)
  intro h34 x34 k34
  (try dsimp only [Value.cells, List.toList_toArray] at x34)
  refine ⟨(by first | exact trivial | exact Ext.refl _ | assumption | exact Ext.only (by assumption) _ | exact Only.trans (Ext.only (by assumption) _) (by assumption)), ?_⟩
  have e34 : Ext h32 h34 := k34.oldV e33 b33 (Nat.le_refl _)
  refine runJ ?_
  exact fin1 rfl rfl ⟨rfl, E31.trans (e32.trans e34)⟩
end Go.Proofs.YtfcmdefigldpnaaDoor

/- What an argument that came in reads as: from the kit's reading of data to rows and variables of the own calculus. No condition. -/
namespace Go.Den
set_option linter.unusedVariables false
set_option maxRecDepth 8000
open Go Go.RowKit Go.ChangeShapes Go.WideShapes

/-- The cells read as data of the type. -/
def Opn (P : Program) (w : World) (t : TypeId) (cs : List Value) : Prop := ∃ (H : Type) (enc : TypeId × Value → H) (fuel : Nat) (x : DataW H × List MemPlace), DataW.trod enc P w 0 (fun _ => true) true fuel t cs = some x

theorem opn_of {P : Program} {w : World} {t : TypeId} {v : Value} {H : Type} {enc : TypeId × Value → H} {d : DataW H} {ps : List MemPlace} (h : DataW.Trod enc P w 0 (fun _ => true) true t v d ps) : Opn P w t v.cells.toList := by
  obtain ⟨fuel, hf⟩ := h
  exact ⟨H, enc, fuel, _, hf⟩

section
variable {P : Program} {w : World} {t : TypeId} {cs : List Value}

theorem Opn.bool (ht : P.underlying t = some .bool) (h : Opn P w t cs) : ∃ b, cs = [.bool b] := by
  obtain ⟨H, enc, fuel, x, h⟩ := h
  obtain ⟨b, h1, -⟩ := DataW.trod_bool ht h
  exact ⟨b, h1⟩
theorem Opn.int {k : IntKind} (ht : P.underlying t = some (.int k)) (h : Opn P w t cs) : ∃ n, cs = [.int k n] ∧ (Lit.int k n).wf = true := by
  obtain ⟨H, enc, fuel, x, h⟩ := h
  obtain ⟨n, h1, -, h2⟩ := DataW.trod_int ht h
  exact ⟨n, h1, h2⟩
theorem Opn.struct {fs : Array Field} (ht : P.underlying t = some (.struct fs)) (h : Opn P w t cs) : cs.length = P.cellsOf t ∧ ∀ (i : Nat) (f : Field), fs[i]? = some f → Opn P w f.type ((cs.drop f.offset).take (P.cellsOf f.type)) := by
  obtain ⟨H, enc, fuel, x, h⟩ := h
  obtain ⟨xs, n, -, -, h1, h2, h3⟩ := DataW.trod_struct ht h
  refine ⟨h1, fun i f hf => ?_⟩
  have hi : i < xs.length := by rw [h2]; exact (Array.getElem?_eq_some_iff.1 hf).1
  exact ⟨H, enc, n, xs[i], by rw [h3 i f hf]; simp [hi]⟩
/-- A slice: its cells, an element's worth at a time, read as data. -/
theorem Opn.slice {e : TypeId} {s : Nat} (ht : P.underlying t = some (.slice e)) (hs : P.cellsOf e = s) (hs0 : 0 < s) (h : Opn P w t cs) :
    ∃ v n es, cs = [v] ∧ Sl w.heap v n es ∧ es.length = n * s ∧ n ≤ maxLen ∧ ∀ i, i < n → Opn P w e ((es.drop (i * s)).take s) := by
  obtain ⟨H, enc, fuel, x, h⟩ := h
  rcases DataW.trod_slice ht h with ⟨rfl, -⟩ | ⟨a, len, cap, elems, rest, n, -, rfl, -, -, hl, hm, hlen, hel, -, -⟩
  · exact ⟨_, 0, [], rfl, Sl.nil _, by simp, Nat.zero_le _, fun i hi => by omega⟩
  · rw [hs] at hel
    have each : ∀ i, i < len → ∃ c, w.cells? 0 (a.add (i * s)) s = some c ∧ c.length = s ∧ Opn P w e c := fun i hi => by
      have h1 := hel i hi
      rw [List.getElem?_eq_getElem (by omega)] at h1
      cases hc : w.cells? 0 (a.add (i * s)) s with
      | none => rw [hc] at h1; cases h1
      | some c =>
        rw [hc] at h1
        refine ⟨c, rfl, (World.cells?_some hc).2.1, H, enc, n, _, h1⟩
    by_cases h0 : len = 0
    · subst h0
      exact ⟨_, 0, [], rfl, Sl.empty _ a cap, by simp, Nat.zero_le _, fun i hi => by omega⟩
    · have cellAt : ∀ i r, i < len → r < s → ∀ c, w.cells? 0 (a.add (i * s)) s = some c → w.cell? (a.add (i * s + r)) = c[r]? := fun i r hi hr c hc => by
        rw [← Addr.add_add]; exact (World.cells?_some hc).2.2 r hr
      have hspot : a.spot = none := by
        obtain ⟨c, hc, hcl, -⟩ := each 0 (by omega)
        have := cellAt 0 0 (by omega) hs0 c hc
        rw [List.getElem?_eq_getElem (by omega)] at this
        have e0 : a.add (0 * s + 0) = a := by simp [Addr.add]
        rw [e0] at this
        unfold World.cell? at this
        split at this
        · split at this
          · cases this
          · rename_i hsp; simpa using hsp
        · cases this
      obtain ⟨b, o, sp⟩ := a
      simp only at hspot
      subst hspot
      have total : ∀ j, j < len * s → ∃ u, w.cell? ((⟨b, o, none⟩ : Addr).add j) = some u := fun j hj => by
        have hi : j / s < len := (Nat.div_lt_iff_lt_mul hs0).2 hj
        have hr : j % s < s := Nat.mod_lt _ hs0
        obtain ⟨c, hc, hcl, -⟩ := each (j / s) hi
        have := cellAt (j / s) (j % s) hi hr c hc
        rw [List.getElem?_eq_getElem (by omega), Nat.mul_comm (j / s) s, Nat.div_add_mod] at this
        exact ⟨_, this⟩
      refine ⟨_, len, (List.range (len * s)).map (fun j => (w.cell? ((⟨b, o, none⟩ : Addr).add j)).getD undef), rfl, .inr ⟨b, o, cap, rfl, hl, fun j u hu => ?_⟩, by simp, Nat.le_trans hl hm, fun i hi => ?_⟩
      · rw [List.getElem?_map] at hu
        by_cases hj : j < len * s
        · rw [List.getElem?_range hj] at hu
          obtain ⟨u', hu'⟩ := total j hj
          rw [Option.map_some, hu', Option.getD_some] at hu
          cases hu
          rw [Addr.add_lit, cell?_cellH] at hu'
          exact hu'
        · rw [List.getElem?_eq_none (by simpa using hj)] at hu; cases hu
      · obtain ⟨c, hc, hcl, ho⟩ := each i hi
        have e : ((List.map (fun j => (w.cell? ((⟨b, o, none⟩ : Addr).add j)).getD undef) (List.range (len * s))).drop (i * s)).take s = c := by
          have hle : i * s + s ≤ len * s := by rw [← Nat.succ_mul]; exact Nat.mul_le_mul_right _ hi
          apply List.ext_getElem?
          intro r
          rw [List.getElem?_take]
          by_cases hr : r < s
          · rw [if_pos hr, List.getElem?_drop, List.getElem?_map, List.getElem?_range (by omega)]
            have := cellAt i r hi hr c hc
            rw [Option.map_some, this, List.getElem?_eq_getElem (by omega)]; rfl
          · rw [if_neg hr, List.getElem?_eq_none (by omega)]
        rw [e]; exact ho
end

/-! ### words -/
theorem nat_of_lit {n : Int} (h : (Lit.int .u64 n).wf = true) : ∃ m : Nat, n = (m : Int) ∧ m < 18446744073709551616 := by
  have := bounds_u64 h
  exact ⟨n.toNat, by omega, by omega⟩

def wordOf : Option Value → Nat
  | some (.int _ z) => z.toNat
  | _ => 0
theorem opn_words {P : Program} {w : World} {t e : TypeId} {cs : List Value} (ht : P.underlying t = some (.slice e)) (he : P.underlying e = some (.int .u64)) (hc : P.cellsOf e = 1) (h : Opn P w t cs) :
    ∃ v xs, cs = [v] ∧ SlF w.heap U v xs ∧ Dig.Al 18446744073709551616 xs ∧ xs.length ≤ maxLen := by
  obtain ⟨v, n, es, h1, h2, h3, h4, h5⟩ := h.slice ht hc Nat.zero_lt_one
  have key : ∀ i, i < n → ∃ m : Nat, es[i]? = some (U m) ∧ m < 18446744073709551616 := fun i hi => by
    obtain ⟨z, hz, hw⟩ := (h5 i hi).int he
    obtain ⟨m, rfl, hm⟩ := nat_of_lit hw
    refine ⟨m, ?_, hm⟩
    rw [Nat.mul_one] at hz
    have : (es.drop i)[0]? = some (U m) := by
      have h0 : ((es.drop i).take 1)[0]? = some (U m) := by rw [hz]; rfl
      rwa [List.getElem?_take, if_pos (by omega)] at h0
    rwa [List.getElem?_drop, Nat.add_zero] at this
  have hxs : es = ((List.range n).map fun i => wordOf es[i]?).map U := by
    apply List.ext_getElem?
    intro i
    by_cases hi : i < n
    · obtain ⟨m, hm, -⟩ := key i hi
      rw [List.getElem?_map, List.getElem?_map, List.getElem?_range hi]
      simp [hm, wordOf]
    · rw [List.getElem?_eq_none (by omega), List.getElem?_eq_none (by simp; omega)]
  refine ⟨v, (List.range n).map fun i => wordOf es[i]?, h1, ?_, ?_, by simpa using h4⟩
  · unfold SlF
    rw [← hxs]; simpa using h2
  · intro x hx
    obtain ⟨i, hi, rfl⟩ := List.mem_map.1 hx
    obtain ⟨m, hm, hlt⟩ := key i (List.mem_range.1 hi)
    rw [hm]
    simpa [wordOf] using hlt

/-- A struct of a bool and a row of words. -/
theorem opn_boolwords {P : Program} {w : World} {t tb tn e : TypeId} {cs : List Value} {f0 f1 : Field} (ht : P.underlying t = some (.struct #[f0, f1])) (h0 : (f0.type, f0.offset, P.cellsOf f0.type) = (tb, 0, 1)) (h1 : (f1.type, f1.offset, P.cellsOf f1.type) = (tn, 1, 1))
    (hb : P.underlying tb = some .bool) (hn : P.underlying tn = some (.slice e)) (he : P.underlying e = some (.int .u64)) (hc : P.cellsOf e = 1) (hz : P.cellsOf t = 2) (h : Opn P w t cs) :
    ∃ b v xs, cs = [.bool b, v] ∧ SlF w.heap U v xs ∧ Dig.Al 18446744073709551616 xs := by
  obtain ⟨g1, g2⟩ := h.struct ht
  simp only [Prod.mk.injEq] at h0 h1
  have o0 := g2 0 f0 (by simp)
  have o1 := g2 1 f1 (by simp)
  rw [h0.2.1, h0.2.2, h0.1] at o0
  rw [h1.2.1, h1.2.2, h1.1] at o1
  obtain ⟨b, e0⟩ := o0.bool hb
  obtain ⟨v, xs, e1, s, al, -⟩ := opn_words hn he hc o1
  refine ⟨b, v, xs, ?_, s, al⟩
  rw [hz] at g1
  match cs, g1 with
  | [c0, c1], _ =>
    simp at e0 e1
    rw [e0, e1]
theorem arg_words {P : Program} {w : World} {t e : TypeId} {v : Value} (ht : P.underlying t = some (.slice e)) (he : P.underlying e = some (.int .u64)) (hc : P.cellsOf e = 1) (hv : ∃ a len cap, v = .slice a len cap) (h : Opn P w t v.cells.toList) :
    ∃ xs, SlF w.heap U v xs ∧ Dig.Al 18446744073709551616 xs ∧ xs.length ≤ maxLen := by
  obtain ⟨a, len, cap, rfl⟩ := hv
  obtain ⟨v, xs, e1, h2⟩ := opn_words ht he hc h
  simp [Value.cells] at e1
  subst e1
  exact ⟨xs, h2⟩
theorem arg_boolwords {P : Program} {w : World} {t tb tn e : TypeId} {v : Value} {f0 f1 : Field} (ht : P.underlying t = some (.struct #[f0, f1])) (h0 : (f0.type, f0.offset, P.cellsOf f0.type) = (tb, 0, 1)) (h1 : (f1.type, f1.offset, P.cellsOf f1.type) = (tn, 1, 1))
    (hb : P.underlying tb = some .bool) (hn : P.underlying tn = some (.slice e)) (he : P.underlying e = some (.int .u64)) (hc : P.cellsOf e = 1) (hz : P.cellsOf t = 2) (hv : ∃ cs, v = .agg cs) (h : Opn P w t v.cells.toList) :
    ∃ b a xs, v = .agg #[.bool b, a] ∧ SlF w.heap U a xs ∧ Dig.Al 18446744073709551616 xs := by
  obtain ⟨cs, rfl⟩ := hv
  obtain ⟨b, a, xs, e1, h2, h3⟩ := opn_boolwords ht h0 h1 hb hn he hc hz h
  exact ⟨b, a, xs, by simp only [Value.cells] at e1; rw [show cs = #[.bool b, a] from Array.toList_inj.1 e1], h2, h3⟩
end Go.Den

/- What an argument that came in reads as: rows of ints, rows of rows, rows of structs. No condition. -/
namespace Go.Den
set_option linter.unusedVariables false
set_option maxRecDepth 8000
open Go Go.RowKit Go.ChangeShapes Go.WideShapes

theorem chunks {α : Type} {f : α → List Value} {R : α → Prop} {s : Nat} : ∀ (n : Nat) (es : List Value), es.length = n * s → (∀ i, i < n → ∃ x, (es.drop (i * s)).take s = f x ∧ R x) → ∃ xs : List α, xs.length = n ∧ es = xs.flatMap f ∧ ∀ x ∈ xs, R x
  | 0, es, hl, _ => ⟨[], rfl, by simpa using hl, by simp⟩
  | n + 1, es, hl, h => by
    obtain ⟨x, hx, hr⟩ := h 0 (by omega)
    rw [Nat.zero_mul, List.drop_zero] at hx
    have hl' : (es.drop s).length = n * s := by rw [List.length_drop, hl, Nat.succ_mul]; omega
    obtain ⟨xs, h1, h2, h3⟩ := chunks (f := f) (R := R) n (es.drop s) hl' (fun i hi => by
      obtain ⟨y, hy, hr⟩ := h (i + 1) (by omega)
      refine ⟨y, ?_, hr⟩
      rw [List.drop_drop, show s + i * s = (i + 1) * s by rw [Nat.succ_mul]; omega]
      exact hy)
    refine ⟨x :: xs, by simp [h1], ?_, ?_⟩
    · rw [List.flatMap_cons, ← h2, ← hx, List.take_append_drop]
    · intro y hy
      rcases List.mem_cons.1 hy with rfl | hy
      · exact hr
      · exact h3 y hy

def ib64 (z : Int) : Prop := -9223372036854775808 ≤ z ∧ z < 9223372036854775808
section
variable {P : Program} {w : World} {t e : TypeId} {cs : List Value}
theorem Opn.i64 (ht : P.underlying t = some (.int .i64)) (h : Opn P w t cs) : ∃ n, cs = [I n] ∧ ib64 n := by
  obtain ⟨n, h1, h2⟩ := h.int ht
  exact ⟨n, h1, by have := bounds_i64 h2; unfold ib64; omega⟩
theorem Opn.rowA {α : Type} {f : α → List Value} {R : α → Prop} {s : Nat} (ht : P.underlying t = some (.slice e)) (hs : P.cellsOf e = s) (hs0 : 0 < s) (hf : ∀ x, (f x).length = s) (h : Opn P w t cs) (he : ∀ c, Opn P w e c → ∃ x, c = f x ∧ R x) :
    ∃ v xs, cs = [v] ∧ SlA w.heap f s v xs ∧ (∀ x ∈ xs, R x) ∧ xs.length ≤ maxLen := by
  obtain ⟨v, n, es, h1, h2, h3, h4, h5⟩ := h.slice ht hs hs0
  obtain ⟨xs, g1, g2, g3⟩ := chunks (f := f) (R := R) n es h3 (fun i hi => he _ (h5 i hi))
  subst g1
  exact ⟨v, xs, h1, ⟨hf, by rw [← g2]; exact h2⟩, g3, h4⟩
theorem flat_one {α : Type} (f : α → Value) (xs : List α) : xs.flatMap (fun x => [f x]) = xs.map f := by
  induction xs with
  | nil => rfl
  | cons x xs ih => rw [List.flatMap_cons, ih]; rfl
theorem SlA.one' {α : Type} {f : α → Value} {h : Hp} {v : Value} {xs : List α} (s : SlA h (fun x => [f x]) 1 v xs) : SlF h f v xs := by
  have := s.2
  rw [flat_one] at this
  exact this
theorem Opn.ints (ht : P.underlying t = some (.slice e)) (he : P.underlying e = some (.int .i64)) (hc : P.cellsOf e = 1) (h : Opn P w t cs) :
    ∃ v xs, cs = [v] ∧ SlF w.heap I v xs ∧ (∀ x ∈ xs, ib64 x) ∧ xs.length ≤ maxLen := by
  obtain ⟨v, xs, h1, h2, h3, h4⟩ := h.rowA (f := fun x => [I x]) (R := ib64) ht hc Nat.zero_lt_one (fun _ => rfl) (fun c hc => Opn.i64 he hc)
  exact ⟨v, xs, h1, h2.one', h3, h4⟩
/-- A row of int, told with its front. -/
def RowI (h : Hp) (x : Value × List Int) : Prop := SlF h I x.1 x.2 ∧ (∀ z ∈ x.2, ib64 z) ∧ x.2.length ≤ maxLen
theorem Opn.introws {e2 : TypeId} (ht : P.underlying t = some (.slice e)) (he : P.underlying e = some (.slice e2)) (he2 : P.underlying e2 = some (.int .i64)) (hc : P.cellsOf e = 1) (hc2 : P.cellsOf e2 = 1) (h : Opn P w t cs) :
    ∃ v xs, cs = [v] ∧ SlF w.heap Prod.fst v xs ∧ (∀ x ∈ xs, RowI w.heap x) ∧ xs.length ≤ maxLen := by
  obtain ⟨v, xs, h1, h2, h3, h4⟩ := h.rowA (f := fun x : Value × List Int => [x.1]) (R := RowI w.heap) ht hc Nat.zero_lt_one (fun _ => rfl) (fun c hc => by
    obtain ⟨v, xs, g1, g2, g3, g4⟩ := Opn.ints he he2 hc2 hc
    exact ⟨(v, xs), g1, g2, g3, g4⟩)
  exact ⟨v, xs, h1, h2.one', h3, h4⟩
theorem arg_ints {v : Value} (ht : P.underlying t = some (.slice e)) (he : P.underlying e = some (.int .i64)) (hc : P.cellsOf e = 1) (hv : ∃ a len cap, v = .slice a len cap) (h : Opn P w t v.cells.toList) :
    ∃ xs, SlF w.heap I v xs ∧ (∀ x ∈ xs, ib64 x) ∧ xs.length ≤ maxLen := by
  obtain ⟨a, len, cap, rfl⟩ := hv
  obtain ⟨v, xs, e1, h2⟩ := h.ints ht he hc
  simp [Value.cells] at e1
  subst e1
  exact ⟨xs, h2⟩
theorem arg_introws {e2 : TypeId} {v : Value} (ht : P.underlying t = some (.slice e)) (he : P.underlying e = some (.slice e2)) (he2 : P.underlying e2 = some (.int .i64)) (hc : P.cellsOf e = 1) (hc2 : P.cellsOf e2 = 1) (hv : ∃ a len cap, v = .slice a len cap) (h : Opn P w t v.cells.toList) :
    ∃ xs, SlF w.heap Prod.fst v xs ∧ (∀ x ∈ xs, RowI w.heap x) ∧ xs.length ≤ maxLen := by
  obtain ⟨a, len, cap, rfl⟩ := hv
  obtain ⟨v, xs, e1, h2⟩ := h.introws ht he he2 hc hc2
  simp [Value.cells] at e1
  subst e1
  exact ⟨xs, h2⟩
/-- A part of a struct. -/
theorem Opn.part {fs : Array Field} {tt : TypeId} {off s : Nat} (ht : P.underlying t = some (.struct fs)) (i : Nat) (hi : (fs[i]?).map (fun f => (f.type, f.offset, P.cellsOf f.type)) = some (tt, off, s)) (h : Opn P w t cs) : Opn P w tt ((cs.drop off).take s) := by
  obtain ⟨-, g2⟩ := h.struct ht
  cases hf : fs[i]? with
  | none => rw [hf] at hi; cases hi
  | some f =>
    rw [hf] at hi
    simp only [Option.map_some, Option.some.injEq, Prod.mk.injEq] at hi
    obtain ⟨rfl, rfl, rfl⟩ := hi
    exact g2 i f hf
theorem Opn.width {fs : Array Field} {s : Nat} (ht : P.underlying t = some (.struct fs)) (hc : P.cellsOf t = s) (h : Opn P w t cs) : cs.length = s := by
  obtain ⟨g1, -⟩ := h.struct ht
  rw [g1, hc]
end
end Go.Den

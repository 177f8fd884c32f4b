/- Texts CipF to CrpE of this work, joined, without what the law does not lean on. -/
import Derived.Test.YtfcmdefigldpnaaGreatDoorMCb31
namespace Go.Proofs.YtfcmdefigldpnaaGreatDoor
set_option linter.unusedVariables false
set_option maxRecDepth 8000
open Go Go.Den Go.RowKit Go.Mth Go.Dig

theorem levelShort_spec (g vc : Value) (R : RngD) (ps : List Value) (h : Hp) (A : RngAt h g R) (sc : SlF h id vc ps) (hl : ps.length < 2) :
    CallsH Tryz.prog 96 [g, .agg #[vc]] h fun v' h' => v' = .tuple #[N 0, N 3] ∧ Ext h h' := by
  (apply enter Tryz.func96 rfl Tryz.ntmps96 rfl)
  refine runJ ?_
  (apply s_box; exact rfl; exact rfl; exact rfl; exact rfl)
  intro p3 h1 x1 e1 b1
  (try dsimp only [Value.cells, List.toList_toArray] at x1)
  refine clsI ?_
  have x1 : Var h1 p3 62 [vc] := x1
  have sc1 := sc.ext e1
  refine runJ ?_
  (apply s_splitG; exact rfl; exact rfl; exact rfl; exact rfl) <;> intro g1
  · refine runJ ?_
    exact fin2 rfl rfl rfl ⟨rfl, e1⟩
  · exfalso; omega

theorem Tryz_ent44 : Ent Tryz.prog 44 := ent_of Tryz.func44 (by kernel_rfl) rfl
theorem levelC_short (L t w : Nat) (vq vc : Value) (qs : List Nat) (ps : List Value) (h : Hp) (TB0 : TB h) (A : ParAt h ⟨((2 ^ L : Nat) : Int), t, vq, qs, (w : Int)⟩) (P : parP ⟨((2 ^ L : Nat) : Int), t, vq, qs, (w : Int)⟩) (hL3 : 3 ≤ L) (hL9 : L ≤ 9) (hQ : ∀ q ∈ qs, QOk L q) (sc : SlF h id vc ps) (hl : ps.length < 2) :
    CallsH Tryz.prog 44 [.agg #[N (2 ^ L), U t, vq, N w], .agg #[vc]] h fun v' h' => v' = .tuple #[N 0, N 3] ∧ Ext h h' := by
  have hqo : vq.oneCell' = true := A.row.one
  (apply enter Tryz.func44 rfl Tryz.ntmps44 rfl)
  refine runJ ?_
  (apply s_box; exact rfl; exact rfl; exact rfl; exact rfl)
  intro p2 h1 x1 e1 b1
  (try dsimp only [Value.cells, List.toList_toArray] at x1)
  refine clsI ?_
  refine runJ ?_
  (apply s_box; exact rfl; exact rfl; exact rfl; exact rfl)
  intro p3 h2 x2 e2 b2
  (try dsimp only [Value.cells, List.toList_toArray] at x2)
  refine clsI ?_
  have x2 : Var h2 p3 62 [vc] := x2
  have E2 := e1.trans e2
  have x12 := x1.ext e2
  refine runJ ?_
  apply (s_call Tryz_ent49 rfl rfl rfl)
  refine (start_spec L t w vq qs h2 (TB0.ext E2) (A.ext E2) P hL3 hL9 hQ).mono ?_
  rintro _ h3 ⟨e3, g, R, rfl, RA, RO, hRL, hRq, RN⟩
  refine ⟨trivial, ?_⟩
  have E3 := E2.trans e3
  have x23 := x2.ext e3
  have gone : g.oneCell' = true := RA.var.one
  refine runJ ?_
  apply (s_call Tryz_ent96 rfl rfl rfl)
  refine (levelShort_spec g vc R ps h3 RA (sc.ext E3) hl).mono ?_
  rintro _ h4 ⟨rfl, e4⟩
  refine ⟨trivial, ?_⟩
  refine runJ ?_
  exact fin2 rfl rfl rfl ⟨rfl, E3.trans e4⟩

theorem levelC_zero (h : Hp) (TB0 : TB h) :
    CallsH Tryz.prog 44 [.agg #[N 0, U 0, .slice none 0 0, N 0], .agg #[.slice none 0 0]] h fun v' h' => v' = .tuple #[N 0, N 8] ∧ Ext h h' := by
  have CK := fun h T A => check_spec ⟨0, 0, .slice none 0 0, [], 0⟩ h T A
  rw [if_neg (par0 _)] at CK
  unfold ParD.cells at CK
  dsimp only [List.toArray] at CK
  have A0 : ∀ h, ParAt h ⟨0, 0, .slice none 0 0, [], 0⟩ := fun h => ⟨SlF.nil _ _, (fun x hx => by cases hx), (by decide : 0 < 18446744073709551616), Nat.zero_le _⟩
  have ST : ∀ h, TB h → CallsH Tryz.prog 49 [.agg #[N 0, U 0, .slice none 0 0, N 0]] h fun v' h' => v' = .tuple #[.pointer none, N 8] ∧ Ext h h' := fun h TB0 => by
    (apply enter Tryz.func49 rfl Tryz.ntmps49 rfl)
    refine runJ ?_
    (apply s_box; exact rfl; exact rfl; exact rfl; exact rfl)
    intro p1 h1 x1 e1 b1
    (try dsimp only [Value.cells, List.toList_toArray] at x1)
    refine clsI ?_
    refine runJ ?_
    apply (s_call Tryz_ent45 rfl rfl rfl)
    refine (CK h1 (TB0.ext e1) (A0 h1)).mono ?_
    rintro _ h2 ⟨rfl, e2⟩
    refine ⟨trivial, ?_⟩
    refine runJ ?_
    exact fin2 rfl rfl rfl ⟨rfl, e1.trans e2⟩
  (apply enter Tryz.func44 rfl Tryz.ntmps44 rfl)
  refine runJ ?_
  (apply s_box; exact rfl; exact rfl; exact rfl; exact rfl)
  intro p2 h1 x1 e1 b1
  (try dsimp only [Value.cells, List.toList_toArray] at x1)
  refine clsI ?_
  refine runJ ?_
  (apply s_box; exact rfl; exact rfl; exact rfl; exact rfl)
  intro p3 h2 x2 e2 b2
  (try dsimp only [Value.cells, List.toList_toArray] at x2)
  refine clsI ?_
  have E2 := e1.trans e2
  have x12 := x1.ext e2
  refine runJ ?_
  apply (s_call Tryz_ent49 rfl rfl rfl)
  refine (ST h2 (TB0.ext E2)).mono ?_
  rintro _ h3 ⟨rfl, e3⟩
  refine ⟨trivial, ?_⟩
  refine runJ ?_
  exact fin2 rfl rfl rfl ⟨rfl, E2.trans e3⟩

theorem isB97c : isB 97 = true := by decide +kernel
theorem qok97c : QOk 3 97 := ⟨by decide, by decide, by decide, isB97c, 5, by decide, by decide, by decide +kernel⟩
theorem Tryz_ent17 : Ent Tryz.prog 17 := ent_of Tryz.func17 (by kernel_rfl) rfl
theorem fixed12_spec (h : Hp) (TB0 : TB h) : CallsH Tryz.prog 17 [] h fun v' h' => v' = .bool true ∧ Ext h h' := by
  (apply enter Tryz.func17 rfl Tryz.ntmps17 rfl)
  refine runJ ?_
  (apply (s_litF (f := U) [97] (fun _ => rfl)); exact rfl; exact rfl; exact rfl; exact rfl; exact rfl; exact rfl; exact rfl; exact rfl; omega)
  intro w1 h1 o1 e1 b1
  refine clsI ?_
  refine runJ ?_
  (apply (s_build ([I 8, U 17, w1, I 1])); exact rfl; exact rfl; exact rfl; (repeat (first | exact CellsAll.nil | (apply CellsAll.cons; (first | exact oneL (by assumption) | exact oneL (SlF.one (by assumption)) | exact oneL (SlF.one (OwnF.sl (by assumption))) | exact oneL (Var.one (by assumption)) | exact rfl)))); exact rfl; exact rfl)
  refine runJ ?_
  (apply s_alloc; exact rfl; exact rfl; exact rfl)
  intro p1 h2 x2 e2 b2
  (try dsimp only [Value.cells, List.toList_toArray] at x2)
  refine clsI ?_
  refine runJ ?_
  have hw1 := o1.sl.one
  (apply s_storeV; exact rfl; exact rfl; exact rfl; exact (OneAll.cons rfl (OneAll.cons rfl (OneAll.cons hw1 (OneAll.cons rfl OneAll.nil))) : OneAll [I 8, U 17, w1, I 1]); exact rfl; exact rfl; exact x2; exact rfl)
  intro h3 x3 k3
  refine ⟨trivial, ?_⟩
  have x3 : Var h3 p1 28 [I 8, U 17, w1, I 1] := x3
  have E3 : Ext h h3 := k3.oldV (e1.trans e2) b2 e1.1
  have e13 : Ext h1 h3 := k3.oldV e2 b2 (Nat.le_refl _)
  have A3 : ParAt h3 ⟨((2 ^ 3 : Nat) : Int), 17, w1, [97], ((1 : Nat) : Int)⟩ := ⟨o1.sl.ext e13, by intro x hx; rw [List.mem_singleton.1 hx]; decide, (by decide : 17 < 18446744073709551616), (by decide : 1 ≤ 4611686018427387904)⟩
  refine runJ ?_
  refine s_makeS (f := fun x : Value => [x]) (s := 1) (bytes := 24) (.slice none 0 0 : Value) isK_c isK_c rfl rfl rfl (fun _ => rfl) (by decide) rfl rfl (Nat.le_refl _) (by omega) (by omega) ?_
  intro v4 h4 o4 e4 b4
  refine ⟨e4, ?_⟩
  have s4 : SlF h4 id v4 [.slice none 0 0] := o4.sl
  refine runJ ?_
  (apply (s_build ([v4])); exact rfl; exact rfl; exact rfl; (repeat (first | exact CellsAll.nil | (apply CellsAll.cons; (first | exact oneL (by assumption) | exact oneL (SlF.one (by assumption)) | exact oneL (SlF.one (OwnF.sl (by assumption))) | exact oneL (Var.one (by assumption)) | exact rfl)))); exact rfl; exact rfl)
  refine runJ ?_
  apply (s_call Tryz_ent44 rfl rfl rfl)
  refine (levelC_short 3 17 1 w1 v4 [97] _ h4 (TB0.ext (E3.trans e4)) (A3.ext e4) (par17 w1) (by decide) (by decide) (fun q hq => by rw [List.mem_singleton.1 hq]; exact qok97c) s4 (by decide)).mono ?_
  rintro _ h5 ⟨rfl, e5⟩
  refine ⟨(by first | exact trivial | exact (e4.trans e5)), ?_⟩
  have E5 := E3.trans (e4.trans e5)
  refine runJ ?_
  (apply (s_build ([I 0, U 0, .slice none 0 0, I 0])); exact rfl; exact rfl; exact rfl; (repeat (first | exact CellsAll.nil | (apply CellsAll.cons; (first | exact oneL (by assumption) | exact oneL (SlF.one (by assumption)) | exact oneL (SlF.one (OwnF.sl (by assumption))) | exact oneL (Var.one (by assumption)) | exact rfl)))); exact rfl; exact rfl)
  refine runJ ?_
  (apply (s_build ([.slice none 0 0])); exact rfl; exact rfl; exact rfl; (repeat (first | exact CellsAll.nil | (apply CellsAll.cons; (first | exact oneL (by assumption) | exact oneL (SlF.one (by assumption)) | exact oneL (SlF.one (OwnF.sl (by assumption))) | exact oneL (Var.one (by assumption)) | exact rfl)))); exact rfl; exact rfl)
  refine runJ ?_
  apply (s_call Tryz_ent44 rfl rfl rfl)
  refine (levelC_zero h5 (TB0.ext E5)).mono ?_
  rintro _ h6 ⟨rfl, e6⟩
  refine ⟨trivial, ?_⟩
  refine runJ ?_
  exact fin1 rfl rfl ⟨rfl, E5.trans e6⟩

theorem Tryz_ent19 : Ent Tryz.prog 19 := ent_of Tryz.func19 (by kernel_rfl) rfl
set_option maxHeartbeats 4000000 in
theorem public_spec (L t w : Nat) (vq vs tp : Value) (qs : List Nat) (ss : List Int) (B : Option Nat) (ds ds' : List Nat) (a : List (List Nat)) (es : List Int) (h : Hp) (TB0 : TB h) (A : ParAt h ⟨((2 ^ L : Nat) : Int), t, vq, qs, (w : Int)⟩) (P : parP ⟨((2 ^ L : Nat) : Int), t, vq, qs, (w : Int)⟩) (hL3 : 3 ≤ L) (hL9 : L ≤ 9) (hQ : ∀ q ∈ qs, QOk L q)
    (s : SlF h I vs ss) (hl : ss.length < 4611686018427387904) (hsb : ∀ x ∈ ss, -9223372036854775808 ≤ x ∧ x < 9223372036854775808) (hS : SecP ((2 ^ L : Nat) : Int) ss) (T : TapeAt h tp B ds false) (hqt : vq.ownBlock = none ∨ vq.ownBlock ≠ pblk tp) (hG : hideG (2 ^ L) w qs ds = some ((a, es), ds')) :
    CallsH Tryz.prog 19 [.agg #[N (2 ^ L), U t, vq, N w], vs, tp] h fun v' h' => Only (pblk tp) h h' ∧ ∃ vb va rb ra pa, v' = .tuple #[.agg #[vb, va], N 0] ∧ RowsAt h' h.size none vb rb ∧ RowsAt h' h.size pa va ra ∧ ra.map (·.2) = a ∧ rb.length = qs.length ∧ TapeAt h' tp B ds' false ∧
      ∀ (i q : Nat) (ai : List Nat) (b : Value × List Nat), qs[i]? = some q → a[i]? = some ai → rb[i]? = some b → HidB (2 ^ L) q (liftL ss q) (liftL (List.replicate (2 ^ L) 0) q) ai es b.2 := by
  obtain ⟨tk, htk, htl⟩ := T.pb
  obtain ⟨ct, xt⟩ : ∃ ct, Var h tp 87 ct := by
    obtain ⟨v, s1, -⟩ := T
    exact ⟨_, s1⟩
  have hpk : ∀ j, pblk tp = some j → j < h.size := fun j hj => by rw [htk] at hj; cases hj; exact htl
  have RD := fun h TB0 A s x hqt => ready_spec L t w vq vs tp (.slice none 0 0) qs ss [] h TB0 A P hL3 hL9 hQ s hl hsb (SlF.nil _ _) (by decide) (fun x hx => by cases hx) (et := 87) (ct := ct) x hqt
  have hp9 : 2 ^ L ≤ 2 ^ 9 := Nat.pow_le_pow_right (by decide) hL9
  have e9 : (2 : Nat) ^ 9 = 512 := by decide
  (apply enter Tryz.func19 rfl Tryz.ntmps19 rfl)
  refine runJ ?_
  (apply s_box; exact rfl; exact rfl; exact rfl; exact rfl)
  intro p3 h1 x1 e1 b1
  (try dsimp only [Value.cells, List.toList_toArray] at x1)
  refine clsI ?_
  refine runJ ?_
  (apply s_alloc; exact rfl; exact rfl; exact rfl)
  intro p6 h2 x2 e2 b2
  (try dsimp only [Value.cells, List.toList_toArray] at x2)
  refine clsI ?_
  have E2 := e1.trans e2
  have x12 := x1.ext e2
  have xt2 := xt.ext E2
  refine runJ ?_
  apply (s_call Tryz_ent35 rfl rfl rfl)
  refine (RD h2 (TB0.ext E2) (A.ext E2) (s.ext E2) xt2 hqt).mono ?_
  rintro r h3 ⟨e3, G3⟩
  refine ⟨trivial, ?_⟩
  have E3 := E2.trans e3
  have x23 := x2.ext e3
  have T3 := T.ext E3
  rcases G3 with ⟨hS', -⟩ | ⟨-, hK, -⟩ | ⟨-, -, d, g, D, rfl, KA, KO, KZ, hDL, hDt, hDw, hDv, hDq, hDS⟩
  · exact absurd hS hS'
  · cases hK
  refine runJ ?_
  apply (s_call Tryz_ent48 rfl rfl rfl)
  refine (zero_spec d g tp D h3 KO KA).mono ?_
  rintro _ h4 ⟨e4, vz, rz, pz, rfl, RZ, mz, -⟩
  refine ⟨trivial, ?_⟩
  have E4 := E3.trans e4
  have x24 := x23.ext e4
  have T4 := T3.ext e4
  have KA4 := KA.ext e4
  rw [hDL, hDq] at mz
  have lz : rz.length = qs.length := by have := congrArg List.length mz; unfold zerosL at this; simpa using this
  have zi : ∀ (i q : Nat) (x : Value × List Nat), rz[i]? = some x → qs[i]? = some q → x.2 = liftL (List.replicate (2 ^ L) 0) q := fun i q x hx hq => by
    have h2 := congrArg (fun l => l[i]?) mz
    unfold zerosL at h2
    simp only [List.getElem?_map, hx, hq, Option.map_some, Option.some.injEq] at h2
    exact h2
  have PZ : PolOk D.R rz := ⟨by rw [lz]; have := P.2.2.1.2.2.1; dsimp only at this; omega, by rw [hDq]; omega, fun i q x hx hq => by
    rw [hDq] at hq
    rw [KO.rl, hDL, zi i q x hx hq]
    have hq1 := (hQ q (List.mem_of_getElem? hq)).q1
    refine ⟨by rw [lift_len, List.length_replicate], fun z hz => ?_⟩
    unfold liftL at hz
    obtain ⟨z', -, rfl⟩ := List.mem_map.1 hz
    exact liftm_lt9 (by omega)⟩
  have nhi : ∀ {v : Value}, (∀ b, v.ownBlock = some b → h.size ≤ b) → v.ownBlock = none ∨ v.ownBlock ≠ pblk tp := fun {v} hv => by
    cases hb : v.ownBlock with
    | none => exact .inl rfl
    | some b => exact .inr fun e => by have := hpk b e.symm; have := hv b hb; omega
  have nz := nhi (v := vz) fun b hb => Nat.le_trans E3.1 (RZ.own.blk b hb).1
  have nzr : ∀ x ∈ rz, x.1.ownBlock = none ∨ x.1.ownBlock ≠ pblk tp := fun x hx => nhi fun b hb => Nat.le_trans E3.1 ((RZ.el x hx).blk b hb).1
  have HS := hide_spec d g tp vz D B ds rz h4 KO KA4 KZ T4 RZ.pol PZ (by rw [hDq]; exact lz) nz nzr
  rw [hDL, hDw, hDq, hG] at HS
  refine runJ ?_
  apply (s_call Tryz_ent47 rfl rfl rfl)
  refine (HS).mono ?_
  rintro _ h5 ⟨k5, vb, va, rb, ra, pa, rfl, RB, RA, ma, lb, T5, hH⟩
  refine ⟨trivial, ?_⟩
  have n6 : pblk p6 ≠ pblk tp := by rw [b2]; intro e; have := hpk _ e.symm; have := e1.1; omega
  have x25 := x24.only k5 n6
  have hvb := RB.own.sl.one
  have hva := RA.own.sl.one
  refine runJ ?_
  (apply s_alloc; exact rfl; exact rfl; exact rfl)
  intro p10 h6 x6 e6 b6
  (try dsimp only [Value.cells, List.toList_toArray] at x6)
  refine clsI ?_
  refine runJ ?_
  (apply s_alloc; exact rfl; exact rfl; exact rfl)
  intro p11 h7 x7 e7 b7
  (try dsimp only [Value.cells, List.toList_toArray] at x7)
  refine clsI ?_
  have x67 := x6.ext e7
  have hs67 : h6.size < h7.size := by obtain ⟨b, hb, hl⟩ := x7.blk; rw [b7] at hb; cases hb; exact hl
  have hs56 : h5.size < h6.size := by obtain ⟨b, hb, hl⟩ := x6.blk; rw [b6] at hb; cases hb; exact hl
  refine runJ ?_
  (apply s_storeV; exact rfl; exact rfl; exact rfl; exact (OneAll.cons hvb OneAll.nil : OneAll [vb]); exact rfl; exact rfl; exact x67; exact rfl)
  intro h8 x8 k8
  refine ⟨trivial, ?_⟩
  have x8 : Var h8 p10 56 [vb] := x8
  have n1011 : pblk p11 ≠ pblk p10 := by rw [b7, b6]; intro e; have := Option.some.inj e; omega
  have x78 := x7.only k8 n1011
  have e58 : Ext h5 h8 := k8.oldV (e6.trans e7) b6 (Nat.le_refl _)
  refine runJ ?_
  (apply s_storeV; exact rfl; exact rfl; exact rfl; exact (OneAll.cons hva OneAll.nil : OneAll [va]); exact rfl; exact rfl; exact x78; exact rfl)
  intro h9 x9 k9
  refine ⟨trivial, ?_⟩
  have x9 : Var h9 p11 56 [va] := x9
  have x89 := x8.only k9 (fun e => n1011 e.symm)
  have e59 : Ext h5 h9 := k9.oldV e58 b7 (Nat.le_of_lt hs56)
  have x29 := x25.ext e59
  refine runJ ?_
  (apply (s_build ([vb, va])); exact rfl; exact rfl; exact rfl; (repeat (first | exact CellsAll.nil | (apply CellsAll.cons; (first | exact oneL (by assumption) | exact oneL (SlF.one (by assumption)) | exact oneL (SlF.one (OwnF.sl (by assumption))) | exact oneL (Var.one (by assumption)) | exact rfl)))); exact rfl; exact rfl)
  refine runJ ?_
  (apply s_storeV; exact rfl; exact rfl; exact rfl; exact (OneAll.cons hvb (OneAll.cons hva OneAll.nil) : OneAll [vb, va]); exact rfl; exact rfl; exact x29; exact rfl)
  intro h10 x10 k10
  refine ⟨trivial, ?_⟩
  have x10 : Var h10 p6 58 [vb, va] := x10
  have hge6 : ∀ j, pblk p6 = some j → h.size ≤ j := fun j hj => by rw [b2] at hj; cases hj; exact e1.1
  have K9 : Only (pblk tp) h h9 := ((E4.only _).trans k5).trans (e59.only _)
  have T9 := T5.ext e59
  refine runJ ?_
  exact finCT rfl rfl rfl x10 rfl rfl ⟨only_own K9 k10 hge6, vb, va, rb, ra, pa, rfl, ((RB.ext e59).neE x29 k10 rfl rfl).base E4.1, ((RA.ext e59).neE x29 k10 rfl rfl).base E4.1, ma, lb, T9.own k10 hpk T.bl hge6, fun i q ai b hqi hai hb => by
    have hi := (List.getElem?_eq_some_iff.1 hqi).1
    obtain ⟨xz, hxz⟩ := get_lt (l := rz) (j := i) (by omega)
    obtain ⟨xs, hxs⟩ := get_lt (l := D.S) (j := i) (by rw [KO.sl, hDq]; exact hi)
    have h1 := hH i q xs xz ai b hqi hxs hxz hai hb
    rw [zi i q xz hxz hqi] at h1
    have h2 := congrArg (fun l => l[i]?) hDS
    simp only [List.getElem?_map, hxs, hqi, Option.map_some, Option.some.injEq] at h2
    rwa [h2] at h1⟩

theorem rows_T {n : Nat} {ds ds' : List Nat} {us : List Int} (h : rowG firstT n ds = some (us, ds')) : us.length = n ∧ ∀ v ∈ us, v = 0 ∨ v = 1 ∨ v = -1 := rowG_all firstT_val9 n ds us ds' h
theorem rows_E {n w : Nat} {ds ds' : List Nat} {xs : List Int} (h : rowG (firstE w) n ds = some (xs, ds')) : xs.length = n ∧ ∀ v ∈ xs, -(w : Int) ≤ v ∧ v ≤ w :=
  rowG_all (fun ds r ds' h => by
    cases ds with
    | nil => cases h
    | cons d0 ds0 => cases h; exact errV_le w d0) n ds xs ds' h
theorem hideG_all {n w : Nat} {qs ds ds' : List Nat} {a : List (List Nat)} {es : List Int} (hq : ∀ q ∈ qs, 0 < q) (h : hideG n w qs ds = some ((a, es), ds')) : a.length = qs.length ∧ (∀ (i q : Nat) (l : List Nat), a[i]? = some l → qs[i]? = some q → Fit n q l) ∧ es.length = n ∧ ∀ v ∈ es, -(w : Int) ≤ v ∧ v ≤ w := by
  unfold hideG at h
  cases hU : uniG n qs ds with
  | none => rw [hU] at h; cases h
  | some u =>
    obtain ⟨a', d1⟩ := u
    rw [hU] at h
    dsimp only at h
    cases hE : rowG (firstE w) n d1 with
    | none => rw [hE] at h; cases h
    | some v =>
      obtain ⟨e, d2⟩ := v
      rw [hE] at h
      cases h
      obtain ⟨a1, a2⟩ := uniG_all9 qs ds a d1 hq hU
      exact ⟨a1, fun i q l hl hq' => a2 i q l hl hq', rows_E hE⟩
theorem hidB_fit {n q : Nat} {s hr a b : List Nat} {e : List Int} (hq : 0 < q) (lh : hr.length = n) (le : e.length = n) (h : HidB n q s hr a e b) : Fit n q b := by
  obtain ⟨zs, hz, rfl⟩ := h
  exact subL_fit hq lh (by rw [addL_len (by rw [lift_len]; have := hz.1.1; omega)]; exact hz.1.1)
theorem cip_fit {n : Nat} {qs : List Nat} {rb ra c0 c1 : List (List Nat)} {us xs ys zs : List Int} (hq : ∀ q ∈ qs, 0 < q) (lX : xs.length = n) (lY : ys.length = n) (lZ : zs.length = n) (lrb : rb.length = qs.length) (lra : ra.length = qs.length) (CR : CipR n qs rb ra us xs ys zs c0 c1) :
    (∀ (i q : Nat) (c : List Nat), c0[i]? = some c → qs[i]? = some q → Fit n q c) ∧ ∀ (i q : Nat) (c : List Nat), c1[i]? = some c → qs[i]? = some q → Fit n q c := by
  refine ⟨fun i q c hc hqi => ?_, fun i q c hc hqi => ?_⟩
  · obtain ⟨b, hb⟩ := get_lt (l := rb) (j := i) (by rw [lrb]; exact (List.getElem?_eq_some_iff.1 hqi).1)
    obtain ⟨zB, hB, rfl⟩ := CR.r0 i q b c hqi hb hc
    exact addL_fit (hq q (List.mem_of_getElem? hqi)) (by rw [addL_len (by rw [lift_len]; have := hB.1.1; omega)]; exact hB.1.1) (by rw [lift_len]; exact lZ)
  · obtain ⟨b, hb⟩ := get_lt (l := ra) (j := i) (by rw [lra]; exact (List.getElem?_eq_some_iff.1 hqi).1)
    obtain ⟨zB, hB, rfl⟩ := CR.r1 i q b c hqi hb hc
    exact addL_fit (hq q (List.mem_of_getElem? hqi)) hB.1.1 (by rw [lift_len]; exact lY)
theorem takes_hid {n w : Nat} {ds : List Nat} (h : AltE ds) (hl : 6 * n ≤ ds.length) : ∃ us xs ys d1 d2 d3, rowG firstT n ds = some (us, d1) ∧ rowG (firstE w) n d1 = some (xs, d2) ∧ rowG (firstE w) n d2 = some (ys, d3) := by
  obtain ⟨us, d1, h1, a1, l1⟩ := takes_row takes_T n h (by omega)
  obtain ⟨xs, d2, h2, a2, l2⟩ := takes_row (takes_E w) n a1 (by omega)
  obtain ⟨ys, d3, h3, a3, l3⟩ := takes_row (takes_E w) n a2 (by omega)
  exact ⟨us, xs, ys, d1, d2, d3, h1, h2, h3⟩
theorem noise_small {n w : Nat} {ss es us xs ys : List Int} (lS : ss.length = n) (lE : es.length = n) (lU : us.length = n) (lX : xs.length = n) (lY : ys.length = n)
    (hs : ∀ v ∈ ss, v = 0 ∨ v = 1 ∨ v = -1) (hu : ∀ v ∈ us, v = 0 ∨ v = 1 ∨ v = -1) (he : ∀ v ∈ es, -(w : Int) ≤ v ∧ v ≤ w) (hx : ∀ v ∈ xs, -(w : Int) ≤ v ∧ v ≤ w) (hy : ∀ v ∈ ys, -(w : Int) ≤ v ∧ v ≤ w) (hn : n ≤ 32) (hw : w ≤ 16) :
    ∀ p, p < n → -100000 ≤ noise n ss es us xs ys p ∧ noise n ss es us xs ys p ≤ 100000 := fun p hp => by
  have h1 := noise_bd lS lE lU lX lY hs hu he hx hy hp
  have h2 : w * (2 * n + 1) ≤ 16 * 65 := Nat.mul_le_mul hw (by omega)
  omega
theorem odd_of {t m : Nat} (h : t % (2 * m) = 1) : t % 2 = 1 := by
  have := Nat.mod_mod_of_dvd t (Nat.dvd_mul_right 2 m)
  rw [h] at this
  exact this.symm

theorem Tryz_ent130 : Ent Tryz.prog 130 := ent_of Tryz.func130 (by kernel_rfl) rfl
set_option maxHeartbeats 1000000 in
theorem refFits4_spec (v : Value) (xs : List Nat) (n q : Nat) (h : Hp) (s : SlF h U v xs) (hf : Fit n q xs) (hn : n < 1000000) (hq : q < 18446744073709551616) :
    CallsH Tryz.prog 130 [v, N n, U q] h fun v' h' => v' = .bool true ∧ h = h' := by
  have hl := hf.1
  (apply enter Tryz.func130 rfl Tryz.ntmps130 rfl)
  refine runJ ?_
  (apply w_condD; exact rfl; exact rfl) <;> intro h0
  · exact absurd hl h0
  refine runJ ?_
  (first | (apply w_seqB; exact rfl; apply w_block; exact rfl) | skip)
  apply (w_loop (σ := Nat) rfl (fun j => [(1, N n), (2, U q), (13, v), (14, N xs.length), (15, N j)])
    (fun j h' => h = h' ∧ j ≤ xs.length) (fun j => xs.length - j) 0)
  · exact subs
  · exact ⟨rfl, Nat.zero_le _⟩
  rintro j _ ⟨rfl, j1⟩
  refine runJ ?_
  (apply w_condD; exact rfl; exact rfl) <;> intro hj
  · obtain ⟨x, hx⟩ := get_lt hj
    have hxq := hf.2 x (List.mem_of_getElem? hx)
    refine runJ ?_
    (apply w_condD; exact rfl; exact rfl) <;> intro hge
    · omega
    refine runJ ?_
    apply again_normal (j + 1)
    · exact subs
    · exact ⟨rfl, hj⟩
    · omega
  · refine runJ ?_
    exact fin1 rfl rfl ⟨rfl, rfl⟩

theorem Tryz_ent71 : Ent Tryz.prog 71 := ent_of Tryz.func71 (by kernel_rfl) rfl
set_option maxHeartbeats 1000000 in
theorem refElement5_spec (n : Nat) (vq va : Value) (qs : List Nat) (rows : List (Value × List Nat)) (h : Hp) (sq : SlF h U vq qs) (S : PolAt h va rows) (h0 : 0 < rows.length) (hl : rows.length ≤ qs.length) (h24 : qs.length ≤ 24) (hn : n < 1000000) (hq : ∀ q ∈ qs, q < 18446744073709551616) (hf : ∀ (i q : Nat) (x : Value × List Nat), rows[i]? = some x → qs[i]? = some q → Fit n q x.2) :
    CallsH Tryz.prog 71 [N n, vq, .agg #[va]] h fun v' h' => v' = .bool true ∧ Ext h h' := by
  (apply enter Tryz.func71 rfl Tryz.ntmps71 rfl)
  refine runJ ?_
  (apply s_box; exact rfl; exact rfl; exact rfl; exact rfl)
  intro p5 h1 x1 e1 b1
  (try dsimp only [Value.cells, List.toList_toArray] at x1)
  refine clsI ?_
  have x1 : Var h1 p5 56 [va] := x1
  have S1 := S.ext e1
  have r1 := S1.row
  have sq1 := sq.ext e1
  refine runJ ?_
  (apply s_splitG; exact rfl; exact rfl; exact rfl; exact rfl) <;> intro g1
  · omega
  refine runJ ?_
  (apply w_condD; exact rfl; exact rfl) <;> intro g2
  · omega
  refine runJ ?_
  (first | (apply w_seqB; exact rfl; apply w_block; exact rfl) | skip)
  apply (w_loop (σ := Nat) rfl (fun j => [(0, N n), (1, vq), (22, va), (23, N rows.length), (24, N j)])
    (fun j h' => h1 = h' ∧ j ≤ rows.length) (fun j => rows.length - j) 0)
  · exact subs
  · exact ⟨rfl, Nat.zero_le _⟩
  rintro j _ ⟨rfl, j1⟩
  refine runJ ?_
  (apply w_condD; exact rfl; exact rfl) <;> intro hj
  · obtain ⟨x, hx⟩ := get_lt hj
    obtain ⟨q, hqj⟩ := get_lt (l := qs) (j := j) (by omega)
    have sx := S1.el x (List.mem_of_getElem? hx)
    refine runJ ?_
    apply (s_call Tryz_ent130 rfl rfl rfl)
    refine (refFits4_spec x.1 x.2 n q h1 sx (hf j q x hx hqj) hn (hq q (List.mem_of_getElem? hqj))).mono ?_
    rintro _ _ ⟨rfl, rfl⟩
    refine ⟨trivial, ?_⟩
    refine runJ ?_
    apply again_normal (j + 1)
    · exact subs
    · exact ⟨rfl, hj⟩
    · omega
  · refine runJ ?_
    exact fin1 rfl rfl ⟨rfl, e1⟩

theorem Tryz_ent78 : Ent Tryz.prog 78 := ent_of Tryz.func78 (by kernel_rfl) rfl
theorem refLevel12_spec (vc : Value) (c0 c1 : Value × List (Value × List Nat)) (m : Nat) (h : Hp) (sc : SlA h (fun x : Value × List (Value × List Nat) => [x.1]) 1 vc [c0, c1]) (S0 : PolAt h c0.1 c0.2) (hl : c0.2.length = m + 1) (hm : m < 1000) :
    CallsH Tryz.prog 78 [.agg #[vc]] h fun v' h' => v' = N m ∧ Ext h h' := by
  have hc0 : [c0, c1][0]? = some c0 := rfl
  (apply enter Tryz.func78 rfl Tryz.ntmps78 rfl)
  refine runJ ?_
  (apply s_box; exact rfl; exact rfl; exact rfl; exact rfl)
  intro p1 h1 x1 e1 b1
  (try dsimp only [Value.cells, List.toList_toArray] at x1)
  refine clsI ?_
  have x1 : Var h1 p1 62 [vc] := x1
  have sc1 := sc.ext e1
  have r1 := (S0.ext e1).row
  refine runJ ?_
  exact fin1 rfl rfl ⟨by rw [hl, Nat.add_sub_cancel], e1⟩

theorem Tryz_ent26 : Ent Tryz.prog 26 := ent_of Tryz.func26 (by kernel_rfl) rfl
set_option maxHeartbeats 2000000 in
theorem refIs12_spec (n t w : Nat) (vq vc : Value) (qs : List Nat) (c0 c1 : Value × List (Value × List Nat)) (h : Hp) (sq : SlF h U vq qs) (sc : SlA h (fun x : Value × List (Value × List Nat) => [x.1]) 1 vc [c0, c1])
    (hp : ∀ x ∈ [c0, c1], PolAt h x.1 x.2 ∧ x.2.length = qs.length ∧ ∀ (i q : Nat) (y : Value × List Nat), x.2[i]? = some y → qs[i]? = some q → Fit n q y.2) (h0 : 0 < qs.length) (h24 : qs.length ≤ 24) (hn : n < 1000000) (hq : ∀ q ∈ qs, q < 18446744073709551616) :
    CallsH Tryz.prog 26 [.agg #[N n, U t, vq, N w], .agg #[vc]] h fun v' h' => v' = .bool true ∧ Ext h h' := by
  have hc0 : [c0, c1][0]? = some c0 := rfl
  obtain ⟨SC0, lc0, -⟩ := hp c0 (by simp)
  have hqo := sq.one
  (apply enter Tryz.func26 rfl Tryz.ntmps26 rfl)
  refine runJ ?_
  (apply s_box; exact rfl; exact rfl; exact rfl; exact rfl)
  intro p2 h1 x1 e1 b1
  (try dsimp only [Value.cells, List.toList_toArray] at x1)
  refine clsI ?_
  refine runJ ?_
  (apply s_box; exact rfl; exact rfl; exact rfl; exact rfl)
  intro p3 h2 x2 e2 b2
  (try dsimp only [Value.cells, List.toList_toArray] at x2)
  refine clsI ?_
  have x2 : Var h2 p3 62 [vc] := x2
  have E2 := e1.trans e2
  have x12 := x1.ext e2
  have sc2 := sc.ext E2
  refine runJ ?_
  (first | (apply w_seqB; exact rfl; apply w_block; exact rfl) | skip)
  apply (w_loop (σ := Nat) rfl (fun j => [(2, p2), (3, p3), (18, vc), (19, N 2), (20, N j)])
    (fun j h' => Ext h2 h' ∧ j ≤ 2) (fun j => 2 - j) 0)
  · exact subs
  · exact ⟨Ext.refl _, Nat.zero_le _⟩
  rintro j h3 ⟨e3, j1⟩
  have E3 := E2.trans e3
  have x13 := x12.ext e3
  have x23 := x2.ext e3
  have sc3 := sc2.ext e3
  refine runJ ?_
  (apply w_condD; exact rfl; exact rfl) <;> intro hj
  · obtain ⟨x, hx⟩ := get_lt (l := [c0, c1]) (j := j) hj
    obtain ⟨SX, lx, fx⟩ := hp x (List.mem_of_getElem? hx)
    have hxo := SX.row.one
    refine runJ ?_
    (apply s_alloc; exact rfl; exact rfl; exact rfl)
    intro p6 h4 x4 e4 b4
    (try dsimp only [Value.cells, List.toList_toArray] at x4)
    refine clsI ?_
    refine runJ ?_
    (apply s_storeV; exact rfl; exact rfl; exact rfl; exact (OneAll.cons hxo OneAll.nil : OneAll [x.1]); exact rfl; exact rfl; exact x4; exact rfl)
    intro h5 x5 k5
    refine ⟨trivial, ?_⟩
    have x5 : Var h5 p6 56 [x.1] := x5
    have e35 : Ext h3 h5 := k5.oldV e4 b4 (Nat.le_refl _)
    have E5 := E3.trans e35
    have x15 := x13.ext e35
    have x25 := x23.ext e35
    have sc5 := sc3.ext e35
    have sq5 := sq.ext E5
    have rx5 := (SX.ext E5).row
    have r05 := (SC0.ext E5).row
    refine runJ ?_
    apply (s_call Tryz_ent71 rfl rfl rfl)
    refine (refElement5_spec n vq x.1 qs x.2 h5 sq5 (SX.ext E5) (by omega) (by omega) h24 hn hq fx).mono ?_
    rintro _ h6 ⟨rfl, e6⟩
    refine ⟨(by first | exact trivial | exact e6), ?_⟩
    refine runJ ?_
    (apply w_condD; exact rfl; exact rfl) <;> intro hne
    · exact absurd (by omega) hne
    refine runJ ?_
    apply again_normal (j + 1)
    · exact subs
    · exact ⟨(e3.trans e35).trans e6, hj⟩
    · omega
  · refine runJ ?_
    exact fin1 rfl rfl ⟨rfl, E3⟩

theorem Tryz_ent76 : Ent Tryz.prog 76 := ent_of Tryz.func76 (by kernel_rfl) rfl
set_option maxHeartbeats 8000000 in
theorem refHolds12_spec (n t w : Nat) (vq vs vc : Value) (qs : List Nat) (ss : List Int) (c0 c1 : Value × List (Value × List Nat)) (h : Hp) (sq : SlF h U vq qs) (s : SlF h I vs ss) (hsn : ss.length = n) (hsb : ∀ x ∈ ss, -9223372036854775808 ≤ x ∧ x < 9223372036854775808) (sc : SlA h (fun x : Value × List (Value × List Nat) => [x.1]) 1 vc [c0, c1])
    (hp : ∀ x ∈ [c0, c1], PolAt h x.1 x.2 ∧ x.2.length = qs.length ∧ ∀ (i q : Nat) (y : Value × List Nat), x.2[i]? = some y → qs[i]? = some q → Fit n q y.2) (h0 : 0 < qs.length) (h8 : qs.length ≤ 8) (hn1 : 1 ≤ n) (hn : n ≤ 512) (hq : ∀ q ∈ qs, 1 < q ∧ q < 18446744073709551616) :
    CallsH Tryz.prog 76 [.agg #[N n, U t, vq, N w], vs, .agg #[vc]] h fun v' h' => Ext h h' ∧ ∃ vr rows p, v' = .agg #[vr] ∧ RowsAt h' h.size p vr rows ∧ HoldR n qs ss (c0.2.map (·.2)) (c1.2.map (·.2)) (rows.map (·.2)) := by
  have hc0 : [c0, c1][0]? = some c0 := rfl
  have hc1 : [c0, c1][1]? = some c1 := rfl
  obtain ⟨SC0, lc0, fc0⟩ := hp c0 (by simp)
  obtain ⟨SC1, lc1, fc1⟩ := hp c1 (by simp)
  have hqo := sq.one
  have hv0 : c0.1.oneCell' = true := SC0.row.one
  (apply enter Tryz.func76 rfl Tryz.ntmps76 rfl)
  refine runJ ?_
  (apply s_box; exact rfl; exact rfl; exact rfl; exact rfl)
  intro p3 h1 x1 e1 b1
  (try dsimp only [Value.cells, List.toList_toArray] at x1)
  refine clsI ?_
  refine runJ ?_
  (apply s_box; exact rfl; exact rfl; exact rfl; exact rfl)
  intro p5 h2 x2 e2 b2
  (try dsimp only [Value.cells, List.toList_toArray] at x2)
  refine clsI ?_
  have x2 : Var h2 p5 62 [vc] := x2
  refine runJ ?_
  (apply s_alloc; exact rfl; exact rfl; exact rfl)
  intro p6 h3 x3 e3 b3
  (try dsimp only [Value.cells, List.toList_toArray] at x3)
  refine clsI ?_
  have E3 := (e1.trans e2).trans e3
  have x13 := (x1.ext e2).ext e3
  have x23 := x2.ext e3
  have sq3 := sq.ext E3
  refine runJN ?_
  refine r_drawnKR (h := h3) (Ext h3) (fun i => Nat.beq i 6) (fun _ => false) Ext (fun _ p g => Var g p 56 [.slice none 0 0] ∧ ∃ b, pblk p = some b ∧ h3.size ≤ b) rfl mixed (by kernel_rfl) (fun _ _ e => e) (fun _ _ _ _ a e => ⟨a.1.ext e, a.2⟩) (Ext.refl _) ?_
  refine k_run (j := 4) h3 rfl rfl (by kernel_rfl) (by kernel_rfl) ?_
  refine runJ ?_
  refine ⟨⟨rfl, ?_⟩⟩
  refine k_call rfl rfl rfl rfl Tryz_ent78 rfl ?_
  intro g1 hC1 hD1 hT1
  refine (refLevel12_spec vc c0 c1 (qs.length - 1) g1 (sc.ext (E3.trans hC1)) (SC0.ext (E3.trans hC1)) (by omega) (by omega)).mono ?_
  rintro _ g2 ⟨rfl, f2⟩
  refine ⟨hC1.trans f2, .inl ⟨f2, ?_⟩⟩
  refine k_call rfl rfl rfl rfl Tryz_ent92 rfl ?_
  intro g3 hC3 hD3 hT3
  refine (refLift5_spec vq vs qs ss (qs.length - 1) g3 (sq3.ext hC3) (s.ext (E3.trans hC3)) hsb (by omega) (by omega) (by omega) (fun q hq' => by have := hq q hq'; omega)).mono ?_
  rintro _ g4 ⟨f4, vl, rl, pl, rfl, RL, ll, ml⟩
  refine ⟨hC3.trans f4, .inl ⟨f4, ?_⟩⟩
  have hvl := RL.own.sl.one
  refine k_alloc rfl rfl rfl rfl rfl (fun g p g' hC x e b => ⟨hC.trans e, x, _, b, hC.1⟩) ?_
  intro p7
  refine k_storeV (p := p7) (u := .agg #[vl]) (us := [vl]) (cs := [.slice none 0 0]) (fun g => Ext h3 g ∧ Var g p7 56 [vl] ∧ RowsAt g h3.size pl vl rl) rfl rfl rfl rfl rfl rfl (OneAll.cons hvl OneAll.nil) rfl rfl (by kernel_rfl) (fun _ _ a e => ⟨a.1.trans e, a.2.1.ext e, a.2.2.ext e⟩) (fun g hC hD hT => (hT (6, p7) (by simp)).1) (fun g g' hC hD hT x k => ?_) ?_
  · obtain ⟨xo, b, hb, hbl⟩ := hT (6, p7) (by simp)
    have e' : Ext h3 g' := ext_onlyR hC k fun j hj => by rw [hb] at hj; cases hj; exact hbl
    exact ⟨e', e', x, ((RL.base hC3.1).ext hD).neE xo k rfl rfl⟩
  refine k_done rfl ?_
  rintro h4 hC4 ⟨e4, x4, RL4⟩ -
  have E4 := E3.trans e4
  have x14 := x13.ext e4
  have x24 := x23.ext e4
  have x34 := x3.ext e4
  have hlr : rl.length = qs.length := by omega
  have flr : ∀ (i q : Nat) (y : Value × List Nat), rl[i]? = some y → qs[i]? = some q → y.2.length = n ∧ ∀ a ∈ y.2, a < 18446744073709551616 := fun i q y hy hq' => by
    rw [ml i q y hq' hy]
    have hq1 := hq q (List.mem_of_getElem? hq')
    refine ⟨by rw [lift_len]; exact hsn, fun z hz => ?_⟩
    unfold liftL at hz
    obtain ⟨z', -, rfl⟩ := List.mem_map.1 hz
    have := liftm_lt9 (v := z') (t := q) (by omega)
    omega
  refine runJ ?_
  (apply s_alloc; exact rfl; exact rfl; exact rfl)
  intro p8 h5 x5 e5 b5
  (try dsimp only [Value.cells, List.toList_toArray] at x5)
  refine clsI ?_
  refine runJ ?_
  (apply s_storeV; exact rfl; exact rfl; exact rfl; exact (OneAll.cons hvl OneAll.nil : OneAll [vl]); exact rfl; exact rfl; exact x5; exact rfl)
  intro h6 x6 k6
  refine ⟨trivial, ?_⟩
  have x6 : Var h6 p8 56 [vl] := x6
  have e46 : Ext h4 h6 := k6.oldV e5 b5 (Nat.le_refl _)
  have hs46 : h4.size < h6.size := by obtain ⟨b, hb, hl⟩ := x6.blk; rw [b5] at hb; cases hb; exact hl
  have E6 := E4.trans e46
  have x16 := x14.ext e46
  have x26 := x24.ext e46
  have sc6 := sc.ext E6
  refine runJ ?_
  (apply s_alloc; exact rfl; exact rfl; exact rfl)
  intro p9 h7 x7 e7 b7
  (try dsimp only [Value.cells, List.toList_toArray] at x7)
  refine clsI ?_
  refine runJ ?_
  (apply s_storeV; exact rfl; exact rfl; exact rfl; exact (OneAll.cons hv0 OneAll.nil : OneAll [c0.1]); exact rfl; exact rfl; exact x7; exact rfl)
  intro h8' x8 k8
  refine ⟨trivial, ?_⟩
  have x8 : Var h8' p9 56 [c0.1] := x8
  have e68 : Ext h6 h8' := k8.oldV e7 b7 (Nat.le_refl _)
  have e48 := e46.trans e68
  have n98 : pblk p9 ≠ pblk p8 := by rw [b7, b5]; intro e; have := Option.some.inj e; omega
  refine runJ ?_
  (first | (apply w_seqB; exact rfl; apply w_block; exact rfl) | skip)
  apply (w_loop (σ := Nat × Value × Value × List (Value × List Nat)) rfl (fun j => [(3, p3), (5, p5), (6, p6), (7, p7), (8, p8), (9, p9), (10, N j.1)])
    (fun j h' => Ext h4 h' ∧ Var h' p8 56 [j.2.1] ∧ Var h' p9 56 [j.2.2.1] ∧ ((j.1 = 1 ∧ j.2.1 = vl ∧ j.2.2.1 = c0.1) ∨ (j.1 = 2 ∧ (∃ p, RowsAt h' h4.size p j.2.2.1 j.2.2.2) ∧ HoldR n qs ss (c0.2.map (·.2)) (c1.2.map (·.2)) (j.2.2.2.map (·.2))))) (fun j => 3 - j.1) (1, vl, c0.1, []))
  · exact subs
  · exact ⟨e48, x6.ext e68, x8, .inl ⟨rfl, rfl, rfl⟩⟩
  rintro ⟨j, v8, v9, rs⟩ h10 ⟨e10, y8, y9, hj⟩
  dsimp only at e10 y8 y9 hj ⊢
  have E10 := E4.trans e10
  have x110 := x14.ext e10
  have x210 := x24.ext e10
  have x310 := x34.ext e10
  have x410 := x4.ext e10
  have sc10 := sc.ext E10
  have sq10 := sq.ext E10
  have RL10 := RL4.ext e10
  refine runJ ?_
  (apply w_condD; exact rfl; exact rfl) <;> intro hjj
  · obtain ⟨rfl, rfl, rfl⟩ : j = 1 ∧ v8 = vl ∧ v9 = c0.1 := by
      rcases hj with hj | ⟨hj, -⟩
      · exact hj
      · have : j < 2 := hjj
        omega
    have MU := refMul5_spec vq c1.1 v8 qs c1.2 rl n h10 sq10 (SC1.ext E10) RL10.pol (by omega) (by omega) (by omega) ⟨hn1, by omega⟩ (by omega) (fun i q x y hx hy hq' => by
      obtain ⟨g1, g2⟩ := flr i q y hy hq'
      have f := fc1 i q x hx hq'
      have := hq q (List.mem_of_getElem? hq')
      exact ⟨f.1, g1, fun a ha => by have := f.2 a ha; omega, g2, this⟩)
    refine runJN ?_
    (apply (r_drawnT 13 (Ext h10)); exact rfl; exact mixed; kernel_rfl; exact rfl; first | exact Ext.refl _ | exact Only.refl _ _)
    refine runJ ?_
    apply (s_call Tryz_ent93 rfl rfl rfl)
    refine (MU).mono ?_
    rintro _ h11 ⟨e11, vm, rm, pm, rfl, RM, lm, mm⟩
    refine ⟨(by first | exact trivial | exact e11), ?_⟩
    have AD := refAdd5_spec vq c0.1 vm qs c0.2 rm h11 (sq10.ext e11) ((SC0.ext E10).ext e11) RM.pol (by omega) (by omega) (by omega) (fun i q x y hx hy hq' => by
      have f := fc0 i q x hx hq'
      obtain ⟨x1', hx1⟩ := get_lt (l := c1.2) (j := i) (by have := (List.getElem?_eq_some_iff.1 hx).1; omega)
      obtain ⟨x2', hx2⟩ := get_lt (l := rl) (j := i) (by have := (List.getElem?_eq_some_iff.1 hx).1; omega)
      have g := mm i q x1' x2' y hx1 hx2 hq' hy
      have := hq q (List.mem_of_getElem? hq')
      exact ⟨by rw [g.1.1, f.1], by rw [f.1]; omega, fun a ha => by have := f.2 a ha; omega, fun a ha => by have := g.1.2 a ha; omega, this.2⟩)
    refine runJ ?_
    apply (s_call Tryz_ent132 rfl rfl rfl)
    refine (AD).mono ?_
    rintro _ h12 ⟨e12, va, ra, pa, rfl, RA, la, ma⟩
    refine ⟨(by first | exact trivial | exact (e11.trans e12)), ?_⟩
    have e1012 := e11.trans e12
    have hva := RA.own.sl.one
    have y912 := y9.ext e1012
    have y812 := y8.ext e1012
    refine runJ ?_
    apply tail_end
    refine runJ ?_
    (apply s_storeV; exact rfl; exact rfl; exact rfl; exact (OneAll.cons hva OneAll.nil : OneAll [va]); exact rfl; exact rfl; exact y912; exact rfl)
    intro h13 y13 k13
    refine ⟨trivial, ?_⟩
    have y13 : Var h13 p9 56 [va] := y13
    have RA13 := RA.neT y912 k13
    have e413 : Ext h4 h13 := ext_onlyR (e10.trans e1012) k13 fun b hb => by rw [b7] at hb; cases hb; omega
    have y813 := y812.only k13 n98.symm
    have x113 := x14.ext e413
    have x413 := x4.ext e413
    have sq13 := sq.ext (E4.trans e413)
    have RL13 := RL4.ext e413
    have HR : HoldR n qs ss (c0.2.map (·.2)) (c1.2.map (·.2)) (ra.map (·.2)) := by
      refine ⟨by rw [List.length_map]; omega, fun i q a b r hq' ha hb hr => ?_⟩
      rw [List.getElem?_map] at ha hb hr
      obtain ⟨x0', hx0⟩ := get_lt (l := c0.2) (j := i) (by have := (List.getElem?_eq_some_iff.1 hq').1; omega)
      obtain ⟨x1', hx1⟩ := get_lt (l := c1.2) (j := i) (by have := (List.getElem?_eq_some_iff.1 hq').1; omega)
      obtain ⟨x2', hx2⟩ := get_lt (l := rl) (j := i) (by have := (List.getElem?_eq_some_iff.1 hq').1; omega)
      obtain ⟨x3', hx3⟩ := get_lt (l := rm) (j := i) (by have := (List.getElem?_eq_some_iff.1 hq').1; omega)
      obtain ⟨x4', hx4⟩ := get_lt (l := ra) (j := i) (by have := (List.getElem?_eq_some_iff.1 hq').1; omega)
      rw [hx0] at ha; rw [hx1] at hb; rw [hx4] at hr
      cases ha; cases hb; cases hr
      have g := mm i q x1' x2' x3' hx1 hx2 hq' hx3
      rw [ml i q x2' hq' hx2] at g
      exact ⟨x3'.2, g, by show x4'.2 = addL q x3'.2 x0'.2; rw [ma i q x0' x3' x4' hx0 hx3 hq' hx4, addL_comm]⟩
    have MU2 := refMul5_spec vq v8 v8 qs rl rl n h13 sq13 RL13.pol RL13.pol rfl (by omega) (by omega) ⟨hn1, by omega⟩ (by omega) (fun i q x y hx hy hq' => by
      obtain ⟨g1, g2⟩ := flr i q y hy hq'
      obtain ⟨g3, g4⟩ := flr i q x hx hq'
      have := hq q (List.mem_of_getElem? hq')
      exact ⟨g3, g1, g4, g2, this⟩)
    refine runJ ?_
    apply (s_call Tryz_ent93 rfl rfl rfl)
    refine (MU2).mono ?_
    rintro _ h14 ⟨e14, vm2, rm2, pm2, rfl, RM2, -, -⟩
    refine ⟨trivial, ?_⟩
    have hvm2 := RM2.own.sl.one
    have y814 := y813.ext e14
    refine runJ ?_
    (apply s_storeV; exact rfl; exact rfl; exact rfl; exact (OneAll.cons hvm2 OneAll.nil : OneAll [vm2]); exact rfl; exact rfl; exact y814; exact rfl)
    intro h15 y15 k15
    refine ⟨trivial, ?_⟩
    have y15 : Var h15 p8 56 [vm2] := y15
    have RA15 := (RA13.ext e14).neT y814 k15
    have e415 : Ext h4 h15 := ext_onlyR (e413.trans e14) k15 fun b hb => by rw [b5] at hb; cases hb; omega
    have y915 := (y13.ext e14).only k15 n98
    refine runJ ?_
    apply again_normal (2, vm2, va, ra)
    · exact subsX
    · exact ⟨e415, y15, y915, .inr ⟨rfl, ⟨pa, RA15.base (e10.trans e11).1⟩, HR⟩⟩
    · show 3 - 2 < 3 - 1
      decide
  · obtain ⟨rfl, ⟨p, RS⟩, HR⟩ : j = 2 ∧ (∃ p, RowsAt h10 h4.size p v9 rs) ∧ HoldR n qs ss (c0.2.map (·.2)) (c1.2.map (·.2)) (rs.map (·.2)) := by
      rcases hj with ⟨hj, -⟩ | hj
      · have : ¬ j < 2 := hjj
        omega
      · exact hj
    have hv9 := RS.own.sl.one
    refine runJ ?_
    (apply s_storeV; exact rfl; exact rfl; exact rfl; exact (OneAll.cons hv9 OneAll.nil : OneAll [v9]); exact rfl; exact rfl; exact x310; exact rfl)
    intro h11 y11 k11
    refine ⟨trivial, ?_⟩
    have y11 : Var h11 p6 56 [v9] := y11
    have RS11 := RS.neT x310 k11
    have e11 : Ext h h11 := ext_onlyR E10 k11 fun b hb => by rw [b3] at hb; cases hb; have := e1.1; have := e2.1; omega
    refine runJ ?_
    exact finC rfl rfl y11 rfl rfl ⟨e11, _, rs, _, rfl, RS11.base E4.1, HR⟩
end Go.Proofs.YtfcmdefigldpnaaGreatDoor


/- Texts BatI to OpenQ of this work, joined: each says in its own head what it proves, and of which condition. -/
import Derived.Test.YtfcmdefigldpnaaDoorMBg23
import Derived.ProofKit
import Derived.OpenShut
import Derived.ShutString
import Derived.ChangeOld
import Derived.Below
import Derived.Test.YtfcmdefigldpnaaDoorRows
import Derived.LaidMore
import Derived.LaidLaws
import Derived.MakeChecks
/- Package batch: the law BatchGoes. Condition: the table of math/bits reads as it is laid. -/
namespace Go.Proofs.YtfcmdefigldpnaaDoor
set_option linter.unusedVariables false
set_option maxRecDepth 8000
open Go Go.Den Go.RowKit Go.Mth Go.Dig

/-- A slot of a row that may be too short. -/
def slotR (xs : List Int) (t i : Nat) : Nat := if i < xs.length then liftm (xs.getD i 0) t else 0
theorem slotR_lt {xs : List Int} {t i : Nat} (ht : 0 < t) : slotR xs t i < t := by
  unfold slotR
  split
  · exact liftm_lt9 ht
  · exact ht
theorem lay_slot {n t : Nat} (A : Apart n) (xs : List Int) (hl : xs.length ≤ n / 2) {i : Nat} (hi : i < n / 2) : gt (layF n t xs) (place n i).1 = ((slotR xs t i : Nat) : Int) := by
  unfold gt slotR
  rw [(layF_at A _ xs rfl hl i hi).1]
theorem one_of {α : Type} {l : List α} (h : l.length = 1) : ∃ a, l = [a] := by
  rcases l with _ | ⟨a, _ | ⟨b, l⟩⟩
  · cases h
  · exact ⟨a, rfl⟩
  · simp at h
theorem cent_bd {r t : Nat} (h : r < t) (ht : t < 1073741824) : -1073741824 ≤ centerm r t ∧ centerm r t < 1073741824 := by
  unfold centerm
  rw [if_neg (by omega), Nat.mod_eq_of_lt h]
  split <;> omega
theorem tm_em (s : Int) {H : Nat} (hH : 0 < H) : (s.tmod (H : Int) + (H : Int)).tmod (H : Int) = s.emod (H : Int) := by
  have h1 : -(H : Int) < s.tmod H := Int.lt_tmod_of_pos s (by omega)
  rw [Int.tmod_eq_emod_of_nonneg (by omega), Int.tmod_def]
  have e : s - (H : Int) * s.tdiv H + H = s + H * (1 - s.tdiv H) := by rw [Int.mul_sub, Int.mul_one]; omega
  rw [e, Int.add_mul_emod_self_left]
  rfl
theorem tm_bd (s : Int) {H : Nat} (hH : 0 < H) : -(H : Int) < s.tmod (H : Int) ∧ s.tmod (H : Int) < H := ⟨Int.lt_tmod_of_pos s (by omega), Int.tmod_lt_of_pos s (by omega)⟩
theorem half_of {L : Nat} (h3 : 3 ≤ L) (h6 : L ≤ 6) : pow3 (2 ^ L) (2 ^ L / 2) = 1 := by
  obtain ⟨a1, a2, a3, a4⟩ := pow3_half
  have : L = 3 ∨ L = 4 ∨ L = 5 ∨ L = 6 := by omega
  rcases this with rfl | rfl | rfl | rfl <;> assumption

theorem Tryd_ent3 : Ent Tryd.prog 3 := ent_of Tryd.func3 (by kernel_rfl) rfl
set_option maxHeartbeats 4000000 in
theorem batchGoes_law (p : ParD) (vv vw : Value) (xs ys : List Int) (step : Int) (h : Hp) (TB0 : TB h) (A0 : ParA0 h p) (s : SlF h I vv xs) (sw : SlF h I vw ys) (hx : ∀ x ∈ xs, -9223372036854775808 ≤ x ∧ x < 9223372036854775808) (hy : ∀ x ∈ ys, -9223372036854775808 ≤ x ∧ x < 9223372036854775808) (hl : xs.length < 9223372036854775808) (hl2 : ys.length < 9223372036854775808) (hn64 : -9223372036854775808 ≤ p.n ∧ p.n < 9223372036854775808) (hst : -9223372036854775808 ≤ step ∧ step < 9223372036854775808) :
    CallsH Tryd.prog 3 [.agg p.cells.toArray, vv, vw, I step] h fun v' h' => v' = .bool true ∧ Ext h h' := by
  have SM := fun h A => small9_spec p h A
  have NO := fun h T A P => batchNew_no p h T A P
  have NW := fun L h T A P hN h1 h9 Q => batchNew_spec p L h T A P hN h1 h9 Q
  have CN := fun xs vv n h A s hx hN hn hl => cent9_spec p vv xs n h A s hx hN hn hl
  unfold ParD.cells at SM NO NW CN ⊢
  (apply enter Tryd.func3 rfl Tryd.ntmps3 rfl)
  refine runJ ?_
  (apply s_box; exact rfl; exact rfl; exact rfl; exact rfl)
  intro p1 h1 x1 e1 b1
  (try dsimp only [Value.cells, List.toList_toArray] at x1)
  refine ⟨(by first | exact trivial | exact Ext.refl _ | assumption | exact Ext.trans (by assumption) (by assumption)), ?_⟩
  refine runJ ?_
  apply (s_call Tryd_ent5 rfl rfl rfl)
  refine (fixed09_spec h1 (TB0.ext e1)).mono ?_
  rintro _ h2 ⟨rfl, e2⟩
  refine ⟨(by first | exact trivial | exact trivial), ?_⟩
  have x2 := x1.ext e2
  have E2 := e1.trans e2
  have A2 : ParA0 h2 p := ⟨A0.row.ext E2, A0.al, A0.t64, A0.ln⟩
  refine runJ ?_
  apply (s_call Tryd_ent6 rfl rfl rfl)
  refine (SM h2 A2).mono ?_
  rintro _ h3 ⟨rfl, e3⟩
  refine ⟨(by first | exact trivial | exact trivial), ?_⟩
  have x3 := x2.ext e3
  have E3 := E2.trans e3
  have s3 := s.ext E3
  have sw3 := sw.ext E3
  by_cases hsm : p.n ≤ 64 ∧ p.q.length ≤ 20
  · rw [decide_eq_true hsm]
    refine runJ ?_
    refine s_quoI (b := 2) rfl rfl rfl (by omega) ?_
    refine runJ ?_
    (apply s_splitG; exact rfl; exact rfl; exact rfl; exact rfl) <;> intro g1
    · refine runJ ?_
      exact fin1 rfl rfl ⟨rfl, E3⟩
    refine runJ ?_
    refine s_quoI (b := 2) rfl rfl rfl (by omega) ?_
    refine runJ ?_
    (apply w_condD; exact rfl; exact rfl) <;> intro g2
    · refine runJ ?_
      exact fin1 rfl rfl ⟨rfl, E3⟩
    have A3 : ParAt h3 p := ⟨A0.row.ext E3, A0.al, A0.t64, by have := hsm.2; omega⟩
    have T3 := TB0.ext E3
    by_cases P : parP p
    · obtain ⟨L, hL3, hL6, hN, hap⟩ := par_size P hsm.1
      have hn : 8 ≤ 2 ^ L ∧ 2 ^ L ≤ 64 := ⟨Nat.pow_le_pow_right (n := 2) (i := 3) (by omega) hL3, Nat.pow_le_pow_right (n := 2) (j := 6) (by omega) hL6⟩
      have hhalf := half_of hL3 hL6
      rw [hN, show ((2 ^ L : Nat) : Int).tdiv 2 = ((2 ^ L / 2 : Nat) : Int) from rfl] at g1 g2
      have hxl : xs.length ≤ 2 ^ L / 2 := by omega
      have hyl : ys.length ≤ 2 ^ L / 2 := by omega
      refine runJ ?_
      apply (s_call Tryd_ent7 rfl rfl rfl)
      refine (NW L h3 T3 A3 P hN (by omega) (by omega) (qok_par P hN hL3)).mono ?_
      rintro _ h4 ⟨e4, g, B, rfl, BA, BK, hBL, hBt⟩
      refine ⟨(by first | exact trivial | exact trivial), ?_⟩
      have x4 := x3.ext e4
      have s4 := s3.ext e4
      have sw4 := sw3.ext e4
      have hBL' := hBL
      subst hBL'
      have htq := BK.tq
      have hq1 := BK.ok.q1
      have hq61 := BK.ok.q61
      have ht30 : p.t < 1073741824 := P.2.1.1
      refine runJ ?_
      apply (s_call Tryd_ent8 rfl rfl rfl)
      refine (pack_spec g vv B xs h4 BK BA s4 hx hxl).mono ?_
      rintro _ h5 ⟨e5, r5, rs, rfl, o5, P5⟩
      refine ⟨(by first | exact trivial | exact trivial), ?_⟩
      have x5 := x4.ext e5
      have sw5 := sw4.ext e5
      have BA5 := BA.ext e5
      refine runJ ?_
      apply (s_call Tryd_ent8 rfl rfl rfl)
      refine (pack_spec g vw B ys h5 BK BA5 sw5 hy hyl).mono ?_
      rintro _ h6 ⟨e6, r6, rs', rfl, o6, P6⟩
      refine ⟨(by first | exact trivial | exact trivial), ?_⟩
      have x6 := x5.ext e6
      have BA6 := BA5.ext e6
      have S5 := slt_bck BK P5
      have S6 := slt_bck BK P6
      have q5 := o5.sl.ext e6
      have q6 := o6.sl
      refine runJ ?_
      (apply (s_litF (f := U) [p.t] (fun _ => rfl)); exact rfl; exact rfl; exact rfl; exact rfl; exact rfl; exact rfl; exact rfl; exact rfl; omega)
      intro w7 h7 o7 e7 b7
      refine ⟨(by first | exact trivial | exact Ext.refl _ | assumption | exact Ext.trans (by assumption) (by assumption)), ?_⟩
      have x7 := x6.ext e7
      have y5 := q5.ext e7
      have y6 := q6.ext e7
      have z7 := o7.sl
      refine runJ ?_
      (apply (s_lit (f := Prod.fst) (vs := [r5]) [(r5, rs)]); exact rfl; exact rfl; exact rfl; exact rfl; exact rfl; exact rfl; exact OneAll.all (OneAll.cons y5.one OneAll.nil); exact rfl; exact rfl; exact rfl; omega)
      intro w8 h8 o8 e8 b8
      refine ⟨(by first | exact trivial | exact Ext.refl _ | assumption | exact Ext.trans (by assumption) (by assumption)), ?_⟩
      have y8 := o8.sl
      refine runJ ?_
      (apply (s_build ([w8])); exact rfl; exact rfl; exact rfl; (repeat (first | exact CellsAll.nil | (apply CellsAll.cons; (first | exact oneL (by assumption) | exact oneL (SlF.one (by assumption)) | exact oneL (SlF.one (OwnF.sl (by assumption))) | exact oneL (Var.one (by assumption)) | exact rfl)))); exact rfl; exact rfl)
      refine runJ ?_
      have y6' := y6.ext e8
      (apply (s_lit (f := Prod.fst) (vs := [r6]) [(r6, rs')]); exact rfl; exact rfl; exact rfl; exact rfl; exact rfl; exact rfl; exact OneAll.all (OneAll.cons y6'.one OneAll.nil); exact rfl; exact rfl; exact rfl; omega)
      intro w9 h9 o9 e9 b9
      refine ⟨(by first | exact trivial | exact Ext.refl _ | assumption | exact Ext.trans (by assumption) (by assumption)), ?_⟩
      refine runJ ?_
      (apply (s_build ([w9])); exact rfl; exact rfl; exact rfl; (repeat (first | exact CellsAll.nil | (apply CellsAll.cons; (first | exact oneL (by assumption) | exact oneL (SlF.one (by assumption)) | exact oneL (SlF.one (OwnF.sl (by assumption))) | exact oneL (Var.one (by assumption)) | exact rfl)))); exact rfl; exact rfl)
      refine runJ ?_
      have E79 := e8.trans e9
      have z9 := z7.ext E79
      have hw5 : ∀ a ∈ rs, a < 18446744073709551616 := fun a ha => by have := S5.1.2 a ha; omega
      have hw6 : ∀ a ∈ rs', a < 18446744073709551616 := fun a ha => by have := S6.1.2 a ha; omega
      have hl5 := S5.1.1
      have hl6 := S6.1.1
      have pa : PolAt h9 w8 [(r5, rs)] := ⟨y8.ext e9, fun x hx => by rw [List.mem_singleton.1 hx]; exact y5.ext E79⟩
      have pb : PolAt h9 w9 [(r6, rs')] := ⟨o9.sl, fun x hx => by rw [List.mem_singleton.1 hx]; exact y6.ext E79⟩
      have HR1 : ∀ (i q : Nat) (x y : Value × List Nat), [(r5, rs)][i]? = some x → [(r6, rs')][i]? = some y → [p.t][i]? = some q → y.2.length = x.2.length ∧ x.2.length ≤ 4096 ∧ (∀ a ∈ x.2, a < 18446744073709551616) ∧ (∀ a ∈ y.2, a < 18446744073709551616) ∧ q < 18446744073709551616 := by
        intro i q x y hx hy hq
        rcases i with _ | i
        · cases hx; cases hy; cases hq
          exact ⟨by dsimp only; omega, by dsimp only; omega, hw5, hw6, by omega⟩
        · cases hx
      apply (s_call Tryd_ent9 rfl rfl rfl)
      refine (refAdd5_spec w7 w8 w9 [p.t] [(r5, rs)] [(r6, rs')] h9 z9 pa pb rfl (Nat.le_refl _) (by show 1 ≤ 24; decide) HR1).mono ?_
      rintro _ h10 ⟨e10, vs, sr, pp, rfl, R10, l10, m10⟩
      refine ⟨(by first | exact trivial | exact trivial), ?_⟩
      obtain ⟨⟨u0, a0⟩, rfl⟩ := one_of l10
      obtain rfl : a0 = addL B.t rs rs' := by rw [hBt]; exact m10 0 p.t _ _ _ rfl rfl rfl rfl
      have G10 := R10.pol
      refine runJ ?_
      (apply s_alloc; exact rfl; exact rfl; exact rfl)
      intro p16 h11 x11 e11 b11
      (try dsimp only [Value.cells, List.toList_toArray] at x11)
      refine ⟨(by first | exact trivial | exact Ext.refl _ | assumption | exact Ext.trans (by assumption) (by assumption)), ?_⟩
      refine runJ ?_
      (apply s_storeV; exact rfl; exact rfl; exact rfl; exact (OneAll.cons G10.row.one OneAll.nil : OneAll [vs]); exact rfl; exact rfl; exact x11; exact rfl)
      intro h12 x12 k12
      refine ⟨trivial, ?_⟩
      have x12 : Var h12 p16 37 [vs] := x12
      have e12 : Ext h10 h12 := k12.oldV e11 b11 (Nat.le_refl _)
      have E6 := ((((E3.trans e4).trans e5).trans e6).trans e7)
      have E712 := (E79.trans e10).trans e12
      have E12 := E6.trans E712
      have v5 := y5.ext E712
      have BA12 := (BA6.ext e7).ext E712
      refine runJ ?_
      (apply (s_lit (f := Prod.fst) (vs := [r5]) [(r5, rs)]); exact rfl; exact rfl; exact rfl; exact rfl; exact rfl; exact rfl; exact OneAll.all (OneAll.cons v5.one OneAll.nil); exact rfl; exact rfl; exact rfl; omega)
      intro w13 h13 o13 e13 b13
      refine ⟨(by first | exact trivial | exact Ext.refl _ | assumption | exact Ext.trans (by assumption) (by assumption)), ?_⟩
      refine runJ ?_
      (apply (s_build ([w13])); exact rfl; exact rfl; exact rfl; (repeat (first | exact CellsAll.nil | (apply CellsAll.cons; (first | exact oneL (by assumption) | exact oneL (SlF.one (by assumption)) | exact oneL (SlF.one (OwnF.sl (by assumption))) | exact oneL (Var.one (by assumption)) | exact rfl)))); exact rfl; exact rfl)
      have BA13 := BA12.ext e13
      refine runJ ?_
      apply (s_call Tryd_ent11 rfl rfl rfl)
      refine (power_spec g B.vt B.vp B.L B.t step h13 BA13.var (by omega) (by omega) hst).mono ?_
      rintro _ _ ⟨rfl, rfl⟩
      refine ⟨(by first | exact trivial | exact Ext.refl _ | assumption | exact Ext.trans (by assumption) (by assumption)), ?_⟩
      generalize hb : (step.emod ((2 ^ B.L / 2 : Nat) : Int)).toNat = b
      have z13 := (z9.ext (e10.trans e12)).ext e13
      have pc : PolAt h13 w13 [(r5, rs)] := ⟨o13.sl, fun x hx => by rw [List.mem_singleton.1 hx]; exact v5.ext e13⟩
      have hodd := pow3_odd (2 ^ B.L) b
      have hplt : pow3 (2 ^ B.L) b < 2 * 2 ^ B.L := Nat.mod_lt _ (by omega)
      have HR2 : ∀ (i q : Nat) (x : Value × List Nat), [(r5, rs)][i]? = some x → [p.t][i]? = some q → x.2.length = 2 ^ B.L ∧ (∀ a ∈ x.2, a < 18446744073709551616) ∧ 0 < q ∧ q < 18446744073709551616 := by
        intro i q x hx hq
        rcases i with _ | i
        · cases hx; cases hq
          exact ⟨hl5, hw5, by omega, by omega⟩
        · cases hx
      refine runJ ?_
      apply (s_call Tryd_ent10 rfl rfl rfl)
      refine (refTurn5_spec w7 w13 [p.t] [(r5, rs)] (pow3 (2 ^ B.L) b) (2 ^ B.L) h13 z13 pc (Nat.le_refl _) (by show 1 ≤ 24; decide) (by omega) (by omega) (by omega) HR2).mono ?_
      rintro _ h14 ⟨e14, vt, tr, pt, rfl, R14, l14, m14⟩
      refine ⟨(by first | exact trivial | exact trivial), ?_⟩
      obtain ⟨⟨u1, a1⟩, rfl⟩ := one_of l14
      obtain rfl : a1 = turnL (2 ^ B.L) B.t (pow3 (2 ^ B.L) b) rs := by rw [hBt]; exact m14 0 p.t _ _ rfl rfl rfl
      have G14 := R14.pol
      refine runJ ?_
      (apply s_alloc; exact rfl; exact rfl; exact rfl)
      intro p17 h15 x15 e15 b15
      (try dsimp only [Value.cells, List.toList_toArray] at x15)
      refine ⟨(by first | exact trivial | exact Ext.refl _ | assumption | exact Ext.trans (by assumption) (by assumption)), ?_⟩
      refine runJ ?_
      (apply s_storeV; exact rfl; exact rfl; exact rfl; exact (OneAll.cons G14.row.one OneAll.nil : OneAll [vt]); exact rfl; exact rfl; exact x15; exact rfl)
      intro h16 x16 k16
      refine ⟨trivial, ?_⟩
      have x16 : Var h16 p17 37 [vt] := x16
      have e16 : Ext h14 h16 := k16.oldV e15 b15 (Nat.le_refl _)
      have E1216 := (e13.trans e14).trans e16
      have X16 := x12.ext E1216
      have E16 := E12.trans E1216
      have G16 := G10.ext (e12.trans E1216)
      have G16r := G16.row
      have G16e := G16.el _ (List.mem_singleton.2 rfl)
      have BA16 := BA12.ext E1216
      have BK1 := slt_add BK S5 S6
      have i16 : [(u0, addL B.t rs rs')][0]? = some (u0, addL B.t rs rs') := rfl
      have i16l : 0 < [(u0, addL B.t rs rs')].length := Nat.zero_lt_one
      refine runJ ?_
      apply (s_call Tryd_ent12 rfl rfl rfl)
      refine (unpack_spec g u0 B _ h16 BK BA16 G16e BK1.1).mono ?_
      rintro _ h17 ⟨e17, w17, s17, rfl, o17, V17⟩
      refine ⟨(by first | exact trivial | exact trivial), ?_⟩
      have px := (x7.ext E712).ext (E1216.trans e17)
      have v5b := v5.ext (E1216.trans e17)
      have v6b := y6.ext ((E712.trans E1216).trans e17)
      have BA17 := BA16.ext e17
      refine runJ ?_
      apply (s_call Tryd_ent13 rfl rfl rfl)
      refine (refMul4_spec r5 r6 rs rs' p.t (2 ^ B.L) h17 v5b v6b hl5 hl6 hw5 hw6 (by omega) (by omega) (by omega)).mono ?_
      rintro w18 h18 ⟨e18, zs, o18, C18⟩
      refine ⟨(by first | exact trivial | exact trivial), ?_⟩
      rw [← hBt] at C18
      have BK2 := slt_mul BK S5 S6 C18
      have BA18 := BA17.ext e18
      refine runJ ?_
      apply (s_call Tryd_ent12 rfl rfl rfl)
      refine (unpack_spec g w18 B zs h18 BK BA18 o18.sl BK2.1).mono ?_
      rintro _ h19 ⟨e19, w19, s19, rfl, o19, V19⟩
      refine ⟨(by first | exact trivial | exact trivial), ?_⟩
      have E1619 := (e17.trans e18).trans e19
      have Y19 := x16.ext E1619
      have H19 := (G14.ext e16).ext E1619
      have H19r := H19.row
      have H19e := H19.el _ (List.mem_singleton.2 rfl)
      have BA19 := BA18.ext e19
      have hF3 : Fit (2 ^ B.L) B.t (turnL (2 ^ B.L) B.t (pow3 (2 ^ B.L) b) rs) := turnL_fit (by omega) (by omega) S5.1.2
      have i19 : [(u1, turnL (2 ^ B.L) B.t (pow3 (2 ^ B.L) b) rs)][0]? = some (u1, turnL (2 ^ B.L) B.t (pow3 (2 ^ B.L) b) rs) := rfl
      have i19l : 0 < [(u1, turnL (2 ^ B.L) B.t (pow3 (2 ^ B.L) b) rs)].length := Nat.zero_lt_one
      refine runJ ?_
      apply (s_call Tryd_ent12 rfl rfl rfl)
      refine (unpack_spec g u1 B _ h19 BK BA19 H19e hF3).mono ?_
      rintro _ h20 ⟨e20, w20, s20, rfl, o20, V20⟩
      refine ⟨(by first | exact trivial | exact trivial), ?_⟩
      have px := px.ext ((e18.trans e19).trans e20)
      have E20 := (E16.trans E1619).trans e20
      rw [hN] at px CN
      have n17 := unl_len (2 ^ B.L) B.t s17
      have n19 := unl_len (2 ^ B.L) B.t s19
      have n20 := unl_len (2 ^ B.L) B.t s20
      have t17 := o17.sl.ext ((e18.trans e19).trans e20)
      have t19 := o19.sl.ext e20
      have t20 := o20.sl
      have s20v := s.ext E20
      have sw20v := sw.ext E20
      have A20 : ParAt h20 p := ⟨A0.row.ext E20, A0.al, A0.t64, by have := hsm.2; omega⟩
      have LS := fun i (hi : i < 2 ^ B.L / 2) => lay_slot (t := B.t) (apart_of hap) xs hxl hi
      have LS' := fun i (hi : i < 2 ^ B.L / 2) => lay_slot (t := B.t) (apart_of hap) ys hyl hi
      have ht0 : 0 < B.t := by omega
      have PL := fun i => place_lt (n := 2 ^ B.L) (by omega) i
      have U17 : ∀ i, i < 2 ^ B.L / 2 → (unl (2 ^ B.L) B.t s17)[i]? = some (centerm (addm (slotR xs B.t i) (slotR ys B.t i) B.t) B.t) := fun i hi => by
        rw [unl_get hi, slt_val BK BK1 V17 (PL i).1 (addm_lt ht0) ((cg_addm ht0 _ _).trans (Cg.of_eq (by rw [LS i hi, LS' i hi])))]
      have U19 : ∀ i, i < 2 ^ B.L / 2 → (unl (2 ^ B.L) B.t s19)[i]? = some (centerm (mulm (slotR xs B.t i) (slotR ys B.t i) B.t) B.t) := fun i hi => by
        rw [unl_get hi, slt_val BK BK2 V19 (PL i).1 (mulm_lt ht0) ((cg_mulm ht0 _ _).trans (Cg.of_eq (by rw [LS i hi, LS' i hi])))]
      have U20 : ∀ i, i < 2 ^ B.L / 2 → (unl (2 ^ B.L) B.t s20)[i]? = some (centerm (slotR xs B.t ((i + b) % (2 ^ B.L / 2))) B.t) := fun i hi => by
        have hi2 : (i + b) % (2 ^ B.L / 2) < 2 ^ B.L / 2 := Nat.mod_lt _ (by omega)
        rw [unl_get hi, slt_turn BK S5 hodd V20 (PL i).1 (PL ((i + b) % (2 ^ B.L / 2))).1 (turn_place (by omega) hhalf i b) (slotR_lt ht0) (Cg.of_eq (LS _ hi2).symm)]
      have cg : ∀ (xs : List Int) i, i < 2 ^ B.L / 2 → (centL (2 ^ B.L) B.t xs)[i]? = some (centerm (slotR xs B.t i) B.t) := fun xs i hi => centL_get hi
      have slt := fun (xs : List Int) i => slotR_lt (xs := xs) (i := i) ht0
      have clx := centL_len (2 ^ B.L) B.t xs
      have cly := centL_len (2 ^ B.L) B.t ys
      have bdc := fun (r : Nat) (hr : r < B.t) => cent_bd (t := B.t) hr (by omega)
      have lic := fun (r : Nat) (hr : r < B.t) => lift_center (t := B.t) hr (by omega)
      rw [← hBt] at px CN
      have htB : B.t < 1073741824 := by omega
      clear NW NO SM
      generalize hnn : 2 ^ B.L = n at *
      have hH : 0 < n / 2 := by omega
      have htm := tm_em step hH
      have htb := tm_bd step hH
      refine runJ ?_
      (apply s_splitG; exact rfl; exact rfl; exact rfl; exact rfl) <;> intro g3
      · exact absurd n17 g3
      refine runJ ?_
      (apply s_splitG; exact rfl; exact rfl; exact rfl; exact rfl) <;> intro g4
      · exact absurd n19 g4
      refine runJ ?_
      (apply w_condD; exact rfl; exact rfl) <;> intro g5
      · exact absurd n20 g5
      refine runJ ?_
      apply (s_call Tryd_ent14 rfl rfl rfl)
      refine (CN xs vv n h20 A20 s20v hx rfl (by omega) hxl).mono ?_
      rintro w21 h21 ⟨e21, o21⟩
      refine ⟨e21, ?_⟩
      refine runJ ?_
      apply (s_call Tryd_ent14 rfl rfl rfl)
      refine (CN ys vw n h21 (A20.ext e21) (sw20v.ext e21) hy rfl (by omega) hyl).mono ?_
      rintro w22 h22 ⟨e22, o22⟩
      refine ⟨(e21.trans e22), ?_⟩
      have E2022 := e21.trans e22
      have px := px.ext E2022
      have E22 := E20.trans E2022
      have t17 := t17.ext E2022
      have t19 := t19.ext E2022
      have t20 := t20.ext E2022
      have t21 := o21.sl.ext e22
      have t22 := o22.sl
      refine runJ ?_
      refine s_remI rfl rfl rfl (by omega) ?_
      generalize step.tmod ((n / 2 : Nat) : Int) = r0 at *
      refine runJ ?_
      refine s_remI rfl rfl rfl (by omega) ?_
      rw [htm]
      have hbn : step.emod ((n / 2 : Nat) : Int) = (b : Int) := by
        have := Int.emod_nonneg step (show ((n / 2 : Nat) : Int) ≠ 0 by omega)
        have e : step.emod ((n / 2 : Nat) : Int) = step % ((n / 2 : Nat) : Int) := rfl
        rw [e] at hb ⊢
        omega
      rw [hbn]
      have hblt : b < n / 2 := by
        have := Int.emod_lt_of_pos step (show (0 : Int) < ((n / 2 : Nat) : Int) by omega)
        have e : step.emod ((n / 2 : Nat) : Int) = step % ((n / 2 : Nat) : Int) := rfl
        rw [e] at hbn
        omega
      refine runJ ?_
      (first | (apply w_seqB; exact rfl; apply w_block; exact rfl) | skip)
      apply (w_loop (σ := Nat) rfl (fun j => [(4, p1), (18, w17), (20, w19), (22, w20), (24, w21), (25, w22), (26, N (n / 2)), (27, N b), (177, N (centL n B.t xs).length), (178, N j)])
        (fun j h' => h22 = h' ∧ j ≤ n / 2) (fun j => n / 2 - j) 0)
      · exact (Sub.cons rfl (Sub.cons rfl (Sub.cons rfl (Sub.cons rfl (Sub.cons rfl (Sub.cons rfl (Sub.cons rfl (Sub.cons rfl (Sub.cons rfl (Sub.cons rfl (Sub.nil _)))))))))))
      · exact ⟨rfl, Nat.zero_le _⟩
      rintro j h' ⟨rfl, j1⟩
      refine runJ ?_
      (apply w_condD; exact rfl; exact rfl) <;> intro hj
      · have hj' : j < n / 2 := by omega
        have c1 := cg xs j hj'
        have c2 := cg ys j hj'
        have f17 := U17 j hj'
        have f19 := U19 j hj'
        have f20 := U20 j hj'
        have hjb : (j + b) % (n / 2) < n / 2 := Nat.mod_lt _ hH
        have hjbl : (j + b) % (n / 2) < (centL n B.t xs).length := by omega
        have f21 := cg xs _ hjb
        have r1 := slt xs j
        have r2 := slt ys j
        have r3 := slt xs ((j + b) % (n / 2))
        have l1 := lic _ r1
        have l2 := lic _ r2
        have bd1 := bdc _ r1
        have bd2 := bdc _ r2
        generalize slotR xs B.t j = a1 at *
        generalize slotR ys B.t j = a2 at *
        generalize slotR xs B.t ((j + b) % (n / 2)) = a3 at *
        refine runJ ?_
        apply (s_call Tryd_ent15 rfl rfl rfl)
        refine (refLift_spec (centerm a1 B.t) B.t h22 (by omega) (by omega)).mono ?_
        rintro _ _ ⟨rfl, rfl⟩
        refine ⟨Ext.refl _, ?_⟩
        rw [l1]
        refine runJ ?_
        apply (s_call Tryd_ent15 rfl rfl rfl)
        refine (refLift_spec (centerm a2 B.t) B.t h22 (by omega) (by omega)).mono ?_
        rintro _ _ ⟨rfl, rfl⟩
        refine ⟨Ext.refl _, ?_⟩
        rw [l2]
        refine runJ ?_
        apply (s_call Tryd_ent17 rfl rfl rfl)
        refine (refAdd_spec a1 a2 B.t h22 (by omega) (by omega) (by omega)).mono ?_
        rintro _ _ ⟨rfl, rfl⟩
        refine ⟨Ext.refl _, ?_⟩
        have la := addm_lt (a := a1) (b := a2) ht0
        generalize addm a1 a2 B.t = b1 at *
        refine runJ ?_
        apply (s_call Tryd_ent16 rfl rfl rfl)
        refine (refCenter_spec b1 B.t h22 (by omega) (by omega)).mono ?_
        rintro _ _ ⟨rfl, rfl⟩
        refine ⟨Ext.refl _, ?_⟩
        refine runJ ?_
        (apply s_splitG; exact rfl; exact rfl; exact rfl; exact rfl) <;> intro g6
        · exact absurd rfl g6
        refine runJ ?_
        apply (s_call Tryd_ent18 rfl rfl rfl)
        refine (refMul_spec a1 a2 B.t h22 (by omega) (by omega) (by omega)).mono ?_
        rintro _ _ ⟨rfl, rfl⟩
        refine ⟨Ext.refl _, ?_⟩
        have lm := mulm_lt (a := a1) (b := a2) ht0
        generalize mulm a1 a2 B.t = b2 at *
        refine runJ ?_
        apply (s_call Tryd_ent16 rfl rfl rfl)
        refine (refCenter_spec b2 B.t h22 (by omega) (by omega)).mono ?_
        rintro _ _ ⟨rfl, rfl⟩
        refine ⟨Ext.refl _, ?_⟩
        refine runJ ?_
        (apply s_splitG; exact rfl; exact rfl; exact rfl; exact rfl) <;> intro g7
        · exact absurd rfl g7
        refine runJ ?_
        (apply w_condD; exact rfl; exact rfl) <;> intro g8
        · exact absurd rfl g8
        refine runJ ?_
        apply again_normal (j + 1)
        · exact (Sub.cons rfl (Sub.cons rfl (Sub.cons rfl (Sub.cons rfl (Sub.cons rfl (Sub.cons rfl (Sub.cons rfl (Sub.cons rfl (Sub.cons rfl (Sub.cons rfl (Sub.nil _)))))))))))
        · exact ⟨rfl, by omega⟩
        · omega
      · refine runJ ?_
        exact fin1 rfl rfl ⟨rfl, E22⟩
    · refine runJ ?_
      apply (s_call Tryd_ent7 rfl rfl rfl)
      refine (NO h3 T3 A3 P).mono ?_
      rintro _ h4 ⟨rfl, e4⟩
      refine ⟨(by first | exact trivial | exact trivial), ?_⟩
      refine runJ ?_
      exact fin1 rfl rfl ⟨rfl, E3.trans e4⟩
  · rw [decide_eq_false hsm]
    refine runJ ?_
    exact fin1 rfl rfl ⟨rfl, E3⟩
end Go.Proofs.YtfcmdefigldpnaaDoor

/- What an argument that came in reads as: from the kit's reading of data to rows and variables of the own calculus. No condition. -/
namespace Go.Den
set_option linter.unusedVariables false
set_option maxRecDepth 8000
open Go Go.RowKit Go.ChangeShapes Go.WideShapes

/-- The cells read as data of the type. -/
def Opn (P : Program) (w : World) (t : TypeId) (cs : List Value) : Prop := ∃ (H : Type) (enc : TypeId × Value → H) (fuel : Nat) (x : DataW H × List MemPlace), DataW.trod enc P w 0 (fun _ => true) true fuel t cs = some x

theorem opn_of {P : Program} {w : World} {t : TypeId} {v : Value} {H : Type} {enc : TypeId × Value → H} {d : DataW H} {ps : List MemPlace} (h : DataW.Trod enc P w 0 (fun _ => true) true t v d ps) : Opn P w t v.cells.toList := by
  obtain ⟨fuel, hf⟩ := h
  exact ⟨H, enc, fuel, _, hf⟩

section
variable {P : Program} {w : World} {t : TypeId} {cs : List Value}

theorem Opn.bool (ht : P.underlying t = some .bool) (h : Opn P w t cs) : ∃ b, cs = [.bool b] := by
  obtain ⟨H, enc, fuel, x, h⟩ := h
  obtain ⟨b, h1, -⟩ := DataW.trod_bool ht h
  exact ⟨b, h1⟩
theorem Opn.int {k : IntKind} (ht : P.underlying t = some (.int k)) (h : Opn P w t cs) : ∃ n, cs = [.int k n] ∧ (Lit.int k n).wf = true := by
  obtain ⟨H, enc, fuel, x, h⟩ := h
  obtain ⟨n, h1, -, h2⟩ := DataW.trod_int ht h
  exact ⟨n, h1, h2⟩
theorem Opn.struct {fs : Array Field} (ht : P.underlying t = some (.struct fs)) (h : Opn P w t cs) : cs.length = P.cellsOf t ∧ ∀ (i : Nat) (f : Field), fs[i]? = some f → Opn P w f.type ((cs.drop f.offset).take (P.cellsOf f.type)) := by
  obtain ⟨H, enc, fuel, x, h⟩ := h
  obtain ⟨xs, n, -, -, h1, h2, h3⟩ := DataW.trod_struct ht h
  refine ⟨h1, fun i f hf => ?_⟩
  have hi : i < xs.length := by rw [h2]; exact (Array.getElem?_eq_some_iff.1 hf).1
  exact ⟨H, enc, n, xs[i], by rw [h3 i f hf]; simp [hi]⟩
/-- A slice: its cells, an element's worth at a time, read as data. -/
theorem Opn.slice {e : TypeId} {s : Nat} (ht : P.underlying t = some (.slice e)) (hs : P.cellsOf e = s) (hs0 : 0 < s) (h : Opn P w t cs) :
    ∃ v n es, cs = [v] ∧ Sl w.heap v n es ∧ es.length = n * s ∧ n ≤ maxLen ∧ ∀ i, i < n → Opn P w e ((es.drop (i * s)).take s) := by
  obtain ⟨H, enc, fuel, x, h⟩ := h
  rcases DataW.trod_slice ht h with ⟨rfl, -⟩ | ⟨a, len, cap, elems, rest, n, -, rfl, -, -, hl, hm, hlen, hel, -, -⟩
  · exact ⟨_, 0, [], rfl, Sl.nil _, by simp, Nat.zero_le _, fun i hi => by omega⟩
  · rw [hs] at hel
    have each : ∀ i, i < len → ∃ c, w.cells? 0 (a.add (i * s)) s = some c ∧ c.length = s ∧ Opn P w e c := fun i hi => by
      have h1 := hel i hi
      rw [List.getElem?_eq_getElem (by omega)] at h1
      cases hc : w.cells? 0 (a.add (i * s)) s with
      | none => rw [hc] at h1; cases h1
      | some c =>
        rw [hc] at h1
        refine ⟨c, rfl, (World.cells?_some hc).2.1, H, enc, n, _, h1⟩
    by_cases h0 : len = 0
    · subst h0
      exact ⟨_, 0, [], rfl, Sl.empty _ a cap, by simp, Nat.zero_le _, fun i hi => by omega⟩
    · have cellAt : ∀ i r, i < len → r < s → ∀ c, w.cells? 0 (a.add (i * s)) s = some c → w.cell? (a.add (i * s + r)) = c[r]? := fun i r hi hr c hc => by
        rw [← Addr.add_add]; exact (World.cells?_some hc).2.2 r hr
      have hspot : a.spot = none := by
        obtain ⟨c, hc, hcl, -⟩ := each 0 (by omega)
        have := cellAt 0 0 (by omega) hs0 c hc
        rw [List.getElem?_eq_getElem (by omega)] at this
        have e0 : a.add (0 * s + 0) = a := by simp [Addr.add]
        rw [e0] at this
        unfold World.cell? at this
        split at this
        · split at this
          · cases this
          · rename_i hsp; simpa using hsp
        · cases this
      obtain ⟨b, o, sp⟩ := a
      simp only at hspot
      subst hspot
      have total : ∀ j, j < len * s → ∃ u, w.cell? ((⟨b, o, none⟩ : Addr).add j) = some u := fun j hj => by
        have hi : j / s < len := (Nat.div_lt_iff_lt_mul hs0).2 hj
        have hr : j % s < s := Nat.mod_lt _ hs0
        obtain ⟨c, hc, hcl, -⟩ := each (j / s) hi
        have := cellAt (j / s) (j % s) hi hr c hc
        rw [List.getElem?_eq_getElem (by omega), Nat.mul_comm (j / s) s, Nat.div_add_mod] at this
        exact ⟨_, this⟩
      refine ⟨_, len, (List.range (len * s)).map (fun j => (w.cell? ((⟨b, o, none⟩ : Addr).add j)).getD undef), rfl, .inr ⟨b, o, cap, rfl, hl, fun j u hu => ?_⟩, by simp, Nat.le_trans hl hm, fun i hi => ?_⟩
      · rw [List.getElem?_map] at hu
        by_cases hj : j < len * s
        · rw [List.getElem?_range hj] at hu
          obtain ⟨u', hu'⟩ := total j hj
          rw [Option.map_some, hu', Option.getD_some] at hu
          cases hu
          rw [Addr.add_lit, cell?_cellH] at hu'
          exact hu'
        · rw [List.getElem?_eq_none (by simpa using hj)] at hu; cases hu
      · obtain ⟨c, hc, hcl, ho⟩ := each i hi
        have e : ((List.map (fun j => (w.cell? ((⟨b, o, none⟩ : Addr).add j)).getD undef) (List.range (len * s))).drop (i * s)).take s = c := by
          have hle : i * s + s ≤ len * s := by rw [← Nat.succ_mul]; exact Nat.mul_le_mul_right _ hi
          apply List.ext_getElem?
          intro r
          rw [List.getElem?_take]
          by_cases hr : r < s
          · rw [if_pos hr, List.getElem?_drop, List.getElem?_map, List.getElem?_range (by omega)]
            have := cellAt i r hi hr c hc
            rw [Option.map_some, this, List.getElem?_eq_getElem (by omega)]; rfl
          · rw [if_neg hr, List.getElem?_eq_none (by omega)]
        rw [e]; exact ho
end

/-! ### words -/
theorem nat_of_lit {n : Int} (h : (Lit.int .u64 n).wf = true) : ∃ m : Nat, n = (m : Int) ∧ m < 18446744073709551616 := by
  have := bounds_u64 h
  exact ⟨n.toNat, by omega, by omega⟩

def wordOf : Option Value → Nat
  | some (.int _ z) => z.toNat
  | _ => 0
theorem opn_words {P : Program} {w : World} {t e : TypeId} {cs : List Value} (ht : P.underlying t = some (.slice e)) (he : P.underlying e = some (.int .u64)) (hc : P.cellsOf e = 1) (h : Opn P w t cs) :
    ∃ v xs, cs = [v] ∧ SlF w.heap U v xs ∧ Dig.Al 18446744073709551616 xs ∧ xs.length ≤ maxLen := by
  obtain ⟨v, n, es, h1, h2, h3, h4, h5⟩ := h.slice ht hc Nat.zero_lt_one
  have key : ∀ i, i < n → ∃ m : Nat, es[i]? = some (U m) ∧ m < 18446744073709551616 := fun i hi => by
    obtain ⟨z, hz, hw⟩ := (h5 i hi).int he
    obtain ⟨m, rfl, hm⟩ := nat_of_lit hw
    refine ⟨m, ?_, hm⟩
    rw [Nat.mul_one] at hz
    have : (es.drop i)[0]? = some (U m) := by
      have h0 : ((es.drop i).take 1)[0]? = some (U m) := by rw [hz]; rfl
      rwa [List.getElem?_take, if_pos (by omega)] at h0
    rwa [List.getElem?_drop, Nat.add_zero] at this
  have hxs : es = ((List.range n).map fun i => wordOf es[i]?).map U := by
    apply List.ext_getElem?
    intro i
    by_cases hi : i < n
    · obtain ⟨m, hm, -⟩ := key i hi
      rw [List.getElem?_map, List.getElem?_map, List.getElem?_range hi]
      simp [hm, wordOf]
    · rw [List.getElem?_eq_none (by omega), List.getElem?_eq_none (by simp; omega)]
  refine ⟨v, (List.range n).map fun i => wordOf es[i]?, h1, ?_, ?_, by simpa using h4⟩
  · unfold SlF
    rw [← hxs]; simpa using h2
  · intro x hx
    obtain ⟨i, hi, rfl⟩ := List.mem_map.1 hx
    obtain ⟨m, hm, hlt⟩ := key i (List.mem_range.1 hi)
    rw [hm]
    simpa [wordOf] using hlt

/-- A struct of a bool and a row of words. -/
theorem opn_boolwords {P : Program} {w : World} {t tb tn e : TypeId} {cs : List Value} {f0 f1 : Field} (ht : P.underlying t = some (.struct #[f0, f1])) (h0 : (f0.type, f0.offset, P.cellsOf f0.type) = (tb, 0, 1)) (h1 : (f1.type, f1.offset, P.cellsOf f1.type) = (tn, 1, 1))
    (hb : P.underlying tb = some .bool) (hn : P.underlying tn = some (.slice e)) (he : P.underlying e = some (.int .u64)) (hc : P.cellsOf e = 1) (hz : P.cellsOf t = 2) (h : Opn P w t cs) :
    ∃ b v xs, cs = [.bool b, v] ∧ SlF w.heap U v xs ∧ Dig.Al 18446744073709551616 xs := by
  obtain ⟨g1, g2⟩ := h.struct ht
  simp only [Prod.mk.injEq] at h0 h1
  have o0 := g2 0 f0 (by simp)
  have o1 := g2 1 f1 (by simp)
  rw [h0.2.1, h0.2.2, h0.1] at o0
  rw [h1.2.1, h1.2.2, h1.1] at o1
  obtain ⟨b, e0⟩ := o0.bool hb
  obtain ⟨v, xs, e1, s, al, -⟩ := opn_words hn he hc o1
  refine ⟨b, v, xs, ?_, s, al⟩
  rw [hz] at g1
  match cs, g1 with
  | [c0, c1], _ =>
    simp at e0 e1
    rw [e0, e1]
theorem arg_words {P : Program} {w : World} {t e : TypeId} {v : Value} (ht : P.underlying t = some (.slice e)) (he : P.underlying e = some (.int .u64)) (hc : P.cellsOf e = 1) (hv : ∃ a len cap, v = .slice a len cap) (h : Opn P w t v.cells.toList) :
    ∃ xs, SlF w.heap U v xs ∧ Dig.Al 18446744073709551616 xs ∧ xs.length ≤ maxLen := by
  obtain ⟨a, len, cap, rfl⟩ := hv
  obtain ⟨v, xs, e1, h2⟩ := opn_words ht he hc h
  simp [Value.cells] at e1
  subst e1
  exact ⟨xs, h2⟩
theorem arg_boolwords {P : Program} {w : World} {t tb tn e : TypeId} {v : Value} {f0 f1 : Field} (ht : P.underlying t = some (.struct #[f0, f1])) (h0 : (f0.type, f0.offset, P.cellsOf f0.type) = (tb, 0, 1)) (h1 : (f1.type, f1.offset, P.cellsOf f1.type) = (tn, 1, 1))
    (hb : P.underlying tb = some .bool) (hn : P.underlying tn = some (.slice e)) (he : P.underlying e = some (.int .u64)) (hc : P.cellsOf e = 1) (hz : P.cellsOf t = 2) (hv : ∃ cs, v = .agg cs) (h : Opn P w t v.cells.toList) :
    ∃ b a xs, v = .agg #[.bool b, a] ∧ SlF w.heap U a xs ∧ Dig.Al 18446744073709551616 xs := by
  obtain ⟨cs, rfl⟩ := hv
  obtain ⟨b, a, xs, e1, h2, h3⟩ := opn_boolwords ht h0 h1 hb hn he hc hz h
  exact ⟨b, a, xs, by simp only [Value.cells] at e1; rw [show cs = #[.bool b, a] from Array.toList_inj.1 e1], h2, h3⟩
end Go.Den

/- What an argument that came in reads as: rows of ints, rows of rows, rows of structs. No condition. -/
namespace Go.Den
set_option linter.unusedVariables false
set_option maxRecDepth 8000
open Go Go.RowKit Go.ChangeShapes Go.WideShapes

theorem chunks {α : Type} {f : α → List Value} {R : α → Prop} {s : Nat} : ∀ (n : Nat) (es : List Value), es.length = n * s → (∀ i, i < n → ∃ x, (es.drop (i * s)).take s = f x ∧ R x) → ∃ xs : List α, xs.length = n ∧ es = xs.flatMap f ∧ ∀ x ∈ xs, R x
  | 0, es, hl, _ => ⟨[], rfl, by simpa using hl, by simp⟩
  | n + 1, es, hl, h => by
    obtain ⟨x, hx, hr⟩ := h 0 (by omega)
    rw [Nat.zero_mul, List.drop_zero] at hx
    have hl' : (es.drop s).length = n * s := by rw [List.length_drop, hl, Nat.succ_mul]; omega
    obtain ⟨xs, h1, h2, h3⟩ := chunks (f := f) (R := R) n (es.drop s) hl' (fun i hi => by
      obtain ⟨y, hy, hr⟩ := h (i + 1) (by omega)
      refine ⟨y, ?_, hr⟩
      rw [List.drop_drop, show s + i * s = (i + 1) * s by rw [Nat.succ_mul]; omega]
      exact hy)
    refine ⟨x :: xs, by simp [h1], ?_, ?_⟩
    · rw [List.flatMap_cons, ← h2, ← hx, List.take_append_drop]
    · intro y hy
      rcases List.mem_cons.1 hy with rfl | hy
      · exact hr
      · exact h3 y hy

def ib64 (z : Int) : Prop := -9223372036854775808 ≤ z ∧ z < 9223372036854775808
section
variable {P : Program} {w : World} {t e : TypeId} {cs : List Value}
theorem Opn.i64 (ht : P.underlying t = some (.int .i64)) (h : Opn P w t cs) : ∃ n, cs = [I n] ∧ ib64 n := by
  obtain ⟨n, h1, h2⟩ := h.int ht
  exact ⟨n, h1, by have := bounds_i64 h2; unfold ib64; omega⟩
theorem Opn.rowA {α : Type} {f : α → List Value} {R : α → Prop} {s : Nat} (ht : P.underlying t = some (.slice e)) (hs : P.cellsOf e = s) (hs0 : 0 < s) (hf : ∀ x, (f x).length = s) (h : Opn P w t cs) (he : ∀ c, Opn P w e c → ∃ x, c = f x ∧ R x) :
    ∃ v xs, cs = [v] ∧ SlA w.heap f s v xs ∧ (∀ x ∈ xs, R x) ∧ xs.length ≤ maxLen := by
  obtain ⟨v, n, es, h1, h2, h3, h4, h5⟩ := h.slice ht hs hs0
  obtain ⟨xs, g1, g2, g3⟩ := chunks (f := f) (R := R) n es h3 (fun i hi => he _ (h5 i hi))
  subst g1
  exact ⟨v, xs, h1, ⟨hf, by rw [← g2]; exact h2⟩, g3, h4⟩
theorem flat_one {α : Type} (f : α → Value) (xs : List α) : xs.flatMap (fun x => [f x]) = xs.map f := by
  induction xs with
  | nil => rfl
  | cons x xs ih => rw [List.flatMap_cons, ih]; rfl
theorem SlA.one' {α : Type} {f : α → Value} {h : Hp} {v : Value} {xs : List α} (s : SlA h (fun x => [f x]) 1 v xs) : SlF h f v xs := by
  have := s.2
  rw [flat_one] at this
  exact this
theorem Opn.ints (ht : P.underlying t = some (.slice e)) (he : P.underlying e = some (.int .i64)) (hc : P.cellsOf e = 1) (h : Opn P w t cs) :
    ∃ v xs, cs = [v] ∧ SlF w.heap I v xs ∧ (∀ x ∈ xs, ib64 x) ∧ xs.length ≤ maxLen := by
  obtain ⟨v, xs, h1, h2, h3, h4⟩ := h.rowA (f := fun x => [I x]) (R := ib64) ht hc Nat.zero_lt_one (fun _ => rfl) (fun c hc => Opn.i64 he hc)
  exact ⟨v, xs, h1, h2.one', h3, h4⟩
/-- A row of int, told with its front. -/
def RowI (h : Hp) (x : Value × List Int) : Prop := SlF h I x.1 x.2 ∧ (∀ z ∈ x.2, ib64 z) ∧ x.2.length ≤ maxLen
theorem Opn.introws {e2 : TypeId} (ht : P.underlying t = some (.slice e)) (he : P.underlying e = some (.slice e2)) (he2 : P.underlying e2 = some (.int .i64)) (hc : P.cellsOf e = 1) (hc2 : P.cellsOf e2 = 1) (h : Opn P w t cs) :
    ∃ v xs, cs = [v] ∧ SlF w.heap Prod.fst v xs ∧ (∀ x ∈ xs, RowI w.heap x) ∧ xs.length ≤ maxLen := by
  obtain ⟨v, xs, h1, h2, h3, h4⟩ := h.rowA (f := fun x : Value × List Int => [x.1]) (R := RowI w.heap) ht hc Nat.zero_lt_one (fun _ => rfl) (fun c hc => by
    obtain ⟨v, xs, g1, g2, g3, g4⟩ := Opn.ints he he2 hc2 hc
    exact ⟨(v, xs), g1, g2, g3, g4⟩)
  exact ⟨v, xs, h1, h2.one', h3, h4⟩
theorem arg_ints {v : Value} (ht : P.underlying t = some (.slice e)) (he : P.underlying e = some (.int .i64)) (hc : P.cellsOf e = 1) (hv : ∃ a len cap, v = .slice a len cap) (h : Opn P w t v.cells.toList) :
    ∃ xs, SlF w.heap I v xs ∧ (∀ x ∈ xs, ib64 x) ∧ xs.length ≤ maxLen := by
  obtain ⟨a, len, cap, rfl⟩ := hv
  obtain ⟨v, xs, e1, h2⟩ := h.ints ht he hc
  simp [Value.cells] at e1
  subst e1
  exact ⟨xs, h2⟩
theorem arg_introws {e2 : TypeId} {v : Value} (ht : P.underlying t = some (.slice e)) (he : P.underlying e = some (.slice e2)) (he2 : P.underlying e2 = some (.int .i64)) (hc : P.cellsOf e = 1) (hc2 : P.cellsOf e2 = 1) (hv : ∃ a len cap, v = .slice a len cap) (h : Opn P w t v.cells.toList) :
    ∃ xs, SlF w.heap Prod.fst v xs ∧ (∀ x ∈ xs, RowI w.heap x) ∧ xs.length ≤ maxLen := by
  obtain ⟨a, len, cap, rfl⟩ := hv
  obtain ⟨v, xs, e1, h2⟩ := h.introws ht he he2 hc hc2
  simp [Value.cells] at e1
  subst e1
  exact ⟨xs, h2⟩
/-- A part of a struct. -/
theorem Opn.part {fs : Array Field} {tt : TypeId} {off s : Nat} (ht : P.underlying t = some (.struct fs)) (i : Nat) (hi : (fs[i]?).map (fun f => (f.type, f.offset, P.cellsOf f.type)) = some (tt, off, s)) (h : Opn P w t cs) : Opn P w tt ((cs.drop off).take s) := by
  obtain ⟨-, g2⟩ := h.struct ht
  cases hf : fs[i]? with
  | none => rw [hf] at hi; cases hi
  | some f =>
    rw [hf] at hi
    simp only [Option.map_some, Option.some.injEq, Prod.mk.injEq] at hi
    obtain ⟨rfl, rfl, rfl⟩ := hi
    exact g2 i f hf
theorem Opn.width {fs : Array Field} {s : Nat} (ht : P.underlying t = some (.struct fs)) (hc : P.cellsOf t = s) (h : Opn P w t cs) : cs.length = s := by
  obtain ⟨g1, -⟩ := h.struct ht
  rw [g1, hc]
end
end Go.Den

/- What the listed table reads as when the call begins. No condition. -/
namespace Go.Proofs.YtfcmdefigldpnaaDoor
set_option linter.unusedVariables false
set_option maxRecDepth 8000
open Go Go.Den Go.RowKit Go.ChangeShapes Go.WideShapes

def laidL : List (String × DataW Unit) := [("math/bits.deBruijn64tab", Rows.laid_math_bits_deBruijn64tab)]
theorem laid_eq : (Rows.laid_math_bits_deBruijn64tab : DataW Unit) = .agg (tzT.map fun b => .lit (.int .u8 ((b : Nat) : Int))) := rfl
theorem gTab : Tryd.prog.globalNamed "math/bits.deBruijn64tab" = some 2 := by kernel_rfl
theorem tTab : (Tryd.prog.globals[2]?).map (·.type) = some 152 := by kernel_rfl
theorem tb_of_laid {W : World} (h : laidMetH Tryd.prog laidL W) : TB W.heap := by
  rw [MakeChecks.laidMetH_plain _ _ _ (by kernel_rfl)] at h
  obtain ⟨ps, ⟨g0, t0, cs0, f0, p0, q0, hg0, ht0, hv0, hd0, hrest⟩, hrest2⟩ := h
  obtain rfl := Option.some.inj (gTab.symm.trans hg0)
  obtain rfl := Option.some.inj (tTab.symm.trans ht0)
  rw [laid_eq] at hd0
  obtain ⟨xs, m1, -, hx1, hlen, hn, hel⟩ := DataW.trod_array Tryd.underlying152 hd0
  have c5 : Tryd.prog.cellsOf 5 = 1 := by kernel_rfl
  simp only [Prod.mk.injEq, DataW.agg.injEq] at hx1
  have key : ∀ j, j < 64 → cs0.toList[j]? = some (.int .u8 ((tzT.getD j 0 : Nat) : Int)) := fun j hj => by
    have hxj : xs[j]? = some xs[j] := List.getElem?_eq_getElem (by omega)
    have h1 := hel j hj
    rw [c5, Nat.mul_one, hxj] at h1
    obtain ⟨k, e1, e2, -⟩ := DataW.trod_int Tryd.underlying5 h1
    have h2 := congrArg (fun l => l[j]?) hx1.1
    simp only [List.getElem?_map, hxj, Option.map_some] at h2
    rw [List.getElem?_eq_getElem (show j < tzT.length from hj), Option.map_some, Option.some.injEq] at h2
    rw [e2] at h2
    simp only [DataW.lit.injEq, Lit.int.injEq, true_and] at h2
    have h3 : (List.drop j cs0.toList)[0]? = some (Value.int .u8 k) := by
      have : ((List.drop j cs0.toList).take 1)[0]? = some (Value.int .u8 k) := by rw [e1]; rfl
      rwa [List.getElem?_take, if_pos (by omega)] at this
    rw [List.getElem?_drop, Nat.add_zero] at h3
    rw [h3, List.getD_eq_getElem?_getD, List.getElem?_eq_getElem (show j < tzT.length from hj), Option.getD_some, h2]
  refine ⟨_, 0, rfl, fun j u hu => ?_⟩
  rw [List.getElem?_map, Option.map_eq_some_iff] at hu
  obtain ⟨b, hb, rfl⟩ := hu
  have hj : j < 64 := (List.getElem?_eq_some_iff.1 hb).1
  have h4 := World.var?_cell hg0 hv0 j
  rw [cell?_cellH] at h4
  rw [Nat.zero_add, h4]
  have h5 := key j hj
  rw [List.getD_eq_getElem?_getD, hb, Option.getD_some] at h5
  simpa using h5

/-- The heap that the program's own start leaves meets the condition. -/
theorem door_met (os : Os) (args : Array Value) : laidMetH Tryd.prog laidL ((World.doorLaid Tryd.prog 400 os).forCall (fun _ _ => 0) ⟨#[], args, []⟩).memory :=
  laidMetH_of_parts3 (fuel := 8) (laidMet_of_run' 8 (by kernel_rfl) (by kernel_rfl)) (by kernel_rfl) (by kernel_rfl)
end Go.Proofs.YtfcmdefigldpnaaDoor

/- What parameters that came in read as, with the bounds of their ints. No condition. -/
namespace Go.Proofs.YtfcmdefigldpnaaDoor
set_option linter.unusedVariables false
set_option maxRecDepth 8000
open Go Go.Den Go.RowKit Go.ChangeShapes Go.WideShapes

theorem opn_parQ {w : World} {v : Value} (hv : ∃ cs, v = .agg cs) (h : Opn Tryd.prog w 25 v.cells.toList) : ∃ p : ParD, v = .agg p.cells.toArray ∧ ParA0 w.heap p ∧ ib64 p.n ∧ ib64 p.w := by
  obtain ⟨cs, rfl⟩ := hv
  have hl := h.width (P := Tryd.prog) Tryd.underlying25 (s := 4) (by kernel_rfl)
  obtain ⟨a0, h0, i0⟩ := (h.part (P := Tryd.prog) Tryd.underlying25 0 (tt := 3) (off := 0) (s := 1) (by kernel_rfl)).i64 (by kernel_rfl)
  obtain ⟨z1, h1, w1⟩ := (h.part (P := Tryd.prog) Tryd.underlying25 1 (tt := 22) (off := 1) (s := 1) (by kernel_rfl)).int (k := .u64) (by kernel_rfl)
  obtain ⟨v2, x2, h2, s2, b2, l2⟩ := opn_words (e := 22) (by kernel_rfl) (by kernel_rfl) (by kernel_rfl) (h.part (P := Tryd.prog) Tryd.underlying25 2 (tt := 23) (off := 2) (s := 1) (by kernel_rfl))
  obtain ⟨a3, h3, i3⟩ := (h.part (P := Tryd.prog) Tryd.underlying25 3 (tt := 3) (off := 3) (s := 1) (by kernel_rfl)).i64 (by kernel_rfl)
  obtain ⟨n1, rfl, b1⟩ := nat_of_lit w1
  simp only [Value.cells] at hl h0 h1 h2 h3
  obtain ⟨cs, rfl⟩ : ∃ l : List Value, cs = l.toArray := ⟨cs.toList, by simp⟩
  simp only [] at hl h0 h1 h2 h3
  match cs, hl with
  | [c0, c1, c2, c3], _ =>
    simp at h0 h1 h2 h3
    subst h0 h1 h2 h3
    have hl2 : x2.length < 9223372036854775808 := Nat.lt_of_le_of_lt l2 (by decide)
    exact ⟨⟨a0, n1, c2, x2, a3⟩, rfl, ⟨s2, b2, b1, hl2⟩, i0, i3⟩
end Go.Proofs.YtfcmdefigldpnaaDoor

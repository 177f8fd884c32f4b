/- Package crt: the fixed calls, and the law of sums and products. Condition: the table of math/bits reads as it is laid. -/
import Derived.Test.YtajgcmgkhmkmbaaDoorCrtB
namespace Go.Proofs.YtajgcmgkhmkmbaaDoor
set_option linter.unusedVariables false
set_option maxRecDepth 8000
open Go Go.Den Go.RowKit Go.Dig

theorem right57 : rightP [5, 7] := by decide +kernel

theorem Tryd_ent34 : Ent Tryd.prog 34 := ent_of Tryd.func34 (by kernel_rfl) rfl
set_option maxHeartbeats 1000000 in
theorem wholeW_spec (vr vw : Value) (h : Hp) (T : TB h) (sr : SlF h U vr [2, 3]) (sw : SlF h U vw [5, 7]) :
    CallsH Tryd.prog 34 [vr, vw] h fun v' h' => Ext h h' ∧ ∃ a, v' = .tuple #[.agg #[.bool false, a], N 0] ∧ SlF h' U a (dg 18446744073709551616 17) := by
  (apply enter Tryd.func34 rfl Tryd.ntmps34 rfl)
  refine runJ ?_
  (apply s_alloc; exact rfl; exact rfl; exact rfl)
  intro p h1 x1 e1 b1
  (try dsimp only [Value.cells, List.toList_toArray] at x1)
  refine ⟨(by first | exact trivial | exact Ext.refl _ | assumption | exact Ext.trans (by assumption) (by assumption)), ?_⟩
  refine runJ ?_
  apply (s_call Tryd_ent38 rfl rfl rfl)
  refine (right_spec vw [5, 7] h1 (T.ext e1) (sw.ext e1) (by intro x hx; simp at hx; omega) (by decide)).mono ?_
  rintro _ h2 ⟨rfl, e2⟩
  refine ⟨(by first | exact trivial | exact trivial), ?_⟩
  rw [decide_eq_true right57]
  have e12 := e1.trans e2
  have x2 := x1.ext e2
  have sr2 := sr.ext e12
  have sw2 := sw.ext e12
  refine runJ ?_
  (first | (apply w_seqB; exact rfl; apply w_block; exact rfl) | skip)
  apply (w_loop (σ := Nat) rfl (fun j => [(0, vr), (1, vw), (4, p), (20, vr), (21, N 2), (22, N j)])
    (fun j h' => h2 = h' ∧ j ≤ 2) (fun j => 2 - j) 0)
  · exact (Sub.cons rfl (Sub.cons rfl (Sub.cons rfl (Sub.cons rfl (Sub.cons rfl (Sub.cons rfl (Sub.nil _)))))))
  · exact ⟨rfl, Nat.zero_le _⟩
  rintro j h3 ⟨rfl, j1⟩
  refine runJ ?_
  (apply w_condD; exact rfl; exact rfl) <;> intro hj
  · obtain ⟨r, hr⟩ := get_lt (l := [2, 3]) (j := j) hj
    obtain ⟨q, hq⟩ := get_lt (l := [5, 7]) (j := j) hj
    have hrq : ¬ q ≤ r := by
      rcases (show j = 0 ∨ j = 1 by omega) with rfl | rfl
      · cases hr; cases hq; decide
      · cases hr; cases hq; decide
    refine runJ ?_
    (apply w_condF; exact rfl; exact rfl; exact hrq)
    refine runJ ?_
    apply again_normal (j + 1)
    · exact (Sub.cons rfl (Sub.cons rfl (Sub.cons rfl (Sub.cons rfl (Sub.cons rfl (Sub.cons rfl (Sub.nil _)))))))
    · exact ⟨rfl, hj⟩
    · omega
  · refine runJ ?_
    apply (s_call Tryd_ent64 rfl rfl rfl)
    refine (whole57_spec vr vw h2 sr2 sw2).mono ?_
    rintro _ h3 ⟨e3, a, rfl, sa, na⟩
    refine ⟨(by first | exact trivial | exact trivial), ?_⟩
    have x3 := x2.ext e3
    have a1 : a.oneCell' = true := sa.one
    have hne : a.ownBlock = none ∨ a.ownBlock ≠ pblk p := ne_of_some fun k hk e => by
      have := na k hk
      rw [b1] at e
      have h3 := Option.some.inj e
      obtain ⟨q, hq, hl⟩ := x2.blk
      rw [b1] at hq
      have h4 := Option.some.inj hq
      omega
    refine runJ ?_
    apply s_storeV (us := [.bool false, a]) rfl rfl rfl (OneAll.cons rfl (OneAll.cons a1 OneAll.nil)) rfl rfl x3 rfl
    intro h4 x4 k4
    refine ⟨trivial, ?_⟩
    have e4 := k4.oldV (e12.trans e3) b1 (Nat.le_refl _)
    refine runJ ?_
    exact finCT rfl rfl rfl x4 rfl rfl ⟨e4, a, rfl, sa.only k4 hne⟩

theorem Tryd_ent36 : Ent Tryd.prog 36 := ent_of Tryd.func36 (by kernel_rfl) rfl
theorem sameU_spec (va vb : Value) (xs ys : List Nat) (h : Hp) (ha : SlF h U va xs) (hb : SlF h U vb ys) (hl : xs.length < 4611686018427387904) (hl2 : ys.length < 4611686018427387904) :
    CallsH Tryd.prog 36 [va, vb] h fun v' h' => v' = .bool (decide (xs = ys)) ∧ h = h' := by
  (apply enter Tryd.func36 rfl Tryd.ntmps36 rfl)
  refine runJ ?_
  (apply w_condD; exact rfl; exact rfl) <;> intro hne
  · refine runJ ?_
    exact fin1 rfl rfl ⟨dec_f (fun e => hne (by rw [e])), rfl⟩
  have hle : xs.length = ys.length := by omega
  refine runJ ?_
  (first | (apply w_seqB; exact rfl; apply w_block; exact rfl) | skip)
  apply (w_loop (σ := Nat) rfl (fun j => [(0, va), (1, vb), (12, N xs.length), (13, N j)])
    (fun j h' => h = h' ∧ j ≤ xs.length ∧ ∀ (i : Nat) (x y : Nat), i < j → xs[i]? = some x → ys[i]? = some y → x = y) (fun j => xs.length - j) 0)
  · exact (Sub.cons rfl (Sub.cons rfl (Sub.cons rfl (Sub.cons rfl (Sub.nil _)))))
  · exact ⟨rfl, Nat.zero_le _, fun i x y hi => by omega⟩
  rintro j h' ⟨rfl, j1, j2⟩
  refine runJ ?_
  (apply w_condD; exact rfl; exact rfl) <;> intro hj
  · obtain ⟨x, hx⟩ := get_lt hj
    obtain ⟨y, hy⟩ := get_lt (l := ys) (j := j) (by omega)
    refine runJ ?_
    (apply w_condD; exact rfl; exact rfl) <;> intro hd
    · refine runJ ?_
      exact fin1 rfl rfl ⟨dec_f (list_ne hx hy hd), rfl⟩
    · refine runJ ?_
      apply again_normal (j + 1)
      · exact (Sub.cons rfl (Sub.cons rfl (Sub.cons rfl (Sub.cons rfl (Sub.nil _)))))
      · refine ⟨rfl, hj, fun i x' y' hi hx' hy' => ?_⟩
        rcases Nat.lt_succ_iff_lt_or_eq.1 hi with hi | rfl
        · exact j2 i x' y' hi hx' hy'
        · rw [hx] at hx'; rw [hy] at hy'; cases hx'; cases hy'; exact Decidable.of_not_not hd
      · omega
  · refine runJ ?_
    exact fin1 rfl rfl ⟨dec_t (list_eq hle fun i x y hx hy => j2 i x y (by have := (List.getElem?_eq_some_iff.1 hx).1; omega) hx hy), rfl⟩

theorem Tryd_ent8 : Ent Tryd.prog 8 := ent_of Tryd.func8 (by kernel_rfl) rfl
set_option maxHeartbeats 1000000 in
theorem fixed_spec (h : Hp) (T : TB h) : CallsH Tryd.prog 8 [] h fun v' h' => v' = .bool true ∧ Ext h h' := by
  have al57 : Al 18446744073709551616 [5, 7] := by intro x hx; simp at hx; omega
  (apply enter Tryd.func8 rfl Tryd.ntmps8 rfl)
  refine runJ ?_
  (apply (s_litF (f := U) [2, 3] (fun _ => rfl)); exact rfl; exact rfl; exact rfl; exact rfl; exact rfl; exact rfl; exact rfl; exact rfl; omega)
  intro w1 h1 o1 e1 b1
  refine ⟨(by first | exact trivial | exact Ext.refl _ | assumption | exact Ext.trans (by assumption) (by assumption)), ?_⟩
  refine runJ ?_
  (apply (s_litF (f := U) [5, 7] (fun _ => rfl)); exact rfl; exact rfl; exact rfl; exact rfl; exact rfl; exact rfl; exact rfl; exact rfl; omega)
  intro w2 h2 o2 e2 b2
  refine ⟨(by first | exact trivial | exact Ext.refl _ | assumption | exact Ext.trans (by assumption) (by assumption)), ?_⟩
  have T2 := (T.ext e1).ext e2
  refine runJ ?_
  apply (s_call Tryd_ent34 rfl rfl rfl)
  refine (wholeW_spec w1 w2 h2 T2 (o1.sl.ext e2) o2.sl).mono ?_
  rintro _ h3 ⟨e3, a, rfl, sa⟩
  refine ⟨(by first | exact trivial | exact trivial), ?_⟩
  have a1 : a.oneCell' = true := sa.one
  have E3 := (e1.trans e2).trans e3
  refine runJ ?_
  (apply s_alloc; exact rfl; exact rfl; exact rfl)
  intro p h4 x4 e4 b4
  (try dsimp only [Value.cells, List.toList_toArray] at x4)
  refine ⟨(by first | exact trivial | exact Ext.refl _ | assumption | exact Ext.trans (by assumption) (by assumption)), ?_⟩
  refine runJ ?_
  apply s_storeV (us := [.bool false, a]) rfl rfl rfl (OneAll.cons rfl (OneAll.cons a1 OneAll.nil)) rfl rfl x4 rfl
  intro h5 x5 k5
  refine ⟨trivial, ?_⟩
  have e5 := k5.oldV e4 b4 (Nat.le_refl _)
  have sa5 := sa.ext e5
  have E5 := E3.trans e5
  refine runJ ?_
  (apply (s_litF (f := U) [1] (fun _ => rfl)); exact rfl; exact rfl; exact rfl; exact rfl; exact rfl; exact rfl; exact rfl; exact rfl; omega)
  intro w6 h6 o6 e6 b6
  refine ⟨(by first | exact trivial | exact Ext.refl _ | assumption | exact Ext.trans (by assumption) (by assumption)), ?_⟩
  refine runJ ?_
  (apply (s_build ([.bool true, w6])); exact rfl; exact rfl; exact rfl; (repeat (first | exact CellsAll.nil | (apply CellsAll.cons; (first | exact oneL (by assumption) | exact oneL (SlF.one (by assumption)) | exact oneL (SlF.one (OwnF.sl (by assumption))) | exact oneL (Var.one (by assumption)) | exact rfl)))); exact rfl; exact rfl)
  refine runJ ?_
  (apply (s_litF (f := U) [5, 7] (fun _ => rfl)); exact rfl; exact rfl; exact rfl; exact rfl; exact rfl; exact rfl; exact rfl; exact rfl; omega)
  intro w7 h7 o7 e7 b7
  refine ⟨(by first | exact trivial | exact Ext.refl _ | assumption | exact Ext.trans (by assumption) (by assumption)), ?_⟩
  have E7 := (E5.trans e6).trans e7
  have F := residues_spec true w6 w7 [1] [5, 7] h7 (T.ext E7) (o6.sl.ext e7) (by intro x hx; simp at hx; omega) (by decide) o7.sl al57 (by decide)
  simp only [right57, if_true] at F
  refine runJ ?_
  apply (s_call Tryd_ent9 rfl rfl rfl)
  refine (F).mono ?_
  rintro _ h8 ⟨e8, u, rfl, o8⟩
  refine ⟨(by first | exact trivial | exact trivial), ?_⟩
  have hu : [5, 7].map (liftm (IV true (vl 18446744073709551616 [1]))) = [4, 6] := by decide
  rw [hu] at o8
  have E8 := E7.trans e8
  have x8 := ((x5.ext e6).ext e7).ext e8
  have sa8 := ((sa5.ext e6).ext e7).ext e8
  refine runJ ?_
  (apply (s_litF (f := U) [17] (fun _ => rfl)); exact rfl; exact rfl; exact rfl; exact rfl; exact rfl; exact rfl; exact rfl; exact rfl; omega)
  intro w9 h9 o9 e9 b9
  refine ⟨(by first | exact trivial | exact Ext.refl _ | assumption | exact Ext.trans (by assumption) (by assumption)), ?_⟩
  have d17 : dg 18446744073709551616 17 = [17] := by decide
  have d35 : dg 18446744073709551616 35 = [35] := by decide
  refine runJ ?_
  (apply (s_build ([.bool false, w9])); exact rfl; exact rfl; exact rfl; (repeat (first | exact CellsAll.nil | (apply CellsAll.cons; (first | exact oneL (by assumption) | exact oneL (SlF.one (by assumption)) | exact oneL (SlF.one (OwnF.sl (by assumption))) | exact oneL (Var.one (by assumption)) | exact rfl)))); exact rfl; exact rfl)
  refine runJ ?_
  apply (s_call Tryd_ent35 rfl rfl rfl)
  refine (sameInt_spec _ _ 17 17 h9 ⟨a, rfl, sa8.ext e9⟩ ⟨w9, rfl, by rw [show ((17 : Int).natAbs) = 17 from rfl, d17]; exact o9.sl⟩ (by decide)).mono ?_
  rintro _ h10 ⟨rfl, e10⟩
  refine ⟨(by first | exact trivial | exact trivial), ?_⟩
  have o10 := (o8.sl.ext e9).ext e10
  refine runJ ?_
  (apply (s_litF (f := U) [4, 6] (fun _ => rfl)); exact rfl; exact rfl; exact rfl; exact rfl; exact rfl; exact rfl; exact rfl; exact rfl; omega)
  intro w11 h11 o11 e11 b11
  refine ⟨(by first | exact trivial | exact Ext.refl _ | assumption | exact Ext.trans (by assumption) (by assumption)), ?_⟩
  refine runJ ?_
  apply (s_call Tryd_ent36 rfl rfl rfl)
  refine (sameU_spec u w11 [4, 6] [4, 6] h11 (o10.ext e11) o11.sl (by decide) (by decide)).mono ?_
  rintro _ _ ⟨rfl, rfl⟩
  refine ⟨(by first | exact trivial | exact Ext.refl _ | assumption | exact Ext.trans (by assumption) (by assumption)), ?_⟩
  refine runJ ?_
  (apply (s_litF (f := U) [5, 7] (fun _ => rfl)); exact rfl; exact rfl; exact rfl; exact rfl; exact rfl; exact rfl; exact rfl; exact rfl; omega)
  intro w12 h12 o12 e12 b12
  refine ⟨(by first | exact trivial | exact Ext.refl _ | assumption | exact Ext.trans (by assumption) (by assumption)), ?_⟩
  have hp : (if [5, 7] = [] then [1] else dg 18446744073709551616 (prodL [5, 7])) = [35] := by decide
  have G := product_spec w12 [5, 7] h12 o12.sl al57 (by decide)
  rw [hp] at G
  refine runJ ?_
  apply (s_call Tryd_ent37 rfl rfl rfl)
  refine (G).mono ?_
  rintro w13 h13 ⟨e13, o13⟩
  refine ⟨(by first | exact trivial | exact trivial), ?_⟩
  refine runJ ?_
  (apply (s_litF (f := U) [35] (fun _ => rfl)); exact rfl; exact rfl; exact rfl; exact rfl; exact rfl; exact rfl; exact rfl; exact rfl; omega)
  intro w14 h14 o14 e14 b14
  refine ⟨(by first | exact trivial | exact Ext.refl _ | assumption | exact Ext.trans (by assumption) (by assumption)), ?_⟩
  refine runJ ?_
  apply (s_call Tryd_ent17 rfl rfl rfl)
  refine (same_spec w13 w14 [35] [35] h14 (o13.sl.ext e14) o14.sl (by decide)).mono ?_
  rintro _ _ ⟨rfl, rfl⟩
  refine ⟨(by first | exact trivial | exact Ext.refl _ | assumption | exact Ext.trans (by assumption) (by assumption)), ?_⟩
  have EE := (((((E8.trans e9).trans e10).trans e11).trans e12).trans e13).trans e14
  refine runJ ?_
  exact fin1 rfl rfl ⟨rfl, EE⟩

theorem lift_add (x y : Int) (q : Nat) : liftm (x + y) q = addm (liftm x q) (liftm y q) q := by
  unfold liftm addm
  split
  · rfl
  · rename_i h
    have hx := Int.emod_nonneg x (b := (q : Int)) (by omega)
    have hy := Int.emod_nonneg y (b := (q : Int)) (by omega)
    have e : ((x + y) % (q : Int)) = (((x % (q : Int)).toNat + (y % (q : Int)).toNat) % q : Nat) := by
      rw [Int.natCast_emod, Int.natCast_add, Int.toNat_of_nonneg hx, Int.toNat_of_nonneg hy, ← Int.add_emod]
    rw [e, Int.toNat_natCast]
theorem lift_mul (x y : Int) (q : Nat) : liftm (x * y) q = mulm (liftm x q) (liftm y q) q := by
  unfold liftm mulm
  split
  · rfl
  · rename_i h
    have hx := Int.emod_nonneg x (b := (q : Int)) (by omega)
    have hy := Int.emod_nonneg y (b := (q : Int)) (by omega)
    have e : ((x * y) % (q : Int)) = (((x % (q : Int)).toNat * (y % (q : Int)).toNat) % q : Nat) := by
      rw [Int.natCast_emod, Int.natCast_mul, Int.toNat_of_nonneg hx, Int.toNat_of_nonneg hy, ← Int.mul_emod]
    rw [e, Int.toNat_natCast]
theorem iv_of (z : Int) : IV (decide (z < 0)) z.natAbs = z := by
  unfold IV
  by_cases h : z < 0
  · simp [h]; omega
  · simp [h]; omega
theorem iv_natAbs (n : Bool) (X : Nat) : (IV n X).natAbs = X := (iv_abs n X).1
theorem lift_lt64 {z : Int} {q : Nat} (hq : q < 18446744073709551616) : liftm z q < 18446744073709551616 := by
  unfold liftm
  split
  · omega
  · have := Int.emod_lt_of_pos z (b := (q : Int)) (by omega)
    have := Int.emod_nonneg z (b := (q : Int)) (by omega)
    omega

theorem Tryd_ent3 : Ent Tryd.prog 3 := ent_of Tryd.func3 (by kernel_rfl) rfl
set_option maxHeartbeats 4000000 in
theorem crtGoes_law (n1 n2 : Bool) (va vb vr : Value) (xs ys row : List Nat) (h : Hp) (T : TB h) (sa : SlF h U va xs) (sb : SlF h U vb ys) (sr : SlF h U vr row) (ha : Al 18446744073709551616 xs) (hb : Al 18446744073709551616 ys) (hr : Al 18446744073709551616 row) :
    CallsH Tryd.prog 3 [.agg #[.bool n1, va], .agg #[.bool n2, vb], vr] h fun v' h' => v' = .bool true ∧ Ext h h' := by
  have b64 : (1 : Nat) < 18446744073709551616 := by decide
  have b640 : (0 : Nat) < 18446744073709551616 := by decide
  (apply enter Tryd.func3 rfl Tryd.ntmps3 rfl)
  refine runJ ?_
  (apply s_box; exact rfl; exact rfl; exact rfl; exact rfl)
  intro p1 h1 x1 e1 b1
  (try dsimp only [Value.cells, List.toList_toArray] at x1)
  refine ⟨(by first | exact trivial | exact Ext.refl _ | assumption | exact Ext.trans (by assumption) (by assumption)), ?_⟩
  refine runJ ?_
  (apply s_box; exact rfl; exact rfl; exact rfl; exact rfl)
  intro p2 h2 x2 e2 b2
  (try dsimp only [Value.cells, List.toList_toArray] at x2)
  refine ⟨(by first | exact trivial | exact Ext.refl _ | assumption | exact Ext.trans (by assumption) (by assumption)), ?_⟩
  have E2 := e1.trans e2
  have x12 := x1.ext e2
  refine runJ ?_
  apply (s_call Tryd_ent8 rfl rfl rfl)
  refine (fixed_spec h2 (T.ext E2)).mono ?_
  rintro _ h3 ⟨rfl, e3⟩
  refine ⟨(by first | exact trivial | exact trivial), ?_⟩
  have E3 := E2.trans e3
  have y1 := x12.ext e3
  have y2 := x2.ext e3
  have sa3 := sa.ext E3
  have sb3 := sb.ext E3
  have sr3 := sr.ext E3
  refine runJ ?_
  (apply s_splitG; exact rfl; exact rfl; exact rfl; exact rfl) <;> intro g1
  · refine runJ ?_
    exact fin1 rfl rfl ⟨rfl, E3⟩
  refine runJ ?_
  (apply s_splitG; exact rfl; exact rfl; exact rfl; exact rfl) <;> intro g2
  · refine runJ ?_
    exact fin1 rfl rfl ⟨rfl, E3⟩
  refine runJ ?_
  (apply w_condD; exact rfl; exact rfl) <;> intro g3
  · refine runJ ?_
    exact fin1 rfl rfl ⟨rfl, E3⟩
  generalize hX : vl 18446744073709551616 xs = X at *
  generalize hY : vl 18446744073709551616 ys = Y at *
  have hXl := vl_lt ha
  have hYl := vl_lt hb
  rw [hX] at hXl
  rw [hY] at hYl
  have F1 := residues_spec n1 va vr xs row h3 (T.ext E3) sa3 ha (by omega) sr3 hr (by omega)
  rw [hX] at F1
  refine runJ ?_
  apply (s_call Tryd_ent9 rfl rfl rfl)
  refine (F1).mono ?_
  rintro _ h4 ⟨e4, u1, rfl, o4⟩
  refine ⟨(by first | exact trivial | exact trivial), ?_⟩
  have E4 := E3.trans e4
  have y14 := y1.ext e4
  have y24 := y2.ext e4
  have F2 := residues_spec n2 vb vr ys row h4 (T.ext E4) (sb.ext E4) hb (by omega) (sr.ext E4) hr (by omega)
  rw [hY] at F2
  refine runJ ?_
  apply (s_call Tryd_ent9 rfl rfl rfl)
  refine (F2).mono ?_
  rintro _ h5 ⟨e5, u2, rfl, o5⟩
  refine ⟨(by first | exact trivial | exact trivial), ?_⟩
  have E5 := E4.trans e5
  have y15 := y14.ext e5
  have y25 := y24.ext e5
  have S5 := rsum_spec n1 n2 va vb xs ys h5 (sa.ext E5) (sb.ext E5) ha hb (by omega) (by omega)
  rw [hX, hY] at S5
  refine runJ ?_
  apply (s_call Tryd_ent10 rfl rfl rfl)
  refine (S5).mono ?_
  rintro _ h6 ⟨e6, a6, rfl, o6⟩
  refine ⟨(by first | exact trivial | exact trivial), ?_⟩
  have E6 := E5.trans e6
  have hpow : 18446744073709551616 ^ xs.length ≤ 18446744073709551616 ^ 20 := Nat.pow_le_pow_right (by decide) (by omega)
  have hpow2 : 18446744073709551616 ^ ys.length ≤ 18446744073709551616 ^ 20 := Nat.pow_le_pow_right (by decide) (by omega)
  have hz1 : (IV n1 X + IV n2 Y).natAbs ≤ X + Y := by
    have := Int.natAbs_add_le (IV n1 X) (IV n2 Y)
    rwa [iv_natAbs, iv_natAbs] at this
  have hz2 : (IV n1 X * IV n2 Y).natAbs = X * Y := by rw [Int.natAbs_mul, iv_natAbs, iv_natAbs]
  have hl1 : (dg 18446744073709551616 (IV n1 X + IV n2 Y).natAbs).length ≤ 21 := dg_len b64 (by
    rw [Nat.pow_succ]
    generalize 18446744073709551616 ^ 20 = W at *
    generalize 18446744073709551616 ^ xs.length = W1 at *
    generalize 18446744073709551616 ^ ys.length = W2 at *
    omega)
  have hl2 : (dg 18446744073709551616 (IV n1 X * IV n2 Y).natAbs).length ≤ 40 := dg_len b64 (by
    rw [hz2, show (40 : Nat) = 20 + 20 from rfl, Nat.pow_add]
    exact Nat.mul_lt_mul_of_lt_of_lt (Nat.lt_of_lt_of_le hXl hpow) (Nat.lt_of_lt_of_le hYl hpow2))
  have F3 := residues_spec (decide (IV n1 X + IV n2 Y < 0)) a6 vr _ row h6 (T.ext E6) o6.sl (al_dg b640 _) (by omega) (sr.ext E6) hr (by omega)
  rw [vl_dg b64, iv_of] at F3
  refine runJ ?_
  apply (s_call Tryd_ent9 rfl rfl rfl)
  refine (F3).mono ?_
  rintro _ h7 ⟨e7, u3, rfl, o7⟩
  refine ⟨(by first | exact trivial | exact trivial), ?_⟩
  have E7 := E6.trans e7
  have y17 := (y15.ext e6).ext e7
  have y27 := (y25.ext e6).ext e7
  have S7 := rtimes_spec n1 n2 va vb xs ys h7 (sa.ext E7) (sb.ext E7) ha hb (by omega) (by omega)
  rw [hX, hY] at S7
  refine runJ ?_
  apply (s_call Tryd_ent11 rfl rfl rfl)
  refine (S7).mono ?_
  rintro _ h8 ⟨e8, a8, rfl, o8⟩
  refine ⟨(by first | exact trivial | exact trivial), ?_⟩
  have E8 := E7.trans e8
  have F4 := residues_spec (decide (IV n1 X * IV n2 Y < 0)) a8 vr _ row h8 (T.ext E8) o8.sl (al_dg b640 _) (by omega) (sr.ext E8) hr (by omega)
  rw [vl_dg b64, iv_of] at F4
  refine runJ ?_
  apply (s_call Tryd_ent9 rfl rfl rfl)
  refine (F4).mono ?_
  rintro _ h9 ⟨e9, u4, rfl, o9⟩
  refine ⟨(by first | exact trivial | exact trivial), ?_⟩
  have E9 := E8.trans e9
  have q1 := ((((o4.sl.ext e5).ext e6).ext e7).ext e8).ext e9
  have q2 := (((o5.sl.ext e6).ext e7).ext e8).ext e9
  have q3 := (o7.sl.ext e8).ext e9
  have q4 := o9.sl
  have sr9 := sr.ext E9
  by_cases hR : rightP row
  · simp only [hR, if_true] at q1 q2 q3 q4 ⊢
    refine runJ ?_
    (apply s_splitG; exact rfl; exact rfl; exact rfl; exact rfl)
    · intro hn; exact absurd (by simp) hn
    intro _
    refine runJ ?_
    (apply s_splitG; exact rfl; exact rfl; exact rfl; exact rfl)
    · intro hn; exact absurd (by simp) hn
    intro _
    refine runJ ?_
    (apply s_splitG; exact rfl; exact rfl; exact rfl; exact rfl)
    · intro hn; exact absurd (by simp) hn
    intro _
    refine runJ ?_
    (apply w_condF; exact rfl; exact rfl; exact (by simp))
    refine runJ ?_
    (first | (apply w_seqB; exact rfl; apply w_block; exact rfl) | skip)
    apply (w_loop (σ := Nat) rfl (fun j => [(2, vr), (7, u1), (9, u2), (11, u3), (13, u4), (115, vr), (116, N row.length), (117, N j)])
      (fun j h' => h9 = h' ∧ j ≤ row.length) (fun j => row.length - j) 0)
    · exact (Sub.cons rfl (Sub.cons rfl (Sub.cons rfl (Sub.cons rfl (Sub.cons rfl (Sub.cons rfl (Sub.cons rfl (Sub.cons rfl (Sub.nil _)))))))))
    · exact ⟨rfl, Nat.zero_le _⟩
    rintro j h' ⟨rfl, j1⟩
    refine runJ ?_
    (apply w_condD; exact rfl; exact rfl) <;> intro hj
    · obtain ⟨q, hq⟩ := get_lt hj
      have hq64 := hr q (List.mem_of_getElem? hq)
      have i1 : (row.map (liftm (IV n1 X)))[j]? = some (liftm (IV n1 X) q) := by rw [List.getElem?_map, hq]; rfl
      have i2 : (row.map (liftm (IV n2 Y)))[j]? = some (liftm (IV n2 Y) q) := by rw [List.getElem?_map, hq]; rfl
      have i3 : (row.map (liftm (IV n1 X + IV n2 Y)))[j]? = some (liftm (IV n1 X + IV n2 Y) q) := by rw [List.getElem?_map, hq]; rfl
      have i4 : (row.map (liftm (IV n1 X * IV n2 Y)))[j]? = some (liftm (IV n1 X * IV n2 Y) q) := by rw [List.getElem?_map, hq]; rfl
      refine runJ ?_
      apply (s_call Tryd_ent12 rfl rfl rfl)
      refine (refAdd_spec (liftm (IV n1 X) q) (liftm (IV n2 Y) q) q h9 (lift_lt64 hq64) (lift_lt64 hq64) hq64).mono ?_
      rintro _ _ ⟨rfl, rfl⟩
      refine ⟨(by first | exact trivial | exact Ext.refl _), ?_⟩
      refine runJ ?_
      (apply s_splitG; exact rfl; exact rfl; exact rfl; exact rfl)
      · intro hn; exact absurd (lift_add _ _ _) hn
      intro _
      refine runJ ?_
      apply (s_call Tryd_ent13 rfl rfl rfl)
      refine (refMul_spec (liftm (IV n1 X) q) (liftm (IV n2 Y) q) q h9 (lift_lt64 hq64) (lift_lt64 hq64) hq64).mono ?_
      rintro _ _ ⟨rfl, rfl⟩
      refine ⟨(by first | exact trivial | exact Ext.refl _), ?_⟩
      refine runJ ?_
      (apply w_condF; exact rfl; exact rfl; exact (fun hn => hn (lift_mul _ _ _)))
      refine runJ ?_
      apply again_normal (j + 1)
      · exact (Sub.cons rfl (Sub.cons rfl (Sub.cons rfl (Sub.cons rfl (Sub.cons rfl (Sub.cons rfl (Sub.cons rfl (Sub.cons rfl (Sub.nil _)))))))))
      · exact ⟨rfl, hj⟩
      · omega
    · refine runJ ?_
      exact fin1 rfl rfl ⟨rfl, E9⟩
  · simp only [hR, if_false] at q1 q2 q3 q4 ⊢
    refine runJ ?_
    exact fin1 rfl rfl ⟨rfl, E9⟩
end Go.Proofs.YtajgcmgkhmkmbaaDoor

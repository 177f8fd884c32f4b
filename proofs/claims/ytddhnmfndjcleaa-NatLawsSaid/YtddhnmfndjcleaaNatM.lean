/- Naturals and whole numbers: long division by bits of the reference, and the functions on whole numbers. No condition. -/
import Derived.Test.YtddhnmfndjcleaaNatL
import Derived.Test.YtddhnmfndjcleaaDenG
namespace Go.Proofs.Ytddhnmfndjcleaa
set_option linter.unusedVariables false
open Go Go.Den Go.RowKit Go.Dig

/-- A whole number as it is told: its cells. -/
def wcells (neg : Bool) (v : Value) : List Value := [.bool neg, v]

theorem Try_ent50 : Ent Try.prog 50 := ent_of Try.func50 (by kernel_rfl) rfl
theorem whole_spec (neg : Bool) (va : Value) (xs : List Nat) (h : Hp) (ha : SlF h U va xs) (hx : Al 18446744073709551616 xs) (hl : xs.length < 1099511627776) :
    CallsH Try.prog 50 [.bool neg, va] h fun v' h' => ∃ v, v' = .agg #[.bool (neg && decide (vl 18446744073709551616 xs ≠ 0)), v] ∧ Ext h h' ∧ SlF h' U v (dg 18446744073709551616 (vl 18446744073709551616 xs)) ∧
      ∀ B e, OwnF h B e U va xs → OwnF h' B e U v (dg 18446744073709551616 (vl 18446744073709551616 xs)) := by
  (apply enter Try.func50 rfl Try.ntmps50 rfl)
  refine runG ?_
  (apply s_alloc; exact rfl; exact rfl; exact rfl)
  intro p h1 v1 e1 b1
  (try dsimp only [Value.cells, List.toList_toArray] at v1)
  refine ⟨(by first | exact trivial | exact Ext.refl _ | assumption | exact Ext.trans (by assumption) (by assumption)), ?_⟩
  refine runG ?_
  have ha1 := ha.ext e1
  apply (s_call Try_ent34 rfl rfl rfl)
  refine (norm_spec' va xs h1 ha1 (by omega)).mono ?_
  rintro vn _ ⟨rfl, sn⟩
  refine ⟨(by first | exact trivial | exact Ext.refl _ | assumption | exact Ext.trans (by assumption) (by assumption)), ?_⟩
  rw [nrm_eq (by omega) hx] at sn
  have hz : (dg 18446744073709551616 (vl 18446744073709551616 xs)).length = 0 ↔ vl 18446744073709551616 xs = 0 := dg_len0 (by omega)
  generalize hX : vl 18446744073709551616 xs = X at *
  generalize hD : dg 18446744073709551616 X = D at *
  have hDl : D.length < 1099511627776 := by
    have := nrm_len xs
    rw [nrm_eq (b := 18446744073709551616) (by omega) hx, hX, hD] at this; omega
  have sn1 := (sn h1).1 ha1
  cases neg with
  | true =>
    refine runG ?_
    (apply (s_build ([.bool (decide (0 < D.length)), vn])); exact rfl; exact rfl; exact rfl; (repeat (first | exact CellsAll.nil | (apply CellsAll.cons; (first | exact oneL (SlF.one (by assumption)) | exact oneL (SlF.one (OwnF.sl (by assumption))) | exact oneL (Var.one (by assumption)) | exact rfl)))); exact rfl; exact rfl)
    refine runG ?_
    (apply s_storeV; exact rfl; exact rfl; exact rfl; (repeat (first | exact OneAll.nil | (apply OneAll.cons; (first | exact rfl | exact SlF.one (by assumption) | exact SlF.one (OwnF.sl (by assumption)) | exact Var.one (by assumption))))); exact rfl; exact rfl; exact v1; exact rfl)
    intro h2 v2 k2
    (try dsimp only [Value.cells, List.toList_toArray] at v2)
    refine ⟨(by first | exact trivial | exact Ext.refl _ | assumption | exact Ext.only (by assumption) _ | exact Only.trans (Ext.only (by assumption) _) (by assumption)), ?_⟩
    have e2 : Ext h h2 := k2.old e1 (by intro k hk; rw [b1] at hk; cases hk; exact Nat.le_refl _)
    refine runG ?_
    refine finC rfl rfl v2 rfl rfl ⟨vn, ?_, e2, (sn h2).1 (ha.ext e2), fun B e o => (sn h2).2 B e (o.ext e2)⟩
    have : (0 < D.length) ↔ X ≠ 0 := by omega
    simp only [this, Bool.true_and]
  | false =>
    refine runG ?_
    (apply (s_build ([.bool false, vn])); exact rfl; exact rfl; exact rfl; (repeat (first | exact CellsAll.nil | (apply CellsAll.cons; (first | exact oneL (SlF.one (by assumption)) | exact oneL (SlF.one (OwnF.sl (by assumption))) | exact oneL (Var.one (by assumption)) | exact rfl)))); exact rfl; exact rfl)
    refine runG ?_
    (apply s_storeV; exact rfl; exact rfl; exact rfl; (repeat (first | exact OneAll.nil | (apply OneAll.cons; (first | exact rfl | exact SlF.one (by assumption) | exact SlF.one (OwnF.sl (by assumption)) | exact Var.one (by assumption))))); exact rfl; exact rfl; exact v1; exact rfl)
    intro h2 v2 k2
    (try dsimp only [Value.cells, List.toList_toArray] at v2)
    refine ⟨(by first | exact trivial | exact Ext.refl _ | assumption | exact Ext.only (by assumption) _ | exact Only.trans (Ext.only (by assumption) _) (by assumption)), ?_⟩
    have e2 : Ext h h2 := k2.old e1 (by intro k hk; rw [b1] at hk; cases hk; exact Nat.le_refl _)
    refine runG ?_
    exact finC rfl rfl v2 rfl rfl ⟨vn, by rw [Bool.false_and], e2, (sn h2).1 (ha.ext e2), fun B e o => (sn h2).2 B e (o.ext e2)⟩

/-- What a row of a whole number says. -/
def IV (neg : Bool) (X : Nat) : Int := if neg then -(X : Int) else X
/-- v is a whole number in memory, of the value z, as it is told: its size in own words. -/
def IntOf (h : Hp) (B : Nat) (v : Value) (z : Int) : Prop := ∃ a, v = .agg #[.bool (decide (z < 0)), a] ∧ OwnF h B 32 U a (dg 18446744073709551616 z.natAbs)
theorem IntOf.ext {h h' : Hp} {B : Nat} {v : Value} {z : Int} (s : IntOf h B v z) (e : Ext h h') : IntOf h' B v z := by obtain ⟨a, h1, h2⟩ := s; exact ⟨a, h1, h2.ext e⟩
theorem IntOf.base {h : Hp} {B B' : Nat} {v : Value} {z : Int} (s : IntOf h B v z) (hB : B' ≤ B) : IntOf h B' v z := by obtain ⟨a, h1, h2⟩ := s; exact ⟨a, h1, h2.base hB⟩
theorem iv_abs (neg : Bool) (X : Nat) : (IV neg X).natAbs = X ∧ decide (IV neg X < 0) = (neg && decide (X ≠ 0)) := by
  unfold IV
  cases neg with
  | true => simp only [if_true, Int.natAbs_neg, Int.natAbs_natCast, Bool.true_and, true_and, decide_eq_decide]; omega
  | false => simp only [Bool.false_eq_true, if_false, Int.natAbs_natCast, Bool.false_and, true_and, decide_eq_false_iff_not]; omega
theorem IntOf.of {h : Hp} {B : Nat} {neg : Bool} {Z : Nat} {v : Value} (o : OwnF h B 32 U v (dg 18446744073709551616 Z)) : IntOf h B (.agg #[.bool (neg && decide (Z ≠ 0)), v]) (IV neg Z) := by
  obtain ⟨h1, h2⟩ := iv_abs neg Z
  exact ⟨v, by rw [h2], by rw [h1]; exact o⟩
theorem iv_same (neg : Bool) (X Y : Nat) : IV neg (X + Y) = IV neg X + IV neg Y := by
  unfold IV; cases neg <;> simp <;> omega
theorem iv_other {n1 n2 : Bool} {X Y : Nat} (hn : n1 ≠ n2) (hle : Y ≤ X) : IV n1 (X - Y) = IV n1 X + IV n2 Y := by
  unfold IV; cases n1 <;> cases n2 <;> simp at hn ⊢ <;> omega
theorem dg_len_add {X Y m : Nat} {xs ys : List Nat} (hx : Al 18446744073709551616 xs) (hy : Al 18446744073709551616 ys) (hX : vl 18446744073709551616 xs = X) (hY : vl 18446744073709551616 ys = Y) (h1 : xs.length ≤ m) (h2 : ys.length ≤ m) : (dg 18446744073709551616 (X + Y)).length ≤ m + 1 := by
  apply dg_len (by omega)
  have a := vl_lt hx
  have b := vl_lt hy
  have c : 18446744073709551616 ^ xs.length ≤ 18446744073709551616 ^ m := Nat.pow_le_pow_right (by omega) h1
  have d : 18446744073709551616 ^ ys.length ≤ 18446744073709551616 ^ m := Nat.pow_le_pow_right (by omega) h2
  rw [Nat.pow_succ]
  omega
theorem dg_len_le {X Y : Nat} {xs : List Nat} (hx : Al 18446744073709551616 xs) (hX : vl 18446744073709551616 xs = X) (h : Y ≤ X) : (dg 18446744073709551616 Y).length ≤ xs.length := by
  apply dg_len (by omega)
  have a := vl_lt hx
  omega

theorem Try_ent30 : Ent Try.prog 30 := ent_of Try.func30 (by kernel_rfl) rfl
set_option maxHeartbeats 1600000 in
theorem sum_spec (n1 n2 : Bool) (va vb : Value) (xs ys : List Nat) (h : Hp) (ha : SlF h U va xs) (hb : SlF h U vb ys) (hx : Al 18446744073709551616 xs) (hy : Al 18446744073709551616 ys) (hl : xs.length < 549755813888) (hl2 : ys.length < 549755813888) :
    CallsH Try.prog 30 [.agg #[.bool n1, va], .agg #[.bool n2, vb]] h fun v' h' => Ext h h' ∧ IntOf h' h.size v' (IV n1 (vl 18446744073709551616 xs) + IV n2 (vl 18446744073709551616 ys)) := by
  (apply enter Try.func30 rfl Try.ntmps30 rfl)
  refine runG ?_
  (apply s_box; exact rfl; exact rfl; exact rfl; exact rfl)
  intro p h1 v1 e1 b1
  (try dsimp only [Value.cells, List.toList_toArray] at v1)
  refine ⟨(by first | exact trivial | exact Ext.refl _ | assumption | exact Ext.trans (by assumption) (by assumption)), ?_⟩
  refine runG ?_
  (apply s_box; exact rfl; exact rfl; exact rfl; exact rfl)
  intro q h2 v2 e2 b2
  (try dsimp only [Value.cells, List.toList_toArray] at v2)
  refine ⟨(by first | exact trivial | exact Ext.refl _ | assumption | exact Ext.trans (by assumption) (by assumption)), ?_⟩
  have v1' := v1.ext e2
  refine runG ?_
  (apply s_alloc; exact rfl; exact rfl; exact rfl)
  intro r h3 v3 e3 b3
  (try dsimp only [Value.cells, List.toList_toArray] at v3)
  refine ⟨(by first | exact trivial | exact Ext.refl _ | assumption | exact Ext.trans (by assumption) (by assumption)), ?_⟩
  have v1'' := v1'.ext e3
  have v2' := v2.ext e3
  refine runG ?_
  have npr := v1'.ne_new b3 (Nat.le_refl _)
  have nqr := v2.ne_new b3 (Nat.le_refl _)
  have npq := v1.ne_new b2 (Nat.le_refl _)
  have E3 := (e1.trans e2).trans e3
  have ha3 := ha.ext E3
  have hb3 := hb.ext E3
  (apply w_condD; exact rfl; exact rfl) <;> intro hn
  · subst hn
    refine runGN ?_
    (apply (r_drawnO (pblk r)); exact rfl; exact mixed; kernel_rfl)
    refine runG ?_
    apply (s_call Try_ent13 rfl rfl rfl)
    refine (nadd_spec va vb xs ys h3 ha3 hb3 hx hy (by omega) (by omega)).mono ?_
    rintro v4 h4 ⟨e4, o4⟩
    refine ⟨e4.only _, ?_⟩
    refine runG ?_
    have hl4 := dg_len_add (m := max xs.length ys.length) hx hy rfl rfl (by omega) (by omega)
    apply (s_call Try_ent50 rfl rfl rfl)
    refine (whole_spec n1 v4 _ h4 o4.sl (al_dg (by omega) _) (by omega)).mono ?_
    rintro _ h5 ⟨v5, rfl, e5, s5, o5⟩
    refine ⟨(e4.trans e5).only _, ?_⟩
    have o5 := o5 _ _ o4
    rw [vl_dg (by omega)] at o5
    rw [vl_dg (by omega)]
    have e35 := e4.trans e5
    have v3' := v3.ext e35
    refine runG ?_
    (apply s_storeV; exact rfl; exact rfl; exact rfl; (repeat (first | exact OneAll.nil | (apply OneAll.cons; (first | exact rfl | exact SlF.one (by assumption) | exact SlF.one (OwnF.sl (by assumption)) | exact Var.one (by assumption))))); exact rfl; exact rfl; exact v3'; exact rfl)
    intro h6 v6 k6
    (try dsimp only [Value.cells, List.toList_toArray] at v6)
    refine ⟨(by first | exact trivial | exact Ext.refl _ | assumption | exact Ext.only (by assumption) _ | exact Only.trans (Ext.only (by assumption) _) (by assumption)), ?_⟩
    have eh2 := e1.1
    have eh3 := e2.1
    have eh4 := e3.1
    have e6 := k6.oldV (E3.trans e35) b3 (by omega)
    have hr3 : h2.size < h3.size := by
      obtain ⟨k, hk, hlt⟩ := v3.blk
      rw [b3] at hk; cases hk; exact hlt
    have o6 := (o5.only k6 (o5.neV b3 hr3)).base (B' := h.size) (by omega)
    refine runG ?_
    exact finC rfl rfl v6 rfl rfl ⟨e6, by rw [← iv_same]; exact IntOf.of o6⟩
  · have hr3 : h2.size < h3.size := by
      obtain ⟨k, hk, hlt⟩ := v3.blk
      rw [b3] at hk; cases hk; exact hlt
    have eh2 := e1.1
    have eh3 := e2.1
    have eh4 := e3.1
    refine runG ?_
    apply (s_call Try_ent15 rfl rfl rfl)
    refine (cmp_spec va vb xs ys h3 ha3 hb3 hx hy (by omega) (by omega)).mono ?_
    rintro _ _ ⟨rfl, rfl⟩
    refine ⟨(by first | exact trivial | exact Ext.refl _ | assumption | exact Ext.trans (by assumption) (by assumption)), ?_⟩
    refine runGN ?_
    apply (w_tcut (σ := Bool × Value × List Nat × Bool × Value × List Nat) (fun s => [(2, p), (3, q), (4, r)])
      (fun s h' => Ext h h' ∧ h3.size ≤ h'.size ∧ Var h' p 40 [.bool s.1, s.2.1] ∧ Var h' q 40 [.bool s.2.2.2.1, s.2.2.2.2.1] ∧ Var h' r 40 [.bool false, .slice none 0 0] ∧
        SlF h' U s.2.1 s.2.2.1 ∧ SlF h' U s.2.2.2.2.1 s.2.2.2.2.2 ∧ Al 18446744073709551616 s.2.2.1 ∧ Al 18446744073709551616 s.2.2.2.2.2 ∧ s.2.2.1.length < 549755813888 ∧ s.2.2.2.2.2.length < 549755813888 ∧
        s.1 ≠ s.2.2.2.1 ∧ vl 18446744073709551616 s.2.2.2.2.2 ≤ vl 18446744073709551616 s.2.2.1 ∧
        IV s.1 (vl 18446744073709551616 s.2.2.1) + IV s.2.2.2.1 (vl 18446744073709551616 s.2.2.2.2.2) = IV n1 (vl 18446744073709551616 xs) + IV n2 (vl 18446744073709551616 ys)))
    · (apply w_condD; exact rfl; exact rfl) <;> intro hc
      · rw [cmpI_neg] at hc
        refine runG ?_
        (apply s_storeV; exact rfl; exact rfl; exact rfl; (repeat (first | exact OneAll.nil | (apply OneAll.cons; (first | exact rfl | exact SlF.one (by assumption) | exact SlF.one (OwnF.sl (by assumption)) | exact Var.one (by assumption))))); exact rfl; exact rfl; exact v1''; exact rfl)
        intro h4 v4 k4
        (try dsimp only [Value.cells, List.toList_toArray] at v4)
        refine ⟨(by first | exact trivial | exact Ext.refl _ | assumption | exact Ext.only (by assumption) _ | exact Only.trans (Ext.only (by assumption) _) (by assumption)), ?_⟩
        have v2'' := v2'.only k4 (by exact fun e => npq e.symm)
        have v3' := v3.only k4 (by exact fun e => npr e.symm)
        refine runG ?_
        (apply s_storeV; exact rfl; exact rfl; exact rfl; (repeat (first | exact OneAll.nil | (apply OneAll.cons; (first | exact rfl | exact SlF.one (by assumption) | exact SlF.one (OwnF.sl (by assumption)) | exact Var.one (by assumption))))); exact rfl; exact rfl; exact v2''; exact rfl)
        intro h5 v5 k5
        (try dsimp only [Value.cells, List.toList_toArray] at v5)
        refine ⟨(by first | exact trivial | exact Ext.refl _ | assumption | exact Ext.only (by assumption) _ | exact Only.trans (Ext.only (by assumption) _) (by assumption)), ?_⟩
        have v4' := v4.only k5 npq
        have v3'' := v3'.only k5 (by exact fun e => nqr e.symm)
        have e4 := k4.oldV E3 b1 (Nat.le_refl _)
        have e5 := k5.oldV e4 b2 (by omega)
        have hs4 := k4.1
        have hs5 := k5.1
        refine runG ?_
        apply cut_normal (n2, vb, ys, n1, va, xs)
        · exact (Sub.cons rfl (Sub.cons rfl (Sub.cons rfl (Sub.nil _))))
        · exact ⟨e5, by omega, v4', v5, v3'', hb.ext e5, ha.ext e5, hy, hx, by simp only []; omega, by simp only []; omega, fun e => hn e.symm, by simp only []; omega, Int.add_comm _ _⟩
      · rw [cmpI_neg] at hc
        refine runG ?_
        apply cut_normal (n1, va, xs, n2, vb, ys)
        · exact (Sub.cons rfl (Sub.cons rfl (Sub.cons rfl (Sub.nil _))))
        · exact ⟨E3, Nat.le_refl _, v1'', v2', v3, ha3, hb3, hx, hy, by simp only []; omega, by simp only []; omega, hn, by simp only []; omega, rfl⟩
    · rintro ⟨m1, wa, us, m2, wb, ws⟩ h4 ⟨E4, hs4, w1, w2, w3, sa, sb, hu, hw, lu, lw, hm, hle, hsum⟩
      dsimp only at E4 w1 w2 w3 sa sb hu hw lu lw hm hle hsum ⊢
      rw [← hsum, ← iv_other hm hle]
      refine runG ?_
      apply (s_call Try_ent10 rfl rfl rfl)
      refine (nsub_spec wa wb us ws h4 sa sb hu hw (by omega) (by omega)).mono ?_
      rintro _ h5 ⟨e5, -, g2⟩
      refine ⟨(by first | exact trivial | exact Ext.refl _ | assumption | exact Ext.trans (by assumption) (by assumption)), ?_⟩
      obtain ⟨v5, rfl, o5⟩ := g2 hle
      have w1' := w1.ext e5
      have hl5 := dg_len_le (Y := vl 18446744073709551616 us - vl 18446744073709551616 ws) hu rfl (by omega)
      refine runG ?_
      apply (s_call Try_ent50 rfl rfl rfl)
      refine (whole_spec m1 v5 _ h5 o5.sl (al_dg (by omega) _) (by omega)).mono ?_
      rintro _ h6 ⟨v6, rfl, e6, s6, o6⟩
      refine ⟨(by first | exact trivial | exact Ext.refl _ | assumption | exact Ext.trans (by assumption) (by assumption)), ?_⟩
      have o6 := o6 _ _ o5
      rw [vl_dg (by omega)] at o6
      rw [vl_dg (by omega)]
      have w3' := w3.ext (e5.trans e6)
      refine runG ?_
      (apply s_storeV; exact rfl; exact rfl; exact rfl; (repeat (first | exact OneAll.nil | (apply OneAll.cons; (first | exact rfl | exact SlF.one (by assumption) | exact SlF.one (OwnF.sl (by assumption)) | exact Var.one (by assumption))))); exact rfl; exact rfl; exact w3'; exact rfl)
      intro h7 v7 k7
      (try dsimp only [Value.cells, List.toList_toArray] at v7)
      refine ⟨(by first | exact trivial | exact Ext.refl _ | assumption | exact Ext.only (by assumption) _ | exact Only.trans (Ext.only (by assumption) _) (by assumption)), ?_⟩
      have e7 := k7.oldV (E4.trans (e5.trans e6)) b3 (by omega)
      have o7 := (o6.only k7 (o6.neV b3 (by omega))).base (B' := h.size) (by omega)
      refine runG ?_
      exact finC rfl rfl v7 rfl rfl ⟨e7, IntOf.of o7⟩

theorem cmpI_pos {m n : Nat} : 0 < cmpI m n ↔ n < m := by
  unfold cmpI
  by_cases h1 : m < n
  · simp [h1]; omega
  · by_cases h2 : n < m <;> simp [h1, h2]
theorem cmpI_zero {m n : Nat} : cmpI m n = 0 ↔ m = n := by
  unfold cmpI
  by_cases h1 : m < n
  · simp [h1]; omega
  · by_cases h2 : n < m <;> simp [h1, h2] <;> omega
theorem iv_mul (n1 n2 : Bool) (X Y : Nat) : IV (decide (n1 ≠ n2)) (X * Y) = IV n1 X * IV n2 Y := by
  unfold IV; cases n1 <;> cases n2 <;> simp [Int.neg_mul, Int.mul_neg]
theorem dg_len_mul {xs ys : List Nat} (hx : Al 18446744073709551616 xs) (hy : Al 18446744073709551616 ys) : (dg 18446744073709551616 (vl 18446744073709551616 xs * vl 18446744073709551616 ys)).length ≤ xs.length + ys.length := by
  apply dg_len (by omega)
  rw [Nat.pow_add]
  exact Nat.mul_lt_mul'' (vl_lt hx) (vl_lt hy)

theorem Try_ent32 : Ent Try.prog 32 := ent_of Try.func32 (by kernel_rfl) rfl
set_option maxHeartbeats 1600000 in
theorem ntimes_spec (n1 n2 : Bool) (va vb : Value) (xs ys : List Nat) (h : Hp) (ha : SlF h U va xs) (hb : SlF h U vb ys) (hx : Al 18446744073709551616 xs) (hy : Al 18446744073709551616 ys) (hl : xs.length < 274877906944) (hl2 : ys.length < 274877906944) :
    CallsH Try.prog 32 [.agg #[.bool n1, va], .agg #[.bool n2, vb]] h fun v' h' => Ext h h' ∧ IntOf h' h.size v' (IV n1 (vl 18446744073709551616 xs) * IV n2 (vl 18446744073709551616 ys)) := by
  (apply enter Try.func32 rfl Try.ntmps32 rfl)
  refine runG ?_
  (apply s_box; exact rfl; exact rfl; exact rfl; exact rfl)
  intro p h1 v1 e1 b1
  (try dsimp only [Value.cells, List.toList_toArray] at v1)
  refine ⟨(by first | exact trivial | exact Ext.refl _ | assumption | exact Ext.trans (by assumption) (by assumption)), ?_⟩
  refine runG ?_
  (apply s_box; exact rfl; exact rfl; exact rfl; exact rfl)
  intro q h2 v2 e2 b2
  (try dsimp only [Value.cells, List.toList_toArray] at v2)
  refine ⟨(by first | exact trivial | exact Ext.refl _ | assumption | exact Ext.trans (by assumption) (by assumption)), ?_⟩
  have v1' := v1.ext e2
  refine runG ?_
  (apply s_alloc; exact rfl; exact rfl; exact rfl)
  intro r h3 v3 e3 b3
  (try dsimp only [Value.cells, List.toList_toArray] at v3)
  refine ⟨(by first | exact trivial | exact Ext.refl _ | assumption | exact Ext.trans (by assumption) (by assumption)), ?_⟩
  have v1'' := v1'.ext e3
  have v2' := v2.ext e3
  have npr := v1'.ne_new b3 (Nat.le_refl _)
  have nqr := v2.ne_new b3 (Nat.le_refl _)
  have E3 := (e1.trans e2).trans e3
  have ha3 := ha.ext E3
  have hb3 := hb.ext E3
  have eh2 := e1.1
  have eh3 := e2.1
  have eh4 := e3.1
  have hr3 : h2.size < h3.size := by
    obtain ⟨k, hk, hlt⟩ := v3.blk
    rw [b3] at hk; cases hk; exact hlt
  refine runGN ?_
  (apply (r_drawnO (pblk r)); exact rfl; exact mixed; kernel_rfl)
  refine runG ?_
  apply (s_call Try_ent19 rfl rfl rfl)
  refine (nmul_spec va vb xs ys h3 ha3 hb3 hx hy (by omega) (by omega)).mono ?_
  rintro v4 h4 ⟨e4, o4⟩
  refine ⟨e4.only _, ?_⟩
  have hl4 := dg_len_mul hx hy
  refine runG ?_
  apply (s_call Try_ent50 rfl rfl rfl)
  refine (whole_spec (decide (n1 ≠ n2)) v4 _ h4 o4.sl (al_dg (by omega) _) (by omega)).mono ?_
  rintro _ h5 ⟨v5, rfl, e5, s5, o5⟩
  refine ⟨(e4.trans e5).only _, ?_⟩
  have o5 := o5 _ _ o4
  rw [vl_dg (by omega)] at o5
  rw [vl_dg (by omega)]
  have e35 := e4.trans e5
  have v3' := v3.ext e35
  refine runG ?_
  (apply s_storeV; exact rfl; exact rfl; exact rfl; (repeat (first | exact OneAll.nil | (apply OneAll.cons; (first | exact rfl | exact SlF.one (by assumption) | exact SlF.one (OwnF.sl (by assumption)) | exact Var.one (by assumption))))); exact rfl; exact rfl; exact v3'; exact rfl)
  intro h6 v6 k6
  (try dsimp only [Value.cells, List.toList_toArray] at v6)
  refine ⟨(by first | exact trivial | exact Ext.refl _ | assumption | exact Ext.only (by assumption) _ | exact Only.trans (Ext.only (by assumption) _) (by assumption)), ?_⟩
  have e6 := k6.oldV (E3.trans e35) b3 (by omega)
  have o6 := (o5.only k6 (o5.neV b3 hr3)).base (B' := h.size) (by omega)
  refine runG ?_
  exact finC rfl rfl v6 rfl rfl ⟨e6, by rw [← iv_mul]; exact IntOf.of o6⟩

theorem ediv_of {n d k : Int} (hd : 0 < d) (h1 : d * k ≤ n) (h2 : n < d * k + d) : n / d = k := by
  have a := Int.emod_nonneg n (by omega : d ≠ 0)
  have b := Int.emod_lt_of_pos n hd
  have c := Int.mul_ediv_add_emod n d
  have e : d * (n / d - k) < d := by rw [Int.mul_sub]; omega
  have f : -d < d * (n / d - k) := by rw [Int.mul_sub]; omega
  have g1 : n / d - k < 1 := by
    refine Int.lt_of_not_ge fun hge => ?_
    have := Int.mul_le_mul_of_nonneg_left hge (Int.le_of_lt hd)
    omega
  have g2 : -1 < n / d - k := by
    refine Int.lt_of_not_ge fun hge => ?_
    have := Int.mul_le_mul_of_nonneg_left hge (Int.le_of_lt hd)
    rw [Int.mul_neg] at this
    omega
  omega
/-- The nearest whole number to a quotient; a half goes up. -/
def nearZ (z : Int) (Y : Nat) : Int := (2 * z + Y) / (2 * Y)
def nearQ (neg : Bool) (X Y : Nat) : Nat := X / Y + if Y < 2 * (X % Y) ∨ 2 * (X % Y) = Y ∧ (neg && decide (X ≠ 0)) = false then 1 else 0
theorem near_eq {neg : Bool} {X Y : Nat} (hY : 0 < Y) : nearZ (IV neg X) Y = IV neg (nearQ neg X Y) := by
  unfold nearZ nearQ
  have h1 := Nat.div_add_mod X Y
  have h2 := Nat.mod_lt X hY
  generalize X / Y = q at *
  generalize X % Y = r at *
  apply ediv_of (by omega)
  all_goals
    have hp : (Y : Int) * (q : Int) = ((Y * q : Nat) : Int) := by simp
    have hq0 : q = 0 → Y * q = 0 := fun h => by rw [h, Nat.mul_zero]
    unfold IV
    cases neg with
    | false =>
      simp only [Bool.false_and, and_true, Bool.false_eq_true, if_false]
      split <;> (simp only [Int.natCast_add, Int.mul_add, Int.mul_assoc, hp, Int.natCast_one, Int.natCast_zero, Int.mul_one, Int.mul_zero]; omega)
    | true =>
      simp only [Bool.true_and, decide_eq_false_iff_not, if_true]
      split <;> (simp only [Int.natCast_add, Int.mul_add, Int.mul_neg, Int.neg_add, Int.mul_assoc, hp, Int.natCast_one, Int.natCast_zero, Int.mul_one, Int.mul_zero]; omega)

theorem Try_ent27 : Ent Try.prog 27 := ent_of Try.func27 (by kernel_rfl) rfl
set_option maxHeartbeats 1600000 in
theorem nnear_spec (n1 : Bool) (va vb : Value) (xs ys : List Nat) (h : Hp) (ha : SlF h U va xs) (hb : SlF h U vb ys) (hx : Al 18446744073709551616 xs) (hy : Al 18446744073709551616 ys) (hl : xs.length < 274877906944) (hl2 : ys.length < 274877906944) :
    CallsH Try.prog 27 [.agg #[.bool n1, va], vb] h fun v' h' => Ext h h' ∧ ∃ w, v' = .tuple #[w, N (if vl 18446744073709551616 ys = 0 then 1 else 0)] ∧ IntOf h' h.size w (if vl 18446744073709551616 ys = 0 then 0 else nearZ (IV n1 (vl 18446744073709551616 xs)) (vl 18446744073709551616 ys)) := by
  (apply enter Try.func27 rfl Try.ntmps27 rfl)
  refine runG ?_
  (apply s_box; exact rfl; exact rfl; exact rfl; exact rfl)
  intro p h1 v1 e1 b1
  (try dsimp only [Value.cells, List.toList_toArray] at v1)
  refine ⟨(by first | exact trivial | exact Ext.refl _ | assumption | exact Ext.trans (by assumption) (by assumption)), ?_⟩
  refine runG ?_
  (apply s_alloc; exact rfl; exact rfl; exact rfl)
  intro r h2 v2 e2 b2
  (try dsimp only [Value.cells, List.toList_toArray] at v2)
  refine ⟨(by first | exact trivial | exact Ext.refl _ | assumption | exact Ext.trans (by assumption) (by assumption)), ?_⟩
  have v1' := v1.ext e2
  have npr := v1.ne_new b2 (Nat.le_refl _)
  have E2 := e1.trans e2
  have ha2 := ha.ext E2
  have hb2 := hb.ext E2
  have eh1 := e1.1
  have eh2 := e2.1
  have hr2 : h1.size < h2.size := by
    obtain ⟨k, hk, hlt⟩ := v2.blk
    rw [b2] at hk; cases hk; exact hlt
  refine runG ?_
  apply (s_call Try_ent17 rfl rfl rfl)
  refine (ndiv_spec va vb xs ys h2 ha2 hb2 hx hy (by omega) (by omega)).mono ?_
  rintro _ h3 ⟨q, s, rfl, e3, o3, o3'⟩
  refine ⟨(by first | exact trivial | exact Ext.refl _ | assumption | exact Ext.trans (by assumption) (by assumption)), ?_⟩
  have v1'' := v1'.ext e3
  have v2' := v2.ext e3
  generalize hX : vl 18446744073709551616 xs = X at *
  generalize hY : vl 18446744073709551616 ys = Y at *
  by_cases hY0 : Y = 0
  · rw [if_pos hY0, if_pos hY0] at *
    refine runG ?_
    (apply (s_build ([.bool false, .slice none 0 0])); exact rfl; exact rfl; exact rfl; (repeat (first | exact CellsAll.nil | (apply CellsAll.cons; (first | exact oneL (SlF.one (by assumption)) | exact oneL (SlF.one (OwnF.sl (by assumption))) | exact oneL (Var.one (by assumption)) | exact rfl)))); exact rfl; exact rfl)
    refine runG ?_
    (apply s_storeV; exact rfl; exact rfl; exact rfl; (repeat (first | exact OneAll.nil | (apply OneAll.cons; (first | exact rfl | exact SlF.one (by assumption) | exact SlF.one (OwnF.sl (by assumption)) | exact Var.one (by assumption))))); exact rfl; exact rfl; exact v2'; exact rfl)
    intro h4 v4 k4
    (try dsimp only [Value.cells, List.toList_toArray] at v4)
    refine ⟨(by first | exact trivial | exact Ext.refl _ | assumption | exact Ext.only (by assumption) _ | exact Only.trans (Ext.only (by assumption) _) (by assumption)), ?_⟩
    have e4 := k4.oldV (E2.trans e3) b2 (by omega)
    refine runG ?_
    exact finCT rfl rfl rfl v4 rfl rfl ⟨e4, _, rfl, ⟨_, rfl, OwnF.nil _ _ _ _⟩⟩
  · rw [if_neg hY0, if_neg hY0, near_eq (by omega)]
    rw [if_neg hY0] at o3'
    have hlq := dg_len_le (Y := X / Y) hx hX (Nat.div_le_self _ _)
    have hlr := dg_len_le (Y := X % Y) hx hX (Nat.mod_le _ _)
    have hb3 := hb2.ext e3
    have ha3 := ha2.ext e3
    refine runG ?_
    apply (s_call Try_ent13 rfl rfl rfl)
    refine (nadd_spec s s _ _ h3 o3'.sl o3'.sl (al_dg (by omega) _) (al_dg (by omega) _) (by omega) (by omega)).mono ?_
    rintro v4 h4 ⟨e4, o4⟩
    refine ⟨(by first | exact trivial | exact Ext.refl _ | assumption | exact Ext.trans (by assumption) (by assumption)), ?_⟩
    rw [vl_dg (by omega)] at o4
    have hb4 := hb3.ext e4
    have hls := dg_len_add (m := xs.length) (al_dg (b := 18446744073709551616) (by omega) (X % Y)) (al_dg (b := 18446744073709551616) (by omega) (X % Y)) rfl rfl (by omega) (by omega)
    rw [vl_dg (by omega)] at hls
    refine runG ?_
    apply (s_call Try_ent15 rfl rfl rfl)
    refine (cmp_spec v4 vb _ ys h4 o4.sl hb4 (al_dg (by omega) _) hy (by omega) (by omega)).mono ?_
    rintro _ _ ⟨rfl, rfl⟩
    refine ⟨(by first | exact trivial | exact Ext.refl _ | assumption | exact Ext.trans (by assumption) (by assumption)), ?_⟩
    rw [vl_dg (by omega), hY]
    have ha4 := ha3.ext e4
    have v1a := v1''.ext e4
    have o34 := o3.ext e4
    refine runGN ?_
    apply (s_tcut2 (σ := Value) (fun v => [(2, p), (4, r), (6, v)]) (fun v h' => Ext h4 h' ∧ OwnF h' h2.size 32 U v (dg 18446744073709551616 (nearQ n1 X Y))))
    · (apply s_splitG; exact rfl; exact rfl; exact rfl; exact rfl) <;> intro c1
      · rw [cmpI_pos] at c1
        have hq : nearQ n1 X Y = X / Y + 1 := by unfold nearQ; rw [if_pos (.inl (by omega))]
        rw [hq]
        refine runG ?_
        (apply (s_litF (f := U) [1] (fun _ => rfl)); exact rfl; exact rfl; exact rfl; exact rfl; exact rfl; exact rfl; exact rfl; exact rfl; omega)
        intro v5 h5 o5 e5 b5
        refine ⟨(by first | exact trivial | exact Ext.refl _ | assumption | exact Ext.trans (by assumption) (by assumption)), ?_⟩
        have o35 := (o34.ext (Ext.refl h4)).ext e5
        refine runG ?_
        apply (s_call Try_ent13 rfl rfl rfl)
        refine (nadd_spec q v5 _ _ h5 o35.sl o5.sl (al_dg (by omega) _) (Al.cons (by omega) Al.nil) (by omega) (by simp)).mono ?_
        rintro v6 h6 ⟨e6, o6⟩
        refine ⟨(by first | exact trivial | exact Ext.refl _ | assumption | exact Ext.trans (by assumption) (by assumption)), ?_⟩
        rw [vl_dg (by omega)] at o6
        refine runG ?_
        apply cut_normal v6
        · exact (Sub.cons rfl (Sub.cons rfl (Sub.cons rfl (Sub.nil _))))
        · exact ⟨((Ext.refl h4).trans e5).trans e6, (by simpa [vl] using o6.base (B' := h2.size) (by have := e5.1; have := (Ext.refl h4).1; have := e4.1; have := e3.1; omega))⟩
      · rw [cmpI_pos] at c1
        refine runG ?_
        (apply s_splitG; exact rfl; exact rfl; exact rfl; exact rfl) <;> intro c2
        · rw [cmpI_zero] at c2
          refine runG ?_
          apply (s_call Try_ent50 rfl rfl rfl)
          refine (whole_spec n1 va xs h4 ha4 hx (by omega)).mono ?_
          rintro _ h7 ⟨v7, rfl, e7, -, -⟩
          refine ⟨(by first | exact trivial | exact Ext.refl _ | assumption | exact Ext.trans (by assumption) (by assumption)), ?_⟩
          rw [hX]
          refine runG ?_
          (apply w_cond; exact rfl; exact rfl) <;> intro c3
          · have hq : nearQ n1 X Y = X / Y + 1 := by unfold nearQ; rw [if_pos (.inr ⟨by omega, (Bool.not_eq_true' _).mp c3⟩)]
            rw [hq]
            refine runG ?_
            (apply (s_litF (f := U) [1] (fun _ => rfl)); exact rfl; exact rfl; exact rfl; exact rfl; exact rfl; exact rfl; exact rfl; exact rfl; omega)
            intro v5 h5 o5 e5 b5
            refine ⟨(by first | exact trivial | exact Ext.refl _ | assumption | exact Ext.trans (by assumption) (by assumption)), ?_⟩
            have o35 := (o34.ext e7).ext e5
            refine runG ?_
            apply (s_call Try_ent13 rfl rfl rfl)
            refine (nadd_spec q v5 _ _ h5 o35.sl o5.sl (al_dg (by omega) _) (Al.cons (by omega) Al.nil) (by omega) (by simp)).mono ?_
            rintro v6 h6 ⟨e6, o6⟩
            refine ⟨(by first | exact trivial | exact Ext.refl _ | assumption | exact Ext.trans (by assumption) (by assumption)), ?_⟩
            rw [vl_dg (by omega)] at o6
            refine runG ?_
            apply cut_normal v6
            · exact (Sub.cons rfl (Sub.cons rfl (Sub.cons rfl (Sub.nil _))))
            · exact ⟨(e7.trans e5).trans e6, (by simpa [vl] using o6.base (B' := h2.size) (by have := e5.1; have := e7.1; have := e4.1; have := e3.1; omega))⟩
          · have hq : nearQ n1 X Y = X / Y := by
              unfold nearQ; rw [if_neg, Nat.add_zero]
              rintro (hh | ⟨-, hh⟩)
              · omega
              · rw [hh] at c3; cases c3
            rw [hq]
            refine runG ?_
            apply cut_normal q
            · exact (Sub.cons rfl (Sub.cons rfl (Sub.cons rfl (Sub.nil _))))
            · exact ⟨e7, o34.ext e7⟩
        · rw [cmpI_zero] at c2
          have hq : nearQ n1 X Y = X / Y := by unfold nearQ; rw [if_neg (by omega), Nat.add_zero]
          rw [hq]
          refine runG ?_
          apply cut_normal q
          · exact (Sub.cons rfl (Sub.cons rfl (Sub.cons rfl (Sub.nil _))))
          · exact ⟨Ext.refl h4, o34⟩
    · rintro v6 h6 ⟨e6, o6⟩
      have v1b := v1a.ext e6
      have hq0 : nearQ n1 X Y ≤ X + 1 := by
        have := Nat.div_le_self X Y
        unfold nearQ; split <;> omega
      have hl6 : (dg 18446744073709551616 (nearQ n1 X Y)).length ≤ xs.length + 1 := by
        apply dg_len (by omega)
        have := vl_lt hx
        rw [hX] at this
        rw [Nat.pow_succ]
        omega
      refine runG ?_
      apply (s_call Try_ent50 rfl rfl rfl)
      refine (whole_spec n1 v6 _ h6 o6.sl (al_dg (by omega) _) (by omega)).mono ?_
      rintro _ h7 ⟨v7, rfl, e7, -, o7⟩
      refine ⟨(by first | exact trivial | exact Ext.refl _ | assumption | exact Ext.trans (by assumption) (by assumption)), ?_⟩
      have o7 := o7 _ _ o6
      rw [vl_dg (by omega)] at o7
      rw [vl_dg (by omega)]
      have v2b := ((v2'.ext e4).ext e6).ext e7
      refine runG ?_
      (apply s_storeV; exact rfl; exact rfl; exact rfl; (repeat (first | exact OneAll.nil | (apply OneAll.cons; (first | exact rfl | exact SlF.one (by assumption) | exact SlF.one (OwnF.sl (by assumption)) | exact Var.one (by assumption))))); exact rfl; exact rfl; exact v2b; exact rfl)
      intro h8 v8 k8
      (try dsimp only [Value.cells, List.toList_toArray] at v8)
      refine ⟨(by first | exact trivial | exact Ext.refl _ | assumption | exact Ext.only (by assumption) _ | exact Only.trans (Ext.only (by assumption) _) (by assumption)), ?_⟩
      have e8 := k8.oldV ((((E2.trans e3).trans e4).trans e6).trans e7) b2 (by omega)
      have o8 := (o7.only k8 (o7.neV b2 (by omega))).base (B' := h.size) (by omega)
      refine runG ?_
      exact finCT rfl rfl rfl v8 rfl rfl ⟨e8, _, rfl, IntOf.of o8⟩
end Go.Proofs.Ytddhnmfndjcleaa

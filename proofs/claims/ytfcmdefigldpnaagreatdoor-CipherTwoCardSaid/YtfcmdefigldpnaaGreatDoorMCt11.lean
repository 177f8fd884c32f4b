/- Texts NatM to DenP of this work, joined, without what the law does not lean on. -/
import Derived.Test.YtfcmdefigldpnaaGreatDoorMCt10
import Derived.ChangeKeysEq
import Derived.Laws.StructEq
namespace Go.Proofs.YtfcmdefigldpnaaGreatDoor
set_option linter.unusedVariables false
set_option maxRecDepth 8000
open Go Go.Den Go.RowKit Go.Dig

theorem Tryz_ent125 : Ent Tryz.prog 125 := ent_of Tryz.func125 (by kernel_rfl) rfl
theorem whole_spec (neg : Bool) (va : Value) (xs : List Nat) (h : Hp) (ha : SlF h U va xs) (hx : Al 18446744073709551616 xs) (hl : xs.length < 1099511627776) :
    CallsH Tryz.prog 125 [.bool neg, va] h fun v' h' => ∃ v, v' = .agg #[.bool (neg && decide (vl 18446744073709551616 xs ≠ 0)), v] ∧ Ext h h' ∧ SlF h' U v (dg 18446744073709551616 (vl 18446744073709551616 xs)) ∧
      ∀ B e, OwnF h B e U va xs → OwnF h' B e U v (dg 18446744073709551616 (vl 18446744073709551616 xs)) := by
  (apply enter Tryz.func125 rfl Tryz.ntmps125 rfl)
  refine runG ?_
  (apply s_alloc; exact rfl; exact rfl; exact rfl)
  intro p h1 v1 e1 b1
  (try dsimp only [Value.cells, List.toList_toArray] at v1)
  refine ⟨(by first | exact trivial | exact Ext.refl _ | assumption | exact Ext.trans (by assumption) (by assumption)), ?_⟩
  refine runG ?_
  have ha1 := ha.ext e1
  apply (s_call Tryz_ent126 rfl rfl rfl)
  refine (norm_spec' va xs h1 ha1 (by omega)).mono ?_
  rintro vn _ ⟨rfl, sn⟩
  refine ⟨(by first | exact trivial | exact Ext.refl _ | assumption | exact Ext.trans (by assumption) (by assumption)), ?_⟩
  rw [nrm_eq (by omega) hx] at sn
  have hz : (dg 18446744073709551616 (vl 18446744073709551616 xs)).length = 0 ↔ vl 18446744073709551616 xs = 0 := dg_len0 (by omega)
  generalize hX : vl 18446744073709551616 xs = X at *
  generalize hD : dg 18446744073709551616 X = D at *
  have hDl : D.length < 1099511627776 := by
    have := nrm_len xs
    rw [nrm_eq (b := 18446744073709551616) (by omega) hx, hX, hD] at this; omega
  have sn1 := (sn h1).1 ha1
  cases neg with
  | true =>
    refine runG ?_
    (apply (s_build ([.bool (decide (0 < D.length)), vn])); exact rfl; exact rfl; exact rfl; (repeat (first | exact CellsAll.nil | (apply CellsAll.cons; (first | exact oneL (by assumption) | exact oneL (SlF.one (by assumption)) | exact oneL (SlF.one (OwnF.sl (by assumption))) | exact oneL (Var.one (by assumption)) | exact rfl)))); exact rfl; exact rfl)
    refine runG ?_
    (apply s_storeV; exact rfl; exact rfl; exact rfl; (repeat (first | exact OneAll.nil | (apply OneAll.cons; (first | exact rfl | exact SlF.one (by assumption) | exact SlF.one (OwnF.sl (by assumption)) | exact Var.one (by assumption))))); exact rfl; exact rfl; exact v1; exact rfl)
    intro h2 v2 k2
    (try dsimp only [Value.cells, List.toList_toArray] at v2)
    refine ⟨(by first | exact trivial | exact Ext.refl _ | assumption | exact Ext.only (by assumption) _ | exact Only.trans (Ext.only (by assumption) _) (by assumption)), ?_⟩
    have e2 : Ext h h2 := k2.old e1 (by intro k hk; rw [b1] at hk; cases hk; exact Nat.le_refl _)
    refine runG ?_
    refine finC rfl rfl v2 rfl rfl ⟨vn, ?_, e2, (sn h2).1 (ha.ext e2), fun B e o => (sn h2).2 B e (o.ext e2)⟩
    have : (0 < D.length) ↔ X ≠ 0 := by omega
    simp only [this, Bool.true_and]
  | false =>
    refine runG ?_
    (apply (s_build ([.bool false, vn])); exact rfl; exact rfl; exact rfl; (repeat (first | exact CellsAll.nil | (apply CellsAll.cons; (first | exact oneL (by assumption) | exact oneL (SlF.one (by assumption)) | exact oneL (SlF.one (OwnF.sl (by assumption))) | exact oneL (Var.one (by assumption)) | exact rfl)))); exact rfl; exact rfl)
    refine runG ?_
    (apply s_storeV; exact rfl; exact rfl; exact rfl; (repeat (first | exact OneAll.nil | (apply OneAll.cons; (first | exact rfl | exact SlF.one (by assumption) | exact SlF.one (OwnF.sl (by assumption)) | exact Var.one (by assumption))))); exact rfl; exact rfl; exact v1; exact rfl)
    intro h2 v2 k2
    (try dsimp only [Value.cells, List.toList_toArray] at v2)
    refine ⟨(by first | exact trivial | exact Ext.refl _ | assumption | exact Ext.only (by assumption) _ | exact Only.trans (Ext.only (by assumption) _) (by assumption)), ?_⟩
    have e2 : Ext h h2 := k2.old e1 (by intro k hk; rw [b1] at hk; cases hk; exact Nat.le_refl _)
    refine runG ?_
    exact finC rfl rfl v2 rfl rfl ⟨vn, by rw [Bool.false_and], e2, (sn h2).1 (ha.ext e2), fun B e o => (sn h2).2 B e (o.ext e2)⟩

/-- What a row of a whole number says. -/
def IV (neg : Bool) (X : Nat) : Int := if neg then -(X : Int) else X
/-- v is a whole number in memory, of the value z, as it is told: its size in own words. -/
def IntOf (h : Hp) (B : Nat) (v : Value) (z : Int) : Prop := ∃ a, v = .agg #[.bool (decide (z < 0)), a] ∧ OwnF h B 26 U a (dg 18446744073709551616 z.natAbs)
theorem IntOf.ext {h h' : Hp} {B : Nat} {v : Value} {z : Int} (s : IntOf h B v z) (e : Ext h h') : IntOf h' B v z := by obtain ⟨a, h1, h2⟩ := s; exact ⟨a, h1, h2.ext e⟩
theorem IntOf.base {h : Hp} {B B' : Nat} {v : Value} {z : Int} (s : IntOf h B v z) (hB : B' ≤ B) : IntOf h B' v z := by obtain ⟨a, h1, h2⟩ := s; exact ⟨a, h1, h2.base hB⟩
theorem iv_abs (neg : Bool) (X : Nat) : (IV neg X).natAbs = X ∧ decide (IV neg X < 0) = (neg && decide (X ≠ 0)) := by
  unfold IV
  cases neg with
  | true => simp only [if_true, Int.natAbs_neg, Int.natAbs_natCast, Bool.true_and, true_and, decide_eq_decide]; omega
  | false => simp only [Bool.false_eq_true, if_false, Int.natAbs_natCast, Bool.false_and, true_and, decide_eq_false_iff_not]; omega
theorem IntOf.of {h : Hp} {B : Nat} {neg : Bool} {Z : Nat} {v : Value} (o : OwnF h B 26 U v (dg 18446744073709551616 Z)) : IntOf h B (.agg #[.bool (neg && decide (Z ≠ 0)), v]) (IV neg Z) := by
  obtain ⟨h1, h2⟩ := iv_abs neg Z
  exact ⟨v, by rw [h2], by rw [h1]; exact o⟩
theorem dg_len_add {X Y m : Nat} {xs ys : List Nat} (hx : Al 18446744073709551616 xs) (hy : Al 18446744073709551616 ys) (hX : vl 18446744073709551616 xs = X) (hY : vl 18446744073709551616 ys = Y) (h1 : xs.length ≤ m) (h2 : ys.length ≤ m) : (dg 18446744073709551616 (X + Y)).length ≤ m + 1 := by
  apply dg_len (by omega)
  have a := vl_lt hx
  have b := vl_lt hy
  have c : 18446744073709551616 ^ xs.length ≤ 18446744073709551616 ^ m := Nat.pow_le_pow_right (by omega) h1
  have d : 18446744073709551616 ^ ys.length ≤ 18446744073709551616 ^ m := Nat.pow_le_pow_right (by omega) h2
  rw [Nat.pow_succ]
  omega
theorem dg_len_le {X Y : Nat} {xs : List Nat} (hx : Al 18446744073709551616 xs) (hX : vl 18446744073709551616 xs = X) (h : Y ≤ X) : (dg 18446744073709551616 Y).length ≤ xs.length := by
  apply dg_len (by omega)
  have a := vl_lt hx
  omega

theorem cmpI_pos {m n : Nat} : 0 < cmpI m n ↔ n < m := by
  unfold cmpI
  by_cases h1 : m < n
  · simp [h1]; omega
  · by_cases h2 : n < m <;> simp [h1, h2]
theorem cmpI_zero {m n : Nat} : cmpI m n = 0 ↔ m = n := by
  unfold cmpI
  by_cases h1 : m < n
  · simp [h1]; omega
  · by_cases h2 : n < m <;> simp [h1, h2] <;> omega
theorem iv_mul (n1 n2 : Bool) (X Y : Nat) : IV (decide (n1 ≠ n2)) (X * Y) = IV n1 X * IV n2 Y := by
  unfold IV; cases n1 <;> cases n2 <;> simp [Int.neg_mul, Int.mul_neg]
theorem dg_len_mul {xs ys : List Nat} (hx : Al 18446744073709551616 xs) (hy : Al 18446744073709551616 ys) : (dg 18446744073709551616 (vl 18446744073709551616 xs * vl 18446744073709551616 ys)).length ≤ xs.length + ys.length := by
  apply dg_len (by omega)
  rw [Nat.pow_add]
  exact Nat.mul_lt_mul'' (vl_lt hx) (vl_lt hy)

theorem Tryz_ent63 : Ent Tryz.prog 63 := ent_of Tryz.func63 (by kernel_rfl) rfl
set_option maxHeartbeats 1600000 in
theorem ntimes_spec (n1 n2 : Bool) (va vb : Value) (xs ys : List Nat) (h : Hp) (ha : SlF h U va xs) (hb : SlF h U vb ys) (hx : Al 18446744073709551616 xs) (hy : Al 18446744073709551616 ys) (hl : xs.length < 274877906944) (hl2 : ys.length < 274877906944) :
    CallsH Tryz.prog 63 [.agg #[.bool n1, va], .agg #[.bool n2, vb]] h fun v' h' => Ext h h' ∧ IntOf h' h.size v' (IV n1 (vl 18446744073709551616 xs) * IV n2 (vl 18446744073709551616 ys)) := by
  (apply enter Tryz.func63 rfl Tryz.ntmps63 rfl)
  refine runG ?_
  (apply s_box; exact rfl; exact rfl; exact rfl; exact rfl)
  intro p h1 v1 e1 b1
  (try dsimp only [Value.cells, List.toList_toArray] at v1)
  refine ⟨(by first | exact trivial | exact Ext.refl _ | assumption | exact Ext.trans (by assumption) (by assumption)), ?_⟩
  refine runG ?_
  (apply s_box; exact rfl; exact rfl; exact rfl; exact rfl)
  intro q h2 v2 e2 b2
  (try dsimp only [Value.cells, List.toList_toArray] at v2)
  refine ⟨(by first | exact trivial | exact Ext.refl _ | assumption | exact Ext.trans (by assumption) (by assumption)), ?_⟩
  have v1' := v1.ext e2
  refine runG ?_
  (apply s_alloc; exact rfl; exact rfl; exact rfl)
  intro r h3 v3 e3 b3
  (try dsimp only [Value.cells, List.toList_toArray] at v3)
  refine ⟨(by first | exact trivial | exact Ext.refl _ | assumption | exact Ext.trans (by assumption) (by assumption)), ?_⟩
  have v1'' := v1'.ext e3
  have v2' := v2.ext e3
  have npr := v1'.ne_new b3 (Nat.le_refl _)
  have nqr := v2.ne_new b3 (Nat.le_refl _)
  have E3 := (e1.trans e2).trans e3
  have ha3 := ha.ext E3
  have hb3 := hb.ext E3
  have eh2 := e1.1
  have eh3 := e2.1
  have eh4 := e3.1
  have hr3 : h2.size < h3.size := by
    obtain ⟨k, hk, hlt⟩ := v3.blk
    rw [b3] at hk; cases hk; exact hlt
  refine runGN ?_
  (apply (r_drawnO (pblk r)); exact rfl; exact mixed; kernel_rfl)
  refine runG ?_
  apply (s_call Tryz_ent122 rfl rfl rfl)
  refine (nmul_spec va vb xs ys h3 ha3 hb3 hx hy (by omega) (by omega)).mono ?_
  rintro v4 h4 ⟨e4, o4⟩
  refine ⟨e4.only _, ?_⟩
  have hl4 := dg_len_mul hx hy
  refine runG ?_
  apply (s_call Tryz_ent125 rfl rfl rfl)
  refine (whole_spec (decide (n1 ≠ n2)) v4 _ h4 o4.sl (al_dg (by omega) _) (by omega)).mono ?_
  rintro _ h5 ⟨v5, rfl, e5, s5, o5⟩
  refine ⟨(e4.trans e5).only _, ?_⟩
  have o5 := o5 _ _ o4
  rw [vl_dg (by omega)] at o5
  rw [vl_dg (by omega)]
  have e35 := e4.trans e5
  have v3' := v3.ext e35
  refine runG ?_
  (apply s_storeV; exact rfl; exact rfl; exact rfl; (repeat (first | exact OneAll.nil | (apply OneAll.cons; (first | exact rfl | exact SlF.one (by assumption) | exact SlF.one (OwnF.sl (by assumption)) | exact Var.one (by assumption))))); exact rfl; exact rfl; exact v3'; exact rfl)
  intro h6 v6 k6
  (try dsimp only [Value.cells, List.toList_toArray] at v6)
  refine ⟨(by first | exact trivial | exact Ext.refl _ | assumption | exact Ext.only (by assumption) _ | exact Only.trans (Ext.only (by assumption) _) (by assumption)), ?_⟩
  have e6 := k6.oldV (E3.trans e35) b3 (by omega)
  have o6 := (o5.only k6 (o5.neV b3 hr3)).base (B' := h.size) (by omega)
  refine runG ?_
  exact finC rfl rfl v6 rfl rfl ⟨e6, by rw [← iv_mul]; exact IntOf.of o6⟩

theorem ediv_of {n d k : Int} (hd : 0 < d) (h1 : d * k ≤ n) (h2 : n < d * k + d) : n / d = k := by
  have a := Int.emod_nonneg n (by omega : d ≠ 0)
  have b := Int.emod_lt_of_pos n hd
  have c := Int.mul_ediv_add_emod n d
  have e : d * (n / d - k) < d := by rw [Int.mul_sub]; omega
  have f : -d < d * (n / d - k) := by rw [Int.mul_sub]; omega
  have g1 : n / d - k < 1 := by
    refine Int.lt_of_not_ge fun hge => ?_
    have := Int.mul_le_mul_of_nonneg_left hge (Int.le_of_lt hd)
    omega
  have g2 : -1 < n / d - k := by
    refine Int.lt_of_not_ge fun hge => ?_
    have := Int.mul_le_mul_of_nonneg_left hge (Int.le_of_lt hd)
    rw [Int.mul_neg] at this
    omega
  omega
/-- The nearest whole number to a quotient; a half goes up. -/
def nearZ (z : Int) (Y : Nat) : Int := (2 * z + Y) / (2 * Y)
def nearQ (neg : Bool) (X Y : Nat) : Nat := X / Y + if Y < 2 * (X % Y) ∨ 2 * (X % Y) = Y ∧ (neg && decide (X ≠ 0)) = false then 1 else 0
theorem near_eq {neg : Bool} {X Y : Nat} (hY : 0 < Y) : nearZ (IV neg X) Y = IV neg (nearQ neg X Y) := by
  unfold nearZ nearQ
  have h1 := Nat.div_add_mod X Y
  have h2 := Nat.mod_lt X hY
  generalize X / Y = q at *
  generalize X % Y = r at *
  apply ediv_of (by omega)
  all_goals
    have hp : (Y : Int) * (q : Int) = ((Y * q : Nat) : Int) := by simp
    have hq0 : q = 0 → Y * q = 0 := fun h => by rw [h, Nat.mul_zero]
    unfold IV
    cases neg with
    | false =>
      simp only [Bool.false_and, and_true, Bool.false_eq_true, if_false]
      split <;> (simp only [Int.natCast_add, Int.mul_add, Int.mul_assoc, hp, Int.natCast_one, Int.natCast_zero, Int.mul_one, Int.mul_zero]; omega)
    | true =>
      simp only [Bool.true_and, decide_eq_false_iff_not, if_true]
      split <;> (simp only [Int.natCast_add, Int.mul_add, Int.mul_neg, Int.neg_add, Int.mul_assoc, hp, Int.natCast_one, Int.natCast_zero, Int.mul_one, Int.mul_zero]; omega)

theorem Tryz_ent62 : Ent Tryz.prog 62 := ent_of Tryz.func62 (by kernel_rfl) rfl
set_option maxHeartbeats 1600000 in
theorem nnear_spec (n1 : Bool) (va vb : Value) (xs ys : List Nat) (h : Hp) (ha : SlF h U va xs) (hb : SlF h U vb ys) (hx : Al 18446744073709551616 xs) (hy : Al 18446744073709551616 ys) (hl : xs.length < 274877906944) (hl2 : ys.length < 274877906944) :
    CallsH Tryz.prog 62 [.agg #[.bool n1, va], vb] h fun v' h' => Ext h h' ∧ ∃ w, v' = .tuple #[w, N (if vl 18446744073709551616 ys = 0 then 1 else 0)] ∧ IntOf h' h.size w (if vl 18446744073709551616 ys = 0 then 0 else nearZ (IV n1 (vl 18446744073709551616 xs)) (vl 18446744073709551616 ys)) := by
  (apply enter Tryz.func62 rfl Tryz.ntmps62 rfl)
  refine runG ?_
  (apply s_box; exact rfl; exact rfl; exact rfl; exact rfl)
  intro p h1 v1 e1 b1
  (try dsimp only [Value.cells, List.toList_toArray] at v1)
  refine ⟨(by first | exact trivial | exact Ext.refl _ | assumption | exact Ext.trans (by assumption) (by assumption)), ?_⟩
  refine runG ?_
  (apply s_alloc; exact rfl; exact rfl; exact rfl)
  intro r h2 v2 e2 b2
  (try dsimp only [Value.cells, List.toList_toArray] at v2)
  refine ⟨(by first | exact trivial | exact Ext.refl _ | assumption | exact Ext.trans (by assumption) (by assumption)), ?_⟩
  have v1' := v1.ext e2
  have npr := v1.ne_new b2 (Nat.le_refl _)
  have E2 := e1.trans e2
  have ha2 := ha.ext E2
  have hb2 := hb.ext E2
  have eh1 := e1.1
  have eh2 := e2.1
  have hr2 : h1.size < h2.size := by
    obtain ⟨k, hk, hlt⟩ := v2.blk
    rw [b2] at hk; cases hk; exact hlt
  refine runG ?_
  apply (s_call Tryz_ent123 rfl rfl rfl)
  refine (ndiv_spec va vb xs ys h2 ha2 hb2 hx hy (by omega) (by omega)).mono ?_
  rintro _ h3 ⟨q, s, rfl, e3, o3, o3'⟩
  refine ⟨(by first | exact trivial | exact Ext.refl _ | assumption | exact Ext.trans (by assumption) (by assumption)), ?_⟩
  have v1'' := v1'.ext e3
  have v2' := v2.ext e3
  generalize hX : vl 18446744073709551616 xs = X at *
  generalize hY : vl 18446744073709551616 ys = Y at *
  by_cases hY0 : Y = 0
  · rw [if_pos hY0, if_pos hY0] at *
    refine runG ?_
    (apply (s_build ([.bool false, .slice none 0 0])); exact rfl; exact rfl; exact rfl; (repeat (first | exact CellsAll.nil | (apply CellsAll.cons; (first | exact oneL (by assumption) | exact oneL (SlF.one (by assumption)) | exact oneL (SlF.one (OwnF.sl (by assumption))) | exact oneL (Var.one (by assumption)) | exact rfl)))); exact rfl; exact rfl)
    refine runG ?_
    (apply s_storeV; exact rfl; exact rfl; exact rfl; (repeat (first | exact OneAll.nil | (apply OneAll.cons; (first | exact rfl | exact SlF.one (by assumption) | exact SlF.one (OwnF.sl (by assumption)) | exact Var.one (by assumption))))); exact rfl; exact rfl; exact v2'; exact rfl)
    intro h4 v4 k4
    (try dsimp only [Value.cells, List.toList_toArray] at v4)
    refine ⟨(by first | exact trivial | exact Ext.refl _ | assumption | exact Ext.only (by assumption) _ | exact Only.trans (Ext.only (by assumption) _) (by assumption)), ?_⟩
    have e4 := k4.oldV (E2.trans e3) b2 (by omega)
    refine runG ?_
    exact finCT rfl rfl rfl v4 rfl rfl ⟨e4, _, rfl, ⟨_, rfl, OwnF.nil _ _ _ _⟩⟩
  · rw [if_neg hY0, if_neg hY0, near_eq (by omega)]
    rw [if_neg hY0] at o3'
    have hlq := dg_len_le (Y := X / Y) hx hX (Nat.div_le_self _ _)
    have hlr := dg_len_le (Y := X % Y) hx hX (Nat.mod_le _ _)
    have hb3 := hb2.ext e3
    have ha3 := ha2.ext e3
    refine runG ?_
    apply (s_call Tryz_ent124 rfl rfl rfl)
    refine (nadd_spec s s _ _ h3 o3'.sl o3'.sl (al_dg (by omega) _) (al_dg (by omega) _) (by omega) (by omega)).mono ?_
    rintro v4 h4 ⟨e4, o4⟩
    refine ⟨(by first | exact trivial | exact Ext.refl _ | assumption | exact Ext.trans (by assumption) (by assumption)), ?_⟩
    rw [vl_dg (by omega)] at o4
    have hb4 := hb3.ext e4
    have hls := dg_len_add (m := xs.length) (al_dg (b := 18446744073709551616) (by omega) (X % Y)) (al_dg (b := 18446744073709551616) (by omega) (X % Y)) rfl rfl (by omega) (by omega)
    rw [vl_dg (by omega)] at hls
    refine runG ?_
    apply (s_call Tryz_ent70 rfl rfl rfl)
    refine (cmp_spec v4 vb _ ys h4 o4.sl hb4 (al_dg (by omega) _) hy (by omega) (by omega)).mono ?_
    rintro _ _ ⟨rfl, rfl⟩
    refine ⟨(by first | exact trivial | exact Ext.refl _ | assumption | exact Ext.trans (by assumption) (by assumption)), ?_⟩
    rw [vl_dg (by omega), hY]
    have ha4 := ha3.ext e4
    have v1a := v1''.ext e4
    have o34 := o3.ext e4
    refine runGN ?_
    apply (s_tcut2 (σ := Value) (fun v => [(2, p), (4, r), (6, v)]) (fun v h' => Ext h4 h' ∧ OwnF h' h2.size 26 U v (dg 18446744073709551616 (nearQ n1 X Y))))
    · (apply s_splitG; exact rfl; exact rfl; exact rfl; exact rfl) <;> intro c1
      · rw [cmpI_pos] at c1
        have hq : nearQ n1 X Y = X / Y + 1 := by unfold nearQ; rw [if_pos (.inl (by omega))]
        rw [hq]
        refine runG ?_
        (apply (s_litF (f := U) [1] (fun _ => rfl)); exact rfl; exact rfl; exact rfl; exact rfl; exact rfl; exact rfl; exact rfl; exact rfl; omega)
        intro v5 h5 o5 e5 b5
        refine ⟨(by first | exact trivial | exact Ext.refl _ | assumption | exact Ext.trans (by assumption) (by assumption)), ?_⟩
        have o35 := (o34.ext (Ext.refl h4)).ext e5
        refine runG ?_
        apply (s_call Tryz_ent124 rfl rfl rfl)
        refine (nadd_spec q v5 _ _ h5 o35.sl o5.sl (al_dg (by omega) _) (Al.cons (by omega) Al.nil) (by omega) (by simp)).mono ?_
        rintro v6 h6 ⟨e6, o6⟩
        refine ⟨(by first | exact trivial | exact Ext.refl _ | assumption | exact Ext.trans (by assumption) (by assumption)), ?_⟩
        rw [vl_dg (by omega)] at o6
        refine runG ?_
        apply cut_normal v6
        · exact (Sub.cons rfl (Sub.cons rfl (Sub.cons rfl (Sub.nil _))))
        · exact ⟨((Ext.refl h4).trans e5).trans e6, (by simpa [vl] using o6.base (B' := h2.size) (by have := e5.1; have := (Ext.refl h4).1; have := e4.1; have := e3.1; omega))⟩
      · rw [cmpI_pos] at c1
        refine runG ?_
        (apply s_splitG; exact rfl; exact rfl; exact rfl; exact rfl) <;> intro c2
        · rw [cmpI_zero] at c2
          refine runG ?_
          apply (s_call Tryz_ent125 rfl rfl rfl)
          refine (whole_spec n1 va xs h4 ha4 hx (by omega)).mono ?_
          rintro _ h7 ⟨v7, rfl, e7, -, -⟩
          refine ⟨(by first | exact trivial | exact Ext.refl _ | assumption | exact Ext.trans (by assumption) (by assumption)), ?_⟩
          rw [hX]
          refine runG ?_
          (apply w_cond; exact rfl; exact rfl) <;> intro c3
          · have hq : nearQ n1 X Y = X / Y + 1 := by unfold nearQ; rw [if_pos (.inr ⟨by omega, (Bool.not_eq_true' _).mp c3⟩)]
            rw [hq]
            refine runG ?_
            (apply (s_litF (f := U) [1] (fun _ => rfl)); exact rfl; exact rfl; exact rfl; exact rfl; exact rfl; exact rfl; exact rfl; exact rfl; omega)
            intro v5 h5 o5 e5 b5
            refine ⟨(by first | exact trivial | exact Ext.refl _ | assumption | exact Ext.trans (by assumption) (by assumption)), ?_⟩
            have o35 := (o34.ext e7).ext e5
            refine runG ?_
            apply (s_call Tryz_ent124 rfl rfl rfl)
            refine (nadd_spec q v5 _ _ h5 o35.sl o5.sl (al_dg (by omega) _) (Al.cons (by omega) Al.nil) (by omega) (by simp)).mono ?_
            rintro v6 h6 ⟨e6, o6⟩
            refine ⟨(by first | exact trivial | exact Ext.refl _ | assumption | exact Ext.trans (by assumption) (by assumption)), ?_⟩
            rw [vl_dg (by omega)] at o6
            refine runG ?_
            apply cut_normal v6
            · exact (Sub.cons rfl (Sub.cons rfl (Sub.cons rfl (Sub.nil _))))
            · exact ⟨(e7.trans e5).trans e6, (by simpa [vl] using o6.base (B' := h2.size) (by have := e5.1; have := e7.1; have := e4.1; have := e3.1; omega))⟩
          · have hq : nearQ n1 X Y = X / Y := by
              unfold nearQ; rw [if_neg, Nat.add_zero]
              rintro (hh | ⟨-, hh⟩)
              · omega
              · rw [hh] at c3; cases c3
            rw [hq]
            refine runG ?_
            apply cut_normal q
            · exact (Sub.cons rfl (Sub.cons rfl (Sub.cons rfl (Sub.nil _))))
            · exact ⟨e7, o34.ext e7⟩
        · rw [cmpI_zero] at c2
          have hq : nearQ n1 X Y = X / Y := by unfold nearQ; rw [if_neg (by omega), Nat.add_zero]
          rw [hq]
          refine runG ?_
          apply cut_normal q
          · exact (Sub.cons rfl (Sub.cons rfl (Sub.cons rfl (Sub.nil _))))
          · exact ⟨Ext.refl h4, o34⟩
    · rintro v6 h6 ⟨e6, o6⟩
      have v1b := v1a.ext e6
      have hq0 : nearQ n1 X Y ≤ X + 1 := by
        have := Nat.div_le_self X Y
        unfold nearQ; split <;> omega
      have hl6 : (dg 18446744073709551616 (nearQ n1 X Y)).length ≤ xs.length + 1 := by
        apply dg_len (by omega)
        have := vl_lt hx
        rw [hX] at this
        rw [Nat.pow_succ]
        omega
      refine runG ?_
      apply (s_call Tryz_ent125 rfl rfl rfl)
      refine (whole_spec n1 v6 _ h6 o6.sl (al_dg (by omega) _) (by omega)).mono ?_
      rintro _ h7 ⟨v7, rfl, e7, -, o7⟩
      refine ⟨(by first | exact trivial | exact Ext.refl _ | assumption | exact Ext.trans (by assumption) (by assumption)), ?_⟩
      have o7 := o7 _ _ o6
      rw [vl_dg (by omega)] at o7
      rw [vl_dg (by omega)]
      have v2b := ((v2'.ext e4).ext e6).ext e7
      refine runG ?_
      (apply s_storeV; exact rfl; exact rfl; exact rfl; (repeat (first | exact OneAll.nil | (apply OneAll.cons; (first | exact rfl | exact SlF.one (by assumption) | exact SlF.one (OwnF.sl (by assumption)) | exact Var.one (by assumption))))); exact rfl; exact rfl; exact v2b; exact rfl)
      intro h8 v8 k8
      (try dsimp only [Value.cells, List.toList_toArray] at v8)
      refine ⟨(by first | exact trivial | exact Ext.refl _ | assumption | exact Ext.only (by assumption) _ | exact Only.trans (Ext.only (by assumption) _) (by assumption)), ?_⟩
      have e8 := k8.oldV ((((E2.trans e3).trans e4).trans e6).trans e7) b2 (by omega)
      have o8 := (o7.only k8 (o7.neV b2 (by omega))).base (B' := h.size) (by omega)
      refine runG ?_
      exact finCT rfl rfl rfl v8 rfl rfl ⟨e8, _, rfl, IntOf.of o8⟩
end Go.Proofs.YtfcmdefigldpnaaGreatDoor


namespace Go.Proofs.YtfcmdefigldpnaaGreatDoor
set_option linter.unusedVariables false
set_option maxRecDepth 8000
open Go Go.Den Go.RowKit Go.Dig

/-- v is a whole number, of the value z, as it is told, wherever it lies. -/
def IntSl (h : Hp) (v : Value) (z : Int) : Prop := ∃ a, v = .agg #[.bool (decide (z < 0)), a] ∧ SlF h U a (dg 18446744073709551616 z.natAbs)
theorem IntOf.sl {h : Hp} {B : Nat} {v : Value} {z : Int} (s : IntOf h B v z) : IntSl h v z := by obtain ⟨a, h1, h2⟩ := s; exact ⟨a, h1, h2.sl⟩
theorem IntSl.ext {h h' : Hp} {v : Value} {z : Int} (s : IntSl h v z) (e : Ext h h') : IntSl h' v z := by obtain ⟨a, h1, h2⟩ := s; exact ⟨a, h1, h2.ext e⟩
end Go.Proofs.YtfcmdefigldpnaaGreatDoor


namespace Go.Proofs.YtfcmdefigldpnaaGreatDoor
set_option linter.unusedVariables false
set_option maxRecDepth 8000
open Go Go.Den Go.RowKit Go.Dig

theorem Tryz_ent173 : Ent Tryz.prog 173 := ent_of Tryz.func173 (by kernel_rfl) rfl
theorem index_spec (v : Value) (xs : List Nat) (x : Nat) (h : Hp) (s : SlF h U v xs) (hl : xs.length < 4611686018427387904) :
    CallsH Tryz.prog 173 [v, U x] h fun v' h' => (∃ i : Int, v' = I i ∧ (0 ≤ i ↔ x ∈ xs)) ∧ h = h' := by
  (apply enter Tryz.func173 rfl Tryz.ntmps173 rfl)
  refine runJ ?_
  (first | (apply w_seqB; exact rfl; apply w_block; exact rfl) | skip)
  apply (w_loop (σ := Nat) rfl (fun j => [(0, v), (1, U x), (7, N xs.length), (8, N j)])
    (fun j h' => h = h' ∧ j ≤ xs.length ∧ x ∉ xs.take j) (fun j => xs.length - j) 0)
  · exact (Sub.cons rfl (Sub.cons rfl (Sub.cons rfl (Sub.cons rfl (Sub.nil _)))))
  · exact ⟨rfl, Nat.zero_le _, by simp⟩
  rintro j h' ⟨rfl, j1, j2⟩
  refine runJ ?_
  (apply w_condD; exact rfl; exact rfl) <;> intro hj
  · obtain ⟨y, hy⟩ := get_lt hj
    refine runJ ?_
    (apply w_condD; exact rfl; exact rfl) <;> intro hxy
    · refine runJ ?_
      exact fin1 rfl rfl ⟨⟨j, rfl, ⟨fun _ => hxy ▸ List.mem_of_getElem? hy, fun _ => by omega⟩⟩, rfl⟩
    · refine runJ ?_
      apply again_normal (j + 1)
      · exact (Sub.cons rfl (Sub.cons rfl (Sub.cons rfl (Sub.cons rfl (Sub.nil _)))))
      · refine ⟨rfl, hj, ?_⟩
        rw [take_snoc hy]
        intro hm
        rcases List.mem_append.1 hm with hm | hm
        · exact j2 hm
        · simp only [List.mem_singleton] at hm; exact hxy hm
      · omega
  · rw [List.take_of_length_le (by omega)] at j2
    refine runJ ?_
    exact fin1 rfl rfl ⟨⟨-1, rfl, ⟨fun h => by omega, fun h => absurd h j2⟩⟩, rfl⟩
theorem Tryz_ent129 : Ent Tryz.prog 129 := ent_of Tryz.func129 (by kernel_rfl) rfl
theorem contains_spec (v : Value) (xs : List Nat) (x : Nat) (h : Hp) (s : SlF h U v xs) (hl : xs.length < 4611686018427387904) :
    CallsH Tryz.prog 129 [v, U x] h fun v' h' => v' = .bool (decide (x ∈ xs)) ∧ h = h' := by
  (apply enter Tryz.func129 rfl Tryz.ntmps129 rfl)
  refine runJ ?_
  apply (s_call Tryz_ent173 rfl rfl rfl)
  refine (index_spec v xs x h s hl).mono ?_
  rintro _ _ ⟨⟨i, rfl, hi⟩, rfl⟩
  refine ⟨(by first | exact trivial | exact trivial), ?_⟩
  refine runJ ?_
  exact fin1 rfl rfl ⟨dec_i hi, rfl⟩

/-- May a row of primes be? -/
def rightP (row : List Nat) : Prop := (∀ q ∈ row, 3 ≤ q ∧ q < 2305843009213693952 ∧ isB q = true) ∧ row.Nodup ∧ 0 < row.length ∧ row.length ≤ 24
instance (row : List Nat) : Decidable (rightP row) := by unfold rightP; exact inferInstance

theorem Tryz_ent119 : Ent Tryz.prog 119 := ent_of Tryz.func119 (by kernel_rfl) rfl
set_option maxHeartbeats 1000000 in
theorem right_spec (v : Value) (row : List Nat) (h : Hp) (T : TB h) (s : SlF h U v row) (hal : Al 18446744073709551616 row) (hl : row.length < 4611686018427387904) :
    CallsH Tryz.prog 119 [v] h fun v' h' => v' = .bool (decide (rightP row)) ∧ Ext h h' := by
  (apply enter Tryz.func119 rfl Tryz.ntmps119 rfl)
  refine runJ ?_
  (first | (apply w_seqB; exact rfl; apply w_block; exact rfl) | skip)
  apply (w_loop (σ := Nat) rfl (fun j => [(0, v), (5, v), (6, N row.length), (7, N j)])
    (fun j h' => Ext h h' ∧ j ≤ row.length ∧ (∀ q ∈ row.take j, 3 ≤ q ∧ q < 2305843009213693952 ∧ isB q = true) ∧ (row.take j).Nodup) (fun j => row.length - j) 0)
  · exact (Sub.cons rfl (Sub.cons rfl (Sub.cons rfl (Sub.cons rfl (Sub.nil _)))))
  · exact ⟨Ext.refl _, Nat.zero_le _, by simp, by simp⟩
  rintro j h2 ⟨e2, j1, j2, j3⟩
  have s2 := s.ext e2
  refine runJ ?_
  (apply w_condD; exact rfl; exact rfl) <;> intro hj
  · obtain ⟨q, hq⟩ := get_lt hj
    have hqm := List.mem_of_getElem? hq
    have hq64 := hal q hqm
    have c1 := s2.cut (lo := 0) (hi := j) (Nat.zero_le _) j1
    rw [List.drop_zero, Nat.sub_zero] at c1
    refine runJ ?_
    (apply s_splitG; exact rfl; exact rfl; exact rfl; exact rfl) <;> intro h3
    · refine runJ ?_
      exact fin1 rfl rfl ⟨dec_f fun k => by have := k.1 q hqm; omega, e2⟩
    refine runJ ?_
    (apply s_splitG; exact rfl; exact rfl; exact rfl; exact rfl) <;> intro h61
    · refine runJ ?_
      exact fin1 rfl rfl ⟨dec_f fun k => by have := k.1 q hqm; omega, e2⟩
    refine runJ ?_
    apply (s_call Tryz_ent161 rfl rfl rfl)
    refine (is_spec q h2 (T.ext e2) hq64).mono ?_
    rintro _ h3' ⟨rfl, e3⟩
    refine ⟨(by first | exact trivial | exact trivial), ?_⟩
    have e23 := e2.trans e3
    have s3 := s.ext e23
    have c3 := c1.ext e3
    refine runJ ?_
    (apply s_splitGB; exact rfl; exact rfl; exact rfl; exact rfl) <;> intro hB
    · have hB : isB q = false := by simpa using hB
      refine runJ ?_
      exact fin1 rfl rfl ⟨dec_f (fun k => by have := (k.1 q hqm).2.2; rw [hB] at this; cases this), e23⟩
    have hB : isB q = true := by simpa using hB
    refine runJ ?_
    apply (s_call Tryz_ent129 rfl rfl rfl)
    refine (contains_spec _ (row.take j) q h3' c3 (by simp; omega)).mono ?_
    rintro _ _ ⟨rfl, rfl⟩
    refine ⟨(by first | exact trivial | exact Ext.refl _ | assumption | exact Ext.trans (by assumption) (by assumption)), ?_⟩
    refine runJ ?_
    (apply w_condD; exact rfl; exact rfl) <;> intro hin
    · refine runJ ?_
      exact fin1 rfl rfl ⟨dec_f fun k => not_nodup_at hq hin k.2.1, e23⟩
    · refine runJ ?_
      apply again_normal (j + 1)
      · exact (Sub.cons rfl (Sub.cons rfl (Sub.cons rfl (Sub.cons rfl (Sub.nil _)))))
      · refine ⟨e23, hj, ?_, ?_⟩
        · rw [take_snoc hq]
          intro y hy
          rcases List.mem_append.1 hy with hy | hy
          · exact j2 y hy
          · simp only [List.mem_singleton] at hy; subst hy; exact ⟨by omega, by omega, hB⟩
        · rw [take_snoc hq]; exact nodup_snoc j3 hin
      · omega
  · rw [List.take_of_length_le (by omega)] at j2 j3
    refine runJ ?_
    (apply s_splitG; exact rfl; exact rfl; exact rfl; exact rfl) <;> intro h0
    · refine runJ ?_
      exact fin1 rfl rfl ⟨dec_i ⟨fun h24 => ⟨j2, j3, h0, h24⟩, fun k => k.2.2.2⟩, e2⟩
    · refine runJ ?_
      exact fin1 rfl rfl ⟨dec_f fun k => h0 k.2.2.1, e2⟩

theorem resid_eq (neg : Bool) (X q : Nat) : (if neg then subm 0 (if q = 0 then 0 else X % q) q else (if q = 0 then 0 else X % q)) = liftm (IV neg X) q := by
  rcases Nat.eq_zero_or_pos q with rfl | hq
  · cases neg <;> simp [subm, liftm]
  · have hq0 : ¬ q = 0 := by omega
    simp only [hq0, if_false]
    cases neg with
    | false =>
      simp only [IV, Bool.false_eq_true, if_false]
      rw [lift_pos (by omega) (by omega), Int.toNat_natCast]
    | true =>
      simp only [IV, if_true]
      rcases Nat.eq_zero_or_pos X with rfl | hX
      · simp [liftm, subm]
      · rw [lift_neg (by omega) (by omega), Int.neg_neg, Int.toNat_natCast]
        unfold subm
        rw [Nat.mod_mod]

theorem Tryz_ent159 : Ent Tryz.prog 159 := ent_of Tryz.func159 (by kernel_rfl) rfl
theorem residue_spec (neg : Bool) (va : Value) (xs : List Nat) (q : Nat) (h : Hp) (s : SlF h U va xs) (hx : Al 18446744073709551616 xs) (hl : xs.length < 1099511627776) (hq : q < 18446744073709551616) :
    CallsH Tryz.prog 159 [.agg #[.bool neg, va], U q] h fun v' h' => v' = U (liftm (IV neg (vl 18446744073709551616 xs)) q) ∧ Ext h h' := by
  have hr := resid_eq neg (vl 18446744073709551616 xs) q
  have hlt : (if q = 0 then 0 else vl 18446744073709551616 xs % q) < 18446744073709551616 := by
    split
    · omega
    · exact Nat.lt_trans (Nat.mod_lt _ (by omega)) hq
  (apply enter Tryz.func159 rfl Tryz.ntmps159 rfl)
  refine runJ ?_
  (apply s_box; exact rfl; exact rfl; exact rfl; exact rfl)
  intro p h1 x1 e1 b1
  (try dsimp only [Value.cells, List.toList_toArray] at x1)
  refine ⟨(by first | exact trivial | exact Ext.refl _ | assumption | exact Ext.trans (by assumption) (by assumption)), ?_⟩
  refine runJ ?_
  apply (s_call Tryz_ent65 rfl rfl rfl)
  refine (mod_spec va xs q h1 (s.ext e1) hx hl hq).mono ?_
  rintro _ h2 ⟨rfl, e2⟩
  refine ⟨(by first | exact trivial | exact trivial), ?_⟩
  have x2 := x1.ext e2
  generalize (if q = 0 then 0 else vl 18446744073709551616 xs % q) = r at hr hlt
  refine runJ ?_
  (apply w_cond; exact rfl; exact rfl) <;> intro hn
  · rw [hn] at hr
    simp only [if_true] at hr
    refine runJ ?_
    apply (s_call Tryz_ent66 rfl rfl rfl)
    refine (sub_spec 0 r q h2 (by omega) hlt hq).mono ?_
    rintro _ _ ⟨rfl, rfl⟩
    refine ⟨(by first | exact trivial | exact Ext.refl _ | assumption | exact Ext.trans (by assumption) (by assumption)), ?_⟩
    refine runJ ?_
    exact fin1 rfl rfl ⟨by rw [hn, hr], e1.trans e2⟩
  · rw [hn] at hr
    simp only [Bool.false_eq_true, if_false] at hr
    refine runJ ?_
    exact fin1 rfl rfl ⟨by rw [hn, hr], e1.trans e2⟩

def prodL (row : List Nat) : Nat := row.foldl (· * ·) 1
theorem prodL_snoc (row : List Nat) (q : Nat) : prodL (row ++ [q]) = prodL row * q := by unfold prodL; rw [List.foldl_append]; rfl
theorem prodL_lt {row : List Nat} (h : Al 18446744073709551616 row) : prodL row < 18446744073709551616 ^ (row.length + 1) := by
  have key : ∀ (n : Nat), n ≤ row.length → prodL (row.take n) < 18446744073709551616 ^ (n + 1) := by
    intro n
    induction n with
    | zero => intro _; simp [prodL]
    | succ n ih =>
      intro hn
      obtain ⟨q, hq⟩ := get_lt (l := row) (j := n) (by omega)
      have hq64 := h q (List.mem_of_getElem? hq)
      rw [take_snoc hq, prodL_snoc, Nat.pow_succ]
      exact Nat.mul_lt_mul_of_lt_of_lt (ih (by omega)) hq64
  have := key row.length (Nat.le_refl _)
  rwa [List.take_of_length_le (Nat.le_refl _)] at this

theorem Tryz_ent61 : Ent Tryz.prog 61 := ent_of Tryz.func61 (by kernel_rfl) rfl
theorem product_spec (v : Value) (row : List Nat) (h : Hp) (s : SlF h U v row) (hal : Al 18446744073709551616 row) (hl : row.length < 1000000) :
    CallsH Tryz.prog 61 [v] h fun v' h' => Ext h h' ∧ OwnF h' h.size 26 U v' (if row = [] then [1] else dg 18446744073709551616 (prodL row)) := by
  (apply enter Tryz.func61 rfl Tryz.ntmps61 rfl)
  refine runJ ?_
  (apply (s_litF (f := U) [1] (fun _ => rfl)); exact rfl; exact rfl; exact rfl; exact rfl; exact rfl; exact rfl; exact rfl; exact rfl; omega)
  intro w h1 o1 e1 b1
  refine ⟨(by first | exact trivial | exact Ext.refl _ | assumption | exact Ext.trans (by assumption) (by assumption)), ?_⟩
  have s1 := s.ext e1
  refine runJ ?_
  (first | (apply w_seqB; exact rfl; apply w_block; exact rfl) | skip)
  apply (w_loop (σ := Nat × Value) rfl (fun j => [(3, j.2), (7, v), (8, N row.length), (9, N j.1)])
    (fun j h' => Ext h h' ∧ OwnF h' h.size 26 U j.2 (if j.1 = 0 then [1] else dg 18446744073709551616 (prodL (row.take j.1))) ∧ j.1 ≤ row.length) (fun j => row.length - j.1) (0, w))
  · exact (Sub.cons rfl (Sub.cons rfl (Sub.cons rfl (Sub.cons rfl (Sub.nil _)))))
  · exact ⟨e1, o1, Nat.zero_le _⟩
  rintro ⟨j, u⟩ h3 ⟨e3, o3, j1⟩
  dsimp only at e3 o3 j1 ⊢
  have s3 := s.ext e3
  refine runJ ?_
  (apply w_condD; exact rfl; exact rfl) <;> intro hj
  · obtain ⟨q, hq⟩ := get_lt hj
    have hq64 := hal q (List.mem_of_getElem? hq)
    have hv : vl 18446744073709551616 (if j = 0 then [1] else dg 18446744073709551616 (prodL (row.take j))) = prodL (row.take j) := by
      split
      · rename_i h0; subst h0; rfl
      · rw [vl_dg (by decide)]
    have ha : Al 18446744073709551616 (if j = 0 then [1] else dg 18446744073709551616 (prodL (row.take j))) := by
      split
      · intro x hx; simp at hx; omega
      · exact al_dg (by decide) _
    have hln : (if j = 0 then [1] else dg 18446744073709551616 (prodL (row.take j))).length < 1099511627776 := by
      split
      · decide
      · have := dg_len (b := 18446744073709551616) (by decide) (prodL_lt (fun x hx => hal x (List.mem_of_mem_take hx) : Al 18446744073709551616 (row.take j)))
        have h2 : (row.take j).length ≤ row.length := by simp; omega
        omega
    refine runJ ?_
    (apply (s_litF (f := U) [q] (fun _ => rfl)); exact rfl; exact rfl; exact rfl; exact rfl; exact rfl; exact rfl; exact rfl; exact rfl; omega)
    intro w2 h4 o4 e4 b4
    refine ⟨(by first | exact trivial | exact Ext.refl _ | assumption | exact Ext.trans (by assumption) (by assumption)), ?_⟩
    have hqa : Al 18446744073709551616 [q] := fun x hx => by simp only [List.mem_singleton] at hx; subst hx; exact hq64
    refine runJ ?_
    apply (s_call Tryz_ent122 rfl rfl rfl)
    refine (nmul_spec u w2 _ [q] h4 (o3.sl.ext e4) o4.sl ha hqa hln (by simp)).mono ?_
    rintro u' h5 ⟨e5, o5⟩
    refine ⟨(by first | exact trivial | exact trivial), ?_⟩
    have e35 := (e3.trans e4).trans e5
    rw [hv] at o5
    have hq1 : vl 18446744073709551616 [q] = q := by simp [vl]
    rw [hq1, ← prodL_snoc, ← take_snoc hq] at o5
    refine runJ ?_
    apply again_normal (j + 1, u')
    · exact (Sub.cons rfl (Sub.cons rfl (Sub.cons rfl (Sub.cons rfl (Sub.nil _)))))
    · refine ⟨e35, ?_, hj⟩
      rw [if_neg (by omega)]
      exact o5.base (Nat.le_trans e3.1 e4.1)
    · dsimp only; omega
  · have hjl : j = row.length := by omega
    subst hjl
    rw [List.take_of_length_le (Nat.le_refl _)] at o3
    refine runJ ?_
    refine fin1 rfl rfl ⟨e3, ?_⟩
    simpa [List.length_eq_zero_iff] using o3
end Go.Proofs.YtfcmdefigldpnaaGreatDoor


namespace Go.Den
set_option linter.unusedVariables false
set_option maxRecDepth 8000
open Go Go.RowKit

section rules
variable {P : Program} {n : Nat} {Q : Post} {l : Fr} {h : Hp} {ops : List Oper} {Ch : Hp → Prop} {E : Nat → Bool} {i : Nat}
variable {d : Nat} {t : TypeId} {x y z : Operand}
end rules
end Go.Den


namespace Go.Den
set_option linter.unusedVariables false
set_option maxRecDepth 8000
open Go Go.RowKit

section rules
variable {P : Program} {n : Nat} {Q : Post} {l : Fr} {h : Hp} {ops : List Oper} {Ch : Hp → Prop} {E : Nat → Bool} {i d : Nat} {x y : Operand} {ts : Array TypeId}
theorem s_minU {a b : Nat} (hx : IsK (ev l x) .u64 a) (hy : IsK (ev l y) .u64 b) (hb : Nat.blt d n = true)
    (k : S P n ops Ch E Q (i + 1) ((d, U (min a b)) :: l) h) : O P n ops Ch E Q i d (.call ⟨.builtin .min, #[x, y], ts⟩) l h :=
  s_pure hb (fun A w' hf => by
    have e : (if b < a then (b : Int) else (a : Int)) = ((min a b : Nat) : Int) := by
      split <;> omega
    simp [execOp, resolve, invoke, builtin, hf.ev hx.h, hf.ev hy.h, Builtin.min_, Builtin.min2, e]) k
end rules
end Go.Den


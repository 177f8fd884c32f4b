/- The statements of layer 2 on whole numbers: whatever the input, they return true, and change nothing that was there. No condition. -/
import Derived.Test.YtddhnmfndjcleaaNatU
namespace Go.Proofs.Ytddhnmfndjcleaa
set_option linter.unusedVariables false
open Go Go.Den Go.RowKit Go.Dig

theorem zlen {z : Int} {k : Nat} (h : z.natAbs < 18446744073709551616 ^ k) (hk : k ≤ 1000) : (dg 18446744073709551616 z.natAbs).length < 4611686018427387904 := by
  have := dg_len (b := 18446744073709551616) (by omega) h
  omega
theorem near_len {n : Bool} {xs : List Nat} {Y : Nat} (hx : Al 18446744073709551616 xs) (hl : xs.length ≤ 100) : (dg 18446744073709551616 (if Y = 0 then 0 else nearZ (IV n (vl 18446744073709551616 xs)) Y).natAbs).length < 4611686018427387904 := by
  apply zlen (k := xs.length + 1) _ (by omega)
  have h1 := vl_lt hx
  have h2 : 0 < 18446744073709551616 ^ xs.length := Nat.pow_pos (by omega)
  rw [Nat.pow_succ]
  split
  · simp; omega
  · rename_i h0
    rw [near_eq (by omega), iv_natAbs]
    have h3 := Nat.div_le_self (vl 18446744073709551616 xs) Y
    unfold nearQ
    split <;> omega
theorem sum_len {z w : Int} {a b : Nat} (h : z.natAbs < 18446744073709551616 ^ a) (k : w.natAbs < 18446744073709551616 ^ b) : (z + w).natAbs < 18446744073709551616 ^ (a + b + 1) := by
  have h0 := Int.natAbs_add_le z w
  have h1 : 18446744073709551616 ^ a ≤ 18446744073709551616 ^ (a + b) := Nat.pow_le_pow_right (by omega) (by omega)
  have h2 : 18446744073709551616 ^ b ≤ 18446744073709551616 ^ (a + b) := Nat.pow_le_pow_right (by omega) (by omega)
  rw [Nat.pow_succ]; omega
theorem mul_len {z w : Int} {a b : Nat} (h : z.natAbs < 18446744073709551616 ^ a) (k : w.natAbs < 18446744073709551616 ^ b) : (z * w).natAbs < 18446744073709551616 ^ (a + b) := by
  rw [Int.natAbs_mul, Nat.pow_add]; exact Nat.mul_lt_mul'' h k
theorem iv_lt {n : Bool} {xs : List Nat} (hx : Al 18446744073709551616 xs) : (IV n (vl 18446744073709551616 xs)).natAbs < 18446744073709551616 ^ xs.length := by rw [iv_natAbs]; exact vl_lt hx

theorem Try_ent6 : Ent Try.prog 6 := ent_of Try.func6 (by kernel_rfl) rfl
set_option maxHeartbeats 4000000 in
theorem natWholes_law (n1 n2 : Bool) (va vb : Value) (xs ys : List Nat) (h : Hp) (ha : SlF h U va xs) (hb : SlF h U vb ys) (hx : Al 18446744073709551616 xs) (hy : Al 18446744073709551616 ys) :
    CallsH Try.prog 6 [.agg #[.bool n1, va], .agg #[.bool n2, vb]] h fun v' h' => v' = .bool true ∧ Ext h h' := by
  (apply enter Try.func6 rfl Try.ntmps6 rfl)
  refine runG ?_
  (apply s_box; exact rfl; exact rfl; exact rfl; exact rfl)
  intro p g1 u1 f1 c1
  (try dsimp only [Value.cells, List.toList_toArray] at u1)
  refine ⟨(by first | exact trivial | exact Ext.refl _ | assumption | exact Ext.trans (by assumption) (by assumption)), ?_⟩
  refine runG ?_
  (apply s_box; exact rfl; exact rfl; exact rfl; exact rfl)
  intro q g2 u2 f2 c2
  (try dsimp only [Value.cells, List.toList_toArray] at u2)
  refine ⟨(by first | exact trivial | exact Ext.refl _ | assumption | exact Ext.trans (by assumption) (by assumption)), ?_⟩
  have u1' := u1.ext f2
  have F2 := f1.trans f2
  refine runG ?_
  apply (s_call Try_ent8 rfl rfl rfl)
  refine (fixed_spec g2).mono ?_
  rintro _ h1 ⟨rfl, e1⟩
  refine ⟨(by first | exact trivial | exact Ext.refl _ | assumption | exact Ext.trans (by assumption) (by assumption)), ?_⟩
  have ha1 := ha.ext (F2.trans e1)
  have hb1 := hb.ext (F2.trans e1)
  have p1 := u1'.ext e1
  have q1 := u2.ext e1
  refine runG ?_
  (apply (s_lit (f := Prod.fst) (vs := [va, vb]) [(va, xs), (vb, ys)]); exact rfl; exact rfl; exact rfl; exact rfl; exact rfl; exact rfl; exact OneAll.all (.cons ha1.one (.cons hb1.one .nil)); exact rfl; exact rfl; exact rfl; omega)
  intro vf h2 of e2 bf
  refine ⟨(by first | exact trivial | exact Ext.refl _ | assumption | exact Ext.trans (by assumption) (by assumption)), ?_⟩
  have ha2 := ha1.ext e2
  have hb2 := hb1.ext e2
  have p2 := p1.ext e2
  have q2 := q1.ext e2
  have hfew : ∀ p ∈ [(va, xs), (vb, ys)], SlF h2 U p.1 p.2 := by
    intro p hp
    simp only [List.mem_cons, List.not_mem_nil, or_false] at hp
    rcases hp with rfl | rfl
    · exact ha2
    · exact hb2
  refine runG ?_
  apply (s_call Try_ent9 rfl rfl rfl)
  refine (few_spec vf _ h2 of.sl hfew (by simp)).mono ?_
  rintro _ _ ⟨rfl, rfl⟩
  refine ⟨(by first | exact trivial | exact Ext.refl _ | assumption | exact Ext.trans (by assumption) (by assumption)), ?_⟩
  rw [few2]
  have E2 := (F2.trans e1).trans e2
  refine runG ?_
  (apply w_cond; exact rfl; exact rfl) <;> intro hf
  · refine runG ?_
    exact fin1 rfl rfl ⟨rfl, E2⟩
  · simp only [Bool.not_eq_eq_eq_not, Bool.not_false, Bool.and_eq_true, decide_eq_true_eq] at hf
    obtain ⟨hf1, hf2⟩ := hf
    refine runG ?_
    apply (s_call Try_ent27 rfl rfl rfl)
    refine (nnear_spec n1 va vb xs ys h2 ha2 hb2 hx hy (by omega) (by omega)).mono ?_
    rintro _ h3 ⟨e3, x, rfl, ox⟩
    refine ⟨(by first | exact trivial | exact Ext.refl _ | assumption | exact Ext.trans (by assumption) (by assumption)), ?_⟩
    have p3 := p2.ext e3
    have q3 := q2.ext e3
    have E3 := E2.trans e3
    obtain ⟨xa, rfl, oxa⟩ := ox
    refine runG ?_
    (apply s_alloc; exact rfl; exact rfl; exact rfl)
    intro r g4 u4 f4 c4
    (try dsimp only [Value.cells, List.toList_toArray] at u4)
    refine ⟨(by first | exact trivial | exact Ext.refl _ | assumption | exact Ext.trans (by assumption) (by assumption)), ?_⟩
    refine runG ?_
    (apply s_storeV; exact rfl; exact rfl; exact rfl; (repeat (first | exact OneAll.nil | (apply OneAll.cons; (first | exact rfl | exact SlF.one (by assumption) | exact SlF.one (OwnF.sl (by assumption)) | exact Var.one (by assumption))))); exact rfl; exact rfl; exact u4; exact rfl)
    intro g5 u5 k5
    (try dsimp only [Value.cells, List.toList_toArray] at u5)
    refine ⟨(by first | exact trivial | exact Ext.refl _ | assumption | exact Ext.only (by assumption) _ | exact Only.trans (Ext.only (by assumption) _) (by assumption)), ?_⟩
    have f5 := k5.oldV f4 c4 (Nat.le_refl _)
    have p5 := p3.ext f5
    have q5 := q3.ext f5
    have x5 := oxa.sl.ext f5
    have E5 := E3.trans f5
    have ha5 := ha.ext E5
    have hb5 := hb.ext E5
    refine runG ?_
    apply (s_call Try_ent28 rfl rfl rfl)
    refine (rnear_spec n1 va vb xs ys g5 ha5 hb5 hx hy (by omega) (by omega)).mono ?_
    rintro _ h6 ⟨e6, y, rfl, oy⟩
    refine ⟨(by first | exact trivial | exact Ext.refl _ | assumption | exact Ext.trans (by assumption) (by assumption)), ?_⟩
    have p6 := p5.ext e6
    have q6 := q5.ext e6
    have u6 := u5.ext e6
    have x6 := x5.ext e6
    have hnl := near_len (n := n1) (Y := vl 18446744073709551616 ys) hx (by omega)
    obtain ⟨ya, rfl, oya⟩ := oy
    refine runG ?_
    (apply s_alloc; exact rfl; exact rfl; exact rfl)
    intro s g7 u7 f7 c7
    (try dsimp only [Value.cells, List.toList_toArray] at u7)
    refine ⟨(by first | exact trivial | exact Ext.refl _ | assumption | exact Ext.trans (by assumption) (by assumption)), ?_⟩
    refine runG ?_
    (apply s_storeV; exact rfl; exact rfl; exact rfl; (repeat (first | exact OneAll.nil | (apply OneAll.cons; (first | exact rfl | exact SlF.one (by assumption) | exact SlF.one (OwnF.sl (by assumption)) | exact Var.one (by assumption))))); exact rfl; exact rfl; exact u7; exact rfl)
    intro g8 u8 k8
    (try dsimp only [Value.cells, List.toList_toArray] at u8)
    refine ⟨(by first | exact trivial | exact Ext.refl _ | assumption | exact Ext.only (by assumption) _ | exact Only.trans (Ext.only (by assumption) _) (by assumption)), ?_⟩
    have f8 := k8.oldV f7 c7 (Nat.le_refl _)
    have p8 := p6.ext f8
    have q8 := q6.ext f8
    have u8r := u6.ext f8
    have x8 := x6.ext f8
    have y8 := oya.sl.ext f8
    have E8 := (E5.trans e6).trans f8
    have ha8 := ha.ext E8
    have hb8 := hb.ext E8
    refine runG ?_
    apply (s_call Try_ent30 rfl rfl rfl)
    refine (sum_spec n1 n2 va vb xs ys g8 ha8 hb8 hx hy (by omega) (by omega)).mono ?_
    rintro v9 h9 ⟨e9, o9⟩
    refine ⟨(by first | exact trivial | exact e9), ?_⟩
    have E9 := E8.trans e9
    have p9 := p8.ext e9
    have q9 := q8.ext e9
    have ha9 := ha8.ext e9
    have hb9 := hb8.ext e9
    refine runG ?_
    apply (s_call Try_ent31 rfl rfl rfl)
    refine (rsum_spec n1 n2 va vb xs ys h9 ha9 hb9 hx hy (by omega) (by omega)).mono ?_
    rintro v10 h10 ⟨e10, o10⟩
    refine ⟨(by first | exact trivial | exact (e9.trans e10)), ?_⟩
    have o9' := o9.ext e10
    refine runG ?_
    apply (s_call Try_ent29 rfl rfl rfl)
    refine (sameInt_spec v9 v10 _ _ h10 o9'.sl o10.sl (zlen (sum_len (iv_lt hx) (iv_lt hy)) (by omega))).mono ?_
    rintro _ h11 ⟨rfl, e11⟩
    refine ⟨(by first | exact trivial | exact ((e9.trans e10).trans e11)), ?_⟩
    rw [decide_eq_true rfl]
    have E11 := (e9.trans e10).trans e11
    have p11 := p8.ext E11
    have q11 := q8.ext E11
    have ha11 := ha8.ext E11
    have hb11 := hb8.ext E11
    refine runG ?_
    apply (s_call Try_ent32 rfl rfl rfl)
    refine (ntimes_spec n1 n2 va vb xs ys h11 ha11 hb11 hx hy (by omega) (by omega)).mono ?_
    rintro v12 h12 ⟨e12, o12⟩
    refine ⟨(by first | exact trivial | exact (E11.trans e12)), ?_⟩
    have p12 := p11.ext e12
    have q12 := q11.ext e12
    have ha12 := ha11.ext e12
    have hb12 := hb11.ext e12
    refine runG ?_
    apply (s_call Try_ent33 rfl rfl rfl)
    refine (rtimes_spec n1 n2 va vb xs ys h12 ha12 hb12 hx hy (by omega) (by omega)).mono ?_
    rintro v13 h13 ⟨e13, o13⟩
    refine ⟨(by first | exact trivial | exact ((E11.trans e12).trans e13)), ?_⟩
    have o12' := o12.ext e13
    refine runG ?_
    apply (s_call Try_ent29 rfl rfl rfl)
    refine (sameInt_spec v12 v13 _ _ h13 o12'.sl o13.sl (zlen (mul_len (iv_lt hx) (iv_lt hy)) (by omega))).mono ?_
    rintro _ h14 ⟨rfl, e14⟩
    refine ⟨(by first | exact trivial | exact (((E11.trans e12).trans e13).trans e14)), ?_⟩
    rw [decide_eq_true rfl]
    have E14 := ((E11.trans e12).trans e13).trans e14
    have u14 := u8r.ext E14
    have w14 := u8.ext E14
    have x14 := x8.ext E14
    have y14 := y8.ext E14
    refine runG ?_
    rw [decide_eq_true rfl]
    refine runG ?_
    apply (s_call Try_ent29 rfl rfl rfl)
    refine (sameInt_spec _ _ _ _ h14 ⟨xa, rfl, x14⟩ ⟨ya, rfl, y14⟩ (near_len hx (by omega))).mono ?_
    rintro _ h15 ⟨rfl, e15⟩
    refine ⟨(by first | exact trivial | exact (E14.trans e15)), ?_⟩
    rw [decide_eq_true rfl]
    refine runG ?_
    exact fin1 rfl rfl ⟨rfl, E8.trans (E14.trans e15)⟩
end Go.Proofs.Ytddhnmfndjcleaa

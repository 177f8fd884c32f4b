/- Texts RkaC to TpeB of this work, joined, without what the law does not lean on. -/
import Derived.Test.YtfcmdefigldpnaaGreatDoorMCb19
namespace Go.Proofs.YtfcmdefigldpnaaGreatDoor
set_option linter.unusedVariables false
set_option maxRecDepth 8000
open Go Go.Den Go.RowKit Go.Mth Go.Dig

theorem Tryz_ent93 : Ent Tryz.prog 93 := ent_of Tryz.func93 (by kernel_rfl) rfl
set_option maxHeartbeats 4000000 in
theorem refMul5_spec (vp va vb : Value) (qs : List Nat) (xs ys : List (Value × List Nat)) (n : Nat) (h : Hp) (sp : SlF h U vp qs) (sa : PolAt h va xs) (sb : PolAt h vb ys) (hl : ys.length = xs.length) (hql : xs.length ≤ qs.length) (h24 : xs.length ≤ 24) (hn : 1 ≤ n ∧ n ≤ 4096) (h0 : 0 < xs.length)
    (hr : ∀ (i q : Nat) (x y : Value × List Nat), xs[i]? = some x → ys[i]? = some y → qs[i]? = some q → x.2.length = n ∧ y.2.length = n ∧ (∀ a ∈ x.2, a < 18446744073709551616) ∧ (∀ a ∈ y.2, a < 18446744073709551616) ∧ 1 < q ∧ q < 18446744073709551616) :
    CallsH Tryz.prog 93 [vp, .agg #[va], .agg #[vb]] h fun v' h' => Ext h h' ∧ ∃ vr rows p, v' = .agg #[vr] ∧ RowsAt h' h.size p vr rows ∧ rows.length = xs.length ∧
      ∀ (i q : Nat) (x y r : Value × List Nat), xs[i]? = some x → ys[i]? = some y → qs[i]? = some q → rows[i]? = some r → Cnv n q x.2 y.2 r.2 := by
  have hvp : ∀ b, vp.ownBlock = some b → b < h.size := fun b hb => sp.lt (by omega) b hb
  have hva : ∀ b, va.ownBlock = some b → b < h.size := fun b hb => sa.row.lt h0 b hb
  have hvb : ∀ b, vb.ownBlock = some b → b < h.size := fun b hb => sb.row.lt (by omega) b hb
  (apply enter Tryz.func93 rfl Tryz.ntmps93 rfl)
  refine runJ ?_
  (apply s_box; exact rfl; exact rfl; exact rfl; exact rfl)
  intro p4 h1 x1 e1 b1
  (try dsimp only [Value.cells, List.toList_toArray] at x1)
  refine clsI ?_
  refine runJ ?_
  (apply s_box; exact rfl; exact rfl; exact rfl; exact rfl)
  intro p5 h2 x2 e2 b2
  (try dsimp only [Value.cells, List.toList_toArray] at x2)
  refine clsI ?_
  refine runJ ?_
  (apply s_alloc; exact rfl; exact rfl; exact rfl)
  intro p6 h3 x3 e3 b3
  (try dsimp only [Value.cells, List.toList_toArray] at x3)
  refine clsI ?_
  have E3 := (e1.trans e2).trans e3
  have w4 := (x1.ext e2).ext e3
  have w5 := x2.ext e3
  have w6 := x3
  have hs1 : h.size < h1.size := by obtain ⟨j, hj, hlj⟩ := x1.blk; rw [b1] at hj; cases hj; exact hlj
  have hs2 : h1.size < h2.size := by obtain ⟨j, hj, hlj⟩ := x2.blk; rw [b2] at hj; cases hj; exact hlj
  have hs3 : h2.size < h3.size := by obtain ⟨j, hj, hlj⟩ := x3.blk; rw [b3] at hj; cases hj; exact hlj
  have sp3 := sp.ext E3
  have sa3 := (sa.ext E3).row
  have sb3 := (sb.ext E3).row
  have ela := (sa.ext E3).el
  have elb := (sb.ext E3).el
  refine runJ ?_
  (apply s_alloc; exact rfl; exact rfl; exact rfl)
  intro p7 h4 x4 e4 b4
  (try dsimp only [Value.cells, List.toList_toArray] at x4)
  refine clsI ?_
  have hb34 : h3.size < h4.size := by obtain ⟨j, hj, hlj⟩ := x4.blk; rw [b4] at hj; cases hj; exact hlj
  have hk4s := e4.1
  have a4 := w4.ext e4
  have s4 := sa3.ext e4
  refine runJ ?_
  (first | (apply w_seqB; exact rfl; apply w_block; exact rfl) | skip)
  apply (w_loop (σ := Nat × List (Value × List Nat) × Value) rfl (fun j => [(0, vp), (4, p4), (5, p5), (6, p6), (7, p7), (11, N xs.length), (12, N j.1)])
    (fun j h' => Ext h3 h' ∧ h4.size ≤ h'.size ∧ j.1 ≤ xs.length ∧ Var h' p7 56 [j.2.2] ∧ RowsAt h' h3.size (some h3.size) j.2.2 j.2.1 ∧ j.2.1.length = j.1 ∧
      ∀ (i q : Nat) (x y r : Value × List Nat), xs[i]? = some x → ys[i]? = some y → qs[i]? = some q → j.2.1[i]? = some r → Cnv n q x.2 y.2 r.2) (fun j => xs.length - j.1) (0, [], .slice none 0 0))
  · exact subs
  · exact ⟨e4, Nat.le_refl _, Nat.zero_le _, x4, RowsAt.nil _ _ _, rfl, by intro i q x y r _ _ _ hr; cases hr⟩
  clear x4 a4 s4
  rintro ⟨j, rows, vR⟩ h7 ⟨e7, z7, j1, x7, R7, l7, m7⟩
  dsimp only at e7 z7 j1 x7 R7 l7 m7 ⊢
  have u4 : Var h7 p4 56 [va] := w4.ext e7
  have u5 : Var h7 p5 56 [vb] := w5.ext e7
  have sp7 := sp3.ext e7
  have sa7 := sa3.ext e7
  have sb7 := sb3.ext e7
  have hvR : ∀ b, vR.ownBlock = some b → h3.size ≤ b := fun b hb => (R7.own.blk b hb).1
  have hpv : pblk p7 ≠ vR.ownBlock := by
    rw [b4]; intro e
    rcases R7.vp with h0 | h0
    · rw [h0] at e; cases e
    · exact h0 e.symm
  have hp4 : pblk p4 ≠ vR.ownBlock := by rw [b1]; intro e; have := hvR _ e.symm; omega
  have hp5 : pblk p5 ≠ vR.ownBlock := by rw [b2]; intro e; have := hvR _ e.symm; omega
  have nk : ∀ v : Value, (∀ b, v.ownBlock = some b → b < h.size) → v.ownBlock = none ∨ v.ownBlock ≠ vR.ownBlock := fun v hv => by
    cases hw : v.ownBlock with
    | none => exact .inl rfl
    | some b => exact .inr fun e => by have := hv b hw; have := hvR b e.symm; omega
  have nvp := nk vp hvp
  have nva := nk va hva
  have nvb := nk vb hvb
  refine runJ ?_
  (apply w_condD; exact rfl; exact rfl) <;> intro hj
  · obtain ⟨x, hxj⟩ := get_lt hj
    obtain ⟨y, hyj⟩ := get_lt (l := ys) (j := j) (by omega)
    obtain ⟨q, hqj⟩ := get_lt (l := qs) (j := j) (by omega)
    obtain ⟨f1, f2, f3, f4, f5, f6⟩ := hr j q x y hxj hyj hqj
    have sx := (ela x (List.mem_of_getElem? hxj)).ext e7
    have sy := (elb y (List.mem_of_getElem? hyj)).ext e7
    have hMM : ∀ r : Value × List Nat, Cnv n q x.2 y.2 r.2 → ∀ (i q : Nat) (x y r' : Value × List Nat), xs[i]? = some x → ys[i]? = some y → qs[i]? = some q → (rows ++ [r])[i]? = some r' → Cnv n q x.2 y.2 r'.2 := by
      intro r hr' i q' x' y' r' hx' hy' hq' hri
      rcases Nat.lt_or_ge i j with hij | hij
      · rw [List.getElem?_append_left (by omega)] at hri
        exact m7 i q' x' y' r' hx' hy' hq' hri
      · have hi := (List.getElem?_eq_some_iff.1 hri).1
        rw [List.length_append] at hi
        simp only [List.length_cons, List.length_nil] at hi
        obtain rfl : i = j := by omega
        rw [List.getElem?_append_right (by omega), l7, Nat.sub_self] at hri
        rw [hxj] at hx'
        rw [hyj] at hy'
        rw [hqj] at hq'
        cases hx'; cases hy'; cases hq'; cases hri
        exact hr'
    obtain ⟨vx, ws⟩ := x
    obtain ⟨vy, zs⟩ := y
    dsimp only at sx sy f1 f2 f3 f4 hMM ⊢
    refine runJN ?_
    (apply (r_drawnT 20 (Only vR.ownBlock h7)); exact rfl; exact mixed; kernel_rfl; exact rfl; first | exact Ext.refl _ | exact Only.refl _ _)
    refine runJ ?_
    apply (s_call Tryz_ent145 rfl rfl rfl)
    refine (refMul4_spec vx vy ws zs q n h7 sx sy f1 f2 f3 f4 f5 f6 hn.2).mono ?_
    rintro vl h9 ⟨e9, rs, o9, cv⟩
    refine ⟨(by first | exact trivial | exact e9.only _), ?_⟩
    have R9 := R7.ext e9
    have x9 := x7.ext e9
    have o9one := o9.sl.one
    have hlen : rows.length + 1 < 1000000 := by omega
    refine runJ ?_
    (apply (s_lit (f := Prod.fst) (vs := [vl]) [(vl, rs)]); exact rfl; exact rfl; exact rfl; exact rfl; exact rfl; exact rfl; exact OneAll.all (OneAll.cons o9one OneAll.nil); exact rfl; exact rfl; exact rfl; omega)
    intro w10 h10 o10 e10 b10
    refine ⟨(by first | exact (e9.trans e10).only _ | exact trivial | exact Ext.refl _ | assumption | exact Ext.trans (by assumption) (by assumption)), ?_⟩
    have own10 := R9.own.ext e10
    have hz10 : h3.size ≤ h10.size := Nat.le_trans e7.1 (Nat.le_trans e9.1 e10.1)
    have hll : [(vl, rs)].length = 1 := rfl
    refine runJ ?_
    refine s_append (bytes := 24) (s := 1) (k' := 1) rfl rfl rfl rfl rfl (by decide) rfl rfl own10 o10.sl rfl (by intro u hu; simp only [List.map_cons, List.map_nil] at hu; rw [List.mem_singleton.1 hu]; exact o9one) hz10 (by simp only [maxLen]; omega) (by omega) ?_
    intro v11 h11 o11 k11 b11
    have k711 : Only vR.ownBlock h7 h11 := ((e9.trans e10).only _).trans k11
    refine ⟨k711, ?_⟩
    have o11 : OwnF h11 h3.size 22 Prod.fst v11 (rows ++ [(vl, rs)]) := by
      unfold OwnF
      rw [List.length_append, List.map_append]
      exact o11
    have x11 := (x9.ext e10).only k11 hpv
    have o11one := o11.sl.one
    refine runJ ?_
    apply tail_end
    refine runJ ?_
    (apply s_storeC; exact rfl; exact rfl; (first | exact rfl | exact SlF.one (by assumption) | exact SlF.one (OwnF.sl (by assumption)) | exact Var.one (by assumption)); exact rfl; exact rfl; exact x11; exact rfl)
    intro h12 x12 k12
    refine ⟨(by first | exact trivial | exact Ext.refl _ | assumption | exact Ext.only (by assumption) _ | exact Only.trans (Ext.only (by assumption) _) (by assumption)), ?_⟩
    have e10' : Ext h3 h10 := (e7.trans e9).trans e10
    have e11 : Ext h3 h11 := ext_onlyR e10' k11 hvR
    have e12 : Ext h3 h12 := k12.oldV e11 b4 (Nat.le_refl _)
    rw [b4] at k12
    have R12 := (R9.ext e10).push (z := h7.size) ((o9.ext e10).base (Nat.le_trans hk4s z7)) (fun k hk => (o9.blk k hk).1) (fun k hk => (R7.own.blk k hk).2) (Nat.lt_of_lt_of_le hb34 z7) (Nat.le_trans e9.1 e10.1) o11 k11 b11 k12
    refine runJ ?_
    apply again_normal (j + 1, rows ++ [(vl, rs)], v11)
    · exact subs
    · exact ⟨e12, Nat.le_trans z7 (Nat.le_trans (Nat.le_trans e9.1 e10.1) (Nat.le_trans k11.1 k12.1)), hj, x12, R12, by dsimp only; rw [List.length_append]; simp [l7], hMM _ cv⟩
    · dsimp only; omega
  · have hjn : j = xs.length := by omega
    subst hjn
    have w37 := w6.ext e7
    refine runJ ?_
    (apply s_storeV; exact rfl; exact rfl; exact rfl; exact (OneAll.cons R7.own.sl.one OneAll.nil : OneAll [vR]); exact rfl; exact rfl; exact w37; exact rfl)
    intro h8 x8 k8
    refine ⟨trivial, ?_⟩
    have x8 : Var h8 p6 56 [vR] := x8
    have e8 : Ext h h8 := k8.oldV (E3.trans e7) b3 (e1.trans e2).1
    rw [b3] at k8
    refine runJ ?_
    exact finC rfl rfl x8 rfl rfl ⟨e8, _, rows, _, rfl, (R7.low k8 hs3).base E3.1, l7, m7⟩

theorem Tryz_ent75 : Ent Tryz.prog 75 := ent_of Tryz.func75 (by kernel_rfl) rfl
set_option maxHeartbeats 2000000 in
theorem refSub5_spec (vp va vb : Value) (qs : List Nat) (xs ys : List (Value × List Nat)) (h : Hp) (sp : SlF h U vp qs) (sa : PolAt h va xs) (sb : PolAt h vb ys) (hl : ys.length = xs.length) (hql : xs.length ≤ qs.length) (h24 : xs.length ≤ 24)
    (hr : ∀ (i q : Nat) (x y : Value × List Nat), xs[i]? = some x → ys[i]? = some y → qs[i]? = some q → y.2.length = x.2.length ∧ x.2.length ≤ 4096 ∧ (∀ a ∈ x.2, a < 18446744073709551616) ∧ (∀ a ∈ y.2, a < 18446744073709551616) ∧ 0 < q ∧ q < 18446744073709551616) :
    CallsH Tryz.prog 75 [vp, .agg #[va], .agg #[vb]] h fun v' h' => Ext h h' ∧ ∃ vr rows p, v' = .agg #[vr] ∧ RowsAt h' h.size p vr rows ∧ rows.length = xs.length ∧
      ∀ (i q : Nat) (x y r : Value × List Nat), xs[i]? = some x → ys[i]? = some y → qs[i]? = some q → rows[i]? = some r → r.2 = addL q x.2 (negL q y.2) := by
  (apply enter Tryz.func75 rfl Tryz.ntmps75 rfl)
  refine runJ ?_
  (apply s_box; exact rfl; exact rfl; exact rfl; exact rfl)
  intro p4 h1 x1 e1 b1
  (try dsimp only [Value.cells, List.toList_toArray] at x1)
  refine clsI ?_
  refine runJ ?_
  (apply s_box; exact rfl; exact rfl; exact rfl; exact rfl)
  intro p5 h2 x2 e2 b2
  (try dsimp only [Value.cells, List.toList_toArray] at x2)
  refine clsI ?_
  refine runJ ?_
  (apply s_alloc; exact rfl; exact rfl; exact rfl)
  intro p6 h3 x3 e3 b3
  (try dsimp only [Value.cells, List.toList_toArray] at x3)
  refine clsI ?_
  have E3 := (e1.trans e2).trans e3
  have w4 : Var h3 p4 56 [va] := (x1.ext e2).ext e3
  have w5 : Var h3 p5 56 [vb] := x2.ext e3
  have hs23 : h2.size < h3.size := by obtain ⟨j, hj, hl⟩ := x3.blk; rw [b3] at hj; cases hj; exact hl
  have sp3 := sp.ext E3
  have NG := refNeg5_spec vp vb qs ys h3 sp3 (sb.ext E3) (by omega) (by omega) (fun i q y hy hq => by
    obtain ⟨x, hx⟩ := get_lt (l := xs) (j := i) (by have := (List.getElem?_eq_some_iff.1 hy).1; omega)
    obtain ⟨f1, f2, f3, f4, f5, f6⟩ := hr i q x y hx hy hq
    exact ⟨by omega, f4, f5, f6⟩)
  refine runJN ?_
  (apply (r_drawnT 6 (Ext h3)); exact rfl; exact mixed; kernel_rfl; exact rfl; first | exact Ext.refl _ | exact Only.refl _ _)
  refine runJ ?_
  apply (s_call Tryz_ent133 rfl rfl rfl)
  refine (NG).mono ?_
  rintro _ h5 ⟨e5, vn, rn, pn, rfl, RN, ln, mn⟩
  refine ⟨(by first | exact trivial | exact e5), ?_⟩
  have hrn : ∀ (i q : Nat) (x y : Value × List Nat), xs[i]? = some x → rn[i]? = some y → qs[i]? = some q → ∃ z, ys[i]? = some z ∧ y.2 = negL q z.2 := fun i q x y hx hy hq => by
    obtain ⟨z, hz⟩ := get_lt (l := ys) (j := i) (by have := (List.getElem?_eq_some_iff.1 hx).1; omega)
    exact ⟨z, hz, mn i q z y hz hq hy⟩
  have AD := refAdd5_spec vp va vn qs xs rn h5 (sp3.ext e5) ((sa.ext E3).ext e5) RN.pol (by omega) hql h24 (fun i q x y hx hy hq => by
    obtain ⟨z, hz, e⟩ := hrn i q x y hx hy hq
    obtain ⟨f1, f2, f3, f4, f5, f6⟩ := hr i q x z hx hz hq
    refine ⟨by rw [e]; unfold negL; rw [List.length_map]; exact f1, f2, f3, fun a ha => ?_, f6⟩
    rw [e] at ha
    unfold negL at ha
    obtain ⟨b, hb, rfl⟩ := List.mem_map.1 ha
    exact Nat.lt_trans (subm_lt f5) f6)
  refine runJ ?_
  apply (s_call Tryz_ent132 rfl rfl rfl)
  refine (AD).mono ?_
  rintro _ h6 ⟨e6, va6, ra, pa, rfl, RA, la, ma⟩
  refine ⟨(by first | exact trivial | exact e5.trans e6), ?_⟩
  have E6 := (E3.trans e5).trans e6
  have hone := RA.own.sl.one
  have x36 := x3.ext (e5.trans e6)
  refine runJ ?_
  apply tail_end
  refine runJ ?_
  (apply s_storeV; exact rfl; exact rfl; exact rfl; exact (OneAll.cons hone OneAll.nil : OneAll [va6]); exact rfl; exact rfl; exact x36; exact rfl)
  intro h7 x7 k7
  refine ⟨trivial, ?_⟩
  have x7 : Var h7 p6 56 [va6] := x7
  have E7 : Ext h h7 := k7.oldV E6 b3 (e1.trans e2).1
  rw [b3] at k7
  refine runJ ?_
  refine finC rfl rfl x7 rfl rfl ⟨E7, _, ra, _, rfl, (RA.low k7 (Nat.lt_of_lt_of_le hs23 e5.1)).base (Nat.le_trans E3.1 e5.1), la, fun i q x y r hx hy hq hrr => ?_⟩
  obtain ⟨yn, hyn⟩ := get_lt (l := rn) (j := i) (by have := (List.getElem?_eq_some_iff.1 hy).1; omega)
  rw [ma i q x yn r hx hyn hq hrr, mn i q y yn hy hq hyn]
end Go.Proofs.YtfcmdefigldpnaaGreatDoor


namespace Go.Den
open Go Go.RowKit
section
variable {P : Program} {n : Nat} {Q : Post} {l : Fr} {h : Hp} {ops : List Oper} {Ch : Hp → Prop} {E : Nat → Bool} {i : Nat}
variable {d : Nat} {t yt : TypeId} {x y : Operand} {a b : Nat}
theorem bits_and_i64_nat (a b : Nat) (ha : a < 9223372036854775808) (hb : b < 9223372036854775808) :
    bits .and .i64 (a : Int) (b : Int) = ((a &&& b : Nat) : Int) := by
  have hx : a &&& b < 2 ^ 63 := Nat.and_lt_two_pow _ (by omega)
  have h1 : (BitVec.ofInt 64 (a : Int)).toNat = a := by
    rw [BitVec.ofInt_natCast, BitVec.toNat_ofNat]; exact Nat.mod_eq_of_lt (by omega)
  have h2 : (BitVec.ofInt 64 (b : Int)).toNat = b := by
    rw [BitVec.ofInt_natCast, BitVec.toNat_ofNat]; exact Nat.mod_eq_of_lt (by omega)
  show IntKind.i64.wrap ((BitVec.ofInt 64 (a : Int) &&& BitVec.ofInt 64 (b : Int)).toNat : Int) = _
  rw [BitVec.toNat_and, h1, h2]
  exact wrapI_in _ (by omega)
theorem s_andN (hx : IsK (ev l x) .i64 a) (hy : IsK (ev l y) .i64 b) (hb : Nat.blt d n = true) (hn : a < 9223372036854775808 ∧ b < 9223372036854775808)
    (k : S P n ops Ch E Q (i + 1) ((d, N (a &&& b)) :: l) h) : O P n ops Ch E Q i d (.binOp .and t x y yt) l h :=
  s_bin hx.h hy.h hb (fun w' => by
    show Result.ok (Value.int .i64 (bits .and .i64 (a : Int) b)) w' = _
    rw [bits_and_i64_nat _ _ hn.1 hn.2]) k
end
end Go.Den
namespace Go.Proofs.YtfcmdefigldpnaaGreatDoor
set_option linter.unusedVariables false
set_option maxRecDepth 8000
open Go Go.Den Go.RowKit Go.Dig

def one1 (x : Nat) : Nat := (x / 2 ^ 1 &&& 6148914691236517205) + (x &&& 6148914691236517205)
def one2 (y : Nat) : Nat := (y / 2 ^ 2 &&& 3689348814741910323) + (y &&& 3689348814741910323)
def one3 (z : Nat) : Nat := z / 2 ^ 4 + z &&& 1085102592571150095
def one4 (a : Nat) : Nat := a + a / 2 ^ 8
def one5 (a : Nat) : Nat := a + a / 2 ^ 16
def one6 (a : Nat) : Nat := a + a / 2 ^ 32
def ones (x : Nat) : Nat := one6 (one5 (one4 (one3 (one2 (one1 x))))) &&& 127

theorem tones_spec (x : Nat) (h : Hp) (hx : x < 18446744073709551616) :
    CallsH Tryz.prog 153 [U x] h fun v' h' => v' = N (ones x) ∧ h = h' := by
  have a1 : x / 2 ^ 1 &&& 6148914691236517205 ≤ 6148914691236517205 := Nat.and_le_right
  have a2 : x &&& 6148914691236517205 ≤ 6148914691236517205 := Nat.and_le_right
  (apply enter Tryz.func153 rfl Tryz.ntmps153 rfl)
  refine runH ?_
  have hy : one1 x = (x / 2 ^ 1 &&& 6148914691236517205) + (x &&& 6148914691236517205) := rfl
  rw [← hy]
  unfold ones
  generalize one1 x = y at hy ⊢
  have b1 : y / 2 ^ 2 &&& 3689348814741910323 ≤ 3689348814741910323 := Nat.and_le_right
  have b2 : y &&& 3689348814741910323 ≤ 3689348814741910323 := Nat.and_le_right
  have b3 : (y / 2 ^ 2 &&& 3689348814741910323) + (y &&& 3689348814741910323) ≤ 7378697629483820646 := by omega
  have b4 : ((y / 2 ^ 2 &&& 3689348814741910323) + (y &&& 3689348814741910323)) / 2 ^ 4 + ((y / 2 ^ 2 &&& 3689348814741910323) + (y &&& 3689348814741910323)) &&& 1085102592571150095 ≤ 1085102592571150095 := Nat.and_le_right
  refine runH ?_
  have hz : one3 (one2 y) = ((y / 2 ^ 2 &&& 3689348814741910323) + (y &&& 3689348814741910323)) / 2 ^ 4 + ((y / 2 ^ 2 &&& 3689348814741910323) + (y &&& 3689348814741910323)) &&& 1085102592571150095 := rfl
  rw [← hz] at b4 ⊢
  generalize one3 (one2 y) = z at b4 ⊢
  have e4 : one4 z = z + z / 2 ^ 8 := rfl
  have d4 : one4 z ≤ 1100000000000000000 := by rw [e4]; omega
  refine runH ?_
  rw [← e4]
  have e5 : one5 (one4 z) = one4 z + one4 z / 2 ^ 16 := rfl
  have d5 : one5 (one4 z) ≤ 1200000000000000000 := by rw [e5]; omega
  refine runH ?_
  (apply s_andN; (first | exact isK_c | exact isK_t rfl); (first | exact isK_c | exact isK_t rfl); exact rfl; omega)
  refine runH ?_
  exact fin1 rfl rfl ⟨rfl, rfl⟩

def onesLe : Nat → Nat → Nat → Bool
  | w, lo, 0 => Nat.ble (ones lo) w
  | w, lo, k + 1 => onesLe w lo k && onesLe w (lo + 2 ^ k) k
theorem onesLe_spec : ∀ (k w lo : Nat), onesLe w lo k = true → ∀ x, lo ≤ x → x < lo + 2 ^ k → ones x ≤ w
  | 0, w, lo, h, x, h1, h2 => by
    have : x = lo := by simp at h2; omega
    subst this
    exact Nat.le_of_ble_eq_true h
  | k + 1, w, lo, h, x, h1, h2 => by
    simp only [onesLe, Bool.and_eq_true] at h
    rw [Nat.pow_succ] at h2
    by_cases hx : x < lo + 2 ^ k
    · exact onesLe_spec k w lo h.1 x h1 hx
    · exact onesLe_spec k w (lo + 2 ^ k) h.2 x (by omega) (by omega)
theorem ones_table : ((List.range 16).all fun w => onesLe (w + 1) (2 ^ w) w) = true := by decide +kernel
theorem ones_le {w x : Nat} (hw : w ≤ 16) (hx : x < 2 ^ w) : ones x ≤ w := by
  induction w with
  | zero => have : x = 0 := by simp at hx; omega
            subst this; decide
  | succ w ih =>
    by_cases h : x < 2 ^ w
    · have := ih (by omega) h; omega
    · have ht := List.all_eq_true.1 ones_table w (by simp; omega)
      exact onesLe_spec w (w + 1) (2 ^ w) ht x (by omega) (by rw [Nat.pow_succ] at hx; omega)

end Go.Proofs.YtfcmdefigldpnaaGreatDoor


namespace Go.Proofs.YtfcmdefigldpnaaGreatDoor
set_option linter.unusedVariables false
set_option maxRecDepth 8000
open Go Go.Den Go.RowKit Go.Dig

theorem Tryz_ent109 : Ent Tryz.prog 109 := ent_of Tryz.func109 (by kernel_rfl) rfl
theorem error_spec (t : Value) (B : Option Nat) (w : Nat) (ds : List Nat) (o : Bool) (h : Hp) (s : TapeAt h t B ds o) (hw : 1 ≤ w) (hw2 : w ≤ 16) :
    CallsH Tryz.prog 109 [t, N w] h fun v' h' => Only (pblk t) h h' ∧
      ((v' = .tuple #[N 0, N 11] ∧ (∃ ds', TapeAt h' t B ds' true) ∧ (o = false ∨ ds = [] → TapeAt h' t B [] true) ∧ (o = true ∨ ds = [])) ∨ (∃ r : Int, ∃ ds', v' = .tuple #[I r, N 0] ∧ -(w : Int) ≤ r ∧ r ≤ w ∧ o = false ∧ (∃ d, ds = d :: ds' ∧ r = ((ones (d &&& 1 * 2 ^ w - 1) : Nat) : Int) - ((ones (d / 2 ^ w &&& 1 * 2 ^ w - 1) : Nat) : Int)) ∧ TapeAt h' t B ds' false ∧ ds'.length ≤ ds.length)) := by
  have s0 := s
  obtain ⟨v, s1, s2, s3, s4, s5⟩ := s
  (apply enter Tryz.func109 rfl Tryz.ntmps109 rfl)
  refine runH ?_
  (apply s_splitG; exact rfl; exact rfl; exact rfl; exact rfl) <;> intro hg
  · omega
  refine runH ?_
  (apply w_condF; exact rfl; exact rfl; exact (by omega))
  refine runH ?_
  apply (s_call Tryz_ent150 rfl rfl rfl)
  refine (draw_spec t B ds o h s0).mono ?_
  rintro r h2 ⟨k2, D⟩
  refine ⟨trivial, ?_⟩
  cases ds with
  | nil =>
    obtain ⟨rfl, D⟩ := D
    refine runH ?_
    exact fin2 rfl rfl rfl ⟨k2, .inl ⟨rfl, ⟨_, D⟩, fun _ => D, .inr rfl⟩⟩
  | cons d ds' =>
    obtain ⟨rfl, D⟩ := D
    have D0 := D
    obtain ⟨v2, u1, u2, u3, u4, u5⟩ := D
    have hd64 : d < 18446744073709551616 := s4 d (by simp)
    refine runH ?_
    (apply w_cond; exact rfl; exact rfl) <;> intro ho
    · subst ho
      refine runH ?_
      refine fin2 rfl rfl rfl ⟨k2, .inl ⟨rfl, ⟨_, D0⟩, (fun h => by rcases h with h | h <;> cases h), .inl rfl⟩⟩
    · subst ho
      have p1 : 2 ^ w ≤ 65536 := by
        have := Nat.pow_le_pow_right (n := 2) (by omega) hw2
        simpa using this
      have p0 : 0 < 2 ^ w := Nat.two_pow_pos w
      have ma : ∀ x, (x &&& 1 * 2 ^ w - 1) < 2 ^ w := fun x => by
        rw [Nat.one_mul, Nat.and_two_pow_sub_one_eq_mod]; exact Nat.mod_lt _ p0
      have ma1 := ma d
      have ma2 := ma (d / 2 ^ w)
      have l1 := ones_le hw2 ma1
      have hdw : d / 2 ^ w < 18446744073709551616 ∧ 1 * 2 ^ w - 1 < 18446744073709551616 := ⟨Nat.lt_of_le_of_lt (Nat.div_le_self _ _) hd64, by omega⟩
      have l2 := ones_le hw2 ma2
      refine runH ?_
      apply (s_call Tryz_ent153 rfl rfl rfl)
      refine (tones_spec _ _ (Nat.lt_of_lt_of_le ma1 (by omega))).mono ?_
      rintro _ _ ⟨rfl, rfl⟩
      refine clsI ?_
      refine runH ?_
      apply (s_call Tryz_ent153 rfl rfl rfl)
      refine (tones_spec _ _ (Nat.lt_of_lt_of_le ma2 (by omega))).mono ?_
      rintro _ _ ⟨rfl, rfl⟩
      refine clsI ?_
      refine runH ?_
      refine fin2 rfl rfl rfl ⟨k2, .inr ⟨_, ds', rfl, ?_, ?_, rfl, ⟨d, rfl, rfl⟩, D0, by simp only [List.length_cons]; omega⟩⟩
      · omega
      · omega

theorem TapeAt.only {h h' : Hp} {t : Value} {B r : Option Nat} {ds : List Nat} {o : Bool} (s : TapeAt h t B ds o) (k : Only r h h') (h1 : pblk t ≠ r) (h2 : B ≠ r) : TapeAt h' t B ds o := by
  obtain ⟨v, s1, s2, s3, s4, s5⟩ := s
  refine ⟨v, s1.only k h1, s2.only k ?_, s3.mono k.1, s4, s5⟩
  rcases s3.own with e | e
  · exact .inl e
  · exact .inr (by rw [e]; exact h2)

theorem Tryz_ent101 : Ent Tryz.prog 101 := ent_of Tryz.func101 (by kernel_rfl) rfl
theorem tsized_spec (n : Int) (h : Hp) (hn : -9223372036854775808 ≤ n ∧ n < 9223372036854775808) : CallsH Tryz.prog 101 [I n] h fun v' h' => v' = .bool (decide (1 ≤ n ∧ n ≤ 4096)) ∧ h = h' := by
  (apply enter Tryz.func101 rfl Tryz.ntmps101 rfl)
  refine runH ?_
  (apply s_splitG; exact rfl; exact rfl; exact rfl; exact rfl) <;> intro h1
  · refine runH ?_
    refine fin1 rfl rfl ⟨?_, rfl⟩
    congr 1; simp [h1]
  · refine runH ?_
    refine fin1 rfl rfl ⟨?_, rfl⟩
    congr 1; simp [h1]

def rowT : Nat → List Nat → Option (List Int × List Nat)
  | 0, ds => some ([], ds)
  | k + 1, ds => match firstT ds with
    | none => none
    | some (r, ds1) => match rowT k ds1 with
      | none => none
      | some (rs, ds2) => some (r :: rs, ds2)

theorem Tryz_ent102 : Ent Tryz.prog 102 := ent_of Tryz.func102 (by kernel_rfl) rfl
theorem trow_spec (t : Value) (B : Option Nat) (n : Nat) (ds : List Nat) (h : Hp) (s : TapeAt h t B ds false) (hn : 1 ≤ n) (hn2 : n ≤ 4096) :
    CallsH Tryz.prog 102 [N n, .func (.func 103) #[t] #[]] h fun v' h' => Only (pblk t) h h' ∧ match rowT n ds with
      | none => v' = .tuple #[.slice none 0 0, N 11] ∧ TapeAt h' t B [] true
      | some (rs, ds') => ∃ u, v' = .tuple #[u, N 0] ∧ OwnF h' h.size 2 I u rs ∧ TapeAt h' t B ds' false ∧ ds'.length + n ≤ ds.length := by
  (apply enter Tryz.func102 rfl Tryz.ntmps102 rfl)
  refine runH ?_
  (apply (s_make (f := I) (bytes := 8) (0)); (first | exact isK_c | exact isK_t rfl); (first | exact isK_c | exact isK_t rfl); exact rfl; exact rfl; exact rfl; exact rfl; exact rfl; exact rfl; omega; omega; omega)
  intro u h1 o1 e1 b1
  refine clsI ?_
  refine runH ?_
  rw [List.length_replicate]
  have s1 : TapeAt h1 t B ds false := by
    obtain ⟨v, s1, s2, s3, s4, s5⟩ := s
    exact ⟨v, s1.ext e1, s2.ext e1, s3.mono e1.1, s4, s5⟩
  obtain ⟨pk, hpk, hpl⟩ : ∃ k, pblk t = some k ∧ k < h.size := by
    obtain ⟨v, s1, -⟩ := s
    exact s1.blk
  have hBlt : ∀ b, B = some b → b < h.size := by
    obtain ⟨v, -, -, s3, -⟩ := s
    exact s3.lt
  apply (w_loop (σ := Nat × List Int × List Nat) rfl (fun p => [(14, N p.1), (13, N n), (6, u), (1, .func (.func 103) #[t] #[])])
    (fun p h' => Only (pblk t) h h' ∧ OwnF h' h.size 2 I u (p.2.1 ++ List.replicate (n - p.1) 0) ∧ TapeAt h' t B p.2.2 false ∧ p.2.1.length = p.1 ∧ p.1 ≤ n ∧ p.2.2.length + p.1 ≤ ds.length ∧
      rowT n ds = (match rowT (n - p.1) p.2.2 with | none => none | some (x, y) => some (p.2.1 ++ x, y))) (fun p => n - p.1) (0, [], ds))
  · exact subs
  · refine ⟨e1.only _, by simpa using o1, s1, rfl, Nat.zero_le _, Nat.le_refl _, ?_⟩
    simp only [Nat.sub_zero, List.nil_append]
    cases rowT n ds <;> rfl
  · rintro ⟨i, rs, ds'⟩ h2 ⟨d1, d2, d3, d4, d5, d6, d7⟩
    dsimp only at d2 d3 d4 d5 d6 d7 ⊢
    refine runH ?_
    (apply w_condD; exact rfl; exact rfl) <;> intro hi
    · refine runH ?_
      refine (s_callV (fs := [t]) (cs := []) (vs := []) (args := []) rfl Tryz_ent103 rfl rfl rfl ?_)
      refine (ternary_spec t B ds' false h2 d3).mono ?_
      rintro r h3 ⟨k3, T⟩
      refine ⟨trivial, ?_⟩
      have d1' := d1.trans k3
      have hne : u.ownBlock = none ∨ u.ownBlock ≠ pblk t := d2.neV hpk hpl
      have o3 := d2.only k3 hne
      obtain ⟨m, hm⟩ : ∃ m, n - i = m + 1 := ⟨n - i - 1, by omega⟩
      simp only [Bool.false_eq_true, if_false] at T
      cases hf : firstT ds' with
      | none =>
        rw [hf] at T
        obtain ⟨rfl, -, T⟩ := T
        have T := T trivial
        have d8 : rowT n ds = none := by rw [d7, hm]; simp [rowT, hf]
        rw [d8]
        refine runH ?_
        exact fin2 rfl rfl rfl ⟨d1', rfl, T⟩
      | some q =>
        obtain ⟨r1, ds1⟩ := q
        rw [hf] at T
        obtain ⟨rfl, -, -, T, T2⟩ := T
        have hil : i < (rs ++ List.replicate (n - i) 0).length := by simp only [List.length_append, List.length_replicate]; omega
        refine runH ?_
        (apply (s_storeF (r1)); exact rfl; exact rfl; exact rfl; exact rfl; exact rfl; exact o3; exact rfl; (first | assumption | omega))
        intro h4 o4 k4
        refine clsI ?_
        rw [b1] at k4
        have hsz : h.size ≤ h3.size := d1'.1
        have hT : TapeAt h4 t B ds1 false := T.only k4 (by rw [hpk]; intro e; cases e; omega) (fun e => by have := hBlt _ e; omega)
        have d1'' : Only (pblk t) h h4 := ⟨Nat.le_trans d1'.1 k4.1, fun k hk hne => by
          rw [k4.2 k (Nat.lt_of_lt_of_le hk hsz) (fun e => by cases e; omega), d1'.2 k hk hne]⟩
        have hset : (rs ++ List.replicate (n - i) 0).set i r1 = (rs ++ [r1]) ++ List.replicate (n - (i + 1)) 0 := by
          rw [hm, show n - (i + 1) = m by omega, List.replicate_succ, List.set_append_right _ _ (by omega), show i - rs.length = 0 by omega]
          simp
        rw [hset] at o4
        refine runH ?_
        apply again_normal (i + 1, rs ++ [r1], ds1)
        · exact subs
        · refine ⟨d1'', o4, hT, by simp [d4], hi, by simp only []; omega, ?_⟩
          rw [d7, hm, show n - (i + 1) = m by omega]
          simp only [rowT, hf]
          cases rowT m ds1 with
          | none => rfl
          | some q => simp
        · simp only []; omega
    · have hi' : i = n := by omega
      subst hi'
      have d8 : rowT i ds = some (rs, ds') := by rw [d7, Nat.sub_self]; simp [rowT]
      rw [d8]
      refine runH ?_
      refine fin2 rfl rfl rfl ⟨d1, u, rfl, by simpa using d2, d3, by omega⟩

theorem Tryz_ent46 : Ent Tryz.prog 46 := ent_of Tryz.func46 (by kernel_rfl) rfl
theorem ternaries_spec (t : Value) (B : Option Nat) (n : Nat) (ds : List Nat) (h : Hp) (s : TapeAt h t B ds false) (hn : 1 ≤ n) (hn2 : n ≤ 4096) :
    CallsH Tryz.prog 46 [t, N n] h fun v' h' => Only (pblk t) h h' ∧ match rowT n ds with
      | none => v' = .tuple #[.slice none 0 0, N 11] ∧ TapeAt h' t B [] true
      | some (rs, ds') => ∃ u, v' = .tuple #[u, N 0] ∧ OwnF h' h.size 2 I u rs ∧ TapeAt h' t B ds' false ∧ ds'.length + n ≤ ds.length := by
  have s0 := s
  obtain ⟨v, s1, s2, s3, s4, s5⟩ := s
  (apply enter Tryz.func46 rfl Tryz.ntmps46 rfl)
  refine runH ?_
  apply (s_call Tryz_ent101 rfl rfl rfl)
  refine (tsized_spec n h (by omega)).mono ?_
  rintro _ _ ⟨rfl, rfl⟩
  refine clsI ?_
  have hd : decide (1 ≤ (n : Int) ∧ (n : Int) ≤ 4096) = true := by simp; omega
  rw [hd]
  refine runH ?_
  apply (s_call Tryz_ent102 rfl rfl rfl)
  refine (trow_spec t B n ds h s0 hn hn2).mono ?_
  rintro r h2 ⟨k2, T⟩
  refine ⟨trivial, ?_⟩
  cases hr : rowT n ds with
  | none =>
    rw [hr] at T
    obtain ⟨rfl, T⟩ := T
    refine runH ?_
    exact fin2 rfl rfl rfl ⟨k2, rfl, T⟩
  | some q =>
    obtain ⟨rs, ds'⟩ := q
    rw [hr] at T
    obtain ⟨u, rfl, T1, T2, T3⟩ := T
    refine runH ?_
    exact fin2 rfl rfl rfl ⟨k2, u, rfl, T1, T2, T3⟩


theorem Tryz_ent54 : Ent Tryz.prog 54 := ent_of Tryz.func54 (by kernel_rfl) rfl
theorem Tryz_ent104 : Ent Tryz.prog 104 := ent_of Tryz.func104 (by kernel_rfl) rfl
theorem TapeAt.ext {h h' : Hp} {t : Value} {B : Option Nat} {ds : List Nat} {o : Bool} (s : TapeAt h t B ds o) (k : Ext h h') : TapeAt h' t B ds o := by
  obtain ⟨v, s1, s2, s3, s4, s5⟩ := s
  exact ⟨v, s1.ext k, s2.ext k, s3.mono k.1, s4, s5⟩


def uniG (n : Nat) : List Nat → List Nat → Option (List (List Nat) × List Nat)
  | [], ds => some ([], ds)
  | q :: qs, ds => match rowG (firstB q) n ds with
    | none => none
    | some (l, ds1) => match uniG n qs ds1 with
      | none => none
      | some (ls, ds2) => some (l :: ls, ds2)
theorem uniG_step {n q : Nat} {qs ds' ds1 : List Nat} {Z : Option (List (List Nat) × List Nat)} {ls : List (List Nat)} {l : List Nat} (h : Z = preG ls (uniG n (q :: qs) ds')) (hf : rowG (firstB q) n ds' = some (l, ds1)) :
    Z = preG (ls ++ [l]) (uniG n qs ds1) := by
  rw [h]
  simp only [uniG, hf]
  cases uniG n qs ds1 with
  | none => rfl
  | some q => simp [preG]
theorem uniG_fail {n q : Nat} {qs ds' : List Nat} {Z : Option (List (List Nat) × List Nat)} {ls : List (List Nat)} (h : Z = preG ls (uniG n (q :: qs) ds')) (hf : rowG (firstB q) n ds' = none) : Z = none := by
  rw [h]
  simp only [uniG, hf, preG]
theorem uniG_zero {n : Nat} {ds' : List Nat} {Z : Option (List (List Nat) × List Nat)} {ls : List (List Nat)} (h : Z = preG ls (uniG n [] ds')) : Z = some (ls, ds') := by
  rw [h]
  simp [uniG, preG]
theorem firstB_lt {q : Nat} (hq : 0 < q) : ∀ (ds : List Nat) (r : Nat) (ds' : List Nat), firstB q ds = some (r, ds') → r < q
  | [], r, ds', h => by cases h
  | d :: ds, r, ds', h => by
    unfold firstB at h
    split at h
    · cases h; exact Nat.mod_lt _ hq
    · exact firstB_lt hq ds r ds' h
theorem rowG_all {α : Type} {f : List Nat → Option (α × List Nat)} {p : α → Prop} (hf : ∀ ds r ds', f ds = some (r, ds') → p r) : ∀ (n : Nat) (ds : List Nat) (rs : List α) (ds' : List Nat), rowG f n ds = some (rs, ds') → rs.length = n ∧ ∀ r ∈ rs, p r
  | 0, ds, rs, ds', h => by simp only [rowG, Option.some.injEq, Prod.mk.injEq] at h; obtain ⟨rfl, -⟩ := h; exact ⟨rfl, fun r hr => by cases hr⟩
  | n + 1, ds, rs, ds', h => by
    simp only [rowG] at h
    cases h1 : f ds with
    | none => rw [h1] at h; cases h
    | some q =>
      obtain ⟨r, ds1⟩ := q
      rw [h1] at h
      dsimp only at h
      cases h2 : rowG f n ds1 with
      | none => rw [h2] at h; cases h
      | some q2 =>
        obtain ⟨rs2, ds2⟩ := q2
        rw [h2] at h
        simp only [Option.some.injEq, Prod.mk.injEq] at h
        obtain ⟨rfl, rfl⟩ := h
        obtain ⟨a1, a2⟩ := rowG_all hf n ds1 rs2 ds2 h2
        refine ⟨by simp [a1], fun x hx => ?_⟩
        rcases List.mem_cons.1 hx with rfl | hx
        · exact hf _ _ _ h1
        · exact a2 x hx


def GotP {α : Type} (f : α → Value) (z : Value) (h : Hp) (t : Value) (B : Option Nat) (v' : Value) : Option (α × List Nat) → Prop
  | none => v' = .tuple #[z, N 11] ∧ TapeAt h t B [] true
  | some (r, ds) => v' = .tuple #[f r, N 0] ∧ TapeAt h t B ds false
theorem sp_eq (q : Nat) : Nat.mod (Nat.mod 1 q * 18446744073709551616 + 0) q = 18446744073709551616 % q := by
  show (1 % q * 18446744073709551616 + 0) % q = _
  rw [Nat.add_zero, Nat.mod_mul_mod, Nat.one_mul]
theorem TapeAt.al {h : Hp} {t : Value} {B : Option Nat} {ds : List Nat} {o : Bool} (s : TapeAt h t B ds o) : Al 18446744073709551616 ds := by
  obtain ⟨v, -, -, -, s4, -⟩ := s
  exact s4
theorem TapeAt.pb {h : Hp} {t : Value} {B : Option Nat} {ds : List Nat} {o : Bool} (s : TapeAt h t B ds o) : ∃ k, pblk t = some k ∧ k < h.size := by
  obtain ⟨v, s1, -⟩ := s
  exact s1.blk
theorem TapeAt.bl {h : Hp} {t : Value} {B : Option Nat} {ds : List Nat} {o : Bool} (s : TapeAt h t B ds o) : ∀ b, B = some b → b < h.size := by
  obtain ⟨v, -, -, s3, -⟩ := s
  exact s3.lt
theorem TapeAt.own {h h' : Hp} {t : Value} {B r : Option Nat} {ds : List Nat} {o : Bool} (s : TapeAt h t B ds o) (k : Only r h h') {M : Nat} (hp : ∀ j, pblk t = some j → j < M) (hB : ∀ b, B = some b → b < M) (hr : ∀ j, r = some j → M ≤ j) : TapeAt h' t B ds o := by
  cases r with
  | none => exact s.ext k.ext
  | some j => exact s.only k (fun e => by have := hp j e; have := hr j rfl; omega) (fun e => by have := hB j e; have := hr j rfl; omega)

theorem belowP_spec (t : Value) (B : Option Nat) (q : Nat) (ds : List Nat) (h : Hp) (s : TapeAt h t B ds false) (hq : 0 < q) (hq2 : q < 18446744073709551616) :
    CallsH Tryz.prog 151 [t, U q] h fun v' h' => Only (pblk t) h h' ∧ GotP U (U 0) h' t B v' (firstB q ds) := by
  have s0 := s
  have hF : ∀ d ds, firstB q (d :: ds) = if d ≤ 18446744073709551615 - 18446744073709551616 % q then some (d % q, ds) else firstB q ds := fun d ds => rfl
  obtain ⟨v, s1, s2, s3, s4, s5⟩ := s
  (apply enter Tryz.func151 rfl Tryz.ntmps151 rfl)
  refine runH ?_
  (apply w_condF; exact rfl; exact rfl; exact (by omega))
  refine runH ?_
  have h1q : Nat.mod 1 q < q := Nat.mod_lt _ hq
  apply (s_call Tryz_ent168 rfl rfl rfl)
  refine (div64_spec _ _ _ _ h1q (by decide) hq2).mono ?_
  rintro _ _ ⟨rfl, rfl⟩
  refine clsI ?_
  have hsp : Nat.mod (Nat.mod 1 q * 18446744073709551616 + 0) q < q := Nat.mod_lt _ hq
  rw [← sp_eq q] at hF
  generalize hspd : Nat.mod (Nat.mod 1 q * 18446744073709551616 + 0) q = sp at hsp hF
  have hspe : (Nat.mod 1 q * 18446744073709551616 + 0) - (Nat.mod 1 q * 18446744073709551616 + 0) / q * q = (Nat.mod 1 q * 18446744073709551616 + 0) - (Nat.mod 1 q * 18446744073709551616 + 0) / q * q := rfl
  refine runH ?_
  (first | (apply w_seqB; exact rfl; apply w_block; exact rfl) | skip)
  apply (w_loop (σ := List Nat × Bool) rfl (fun p => [(0, t), (1, U q), (7, U sp)])
    (fun p h' => Only (pblk t) h h' ∧ TapeAt h' t B p.1 p.2 ∧ (p.2 = true → p.1 = []) ∧ firstB q ds = (if p.2 then none else firstB q p.1)) (fun p => if p.2 then 0 else p.1.length + 1) (ds, false))
  · have e7 := congrArg U hspd
    exact (Sub.cons rfl (Sub.cons rfl (Sub.cons (congrArg some e7) (Sub.nil _))))
  · exact ⟨Only.refl _ _, s0, (fun h2 => by cases h2), rfl⟩
  · rintro ⟨ds', o'⟩ h1 ⟨i1, i2, i4, i3⟩
    dsimp only at i2 i3 i4 ⊢
    have i2' := i2
    obtain ⟨v1, t1, t2, t3, t4, t5⟩ := i2
    refine runH ?_
    (apply w_cond; exact rfl; exact rfl) <;> intro ho
    · have ho' : o' = false := by simpa using ho
      subst ho'
      refine runH ?_
      apply (s_call Tryz_ent150 rfl rfl rfl)
      refine (draw_spec t B ds' false h1 i2').mono ?_
      rintro r h2 ⟨k2, D⟩
      refine ⟨trivial, ?_⟩
      have i5 := i1.trans k2
      rw [if_neg (by simp)] at i3
      cases ds' with
      | nil =>
        obtain ⟨rfl, D⟩ := D
        refine runH ?_
        apply again_normal ([], true)
        · exact subs
        · exact ⟨i5, D, (fun _ => rfl), i3⟩
        · simp
      | cons d ds' =>
        obtain ⟨rfl, D⟩ := D
        have hf := hF d ds'
        rw [hf] at i3
        refine runH ?_
        (apply w_condD; exact rfl; exact rfl) <;> intro hd
        · rw [if_pos hd] at i3
          refine runH ?_
          refine fin2 rfl rfl rfl ⟨i5, ?_⟩
          rw [i3]
          exact ⟨rfl, D⟩
        · rw [if_neg hd] at i3
          refine runH ?_
          apply again_normal (ds', false)
          · exact subs
          · exact ⟨i5, D, (fun h2 => by cases h2), i3⟩
          · simp
    · have ho' : o' = true := by simpa using ho
      subst ho'
      have hnil := i4 rfl
      subst hnil
      rw [if_pos rfl] at i3
      refine runH ?_
      refine fin2 rfl rfl rfl ⟨i1, ?_⟩
      rw [i3]
      exact ⟨rfl, i2'⟩

def pcS (x : Nat) : Nat → Nat
  | 0 => 0
  | i + 1 => pcS x i + x / 2 ^ i % 2
def errS (w d : Nat) : Nat → Int
  | 0 => 0
  | i + 1 => errS w d i + ((d / 2 ^ i % 2 : Nat) : Int) - ((d / 2 ^ (w + i) % 2 : Nat) : Int)
def onesB (k : Nat) : Bool := (List.range 4096).all fun x => Nat.beq (ones (4096 * k + x)) (pcS (4096 * k + x) 16)
theorem onesB_of {k x : Nat} (h : onesB k = true) (h1 : 4096 * k ≤ x) (h2 : x < 4096 * (k + 1)) : ones x = pcS x 16 := by
  unfold onesB at h
  have := List.all_eq_true.1 h (x - 4096 * k) (List.mem_range.2 (by omega))
  rw [show 4096 * k + (x - 4096 * k) = x by omega] at this
  exact Nat.eq_of_beq_eq_true this
theorem ones_chk_0 : onesB 0 = true := by decide +kernel
theorem ones_chk_1 : onesB 1 = true := by decide +kernel
theorem ones_chk_2 : onesB 2 = true := by decide +kernel
theorem ones_chk_3 : onesB 3 = true := by decide +kernel
theorem ones_chk_4 : onesB 4 = true := by decide +kernel
theorem ones_chk_5 : onesB 5 = true := by decide +kernel
theorem ones_chk_6 : onesB 6 = true := by decide +kernel
theorem ones_chk_7 : onesB 7 = true := by decide +kernel
theorem ones_chk_8 : onesB 8 = true := by decide +kernel
theorem ones_chk_9 : onesB 9 = true := by decide +kernel
theorem ones_chk_10 : onesB 10 = true := by decide +kernel
theorem ones_chk_11 : onesB 11 = true := by decide +kernel
theorem ones_chk_12 : onesB 12 = true := by decide +kernel
theorem ones_chk_13 : onesB 13 = true := by decide +kernel
theorem ones_chk_14 : onesB 14 = true := by decide +kernel
theorem ones_chk_15 : onesB 15 = true := by decide +kernel
theorem ones_pc {x : Nat} (h : x < 65536) : ones x = pcS x 16 := by
  have : x / 4096 < 16 := by omega
  rcases (show x / 4096 = 0 ∨ x / 4096 = 1 ∨ x / 4096 = 2 ∨ x / 4096 = 3 ∨ x / 4096 = 4 ∨ x / 4096 = 5 ∨ x / 4096 = 6 ∨ x / 4096 = 7 ∨ x / 4096 = 8 ∨ x / 4096 = 9 ∨ x / 4096 = 10 ∨ x / 4096 = 11 ∨ x / 4096 = 12 ∨ x / 4096 = 13 ∨ x / 4096 = 14 ∨ x / 4096 = 15 by omega) with h | h | h | h | h | h | h | h | h | h | h | h | h | h | h | h
  · exact onesB_of ones_chk_0 (by omega) (by omega)
  · exact onesB_of ones_chk_1 (by omega) (by omega)
  · exact onesB_of ones_chk_2 (by omega) (by omega)
  · exact onesB_of ones_chk_3 (by omega) (by omega)
  · exact onesB_of ones_chk_4 (by omega) (by omega)
  · exact onesB_of ones_chk_5 (by omega) (by omega)
  · exact onesB_of ones_chk_6 (by omega) (by omega)
  · exact onesB_of ones_chk_7 (by omega) (by omega)
  · exact onesB_of ones_chk_8 (by omega) (by omega)
  · exact onesB_of ones_chk_9 (by omega) (by omega)
  · exact onesB_of ones_chk_10 (by omega) (by omega)
  · exact onesB_of ones_chk_11 (by omega) (by omega)
  · exact onesB_of ones_chk_12 (by omega) (by omega)
  · exact onesB_of ones_chk_13 (by omega) (by omega)
  · exact onesB_of ones_chk_14 (by omega) (by omega)
  · exact onesB_of ones_chk_15 (by omega) (by omega)
theorem pcS_mod (x w : Nat) : ∀ k, k ≤ w → pcS (x % 2 ^ w) k = pcS x k
  | 0, _ => rfl
  | k + 1, h => by
    unfold pcS
    rw [pcS_mod x w k (by omega)]
    congr 1
    rw [show w = k + (w - k) by omega, Nat.pow_add, Nat.mod_mul_right_div_self, Nat.mod_mod_of_dvd]
    exact ⟨2 ^ (w - k - 1), by rw [← Nat.pow_succ']; congr 1; omega⟩
theorem pcS_high (x w : Nat) (h : x < 2 ^ w) : ∀ k, pcS x (w + k) = pcS x w
  | 0 => rfl
  | k + 1 => by
    show pcS x (w + k) + x / 2 ^ (w + k) % 2 = _
    rw [pcS_high x w h k, Nat.div_eq_of_lt (Nat.lt_of_lt_of_le h (Nat.pow_le_pow_right (by decide) (by omega))), Nat.zero_mod, Nat.add_zero]
theorem ones_low (d w : Nat) (hw : w ≤ 16) : ones (d &&& 1 * 2 ^ w - 1) = pcS d w := by
  rw [Nat.one_mul, Nat.and_two_pow_sub_one_eq_mod]
  have p0 : 0 < 2 ^ w := Nat.two_pow_pos w
  have hlt := Nat.mod_lt d p0
  have p1 : 2 ^ w ≤ 65536 := by
    have := Nat.pow_le_pow_right (n := 2) (by omega) hw
    simpa using this
  rw [ones_pc (by omega), show 16 = w + (16 - w) by omega, pcS_high _ _ hlt, pcS_mod d w w (Nat.le_refl _)]
theorem errS_eq (w d : Nat) : ∀ k, errS w d k = ((pcS d k : Nat) : Int) - ((pcS (d / 2 ^ w) k : Nat) : Int)
  | 0 => rfl
  | k + 1 => by
    unfold errS pcS
    rw [errS_eq w d k, Nat.div_div_eq_div_mul, ← Nat.pow_add]
    omega
def errV (w d : Nat) : Int := errS w d w
theorem errV_ones (w d : Nat) (hw : w ≤ 16) : ((ones (d &&& 1 * 2 ^ w - 1) : Nat) : Int) - ((ones (d / 2 ^ w &&& 1 * 2 ^ w - 1) : Nat) : Int) = errV w d := by
  unfold errV
  rw [ones_low d w hw, ones_low (d / 2 ^ w) w hw, errS_eq]
theorem pcS_le (x : Nat) : ∀ k, pcS x k ≤ k
  | 0 => Nat.le_refl _
  | k + 1 => by
    unfold pcS
    have := pcS_le x k
    omega
theorem errV_le (w d : Nat) : -(w : Int) ≤ errV w d ∧ errV w d ≤ w := by
  unfold errV
  rw [errS_eq]
  have h1 := pcS_le d w
  have h2 := pcS_le (d / 2 ^ w) w
  omega
def firstE (w : Nat) : List Nat → Option (Int × List Nat)
  | [] => none
  | d :: ds => some (errV w d, ds)

theorem errorP_spec (t : Value) (B : Option Nat) (w : Nat) (ds : List Nat) (h : Hp) (s : TapeAt h t B ds false) (hw : 1 ≤ w) (hw2 : w ≤ 16) :
    CallsH Tryz.prog 109 [t, N w] h fun v' h' => Only (pblk t) h h' ∧ GotP I (N 0) h' t B v' (firstE w ds) := by
  refine (error_spec t B w ds false h s hw hw2).mono ?_
  rintro v' h' ⟨k, h1 | h1⟩
  · obtain ⟨rfl, -, T, hd⟩ := h1
    have hd : ds = [] := hd.resolve_left (by simp)
    subst hd
    exact ⟨k, rfl, T (.inl rfl)⟩
  · obtain ⟨r, ds', rfl, -, -, -, ⟨d, rfl, rfl⟩, T, -⟩ := h1
    rw [errV_ones w d hw2]
    exact ⟨k, rfl, T⟩
end Go.Proofs.YtfcmdefigldpnaaGreatDoor


/- Package param: parameters compared, and the law of it. Condition of the fixed calls: the table of math/bits reads as it is laid. -/
import Derived.Test.YtajgcmgkhmkmbaaDoorParC
namespace Go.Proofs.YtajgcmgkhmkmbaaDoor
set_option linter.unusedVariables false
set_option maxRecDepth 8000
open Go Go.Den Go.RowKit Go.Dig

/-- What the closure 'rest' makes of parameters. -/
def restL (p : ParD) : List Int := [p.n, IntKind.i64.wrap p.t, p.w]
def sameP (a b : ParD) : Prop := a.n = b.n ∧ a.t = b.t ∧ a.w = b.w ∧ a.q = b.q
instance (a b : ParD) : Decidable (sameP a b) := by unfold sameP; exact inferInstance
theorem wrap_inj {a b : Nat} (ha : a < 18446744073709551616) (hb : b < 18446744073709551616) (h : IntKind.i64.wrap a = IntKind.i64.wrap b) : a = b := by
  rw [IntKind.wrap_i64, IntKind.wrap_i64] at h
  omega
theorem restL_eq {a b : ParD} (ha : a.t < 18446744073709551616) (hb : b.t < 18446744073709551616) : restL a = restL b ↔ (a.n = b.n ∧ a.t = b.t ∧ a.w = b.w) := by
  unfold restL
  constructor
  · intro h
    simp only [List.cons.injEq, and_true] at h
    exact ⟨h.1, wrap_inj ha hb h.2.1, h.2.2⟩
  · rintro ⟨h1, h2, h3⟩
    rw [h1, h2, h3]

theorem Tryd_ent53 : Ent Tryd.prog 53 := ent_of Tryd.func53 (by kernel_rfl) rfl
theorem rest_spec (p : ParD) (h : Hp) (s : SlF h U p.vq p.q) :
    CallsH Tryd.prog 53 [.agg p.cells.toArray] h fun v' h' => v' = .agg ((restL p).map I).toArray ∧ Ext h h' := by
  unfold ParD.cells restL
  (apply enter Tryd.func53 rfl Tryd.ntmps53 rfl)
  refine runJ ?_
  (apply s_box; exact rfl; exact rfl; exact rfl; exact rfl)
  intro p1 h1 x1 e1 b1
  (try dsimp only [Value.cells, List.toList_toArray] at x1)
  refine ⟨(by first | exact trivial | exact Ext.refl _ | assumption | exact Ext.trans (by assumption) (by assumption)), ?_⟩
  refine runJ ?_
  (apply s_alloc; exact rfl; exact rfl; exact rfl)
  intro p2 h2 x2 e2 b2
  (try dsimp only [Value.cells, List.toList_toArray] at x2)
  refine ⟨(by first | exact trivial | exact Ext.refl _ | assumption | exact Ext.trans (by assumption) (by assumption)), ?_⟩
  have x1' := x1.ext e2
  refine runJ ?_
  refine s_conv rfl rfl rfl rfl ?_
  refine runJ ?_
  refine s_buildArr [I p.n, I (IntKind.i64.wrap p.t), I p.w] rfl rfl rfl rfl (.cons rfl (.cons rfl (.cons rfl .nil))) rfl rfl ?_
  refine runJ ?_
  (apply s_storeV; exact rfl; exact rfl; exact rfl; (repeat (first | exact OneAll.nil | (apply OneAll.cons; (first | exact rfl | exact SlF.one (by assumption) | exact SlF.one (OwnF.sl (by assumption)) | exact Var.one (by assumption))))); exact rfl; exact rfl; exact x2; exact rfl)
  intro h3 x3 k3
  (try dsimp only [Value.cells, List.toList_toArray] at x3)
  refine ⟨(by first | exact trivial | exact Ext.refl _ | assumption | exact Ext.only (by assumption) _ | exact Only.trans (Ext.only (by assumption) _) (by assumption)), ?_⟩
  have e3 : Ext h1 h3 := k3.oldV e2 b2 (Nat.le_refl _)
  refine runJ ?_
  exact finC rfl rfl x3 rfl rfl ⟨rfl, e1.trans e3⟩

theorem Tryd_ent54 : Ent Tryd.prog 54 := ent_of Tryd.func54 (by kernel_rfl) rfl
theorem eqs_spec (va vb : Value) (xs ys : List Nat) (h : Hp) (ha : SlF h U va xs) (hb : SlF h U vb ys) (hl : xs.length < 9223372036854775808) (hl2 : ys.length < 9223372036854775808) :
    CallsH Tryd.prog 54 [va, vb] h fun v' h' => v' = .bool (decide (xs = ys)) ∧ h = h' := by
  (apply enter Tryd.func54 rfl Tryd.ntmps54 rfl)
  refine runJ ?_
  (apply w_condD; exact rfl; exact rfl) <;> intro hne
  · refine runJ ?_
    exact fin1 rfl rfl ⟨dec_f (fun e => hne (by rw [e])), rfl⟩
  have hle : xs.length = ys.length := by omega
  refine runJ ?_
  (first | (apply w_seqB; exact rfl; apply w_block; exact rfl) | skip)
  apply (w_loop (σ := Nat) rfl (fun j => [(0, va), (1, vb), (12, N xs.length), (13, N j)])
    (fun j h' => h = h' ∧ j ≤ xs.length ∧ ∀ (i : Nat) (x y : Nat), i < j → xs[i]? = some x → ys[i]? = some y → x = y) (fun j => xs.length - j) 0)
  · exact (Sub.cons rfl (Sub.cons rfl (Sub.cons rfl (Sub.cons rfl (Sub.nil _)))))
  · exact ⟨rfl, Nat.zero_le _, fun i x y hi => by omega⟩
  rintro j h' ⟨rfl, j1, j2⟩
  refine runJ ?_
  (apply w_condD; exact rfl; exact rfl) <;> intro hj
  · obtain ⟨x, hx⟩ := get_lt hj
    obtain ⟨y, hy⟩ := get_lt (l := ys) (j := j) (by omega)
    refine runJ ?_
    (apply w_condD; exact rfl; exact rfl) <;> intro hd
    · refine runJ ?_
      exact fin1 rfl rfl ⟨dec_f (list_ne hx hy hd), rfl⟩
    · refine runJ ?_
      apply again_normal (j + 1)
      · exact (Sub.cons rfl (Sub.cons rfl (Sub.cons rfl (Sub.cons rfl (Sub.nil _)))))
      · refine ⟨rfl, hj, fun i x' y' hi hx' hy' => ?_⟩
        rcases Nat.lt_succ_iff_lt_or_eq.1 hi with hi | rfl
        · exact j2 i x' y' hi hx' hy'
        · rw [hx] at hx'; rw [hy] at hy'; cases hx'; cases hy'; exact Decidable.of_not_not hd
      · omega
  · refine runJ ?_
    exact fin1 rfl rfl ⟨dec_t (list_eq hle fun i x y hx hy => j2 i x y (by have := (List.getElem?_eq_some_iff.1 hx).1; omega) hx hy), rfl⟩

theorem sameU9_spec (va vb : Value) (xs ys : List Nat) (h : Hp) (ha : SlF h U va xs) (hb : SlF h U vb ys) (hl : xs.length < 9223372036854775808) (hl2 : ys.length < 9223372036854775808) :
    CallsH Tryd.prog 36 [va, vb] h fun v' h' => v' = .bool (decide (xs = ys)) ∧ h = h' := by
  (apply enter Tryd.func36 rfl Tryd.ntmps36 rfl)
  refine runJ ?_
  (apply w_condD; exact rfl; exact rfl) <;> intro hne
  · refine runJ ?_
    exact fin1 rfl rfl ⟨dec_f (fun e => hne (by rw [e])), rfl⟩
  have hle : xs.length = ys.length := by omega
  refine runJ ?_
  (first | (apply w_seqB; exact rfl; apply w_block; exact rfl) | skip)
  apply (w_loop (σ := Nat) rfl (fun j => [(0, va), (1, vb), (12, N xs.length), (13, N j)])
    (fun j h' => h = h' ∧ j ≤ xs.length ∧ ∀ (i : Nat) (x y : Nat), i < j → xs[i]? = some x → ys[i]? = some y → x = y) (fun j => xs.length - j) 0)
  · exact (Sub.cons rfl (Sub.cons rfl (Sub.cons rfl (Sub.cons rfl (Sub.nil _)))))
  · exact ⟨rfl, Nat.zero_le _, fun i x y hi => by omega⟩
  rintro j h' ⟨rfl, j1, j2⟩
  refine runJ ?_
  (apply w_condD; exact rfl; exact rfl) <;> intro hj
  · obtain ⟨x, hx⟩ := get_lt hj
    obtain ⟨y, hy⟩ := get_lt (l := ys) (j := j) (by omega)
    refine runJ ?_
    (apply w_condD; exact rfl; exact rfl) <;> intro hd
    · refine runJ ?_
      exact fin1 rfl rfl ⟨dec_f (list_ne hx hy hd), rfl⟩
    · refine runJ ?_
      apply again_normal (j + 1)
      · exact (Sub.cons rfl (Sub.cons rfl (Sub.cons rfl (Sub.cons rfl (Sub.nil _)))))
      · refine ⟨rfl, hj, fun i x' y' hi hx' hy' => ?_⟩
        rcases Nat.lt_succ_iff_lt_or_eq.1 hi with hi | rfl
        · exact j2 i x' y' hi hx' hy'
        · rw [hx] at hx'; rw [hy] at hy'; cases hx'; cases hy'; exact Decidable.of_not_not hd
      · omega
  · refine runJ ?_
    exact fin1 rfl rfl ⟨dec_t (list_eq hle fun i x y hx hy => j2 i x y (by have := (List.getElem?_eq_some_iff.1 hx).1; omega) hx hy), rfl⟩

theorem Tryd_ent26 : Ent Tryd.prog 26 := ent_of Tryd.func26 (by kernel_rfl) rfl
set_option maxHeartbeats 1000000 in
theorem rsame08_spec (a b : ParD) (h : Hp) (A : ParA0 h a) (B : ParA0 h b) :
    CallsH Tryd.prog 26 [.agg a.cells.toArray, .agg b.cells.toArray] h fun v' h' => v' = .bool (decide (sameP a b)) ∧ Ext h h' := by
  have la := A.ln
  have lb := B.ln
  have ta := A.t64
  have tb := B.t64
  unfold ParD.cells
  (apply enter Tryd.func26 rfl Tryd.ntmps26 rfl)
  refine runJ ?_
  (apply s_box; exact rfl; exact rfl; exact rfl; exact rfl)
  intro p1 h1 x1 e1 b1
  (try dsimp only [Value.cells, List.toList_toArray] at x1)
  refine ⟨(by first | exact trivial | exact Ext.refl _ | assumption | exact Ext.trans (by assumption) (by assumption)), ?_⟩
  refine runJ ?_
  (apply s_box; exact rfl; exact rfl; exact rfl; exact rfl)
  intro p2 h2 x2 e2 b2
  (try dsimp only [Value.cells, List.toList_toArray] at x2)
  refine ⟨(by first | exact trivial | exact Ext.refl _ | assumption | exact Ext.trans (by assumption) (by assumption)), ?_⟩
  have y1 := x1.ext e2
  have e12 := e1.trans e2
  have sa := A.row.ext e12
  have sb := B.row.ext e12
  refine runJ ?_
  (apply s_splitG; exact rfl; exact rfl; exact rfl; exact rfl) <;> intro g1
  · refine runJ ?_
    (apply s_splitG; exact rfl; exact rfl; exact rfl; exact rfl) <;> intro g2
    · refine runJ ?_
      (apply s_splitG; exact rfl; exact rfl; exact rfl; exact rfl) <;> intro g3
      · refine runJ ?_
        apply (s_call Tryd_ent36 rfl rfl rfl)
        refine (sameU9_spec a.vq b.vq a.q b.q h2 sa sb la lb).mono ?_
        rintro _ _ ⟨rfl, rfl⟩
        refine ⟨(by first | exact trivial | exact trivial), ?_⟩
        refine runJ ?_
        exact fin1 rfl rfl ⟨dec_i ⟨fun k => ⟨g1, g2, g3, k⟩, fun k => k.2.2.2⟩, e12⟩
      · refine runJ ?_
        exact fin1 rfl rfl ⟨dec_f fun k => g3 k.2.2.1, e12⟩
    · refine runJ ?_
      exact fin1 rfl rfl ⟨dec_f fun k => g2 k.2.1, e12⟩
  · refine runJ ?_
    exact fin1 rfl rfl ⟨dec_f fun k => g1 k.1, e12⟩

theorem Tryd_ent25 : Ent Tryd.prog 25 := ent_of Tryd.func25 (by kernel_rfl) rfl
set_option maxHeartbeats 1000000 in
theorem psame_spec (a b : ParD) (h : Hp) (A : ParA0 h a) (B : ParA0 h b) :
    CallsH Tryd.prog 25 [.agg a.cells.toArray, .agg b.cells.toArray] h fun v' h' => v' = .bool (decide (sameP a b)) ∧ Ext h h' := by
  have la := A.ln
  have lb := B.ln
  have hR := restL_eq A.t64 B.t64
  have Fa := fun h s => rest_spec a h s
  have Fb := fun h s => rest_spec b h s
  unfold ParD.cells at Fa Fb ⊢
  (apply enter Tryd.func25 rfl Tryd.ntmps25 rfl)
  refine runJ ?_
  (apply s_box; exact rfl; exact rfl; exact rfl; exact rfl)
  intro p1 h1 x1 e1 b1
  (try dsimp only [Value.cells, List.toList_toArray] at x1)
  refine ⟨(by first | exact trivial | exact Ext.refl _ | assumption | exact Ext.trans (by assumption) (by assumption)), ?_⟩
  refine runJ ?_
  (apply s_box; exact rfl; exact rfl; exact rfl; exact rfl)
  intro p2 h2 x2 e2 b2
  (try dsimp only [Value.cells, List.toList_toArray] at x2)
  refine ⟨(by first | exact trivial | exact Ext.refl _ | assumption | exact Ext.trans (by assumption) (by assumption)), ?_⟩
  have y1 := x1.ext e2
  have e12 := e1.trans e2
  have sa := A.row.ext e12
  have sb := B.row.ext e12
  refine runJ ?_
  refine s_callV rfl Tryd_ent53 rfl rfl rfl ?_
  refine (Fa h2 sa).mono ?_
  rintro _ h3 ⟨rfl, e3⟩
  refine ⟨(by first | exact trivial | exact e3), ?_⟩
  have y3 := y1.ext e3
  have x3 := x2.ext e3
  refine runJ ?_
  refine s_callV rfl Tryd_ent53 rfl rfl rfl ?_
  refine (Fb h3 (sb.ext e3)).mono ?_
  rintro _ h4 ⟨rfl, e4⟩
  refine ⟨(by first | exact trivial | exact (e3.trans e4)), ?_⟩
  have y4 := y3.ext e4
  have x4 := x3.ext e4
  have e34 := e3.trans e4
  have e14 := e12.trans e34
  have sa4 := sa.ext e34
  have sb4 := sb.ext e34
  refine runJ ?_
  refine s_eqArr (restL a) (restL b) rfl rfl rfl rfl rfl rfl rfl rfl rfl rfl ?_
  refine runJ ?_
  (apply s_splitG; exact rfl; exact rfl; exact rfl; exact rfl) <;> intro g
  · have g' := hR.1 g
    refine runJ ?_
    apply (s_call Tryd_ent54 rfl rfl rfl)
    refine (eqs_spec a.vq b.vq a.q b.q h4 sa4 sb4 la lb).mono ?_
    rintro _ _ ⟨rfl, rfl⟩
    refine ⟨(by first | exact trivial | exact e34), ?_⟩
    refine runJ ?_
    exact fin1 rfl rfl ⟨dec_i ⟨fun k => ⟨g'.1, g'.2.1, g'.2.2, k⟩, fun k => k.2.2.2⟩, e14⟩
  · refine runJ ?_
    exact fin1 rfl rfl ⟨dec_f fun k => g (hR.2 ⟨k.1, k.2.1, k.2.2.1⟩), e14⟩

theorem sameP_comm (a b : ParD) : decide (sameP b a) = decide (sameP a b) := by
  rw [decide_eq_decide]
  unfold sameP
  constructor <;> rintro ⟨h1, h2, h3, h4⟩ <;> exact ⟨h1.symm, h2.symm, h3.symm, h4.symm⟩
theorem ParA0.ext {h h' : Hp} {p : ParD} (s : ParA0 h p) (e : Ext h h') : ParA0 h' p := ⟨s.row.ext e, s.al, s.t64, s.ln⟩

theorem Tryd_ent6 : Ent Tryd.prog 6 := ent_of Tryd.func6 (by kernel_rfl) rfl
set_option maxHeartbeats 1000000 in
theorem paramSame_law (a b : ParD) (h : Hp) (T : TB h) (A : ParA0 h a) (B : ParA0 h b) :
    CallsH Tryd.prog 6 [.agg a.cells.toArray, .agg b.cells.toArray] h fun v' h' => v' = .bool true ∧ Ext h h' := by
  have Saa := fun h A B => psame_spec a a h A B
  have Sab := fun h A B => psame_spec a b h A B
  have Sba := fun h A B => psame_spec b a h A B
  have Rab := fun h A B => rsame08_spec a b h A B
  have hra : sameP a a := ⟨rfl, rfl, rfl, rfl⟩
  simp only [decide_eq_true hra] at Saa
  simp only [sameP_comm a b] at Sba
  have A1 := A.row
  have B1 := B.row
  unfold ParD.cells at Saa Sab Sba Rab ⊢
  (apply enter Tryd.func6 rfl Tryd.ntmps6 rfl)
  refine runJ ?_
  (apply s_box; exact rfl; exact rfl; exact rfl; exact rfl)
  intro p1 h1 x1 e1 b1
  (try dsimp only [Value.cells, List.toList_toArray] at x1)
  refine ⟨(by first | exact trivial | exact Ext.refl _ | assumption | exact Ext.trans (by assumption) (by assumption)), ?_⟩
  refine runJ ?_
  (apply s_box; exact rfl; exact rfl; exact rfl; exact rfl)
  intro p2 h2 x2 e2 b2
  (try dsimp only [Value.cells, List.toList_toArray] at x2)
  refine ⟨(by first | exact trivial | exact Ext.refl _ | assumption | exact Ext.trans (by assumption) (by assumption)), ?_⟩
  have y1 := x1.ext e2
  have e12 := e1.trans e2
  refine runJ ?_
  apply (s_call Tryd_ent14 rfl rfl rfl)
  refine (fixed08_spec h2 (T.ext e12)).mono ?_
  rintro _ h3 ⟨rfl, e3⟩
  refine ⟨(by first | exact trivial | exact trivial), ?_⟩
  have e13 := e12.trans e3
  have y3 := y1.ext e3
  have x3 := x2.ext e3
  refine runJ ?_
  apply (s_call Tryd_ent25 rfl rfl rfl)
  refine (Saa h3 (A.ext e13) (A.ext e13)).mono ?_
  rintro _ h4 ⟨rfl, e4⟩
  refine ⟨(by first | exact trivial | exact e4), ?_⟩
  have e14 := e13.trans e4
  have y4 := y3.ext e4
  have x4 := x3.ext e4
  refine runJ ?_
  apply (s_call Tryd_ent25 rfl rfl rfl)
  refine (Sab h4 (A.ext e14) (B.ext e14)).mono ?_
  rintro _ h5 ⟨rfl, e5⟩
  refine ⟨(by first | exact trivial | exact (e4.trans e5)), ?_⟩
  have e15 := e14.trans e5
  have y5 := y4.ext e5
  have x5 := x4.ext e5
  have f5 := e4.trans e5
  refine runJ ?_
  apply (s_call Tryd_ent26 rfl rfl rfl)
  refine (Rab h5 (A.ext e15) (B.ext e15)).mono ?_
  rintro _ h6 ⟨rfl, e6⟩
  refine ⟨(by first | exact trivial | exact (f5.trans e6)), ?_⟩
  have e16 := e15.trans e6
  have y6 := y5.ext e6
  have x6 := x5.ext e6
  have f6 := f5.trans e6
  refine runJ ?_
  (apply s_splitG; exact rfl; exact rfl; exact rfl; exact rfl) <;> intro g
  · refine runJ ?_
    apply (s_call Tryd_ent25 rfl rfl rfl)
    refine (Sab h6 (A.ext e16) (B.ext e16)).mono ?_
    rintro _ h7 ⟨rfl, e7⟩
    refine ⟨(by first | exact trivial | exact (f6.trans e7)), ?_⟩
    have e17 := e16.trans e7
    have y7 := y6.ext e7
    have x7 := x6.ext e7
    have f7 := f6.trans e7
    refine runJ ?_
    apply (s_call Tryd_ent25 rfl rfl rfl)
    refine (Sba h7 (B.ext e17) (A.ext e17)).mono ?_
    rintro _ h8 ⟨rfl, e8⟩
    refine ⟨(by first | exact trivial | exact (f7.trans e8)), ?_⟩
    refine runJ ?_
    exact fin1 rfl rfl ⟨(dec_t rfl).symm, e17.trans e8⟩
  · exact absurd rfl g
end Go.Proofs.YtajgcmgkhmkmbaaDoor

/- The last statement of layer 2: products go over sums, and come in any order. No condition. -/
import Derived.Test.YtddhnmfndjcleaaNatV
import Derived.Test.YtddhnmfndjcleaaFlo
namespace Go.Proofs.Ytddhnmfndjcleaa
set_option linter.unusedVariables false
open Go Go.Den Go.RowKit Go.Dig

/-- v is a whole number z, told in at most L words. -/
def RI (h : Hp) (v : Value) (z : Int) (L : Nat) : Prop := ∃ n a xs, v = .agg #[.bool n, a] ∧ SlF h U a xs ∧ Al 18446744073709551616 xs ∧ xs.length ≤ L ∧ IV n (vl 18446744073709551616 xs) = z
theorem RI.ext {h h' : Hp} {v : Value} {z : Int} {L : Nat} (s : RI h v z L) (e : Ext h h') : RI h' v z L := by obtain ⟨n, a, xs, h1, h2, h3⟩ := s; exact ⟨n, a, xs, h1, h2.ext e, h3⟩
theorem RI.lt {h : Hp} {v : Value} {z : Int} {L : Nat} (s : RI h v z L) : z.natAbs < 18446744073709551616 ^ L := by
  obtain ⟨n, a, xs, -, -, h3, h4, rfl⟩ := s
  rw [iv_natAbs]
  exact Nat.lt_of_lt_of_le (vl_lt h3) (Nat.pow_le_pow_right (by omega) h4)
theorem IntOf.ri {h : Hp} {B : Nat} {v : Value} {z : Int} {L : Nat} (s : IntOf h B v z) (hz : z.natAbs < 18446744073709551616 ^ L) : RI h v z L := by
  obtain ⟨a, h1, h2⟩ := s
  exact ⟨_, a, _, h1, h2.sl, al_dg (by omega) _, dg_len (by omega) hz, by rw [vl_dg (by omega), iv_of]⟩
theorem sumR (v w : Value) (z y : Int) (L M : Nat) (h : Hp) (hv : RI h v z L) (hw : RI h w y M) (hL : L ≤ 500) (hM : M ≤ 500) :
    CallsH Try.prog 30 [v, w] h fun v' h' => Ext h h' ∧ IntSl h' v' (z + y) ∧ RI h' v' (z + y) (L + M + 1) := by
  have l1 := hv.lt
  have l2 := hw.lt
  obtain ⟨n, a, xs, rfl, s1, a1, b1, rfl⟩ := hv
  obtain ⟨m, b, ys, rfl, s2, a2, b2, rfl⟩ := hw
  exact (sum_spec n m a b xs ys h s1 s2 a1 a2 (by omega) (by omega)).mono fun v' h' ⟨e, o⟩ => ⟨e, o.sl, o.ri (sum_len l1 l2)⟩
theorem timesR (v w : Value) (z y : Int) (L M : Nat) (h : Hp) (hv : RI h v z L) (hw : RI h w y M) (hL : L ≤ 500) (hM : M ≤ 500) :
    CallsH Try.prog 32 [v, w] h fun v' h' => Ext h h' ∧ IntSl h' v' (z * y) ∧ RI h' v' (z * y) (L + M) := by
  have l1 := hv.lt
  have l2 := hw.lt
  obtain ⟨n, a, xs, rfl, s1, a1, b1, rfl⟩ := hv
  obtain ⟨m, b, ys, rfl, s2, a2, b2, rfl⟩ := hw
  exact (ntimes_spec n m a b xs ys h s1 s2 a1 a2 (by omega) (by omega)).mono fun v' h' ⟨e, o⟩ => ⟨e, o.sl, o.ri (mul_len l1 l2)⟩
theorem timesO (v w : Value) (z y : Int) (L M : Nat) (h : Hp) (hv : RI h v z L) (hw : RI h w y M) (hL : L ≤ 500) (hM : M ≤ 500) :
    CallsH Try.prog 32 [v, w] h fun v' h' => Ext h h' ∧ IntOf h' h.size v' (z * y) ∧ RI h' v' (z * y) (L + M) := by
  have l1 := hv.lt
  have l2 := hw.lt
  obtain ⟨n, a, xs, rfl, s1, a1, b1, rfl⟩ := hv
  obtain ⟨m, b, ys, rfl, s2, a2, b2, rfl⟩ := hw
  exact (ntimes_spec n m a b xs ys h s1 s2 a1 a2 (by omega) (by omega)).mono fun v' h' ⟨e, o⟩ => ⟨e, o, o.ri (mul_len l1 l2)⟩
theorem sumO (v w : Value) (z y : Int) (L M : Nat) (h : Hp) (hv : RI h v z L) (hw : RI h w y M) (hL : L ≤ 500) (hM : M ≤ 500) :
    CallsH Try.prog 30 [v, w] h fun v' h' => Ext h h' ∧ IntOf h' h.size v' (z + y) ∧ RI h' v' (z + y) (L + M + 1) := by
  have l1 := hv.lt
  have l2 := hw.lt
  obtain ⟨n, a, xs, rfl, s1, a1, b1, rfl⟩ := hv
  obtain ⟨m, b, ys, rfl, s2, a2, b2, rfl⟩ := hw
  exact (sum_spec n m a b xs ys h s1 s2 a1 a2 (by omega) (by omega)).mono fun v' h' ⟨e, o⟩ => ⟨e, o, o.ri (sum_len l1 l2)⟩
theorem var_lt {h : Hp} {p : Value} {e : TypeId} {cs : List Value} {k : Nat} (s : Var h p e cs) (hk : pblk p = some k) : k < h.size := by
  obtain ⟨g, rfl, hg⟩ := s
  cases hk
  exact (Array.getElem?_eq_some_iff.1 hg).1
theorem RI.same {h : Hp} {v : Value} {z : Int} {L : Nat} (s : RI h v z L) (hL : L ≤ 1000) : (dg 18446744073709551616 z.natAbs).length < 4611686018427387904 := zlen s.lt hL

theorem Try_ent7 : Ent Try.prog 7 := ent_of Try.func7 (by kernel_rfl) rfl
set_option maxHeartbeats 4000000 in
theorem natLaws_law (n1 n2 n3 : Bool) (va vb vc : Value) (xs ys zs : List Nat) (h : Hp) (ha : SlF h U va xs) (hb : SlF h U vb ys) (hc : SlF h U vc zs) (hx : Al 18446744073709551616 xs) (hy : Al 18446744073709551616 ys) (hz : Al 18446744073709551616 zs) :
    CallsH Try.prog 7 [.agg #[.bool n1, va], .agg #[.bool n2, vb], .agg #[.bool n3, vc]] h fun v' h' => v' = .bool true ∧ Ext h h' := by
  (apply enter Try.func7 rfl Try.ntmps7 rfl)
  refine runG ?_
  (apply s_box; exact rfl; exact rfl; exact rfl; exact rfl)
  intro p g1 p1 f1 c1
  (try dsimp only [Value.cells, List.toList_toArray] at p1)
  refine ⟨(by first | exact trivial | exact Ext.refl _ | assumption | exact Ext.trans (by assumption) (by assumption)), ?_⟩
  refine runG ?_
  (apply s_box; exact rfl; exact rfl; exact rfl; exact rfl)
  intro q g2 q2 f2 c2
  (try dsimp only [Value.cells, List.toList_toArray] at q2)
  refine ⟨(by first | exact trivial | exact Ext.refl _ | assumption | exact Ext.trans (by assumption) (by assumption)), ?_⟩
  have p2 := p1.ext f2
  refine runG ?_
  (apply s_box; exact rfl; exact rfl; exact rfl; exact rfl)
  intro r g3 r3 f3 c3
  (try dsimp only [Value.cells, List.toList_toArray] at r3)
  refine ⟨(by first | exact trivial | exact Ext.refl _ | assumption | exact Ext.trans (by assumption) (by assumption)), ?_⟩
  have p3 := p2.ext f3
  have q3 := q2.ext f3
  have F3 := (f1.trans f2).trans f3
  refine runG ?_
  apply (s_call Try_ent8 rfl rfl rfl)
  refine (fixed_spec g3).mono ?_
  rintro _ h1 ⟨rfl, e1⟩
  refine ⟨(by first | exact trivial | exact Ext.refl _ | assumption | exact Ext.trans (by assumption) (by assumption)), ?_⟩
  have F4 := F3.trans e1
  have ha1 := ha.ext F4
  have hb1 := hb.ext F4
  have hc1 := hc.ext F4
  have p4 := p3.ext e1
  have q4 := q3.ext e1
  have r4 := r3.ext e1
  refine runG ?_
  (apply (s_lit (f := Prod.fst) (vs := [va, vb, vc]) [(va, xs), (vb, ys), (vc, zs)]); exact rfl; exact rfl; exact rfl; exact rfl; exact rfl; exact rfl; exact OneAll.all (.cons ha1.one (.cons hb1.one (.cons hc1.one .nil))); exact rfl; exact rfl; exact rfl; omega)
  intro vf h2 of e2 bf
  refine ⟨(by first | exact trivial | exact Ext.refl _ | assumption | exact Ext.trans (by assumption) (by assumption)), ?_⟩
  have F5 := F4.trans e2
  have ha2 := ha1.ext e2
  have hb2 := hb1.ext e2
  have hc2 := hc1.ext e2
  have p5 := p4.ext e2
  have q5 := q4.ext e2
  have r5 := r4.ext e2
  have hfew : ∀ p ∈ [(va, xs), (vb, ys), (vc, zs)], SlF h2 U p.1 p.2 := by
    intro p hp
    simp only [List.mem_cons, List.not_mem_nil, or_false] at hp
    rcases hp with rfl | rfl | rfl
    · exact ha2
    · exact hb2
    · exact hc2
  refine runG ?_
  apply (s_call Try_ent9 rfl rfl rfl)
  refine (few_spec vf _ h2 of.sl hfew (by simp)).mono ?_
  rintro _ _ ⟨rfl, rfl⟩
  refine ⟨(by first | exact trivial | exact Ext.refl _ | assumption | exact Ext.trans (by assumption) (by assumption)), ?_⟩
  rw [few3]
  refine runG ?_
  (apply w_cond; exact rfl; exact rfl) <;> intro hf
  · refine runG ?_
    exact fin1 rfl rfl ⟨rfl, F5⟩
  · simp only [Bool.not_eq_eq_eq_not, Bool.not_false, Bool.and_eq_true, decide_eq_true_eq] at hf
    obtain ⟨hf1, hf2, hf3⟩ := hf
    have A : RI h2 (.agg #[.bool n1, va]) (IV n1 (vl 18446744073709551616 xs)) 30 := ⟨n1, va, xs, rfl, ha2, hx, hf1, rfl⟩
    have B : RI h2 (.agg #[.bool n2, vb]) (IV n2 (vl 18446744073709551616 ys)) 30 := ⟨n2, vb, ys, rfl, hb2, hy, hf2, rfl⟩
    have C : RI h2 (.agg #[.bool n3, vc]) (IV n3 (vl 18446744073709551616 zs)) 30 := ⟨n3, vc, zs, rfl, hc2, hz, hf3, rfl⟩
    clear ha2 hb2 hc2 ha1 hb1 hc1 hfew
    generalize IV n1 (vl 18446744073709551616 xs) = a at *
    generalize IV n2 (vl 18446744073709551616 ys) = b at *
    generalize IV n3 (vl 18446744073709551616 zs) = c at *
    refine runGN ?_
    refine w_thenCut (σ := Value × Value) (fun s => [(7, s.1), (6, .bool false), (5, r), (4, q), (3, p)]) (fun s g => Ext h2 g ∧ Var g s.1 40 [.bool (decide (a * (b + c) < 0)), s.2] ∧ SlF g U s.2 (dg 18446744073709551616 (a * (b + c)).natAbs) ∧ (dg 18446744073709551616 (a * (b + c)).natAbs).length < 4611686018427387904) ?_ ?_
    · refine r_drawnF (Ext h2) 5 rfl rfl (by kernel_rfl) (Ext.refl h2) ?_
      refine sf_seg 3 rfl rfl rfl rfl rfl ?_
      refine runG ?_
      refine to_sf (sf_act rfl rfl rfl ?_ ?_)
      · refine runG ?_
        (apply s_alloc; exact rfl; exact rfl; exact rfl)
        intro s g8 s8 f8 c8
        (try dsimp only [Value.cells, List.toList_toArray] at s8)
        refine ⟨(by first | exact trivial | exact Ext.refl _ | assumption | exact Ext.trans (by assumption) (by assumption)), ?_⟩
        refine runG ?_
        apply (s_call Try_ent30 rfl rfl rfl)
        refine (sumR _ _ _ _ _ _ g8 (B.ext f8) (C.ext f8) (by omega) (by omega)).mono ?_
        rintro v3 h3 ⟨e3, i3, R3⟩
        refine ⟨(by first | exact trivial | exact (f8.trans e3)), ?_⟩
        refine runG ?_
        apply (s_call Try_ent32 rfl rfl rfl)
        refine (timesO _ _ _ _ _ _ h3 ((A.ext f8).ext e3) R3 (by omega) (by omega)).mono ?_
        rintro v4 h4 ⟨e4, i4, R4⟩
        refine ⟨(by first | exact trivial | exact ((f8.trans e3).trans e4)), ?_⟩
        obtain ⟨w4, rfl, o4⟩ := i4
        have t8 := (s8.ext e3).ext e4
        have E8 := (f8.trans e3).trans e4
        refine runG ?_
        (apply s_storeV; exact rfl; exact rfl; exact rfl; (repeat (first | exact OneAll.nil | (apply OneAll.cons; (first | exact rfl | exact SlF.one (by assumption) | exact SlF.one (OwnF.sl (by assumption)) | exact Var.one (by assumption))))); exact rfl; exact rfl; exact t8; exact rfl)
        intro g9 s9 k9
        (try dsimp only [Value.cells, List.toList_toArray] at s9)
        refine ⟨(by first | exact (k9.oldV E8 c8 (Nat.le_refl _)) | exact trivial | exact Ext.refl _ | assumption | exact Ext.only (by assumption) _ | exact Only.trans (Ext.only (by assumption) _) (by assumption)), ?_⟩
        refine runG ?_
        exact cut_normal (s, w4) (by exact (Sub.cons rfl (Sub.cons rfl (Sub.cons rfl (Sub.cons rfl (Sub.cons rfl (Sub.nil _))))))) ⟨k9.oldV E8 c8 (Nat.le_refl _), s9, o4.sl.only k9 (o4.neV c8 (Nat.lt_of_lt_of_le (var_lt s8 c8) e3.1)), R4.same (by omega)⟩
      · refine runG ?_
        apply (s_call Try_ent30 rfl rfl rfl)
        refine (sumR _ _ _ _ _ _ h2 B C (by omega) (by omega)).mono ?_
        rintro v3 h3 ⟨e3, i3, R3⟩
        refine ⟨(by first | exact trivial | exact e3), ?_⟩
        refine runG ?_
        have A3 := A.ext e3
        refine to_sf (sf_act rfl rfl rfl ?_ ?_)
        · refine runG ?_
          (apply s_alloc; exact rfl; exact rfl; exact rfl)
          intro s g8 s8 f8 c8
          (try dsimp only [Value.cells, List.toList_toArray] at s8)
          refine ⟨(by first | exact trivial | exact Ext.refl _ | assumption | exact Ext.trans (by assumption) (by assumption)), ?_⟩
          have E8 := e3.trans f8
          refine runG ?_
          apply (s_call Try_ent32 rfl rfl rfl)
          refine (timesO _ _ _ _ _ _ g8 (A3.ext f8) (R3.ext f8) (by omega) (by omega)).mono ?_
          rintro v4 h4 ⟨e4, i4, R4⟩
          refine ⟨(by first | exact trivial | exact (E8.trans e4)), ?_⟩
          obtain ⟨w4, rfl, o4⟩ := i4
          have t8 := s8.ext e4
          have E9 := E8.trans e4
          refine runG ?_
          (apply s_storeV; exact rfl; exact rfl; exact rfl; (repeat (first | exact OneAll.nil | (apply OneAll.cons; (first | exact rfl | exact SlF.one (by assumption) | exact SlF.one (OwnF.sl (by assumption)) | exact Var.one (by assumption))))); exact rfl; exact rfl; exact t8; exact rfl)
          intro g9 s9 k9
          (try dsimp only [Value.cells, List.toList_toArray] at s9)
          refine ⟨(by first | exact (k9.oldV E9 c8 e3.1) | exact trivial | exact Ext.refl _ | assumption | exact Ext.only (by assumption) _ | exact Only.trans (Ext.only (by assumption) _) (by assumption)), ?_⟩
          refine runG ?_
          exact cut_normal (s, w4) (by exact (Sub.cons rfl (Sub.cons rfl (Sub.cons rfl (Sub.cons rfl (Sub.cons rfl (Sub.nil _))))))) ⟨k9.oldV E9 c8 e3.1, s9, o4.sl.only k9 (o4.neV c8 (var_lt s8 c8)), R4.same (by omega)⟩
        · refine runG ?_
          apply (s_call Try_ent32 rfl rfl rfl)
          refine (timesO _ _ _ _ _ _ h3 A3 R3 (by omega) (by omega)).mono ?_
          rintro v4 h4 ⟨e4, i4, R4⟩
          refine ⟨(by first | exact trivial | exact (e3.trans e4)), ?_⟩
          obtain ⟨w4, rfl, o4⟩ := i4
          refine runG ?_
          refine to_sf (sf_end rfl ?_)
          have E4 := e3.trans e4
          refine runG ?_
          (apply s_alloc; exact rfl; exact rfl; exact rfl)
          intro s g8 s8 f8 c8
          (try dsimp only [Value.cells, List.toList_toArray] at s8)
          refine ⟨(by first | exact trivial | exact Ext.refl _ | assumption | exact Ext.trans (by assumption) (by assumption)), ?_⟩
          have E8 := (e3.trans e4).trans f8
          refine runG ?_
          (apply s_storeV; exact rfl; exact rfl; exact rfl; (repeat (first | exact OneAll.nil | (apply OneAll.cons; (first | exact rfl | exact SlF.one (by assumption) | exact SlF.one (OwnF.sl (by assumption)) | exact Var.one (by assumption))))); exact rfl; exact rfl; exact s8; exact rfl)
          intro g9 s9 k9
          (try dsimp only [Value.cells, List.toList_toArray] at s9)
          refine ⟨(by first | exact (k9.oldV E8 c8 (e3.trans e4).1) | exact trivial | exact Ext.refl _ | assumption | exact Ext.only (by assumption) _ | exact Only.trans (Ext.only (by assumption) _) (by assumption)), ?_⟩
          refine runG ?_
          exact cut_normal (s, w4) (by exact (Sub.cons rfl (Sub.cons rfl (Sub.cons rfl (Sub.cons rfl (Sub.cons rfl (Sub.nil _))))))) ⟨k9.oldV E8 c8 (e3.trans e4).1, s9, o4.sl.ext (k9.oldV f8 c8 (Nat.le_refl _)), R4.same (by omega)⟩
    rintro ⟨s, w4⟩ g9 ⟨E9, s9, x9, hR⟩
    simp only [] at s9 x9
    have p9 := p5.ext E9
    have q9 := q5.ext E9
    have r9 := r5.ext E9
    have A9 := A.ext E9
    have B9 := B.ext E9
    have C9 := C.ext E9
    have F9 := F5.trans E9
    refine runGN ?_
    refine w_thenCut (σ := Value × Value) (fun t => [(8, t.1), (7, s), (6, .bool false), (5, r), (4, q), (3, p)]) (fun t g => Ext g9 g ∧ Var g t.1 40 [.bool (decide (a * b + a * c < 0)), t.2] ∧ SlF g U t.2 (dg 18446744073709551616 (a * b + a * c).natAbs)) ?_ ?_
    · refine r_drawnF (Ext g9) 7 rfl rfl (by kernel_rfl) (Ext.refl g9) ?_
      refine sf_seg 2 rfl rfl rfl rfl rfl ?_
      refine runG ?_
      refine to_sf (sf_act rfl rfl rfl ?_ ?_)
      · refine runG ?_
        (apply s_alloc; exact rfl; exact rfl; exact rfl)
        intro t g8 t8 f8 c8
        (try dsimp only [Value.cells, List.toList_toArray] at t8)
        refine ⟨(by first | exact trivial | exact Ext.refl _ | assumption | exact Ext.trans (by assumption) (by assumption)), ?_⟩
        refine runG ?_
        apply (s_call Try_ent32 rfl rfl rfl)
        refine (timesO _ _ _ _ _ _ g8 (A9.ext f8) (B9.ext f8) (by omega) (by omega)).mono ?_
        rintro v10 h10 ⟨e10, i10, R10⟩
        refine ⟨(by first | exact trivial | exact (f8.trans e10)), ?_⟩
        have X10 := f8.trans e10
        have p10 := p9.ext X10
        have r10 := r9.ext X10
        refine runG ?_
        apply (s_call Try_ent32 rfl rfl rfl)
        refine (timesO _ _ _ _ _ _ h10 (A9.ext X10) (C9.ext X10) (by omega) (by omega)).mono ?_
        rintro v11 h11 ⟨e11, i11, R11⟩
        refine ⟨(by first | exact trivial | exact (X10.trans e11)), ?_⟩
        refine runG ?_
        apply (s_call Try_ent30 rfl rfl rfl)
        refine (sumO _ _ _ _ _ _ h11 (R10.ext e11) R11 (by omega) (by omega)).mono ?_
        rintro v12 h12 ⟨e12, i12, R12⟩
        refine ⟨(by first | exact trivial | exact ((X10.trans e11).trans e12)), ?_⟩
        obtain ⟨w12, rfl, o12⟩ := i12
        have X12 := (X10.trans e11).trans e12
        have t12 := t8.ext ((e10.trans e11).trans e12)
        refine runG ?_
        (apply s_storeV; exact rfl; exact rfl; exact rfl; (repeat (first | exact OneAll.nil | (apply OneAll.cons; (first | exact rfl | exact SlF.one (by assumption) | exact SlF.one (OwnF.sl (by assumption)) | exact Var.one (by assumption))))); exact rfl; exact rfl; exact t12; exact rfl)
        intro g14 t14 k14
        (try dsimp only [Value.cells, List.toList_toArray] at t14)
        refine ⟨(by first | exact (k14.oldV X12 c8 (Nat.le_refl _)) | exact trivial | exact Ext.refl _ | assumption | exact Ext.only (by assumption) _ | exact Only.trans (Ext.only (by assumption) _) (by assumption)), ?_⟩
        refine runG ?_
        exact cut_normal (t, w12) (by exact (Sub.cons rfl (Sub.cons rfl (Sub.cons rfl (Sub.cons rfl (Sub.cons rfl (Sub.cons rfl (Sub.nil _)))))))) ⟨k14.oldV X12 c8 (Nat.le_refl _), t14, o12.sl.only k14 (o12.neV c8 (Nat.lt_of_lt_of_le (var_lt t8 c8) (e10.trans e11).1))⟩
      · refine runG ?_
        apply (s_call Try_ent32 rfl rfl rfl)
        refine (timesO _ _ _ _ _ _ g9 A9 B9 (by omega) (by omega)).mono ?_
        rintro v10 h10 ⟨e10, i10, R10⟩
        refine ⟨(by first | exact trivial | exact e10), ?_⟩
        have A10 := A9.ext e10
        have C10 := C9.ext e10
        have p10 := p9.ext e10
        have r10 := r9.ext e10
        refine runG ?_
        refine to_sf (sf_seg 5 rfl rfl rfl rfl rfl ?_)
        refine runG ?_
        refine to_sf (sf_act rfl rfl rfl ?_ ?_)
        · refine runG ?_
          (apply s_alloc; exact rfl; exact rfl; exact rfl)
          intro t g8 t8 f8 c8
          (try dsimp only [Value.cells, List.toList_toArray] at t8)
          refine ⟨(by first | exact trivial | exact Ext.refl _ | assumption | exact Ext.trans (by assumption) (by assumption)), ?_⟩
          have X8 := e10.trans f8
          refine runG ?_
          apply (s_call Try_ent32 rfl rfl rfl)
          refine (timesO _ _ _ _ _ _ g8 (A10.ext f8) (C10.ext f8) (by omega) (by omega)).mono ?_
          rintro v11 h11 ⟨e11, i11, R11⟩
          refine ⟨(by first | exact trivial | exact (X8.trans e11)), ?_⟩
          refine runG ?_
          apply (s_call Try_ent30 rfl rfl rfl)
          refine (sumO _ _ _ _ _ _ h11 ((R10.ext f8).ext e11) R11 (by omega) (by omega)).mono ?_
          rintro v12 h12 ⟨e12, i12, R12⟩
          refine ⟨(by first | exact trivial | exact ((X8.trans e11).trans e12)), ?_⟩
          obtain ⟨w12, rfl, o12⟩ := i12
          have X12 := (X8.trans e11).trans e12
          have t12 := t8.ext (e11.trans e12)
          refine runG ?_
          (apply s_storeV; exact rfl; exact rfl; exact rfl; (repeat (first | exact OneAll.nil | (apply OneAll.cons; (first | exact rfl | exact SlF.one (by assumption) | exact SlF.one (OwnF.sl (by assumption)) | exact Var.one (by assumption))))); exact rfl; exact rfl; exact t12; exact rfl)
          intro g14 t14 k14
          (try dsimp only [Value.cells, List.toList_toArray] at t14)
          refine ⟨(by first | exact (k14.oldV X12 c8 e10.1) | exact trivial | exact Ext.refl _ | assumption | exact Ext.only (by assumption) _ | exact Only.trans (Ext.only (by assumption) _) (by assumption)), ?_⟩
          refine runG ?_
          exact cut_normal (t, w12) (by exact (Sub.cons rfl (Sub.cons rfl (Sub.cons rfl (Sub.cons rfl (Sub.cons rfl (Sub.cons rfl (Sub.nil _)))))))) ⟨k14.oldV X12 c8 e10.1, t14, o12.sl.only k14 (o12.neV c8 (Nat.lt_of_lt_of_le (var_lt t8 c8) e11.1))⟩
        · refine runG ?_
          apply (s_call Try_ent32 rfl rfl rfl)
          refine (timesO _ _ _ _ _ _ h10 A10 C10 (by omega) (by omega)).mono ?_
          rintro v11 h11 ⟨e11, i11, R11⟩
          refine ⟨(by first | exact trivial | exact (e10.trans e11)), ?_⟩
          have R10' := R10.ext e11
          have X11 := e10.trans e11
          refine runG ?_
          refine to_sf (sf_act rfl rfl rfl ?_ ?_)
          · refine runG ?_
            (apply s_alloc; exact rfl; exact rfl; exact rfl)
            intro t g8 t8 f8 c8
            (try dsimp only [Value.cells, List.toList_toArray] at t8)
            refine ⟨(by first | exact trivial | exact Ext.refl _ | assumption | exact Ext.trans (by assumption) (by assumption)), ?_⟩
            have X8 := X11.trans f8
            refine runG ?_
            apply (s_call Try_ent30 rfl rfl rfl)
            refine (sumO _ _ _ _ _ _ g8 (R10'.ext f8) (R11.ext f8) (by omega) (by omega)).mono ?_
            rintro v12 h12 ⟨e12, i12, R12⟩
            refine ⟨(by first | exact trivial | exact (X8.trans e12)), ?_⟩
            obtain ⟨w12, rfl, o12⟩ := i12
            have X12 := X8.trans e12
            have t12 := t8.ext e12
            refine runG ?_
            (apply s_storeV; exact rfl; exact rfl; exact rfl; (repeat (first | exact OneAll.nil | (apply OneAll.cons; (first | exact rfl | exact SlF.one (by assumption) | exact SlF.one (OwnF.sl (by assumption)) | exact Var.one (by assumption))))); exact rfl; exact rfl; exact t12; exact rfl)
            intro g14 t14 k14
            (try dsimp only [Value.cells, List.toList_toArray] at t14)
            refine ⟨(by first | exact (k14.oldV X12 c8 X11.1) | exact trivial | exact Ext.refl _ | assumption | exact Ext.only (by assumption) _ | exact Only.trans (Ext.only (by assumption) _) (by assumption)), ?_⟩
            refine runG ?_
            exact cut_normal (t, w12) (by exact (Sub.cons rfl (Sub.cons rfl (Sub.cons rfl (Sub.cons rfl (Sub.cons rfl (Sub.cons rfl (Sub.nil _)))))))) ⟨k14.oldV X12 c8 X11.1, t14, o12.sl.only k14 (o12.neV c8 (var_lt t8 c8))⟩
          · refine runG ?_
            apply (s_call Try_ent30 rfl rfl rfl)
            refine (sumO _ _ _ _ _ _ h11 R10' R11 (by omega) (by omega)).mono ?_
            rintro v12 h12 ⟨e12, i12, R12⟩
            refine ⟨(by first | exact trivial | exact (X11.trans e12)), ?_⟩
            obtain ⟨w12, rfl, o12⟩ := i12
            refine runG ?_
            refine to_sf (sf_end rfl ?_)
            have X12 := X11.trans e12
            refine runG ?_
            (apply s_alloc; exact rfl; exact rfl; exact rfl)
            intro t g8 t8 f8 c8
            (try dsimp only [Value.cells, List.toList_toArray] at t8)
            refine ⟨(by first | exact trivial | exact Ext.refl _ | assumption | exact Ext.trans (by assumption) (by assumption)), ?_⟩
            have X8 := X12.trans f8
            refine runG ?_
            (apply s_storeV; exact rfl; exact rfl; exact rfl; (repeat (first | exact OneAll.nil | (apply OneAll.cons; (first | exact rfl | exact SlF.one (by assumption) | exact SlF.one (OwnF.sl (by assumption)) | exact Var.one (by assumption))))); exact rfl; exact rfl; exact t8; exact rfl)
            intro g14 t14 k14
            (try dsimp only [Value.cells, List.toList_toArray] at t14)
            refine ⟨(by first | exact (k14.oldV X8 c8 X12.1) | exact trivial | exact Ext.refl _ | assumption | exact Ext.only (by assumption) _ | exact Only.trans (Ext.only (by assumption) _) (by assumption)), ?_⟩
            refine runG ?_
            exact cut_normal (t, w12) (by exact (Sub.cons rfl (Sub.cons rfl (Sub.cons rfl (Sub.cons rfl (Sub.cons rfl (Sub.cons rfl (Sub.nil _)))))))) ⟨k14.oldV X8 c8 X12.1, t14, o12.sl.ext (k14.oldV f8 c8 (Nat.le_refl _))⟩
    rintro ⟨t, w12⟩ g14 ⟨E14, t14, y14⟩
    simp only [] at t14 y14
    have p14 := p9.ext E14
    have q14 := q9.ext E14
    have r14 := r9.ext E14
    have s14 := s9.ext E14
    have x14 := x9.ext E14
    have A14 := A9.ext E14
    have B14 := B9.ext E14
    have C14 := C9.ext E14
    have F14 := F9.trans E14
    have hab : a * (b + c) = a * b + a * c := Int.mul_add a b c
    refine runG ?_
    apply (s_call Try_ent29 rfl rfl rfl)
    refine (sameInt_spec _ _ _ _ g14 ⟨w4, rfl, x14⟩ ⟨w12, rfl, y14⟩ hR).mono ?_
    rintro _ h15 ⟨rfl, e15⟩
    refine ⟨(by first | exact trivial | exact e15), ?_⟩
    rw [decide_eq_true hab]
    have p15 := p14.ext e15
    have q15 := q14.ext e15
    have r15 := r14.ext e15
    have A15 := A14.ext e15
    have B15 := B14.ext e15
    have C15 := C14.ext e15
    refine runG ?_
    apply (s_call Try_ent32 rfl rfl rfl)
    refine (timesR _ _ _ _ _ _ h15 A15 B15 (by omega) (by omega)).mono ?_
    rintro v16 h16 ⟨e16, i16, R16⟩
    refine ⟨(by first | exact trivial | exact (e15.trans e16)), ?_⟩
    have A16 := A15.ext e16
    have B16 := B15.ext e16
    have p16 := p15.ext e16
    have q16 := q15.ext e16
    refine runG ?_
    apply (s_call Try_ent32 rfl rfl rfl)
    refine (timesR _ _ _ _ _ _ h16 B16 A16 (by omega) (by omega)).mono ?_
    rintro v17 h17 ⟨e17, i17, R17⟩
    refine ⟨(by first | exact trivial | exact ((e15.trans e16).trans e17)), ?_⟩
    have i16' := i16.ext e17
    refine runG ?_
    apply (s_call Try_ent29 rfl rfl rfl)
    refine (sameInt_spec _ _ _ _ h17 i16' i17 (R16.same (by omega))).mono ?_
    rintro _ h18 ⟨rfl, e18⟩
    refine ⟨(by first | exact trivial | exact (((e15.trans e16).trans e17).trans e18)), ?_⟩
    rw [decide_eq_true (Int.mul_comm a b)]
    have E18 := ((e15.trans e16).trans e17).trans e18
    have p18 := p14.ext E18
    have q18 := q14.ext E18
    have r18 := r14.ext E18
    have A18 := A14.ext E18
    have B18 := B14.ext E18
    have C18 := C14.ext E18
    refine runG ?_
    apply (s_call Try_ent30 rfl rfl rfl)
    refine (sumR _ _ _ _ _ _ h18 A18 B18 (by omega) (by omega)).mono ?_
    rintro v19 h19 ⟨e19, i19, R19⟩
    refine ⟨(by first | exact trivial | exact (E18.trans e19)), ?_⟩
    have C19 := C18.ext e19
    have r19 := r18.ext e19
    refine runG ?_
    apply (s_call Try_ent30 rfl rfl rfl)
    refine (sumR _ _ _ _ _ _ h19 R19 C19 (by omega) (by omega)).mono ?_
    rintro v20 h20 ⟨e20, i20, R20⟩
    refine ⟨(by first | exact trivial | exact ((E18.trans e19).trans e20)), ?_⟩
    have G20 := e19.trans e20
    have A20 := A18.ext G20
    have B20 := B18.ext G20
    have C20 := C18.ext G20
    have p20 := p18.ext G20
    have q20 := q18.ext G20
    have r20 := r18.ext G20
    refine runG ?_
    apply (s_call Try_ent30 rfl rfl rfl)
    refine (sumR _ _ _ _ _ _ h20 B20 C20 (by omega) (by omega)).mono ?_
    rintro v21 h21 ⟨e21, i21, R21⟩
    refine ⟨(by first | exact trivial | exact (((E18.trans e19).trans e20).trans e21)), ?_⟩
    have A21 := A20.ext e21
    refine runG ?_
    apply (s_call Try_ent30 rfl rfl rfl)
    refine (sumR _ _ _ _ _ _ h21 A21 R21 (by omega) (by omega)).mono ?_
    rintro v22 h22 ⟨e22, i22, R22⟩
    refine ⟨(by first | exact trivial | exact ((((E18.trans e19).trans e20).trans e21).trans e22)), ?_⟩
    have i20' := i20.ext (e21.trans e22)
    refine runG ?_
    apply (s_call Try_ent29 rfl rfl rfl)
    refine (sameInt_spec _ _ _ _ h22 i20' i22 (R20.same (by omega))).mono ?_
    rintro _ h23 ⟨rfl, e23⟩
    refine ⟨(by first | exact trivial | exact (((((E18.trans e19).trans e20).trans e21).trans e22).trans e23)), ?_⟩
    rw [decide_eq_true (Int.add_assoc a b c)]
    refine runG ?_
    exact fin1 rfl rfl ⟨rfl, F14.trans (((((E18.trans e19).trans e20).trans e21).trans e22).trans e23)⟩
end Go.Proofs.Ytddhnmfndjcleaa

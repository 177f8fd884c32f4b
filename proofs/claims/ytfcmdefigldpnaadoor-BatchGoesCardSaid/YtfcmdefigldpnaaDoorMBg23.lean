/- Texts RfrC to RfrC of this work, joined: each says in its own head what it proves, and of which condition. -/
import Derived.Test.YtfcmdefigldpnaaDoorMBg22
/- The reference's products, sums and turns of polynomials. No condition. -/
namespace Go.Proofs.YtfcmdefigldpnaaDoor
set_option linter.unusedVariables false
set_option maxRecDepth 8000
open Go Go.Den Go.RowKit Go.Mth Go.Dig

theorem Tryd_ent13 : Ent Tryd.prog 13 := ent_of Tryd.func13 (by kernel_rfl) rfl
set_option maxHeartbeats 4000000 in
theorem refMul4_spec (va vb : Value) (xs ys : List Nat) (q n : Nat) (h : Hp) (sa : SlF h U va xs) (sb : SlF h U vb ys) (hx : xs.length = n) (hy : ys.length = n) (ha : ∀ x ∈ xs, x < 18446744073709551616) (hb : ∀ x ∈ ys, x < 18446744073709551616) (hq1 : 1 < q) (hq : q < 18446744073709551616) (hn : n ≤ 4096) :
    CallsH Tryd.prog 13 [va, vb, U q] h fun v' h' => Ext h h' ∧ ∃ zs, OwnF h' h.size 22 U v' zs ∧ Cnv n q xs ys zs := by
  have hz : ∀ p, p < n → Cg q (gt (List.replicate n 0) p) (sm 0 fun a => sm n fun b => ctr n (gt xs) (gt ys) p a b) := fun p hp => by
    unfold gt
    rw [List.getD_eq_getElem?_getD, List.getElem?_replicate, if_pos hp]
    exact Cg.refl _ _
  have hMS := fun i k (hi : i < n) (hk : k < n) (out : List Nat) (S : Nat → Int) (pr : Nat) (hl : out.length = n) h hp => cmul_step (q := q) (by omega) hi hk (out := out) (S := S) (X := gt xs) (Y := gt ys) (pr := pr) hl h hp
  subst hx
  generalize hxl : xs.length = n at *
  (apply enter Tryd.func13 rfl Tryd.ntmps13 rfl)
  refine runJ ?_
  (apply (s_make (f := U) (bytes := 8) (0)); (first | exact isK_c | exact isK_t rfl); (first | exact isK_c | exact isK_t rfl); exact rfl; exact rfl; exact rfl; exact rfl; exact rfl; exact rfl; omega; omega; omega)
  intro w1 h1 o1 e1 b1
  refine ⟨(by first | exact trivial | exact Ext.refl _ | assumption | exact Ext.trans (by assumption) (by assumption)), ?_⟩
  have s1 := sa.ext e1
  have s2 := sb.ext e1
  refine runJ ?_
  (first | (apply w_seqB; exact rfl; apply w_block; exact rfl) | skip)
  apply (w_loop (σ := Nat × List Nat) rfl (fun j => [(0, va), (1, vb), (2, U q), (7, N xs.length), (8, w1), (17, N xs.length), (18, N j.1)])
    (fun j h' => Ext h h' ∧ OwnF h' h.size 22 U w1 j.2 ∧ j.1 ≤ n ∧ Fit n q j.2 ∧ ∀ p, p < n → Cg q (gt j.2 p) (sm j.1 fun a => sm n fun b => ctr n (gt xs) (gt ys) p a b)) (fun j => n - j.1) (0, List.replicate n 0))
  · exact (Sub.cons rfl (Sub.cons rfl (Sub.cons rfl (Sub.cons rfl (Sub.cons rfl (Sub.cons rfl (Sub.cons rfl (Sub.nil _))))))))
  · refine ⟨e1, ?_, Nat.zero_le _, ⟨by simp, fun x hx => by have := (List.mem_replicate.1 hx).2; omega⟩, hz⟩
    rw [← hxl]; exact o1
  clear o1
  rintro ⟨i, zs⟩ h2 ⟨e2, o2, j1, f2, c2⟩
  dsimp only at e2 o2 j1 f2 c2 ⊢
  have t1 := sa.ext e2
  have t2 := sb.ext e2
  refine runJ ?_
  (apply w_condD; exact rfl; exact rfl) <;> intro hi
  · obtain ⟨x, hxi⟩ := get_lt hi
    have hxb := ha x (List.mem_of_getElem? hxi)
    refine runJ ?_
    (first | (apply w_seqB; exact rfl; apply w_block; exact rfl) | skip)
    apply (w_loop (σ := Nat × List Nat) rfl (fun j => [(0, va), (1, vb), (2, U q), (7, N xs.length), (8, w1), (9, N i), (17, N xs.length), (18, N i), (22, N ys.length), (23, N j.1)])
      (fun j h' => Ext h h' ∧ OwnF h' h.size 22 U w1 j.2 ∧ j.1 ≤ n ∧ Fit n q j.2 ∧ ∀ p, p < n → Cg q (gt j.2 p) ((sm i fun a => sm n fun b => ctr n (gt xs) (gt ys) p a b) + sm j.1 fun b => ctr n (gt xs) (gt ys) p i b)) (fun j => n - j.1) (0, zs))
    · exact (Sub.cons rfl (Sub.cons rfl (Sub.cons rfl (Sub.cons rfl (Sub.cons rfl (Sub.cons rfl (Sub.cons rfl (Sub.cons rfl (Sub.cons rfl (Sub.cons rfl (Sub.nil _)))))))))))
    · exact ⟨e2, o2, Nat.zero_le _, f2, fun p hp => (c2 p hp).trans (Cg.of_eq (by show _ = _ + (0 : Int); omega))⟩
    clear o2 f2 c2
    rintro ⟨k, out⟩ h3 ⟨e3, o3, k1, f3, c3⟩
    dsimp only at e3 o3 k1 f3 c3 ⊢
    have t1 := sa.ext e3
    have t2 := sb.ext e3
    have hol := f3.1
    refine runJ ?_
    (apply w_condD; exact rfl; exact rfl) <;> intro hk
    · obtain ⟨y, hyk⟩ := get_lt hk
      have hyb := hb y (List.mem_of_getElem? hyk)
      obtain ⟨st1, st2⟩ := hMS i k (by omega) (by omega) out _ (mulm x y q) hol c3 (by
        unfold gt; rw [getD_of hxi, getD_of hyk]; exact cg_mulm (by omega) _ _)
      refine runJ ?_
      apply (s_call Tryd_ent18 rfl rfl rfl)
      refine (refMul_spec x y q h3 hxb hyb (by omega)).mono ?_
      rintro _ _ ⟨rfl, rfl⟩
      refine ⟨Ext.refl _, ?_⟩
      have hpr : mulm x y q < q := mulm_lt (by omega)
      generalize mulm x y q = pr at *
      refine runJ ?_
      (apply w_condD; exact rfl; exact rfl) <;> intro hik
      · have hl1 : i + k < out.length := by omega
        obtain ⟨u, hu⟩ := get_lt hl1
        have hub := f3.2 u (List.mem_of_getElem? hu)
        have hgd := getD_of hu
        rw [hgd] at st1
        have o3s := o3.sl
        refine runJ ?_
        apply (s_call Tryd_ent17 rfl rfl rfl)
        refine (refAdd_spec u pr q h3 (by omega) (by omega) (by omega)).mono ?_
        rintro _ _ ⟨rfl, rfl⟩
        refine ⟨(by first | exact trivial | exact Ext.refl _ | assumption | exact Ext.trans (by assumption) (by assumption)), ?_⟩
        refine runJ ?_
        (apply (s_storeF (addm u pr q)); exact rfl; exact rfl; exact rfl; exact rfl; exact rfl; exact o3; exact rfl; (first | assumption | omega))
        intro h4 o4 k4
        refine ⟨(by first | exact trivial | exact Ext.refl _ | assumption | exact Ext.trans (by assumption) (by assumption)), ?_⟩
        refine runJ ?_
        apply again_normal (k + 1, out.set (i + k) (addm u pr q))
        · exact (Sub.cons rfl (Sub.cons rfl (Sub.cons rfl (Sub.cons rfl (Sub.cons rfl (Sub.cons rfl (Sub.cons rfl (Sub.cons rfl (Sub.cons rfl (Sub.cons rfl (Sub.nil _)))))))))))
        · refine ⟨o3.old k4 e3 (Nat.le_refl _), o4, by dsimp only; omega, fit_set f3 (addm_lt (by omega)), fun p hp => ?_⟩
          dsimp only
          refine (st1 (by omega) p hp).trans (Cg.of_eq ?_)
          show _ = _ + ((sm k fun b => ctr n (gt xs) (gt ys) p i b) + ctr n (gt xs) (gt ys) p i k)
          omega
        · dsimp only; omega
      · have hl1 : i + k - n < out.length := by omega
        obtain ⟨u, hu⟩ := get_lt hl1
        have hub := f3.2 u (List.mem_of_getElem? hu)
        have hgd := getD_of hu
        rw [hgd] at st2
        have o3s := o3.sl
        rw [← hxl] at hu hl1
        refine runJ ?_
        apply (s_call Tryd_ent33 rfl rfl rfl)
        refine (refSub_spec u pr q h3 (by omega) (by omega) (by omega)).mono ?_
        rintro _ _ ⟨rfl, rfl⟩
        refine ⟨(by first | exact trivial | exact Ext.refl _ | assumption | exact Ext.trans (by assumption) (by assumption)), ?_⟩
        refine runJ ?_
        (apply (s_storeF (subm u pr q)); exact rfl; exact rfl; exact rfl; exact rfl; exact rfl; exact o3; exact rfl; (first | assumption | omega))
        intro h4 o4 k4
        refine ⟨(by first | exact trivial | exact Ext.refl _ | assumption | exact Ext.trans (by assumption) (by assumption)), ?_⟩
        rw [hxl] at o4
        refine runJ ?_
        apply again_normal (k + 1, out.set (i + k - n) (subm u pr q))
        · exact (Sub.cons rfl (Sub.cons rfl (Sub.cons rfl (Sub.cons rfl (Sub.cons rfl (Sub.cons rfl (Sub.cons rfl (Sub.cons rfl (Sub.cons rfl (Sub.cons rfl (Sub.nil _)))))))))))
        · refine ⟨o3.old k4 e3 (Nat.le_refl _), o4, by dsimp only; omega, fit_set f3 (subm_lt (by omega)), fun p hp => ?_⟩
          dsimp only
          refine (st2 (by omega) p hp).trans (Cg.of_eq ?_)
          show _ = _ + ((sm k fun b => ctr n (gt xs) (gt ys) p i b) + ctr n (gt xs) (gt ys) p i k)
          omega
        · dsimp only; omega
    · obtain rfl : k = n := by omega
      refine runJ ?_
      apply again_normal (i + 1, out)
      · exact (Sub.cons rfl (Sub.cons rfl (Sub.cons rfl (Sub.cons rfl (Sub.cons rfl (Sub.cons rfl (Sub.cons rfl (Sub.nil _))))))))
      · exact ⟨e3, o3, by dsimp only; omega, f3, c3⟩
      · dsimp only; omega
  · obtain rfl : i = n := by omega
    refine runJ ?_
    exact fin1 rfl rfl ⟨e2, zs, o2, f2, c2⟩

theorem r_drawnB {P : Program} {n : Nat} {Q : Post} {l : Fr} {h : Hp} {c : Code} {h0 : Hp} (hC : Ext h0 h) (hc : tagOf c = .region true) (hm : P.follows .mixedOrders = true) (hok : regionOk (opsOf c) (effB (opsOf c)) = true)
    (k : S P n (opsOf c) (Ext h0) (effB (opsOf c)) Q 0 l h) : W P n c Q l h := r_drawn (Ext h0) (effB (opsOf c)) hc hm hok hC k

theorem Tryd_ent9 : Ent Tryd.prog 9 := ent_of Tryd.func9 (by kernel_rfl) rfl
set_option maxHeartbeats 4000000 in
theorem refAdd5_spec (vp va vb : Value) (qs : List Nat) (xs ys : List (Value × List Nat)) (h : Hp) (sp : SlF h U vp qs) (sa : PolAt h va xs) (sb : PolAt h vb ys) (hl : ys.length = xs.length) (hql : xs.length ≤ qs.length) (h24 : xs.length ≤ 24)
    (hr : ∀ (i q : Nat) (x y : Value × List Nat), xs[i]? = some x → ys[i]? = some y → qs[i]? = some q → y.2.length = x.2.length ∧ x.2.length ≤ 4096 ∧ (∀ a ∈ x.2, a < 18446744073709551616) ∧ (∀ a ∈ y.2, a < 18446744073709551616) ∧ q < 18446744073709551616) :
    CallsH Tryd.prog 9 [vp, .agg #[va], .agg #[vb]] h fun v' h' => Ext h h' ∧ ∃ vr rows p, v' = .agg #[vr] ∧ RowsAt h' h.size p vr rows ∧ rows.length = xs.length ∧
      ∀ (i q : Nat) (x y r : Value × List Nat), xs[i]? = some x → ys[i]? = some y → qs[i]? = some q → rows[i]? = some r → r.2 = addL q x.2 y.2 := by
  (apply enter Tryd.func9 rfl Tryd.ntmps9 rfl)
  refine runJ ?_
  (apply s_box; exact rfl; exact rfl; exact rfl; exact rfl)
  intro p4 h1 x1 e1 b1
  (try dsimp only [Value.cells, List.toList_toArray] at x1)
  refine ⟨(by first | exact trivial | exact Ext.refl _ | assumption | exact Ext.trans (by assumption) (by assumption)), ?_⟩
  refine runJ ?_
  (apply s_box; exact rfl; exact rfl; exact rfl; exact rfl)
  intro p5 h2 x2 e2 b2
  (try dsimp only [Value.cells, List.toList_toArray] at x2)
  refine ⟨(by first | exact trivial | exact Ext.refl _ | assumption | exact Ext.trans (by assumption) (by assumption)), ?_⟩
  refine runJ ?_
  (apply s_alloc; exact rfl; exact rfl; exact rfl)
  intro p6 h3 x3 e3 b3
  (try dsimp only [Value.cells, List.toList_toArray] at x3)
  refine ⟨(by first | exact trivial | exact Ext.refl _ | assumption | exact Ext.trans (by assumption) (by assumption)), ?_⟩
  have E3 := (e1.trans e2).trans e3
  have w4 := (x1.ext e2).ext e3
  have w5 := x2.ext e3
  have w6 := x3
  have sp3 := sp.ext E3
  have sa3 := (sa.ext E3).row
  have sb3 := (sb.ext E3).row
  have ela := (sa.ext E3).el
  have elb := (sb.ext E3).el
  refine runJ ?_
  (apply s_alloc; exact rfl; exact rfl; exact rfl)
  intro p7 h4 x4 e4 b4
  (try dsimp only [Value.cells, List.toList_toArray] at x4)
  refine ⟨(by first | exact trivial | exact Ext.refl _ | assumption | exact Ext.trans (by assumption) (by assumption)), ?_⟩
  have hb34 : h3.size < h4.size := by obtain ⟨j, hj, hlj⟩ := x4.blk; rw [b4] at hj; cases hj; exact hlj
  have hk4s := e4.1
  have a4 := w4.ext e4
  have s4 := sa3.ext e4
  refine runJ ?_
  (first | (apply w_seqB; exact rfl; apply w_block; exact rfl) | skip)
  apply (w_loop (σ := Nat × List (Value × List Nat) × Value) rfl (fun j => [(0, vp), (4, p4), (5, p5), (6, p6), (7, p7), (13, N xs.length), (14, N j.1)])
    (fun j h' => Ext h3 h' ∧ h4.size ≤ h'.size ∧ j.1 ≤ xs.length ∧ Var h' p7 37 [j.2.2] ∧ RowsAt h' h3.size (some h3.size) j.2.2 j.2.1 ∧ j.2.1.length = j.1 ∧
      ∀ (i q : Nat) (x y r : Value × List Nat), xs[i]? = some x → ys[i]? = some y → qs[i]? = some q → j.2.1[i]? = some r → r.2 = addL q x.2 y.2) (fun j => xs.length - j.1) (0, [], .slice none 0 0))
  · exact (Sub.cons rfl (Sub.cons rfl (Sub.cons rfl (Sub.cons rfl (Sub.cons rfl (Sub.cons rfl (Sub.cons rfl (Sub.nil _))))))))
  · exact ⟨e4, Nat.le_refl _, Nat.zero_le _, x4, RowsAt.nil _ _ _, rfl, by intro i q x y r _ _ _ hr; cases hr⟩
  clear x4 a4 s4
  rintro ⟨j, rows, vR⟩ h7 ⟨e7, z7, j1, x7, R7, l7, m7⟩
  dsimp only at e7 z7 j1 x7 R7 l7 m7 ⊢
  have u4 := w4.ext e7
  have u5 := w5.ext e7
  have sp7 := sp3.ext e7
  have sa7 := sa3.ext e7
  have sb7 := sb3.ext e7
  have hpv : pblk p7 ≠ vR.ownBlock := by
    rw [b4]; intro e
    rcases R7.vp with h0 | h0
    · rw [h0] at e; cases e
    · exact h0 e.symm
  refine runJ ?_
  (apply w_condD; exact rfl; exact rfl) <;> intro hj
  · obtain ⟨x, hxj⟩ := get_lt hj
    obtain ⟨y, hyj⟩ := get_lt (l := ys) (j := j) (by omega)
    obtain ⟨q, hqj⟩ := get_lt (l := qs) (j := j) (by omega)
    obtain ⟨f1, f2, f3, f4, f5⟩ := hr j q x y hxj hyj hqj
    have sx := (ela x (List.mem_of_getElem? hxj)).ext e7
    have sy := (elb y (List.mem_of_getElem? hyj)).ext e7
    have hMM : ∀ r : Value × List Nat, r.2 = addL q x.2 y.2 → ∀ (i q : Nat) (x y r' : Value × List Nat), xs[i]? = some x → ys[i]? = some y → qs[i]? = some q → (rows ++ [r])[i]? = some r' → r'.2 = addL q x.2 y.2 := by
      intro r hr' i q' x' y' r' hx' hy' hq' hri
      rcases Nat.lt_or_ge i j with hij | hij
      · rw [List.getElem?_append_left (by omega)] at hri
        exact m7 i q' x' y' r' hx' hy' hq' hri
      · have hi := (List.getElem?_eq_some_iff.1 hri).1
        rw [List.length_append] at hi
        simp only [List.length_cons, List.length_nil] at hi
        obtain rfl : i = j := by omega
        rw [List.getElem?_append_right (by omega), l7, Nat.sub_self] at hri
        rw [hxj] at hx'
        rw [hyj] at hy'
        rw [hqj] at hq'
        cases hx'; cases hy'; cases hq'; cases hri
        exact hr'
    obtain ⟨vx, ws⟩ := x
    obtain ⟨vy, zs⟩ := y
    dsimp only at sx sy f1 f2 f3 f4 hMM ⊢
    have hal := addL_len (q := q) f1.symm
    refine runJ ?_
    (first | (apply w_seqB; exact rfl; apply w_block; exact rfl) | skip)
    apply (w_loop (σ := Nat × Value) rfl (fun m => [(0, vp), (4, p4), (5, p5), (6, p6), (7, p7), (8, N j), (9, m.2), (13, N xs.length), (14, N j), (22, N ws.length), (23, N m.1)])
      (fun m h' => Ext h7 h' ∧ m.1 ≤ ws.length ∧ OwnF h' h7.size 22 U m.2 ((addL q ws zs).take m.1)) (fun m => ws.length - m.1) (0, .slice none 0 0))
    · exact (Sub.cons rfl (Sub.cons rfl (Sub.cons rfl (Sub.cons rfl (Sub.cons rfl (Sub.cons rfl (Sub.cons rfl (Sub.cons rfl (Sub.cons rfl (Sub.cons rfl (Sub.cons rfl (Sub.nil _))))))))))))
    · exact ⟨Ext.refl _, Nat.zero_le _, OwnF.nil _ _ _ _⟩
    rintro ⟨m, vl⟩ h9 ⟨e9, m1, o9⟩
    dsimp only at e9 m1 o9 ⊢
    refine runJ ?_
    (apply w_condD; exact rfl; exact rfl) <;> intro hm
    · obtain ⟨a, ha⟩ := get_lt hm
      obtain ⟨b, hb⟩ := get_lt (l := zs) (j := m) (by omega)
      have hab := f3 a (List.mem_of_getElem? ha)
      have hbb := f4 b (List.mem_of_getElem? hb)
      have hadd := addL_get (q := q) ha hb
      have htl : (List.take m (addL q ws zs)).length = m := by rw [List.length_take]; omega
      refine runJN ?_
      (apply (r_drawnB (h0 := h7) e9); exact rfl; exact mixed; kernel_rfl)
      refine runJ ?_
      apply (s_call Tryd_ent17 rfl rfl rfl)
      refine (refAdd_spec a b q h9 hab hbb f5).mono ?_
      rintro _ _ ⟨rfl, rfl⟩
      refine ⟨e9, ?_⟩
      refine runJ ?_
      (refine s_app1 (bytes := 8) (addm a b q) o9 e9 rfl rfl rfl rfl rfl rfl rfl rfl rfl (by first | exact rfl | exact congrArg some (congrArg I (by omega))) (fun _ => rfl) rfl rfl (fun _ k => k) (by omega) (by simp only [maxLen]; omega) ?_)
      intro v10 h10 o10 e10 k10 b10
      rw [← take_snoc hadd] at o10
      refine runJ ?_
      apply again_normal (m + 1, v10)
      · exact (Sub.cons rfl (Sub.cons rfl (Sub.cons rfl (Sub.cons rfl (Sub.cons rfl (Sub.cons rfl (Sub.cons rfl (Sub.cons rfl (Sub.cons rfl (Sub.cons rfl (Sub.cons rfl (Sub.nil _))))))))))))
      · exact ⟨e10, by dsimp only; omega, o10⟩
      · dsimp only; omega
    · obtain rfl : m = ws.length := by omega
      rw [← hal, List.take_length] at o9
      have R9 := R7.ext e9
      have x9 := x7.ext e9
      have e39 := e7.trans e9
      have o9one := o9.sl.one
      have hlen : rows.length + 1 < 1000000 := by omega
      refine runJ ?_
      (refine s_app1V (bytes := 24) ((vl, addL q ws zs)) R9.own e39 rfl rfl rfl rfl rfl rfl rfl rfl rfl (by first | exact rfl | exact congrArg some (congrArg I (by omega))) o9one rfl rfl (fun _ _ => trivial) (by omega) (by simp only [maxLen]; omega) ?_)
      intro v10 h10 o10 e10 k10 b10
      have x10 := x9.only k10 hpv
      refine runJ ?_
      (apply s_storeC; exact rfl; exact rfl; (first | exact rfl | exact SlF.one (by assumption) | exact SlF.one (OwnF.sl (by assumption)) | exact Var.one (by assumption)); exact rfl; exact rfl; exact x10; exact rfl)
      intro h11 x11 k11
      refine ⟨(by first | exact trivial | exact Ext.refl _ | assumption | exact Ext.only (by assumption) _ | exact Only.trans (Ext.only (by assumption) _) (by assumption)), ?_⟩
      have e11 : Ext h3 h11 := k11.oldV e10 b4 (Nat.le_refl _)
      rw [b4] at k11
      have R11 := R9.push (z := h7.size) (o9.base (Nat.le_trans hk4s z7)) (fun k hk => (o9.blk k hk).1) (fun k hk => (R7.own.blk k hk).2) (Nat.lt_of_lt_of_le hb34 z7) e9.1 o10 k10 b10 k11
      refine runJ ?_
      apply again_normal (j + 1, rows ++ [(vl, addL q ws zs)], v10)
      · exact (Sub.cons rfl (Sub.cons rfl (Sub.cons rfl (Sub.cons rfl (Sub.cons rfl (Sub.cons rfl (Sub.cons rfl (Sub.nil _))))))))
      · exact ⟨e11, Nat.le_trans z7 (Nat.le_trans e9.1 (Nat.le_trans k10.1 k11.1)), hj, x11, R11, by dsimp only; rw [List.length_append]; simp [l7], hMM _ rfl⟩
      · dsimp only; omega
  · have hjn : j = xs.length := by omega
    subst hjn
    have w37 := w6.ext e7
    refine runJ ?_
    (apply s_storeV; exact rfl; exact rfl; exact rfl; exact (OneAll.cons R7.own.sl.one OneAll.nil : OneAll [vR]); exact rfl; exact rfl; exact w37; exact rfl)
    intro h8 x8 k8
    refine ⟨trivial, ?_⟩
    have x8 : Var h8 p6 37 [vR] := x8
    have e8 : Ext h h8 := k8.oldV (E3.trans e7) b3 (e1.trans e2).1
    rw [b3] at k8
    have hb23 : h2.size < h3.size := by obtain ⟨b, hb, hlb⟩ := w6.blk; rw [b3] at hb; cases hb; exact hlb
    refine runJ ?_
    exact finC rfl rfl x8 rfl rfl ⟨e8, _, rows, _, rfl, (R7.low k8 hb23).base E3.1, l7, m7⟩

theorem Tryd_ent10 : Ent Tryd.prog 10 := ent_of Tryd.func10 (by kernel_rfl) rfl
set_option maxHeartbeats 4000000 in
theorem refTurn5_spec (vp va : Value) (qs : List Nat) (xs : List (Value × List Nat)) (k n : Nat) (h : Hp) (sp : SlF h U vp qs) (sa : PolAt h va xs) (hql : xs.length ≤ qs.length) (h24 : xs.length ≤ 24) (hn1 : 1 ≤ n) (hn : n ≤ 4096) (hk : k < 4611686018427387904)
    (hr : ∀ (i q : Nat) (x : Value × List Nat), xs[i]? = some x → qs[i]? = some q → x.2.length = n ∧ (∀ a ∈ x.2, a < 18446744073709551616) ∧ 0 < q ∧ q < 18446744073709551616) :
    CallsH Tryd.prog 10 [vp, .agg #[va], N k] h fun v' h' => Ext h h' ∧ ∃ vr rows p, v' = .agg #[vr] ∧ RowsAt h' h.size p vr rows ∧ rows.length = xs.length ∧
      ∀ (i q : Nat) (x r : Value × List Nat), xs[i]? = some x → qs[i]? = some q → rows[i]? = some r → r.2 = turnL n q k x.2 := by
  (apply enter Tryd.func10 rfl Tryd.ntmps10 rfl)
  refine runJ ?_
  (apply s_box; exact rfl; exact rfl; exact rfl; exact rfl)
  intro p4 h1 x1 e1 b1
  (try dsimp only [Value.cells, List.toList_toArray] at x1)
  refine ⟨(by first | exact trivial | exact Ext.refl _ | assumption | exact Ext.trans (by assumption) (by assumption)), ?_⟩
  refine runJ ?_
  (apply s_alloc; exact rfl; exact rfl; exact rfl)
  intro p6 h3 x3 e3 b3
  (try dsimp only [Value.cells, List.toList_toArray] at x3)
  refine ⟨(by first | exact trivial | exact Ext.refl _ | assumption | exact Ext.trans (by assumption) (by assumption)), ?_⟩
  have E3 := e1.trans e3
  have w4 := x1.ext e3
  have w6 := x3
  have sp3 := sp.ext E3
  have sa3 := (sa.ext E3).row
  have ela := (sa.ext E3).el
  refine runJ ?_
  (apply s_alloc; exact rfl; exact rfl; exact rfl)
  intro p7 h4 x4 e4 b4
  (try dsimp only [Value.cells, List.toList_toArray] at x4)
  refine ⟨(by first | exact trivial | exact Ext.refl _ | assumption | exact Ext.trans (by assumption) (by assumption)), ?_⟩
  have hb34 : h3.size < h4.size := by obtain ⟨j, hj, hlj⟩ := x4.blk; rw [b4] at hj; cases hj; exact hlj
  have hk4s := e4.1
  have a4 := w4.ext e4
  have s4 := sa3.ext e4
  have hkkl : k % (2 * n) < 2 * n := Nat.mod_lt _ (by omega)
  refine runJ ?_
  (first | (apply w_seqB; exact rfl; apply w_block; exact rfl) | skip)
  apply (w_loop (σ := (Nat × Nat) × List (Value × List Nat) × Value) rfl (fun j => [(0, vp), (2, N j.1.2), (4, p4), (6, p6), (7, p7), (16, N xs.length), (17, N j.1.1)])
    (fun j h' => Ext h3 h' ∧ h4.size ≤ h'.size ∧ j.1.1 ≤ xs.length ∧ j.1.2 % (2 * n) = k % (2 * n) ∧ j.1.2 < 4611686018427387904 ∧ Var h' p7 37 [j.2.2] ∧ RowsAt h' h3.size (some h3.size) j.2.2 j.2.1 ∧ j.2.1.length = j.1.1 ∧
      ∀ (i q : Nat) (x r : Value × List Nat), xs[i]? = some x → qs[i]? = some q → j.2.1[i]? = some r → r.2 = turnL n q k x.2) (fun j => xs.length - j.1.1) ((0, k), [], .slice none 0 0))
  · exact (Sub.cons rfl (Sub.cons rfl (Sub.cons rfl (Sub.cons rfl (Sub.cons rfl (Sub.cons rfl (Sub.cons rfl (Sub.nil _))))))))
  · exact ⟨e4, Nat.le_refl _, Nat.zero_le _, rfl, hk, x4, RowsAt.nil _ _ _, rfl, by intro i q x r _ _ hr; cases hr⟩
  clear x4 a4 s4
  rintro ⟨⟨j, kc⟩, rows, vR⟩ h7 ⟨e7, z7, j1, c7, c8, x7, R7, l7, m7⟩
  dsimp only at e7 z7 j1 c7 c8 x7 R7 l7 m7 ⊢
  have u4 := w4.ext e7
  have sp7 := sp3.ext e7
  have sa7 := sa3.ext e7
  have hpv : pblk p7 ≠ vR.ownBlock := by
    rw [b4]; intro e
    rcases R7.vp with h0 | h0
    · rw [h0] at e; cases e
    · exact h0 e.symm
  refine runJ ?_
  (apply w_condD; exact rfl; exact rfl) <;> intro hj
  · obtain ⟨x, hxj⟩ := get_lt hj
    obtain ⟨q, hqj⟩ := get_lt (l := qs) (j := j) (by omega)
    obtain ⟨f1, f3, f4, f5⟩ := hr j q x hxj hqj
    have sx := (ela x (List.mem_of_getElem? hxj)).ext e7
    have hMM : ∀ r : Value × List Nat, r.2 = turnL n q k x.2 → ∀ (i q : Nat) (x r' : Value × List Nat), xs[i]? = some x → qs[i]? = some q → (rows ++ [r])[i]? = some r' → r'.2 = turnL n q k x.2 := by
      intro r hr' i q' x' r' hx' hq' hri
      rcases Nat.lt_or_ge i j with hij | hij
      · rw [List.getElem?_append_left (by omega)] at hri
        exact m7 i q' x' r' hx' hq' hri
      · have hi := (List.getElem?_eq_some_iff.1 hri).1
        rw [List.length_append] at hi
        simp only [List.length_cons, List.length_nil] at hi
        obtain rfl : i = j := by omega
        rw [List.getElem?_append_right (by omega), l7, Nat.sub_self] at hri
        rw [hxj] at hx'
        rw [hqj] at hq'
        cases hx'; cases hq'; cases hri
        exact hr'
    obtain ⟨vx, ws⟩ := x
    dsimp only at sx f1 f3 hMM ⊢
    have hkc : (kc % (2 * n) + 2 * n) % (2 * n) = k % (2 * n) := by rw [Nat.add_mod_right, Nat.mod_mod, c7]
    have hTS := fun (m y : Nat) (hym : ws[m]? = some y) => turnF_snoc n q k (ws.take m) y
    have hTO := fun m => turnF_ok (n := n) (by omega) q k (ws.take m)
    have hT2 := fun m (hm : m ≤ ws.length) => turnF_two n q k m (ws.take m) (by rw [List.length_take]; omega)
    have hcm : kc % (2 * n) < 2 * n := Nat.mod_lt _ (by omega)
    refine runJ ?_
    rw [f1]
    refine runJ ?_
    rw [hkc]
    (apply (s_make (f := U) (bytes := 8) (0)); (first | exact isK_c | exact isK_t rfl); (first | exact isK_c | exact isK_t rfl); exact rfl; exact rfl; exact rfl; exact rfl; exact rfl; exact rfl; omega; omega; omega)
    intro w8 h8 o8 e8 b8
    refine ⟨(by first | exact trivial | exact Ext.refl _ | assumption | exact Ext.trans (by assumption) (by assumption)), ?_⟩
    have sx8 := sx.ext e8
    have u8 := u4.ext e8
    have sa8 := sa7.ext e8
    refine runJ ?_
    (first | (apply w_seqB; exact rfl; apply w_block; exact rfl) | skip)
    apply (w_loop (σ := Nat × List Nat) rfl (fun m => [(0, vp), (2, N (k % (2 * n))), (4, p4), (6, p6), (7, p7), (8, N j), (9, N n), (10, w8), (16, N xs.length), (17, N j), (42, vx), (43, N ws.length), (44, N m.1)])
      (fun m h' => Ext h7 h' ∧ m.1 ≤ ws.length ∧ OwnF h' h7.size 22 U w8 m.2 ∧ m.2 = (turnF n q k (ws.take m.1)).1) (fun m => ws.length - m.1) (0, List.replicate n 0))
    · exact (Sub.cons rfl (Sub.cons rfl (Sub.cons rfl (Sub.cons rfl (Sub.cons rfl (Sub.cons rfl (Sub.cons rfl (Sub.cons rfl (Sub.cons rfl (Sub.cons rfl (Sub.cons rfl (Sub.cons rfl (Sub.cons rfl (Sub.nil _))))))))))))))
    · exact ⟨e8, Nat.zero_le _, o8, rfl⟩
    clear o8 sx8 u8 sa8
    rintro ⟨m, ys⟩ h9 ⟨e9, m1, o9, t9⟩
    dsimp only at e9 m1 o9 t9 ⊢
    have sx9 := sx.ext e9
    have sp9 := sp7.ext e9
    obtain ⟨hyl, hyt⟩ := hTO m
    rw [← t9] at hyl
    have hT2m := hT2 m m1
    rw [hT2m] at hyt
    refine runJ ?_
    (apply w_condD; exact rfl; exact rfl) <;> intro hm
    · obtain ⟨y, hym⟩ := get_lt hm
      have hyb := f3 y (List.mem_of_getElem? hym)
      have hmk : m * (k % (2 * n)) ≤ 4096 * 8192 := Nat.mul_le_mul (by omega) (by omega)
      have hst := hTS m y hym
      rw [← take_snoc hym] at hst
      unfold turnStep at hst
      rw [hT2m, ← t9] at hst
      unfold at2 at hst hyt
      refine runJ ?_
      generalize m * (k % (2 * n)) % (2 * n) = at_ at *
      (apply w_condD; exact rfl; exact rfl) <;> intro ha
      · rw [if_pos ha] at hst
        have hal : at_ < ys.length := by omega
        refine runJ ?_
        (apply (s_storeF (y)); exact rfl; exact rfl; exact rfl; exact rfl; exact rfl; exact o9; exact rfl; (first | assumption | omega))
        intro h10 o10 k10
        refine ⟨(by first | exact trivial | exact Ext.refl _ | assumption | exact Ext.trans (by assumption) (by assumption)), ?_⟩
        refine runJ ?_
        apply again_normal (m + 1, ys.set at_ y)
        · exact (Sub.cons rfl (Sub.cons rfl (Sub.cons rfl (Sub.cons rfl (Sub.cons rfl (Sub.cons rfl (Sub.cons rfl (Sub.cons rfl (Sub.cons rfl (Sub.cons rfl (Sub.cons rfl (Sub.cons rfl (Sub.cons rfl (Sub.nil _))))))))))))))
        · exact ⟨o9.old k10 e9 (Nat.le_refl _), by dsimp only; omega, o10, by dsimp only; rw [hst]⟩
        · dsimp only; omega
      · rw [if_neg ha] at hst
        have hal : at_ - n < ys.length := by omega
        refine runJ ?_
        apply (s_call Tryd_ent33 rfl rfl rfl)
        refine (refSub_spec 0 y q h9 (by omega) (by omega) (by omega)).mono ?_
        rintro _ _ ⟨rfl, rfl⟩
        refine ⟨(by first | exact trivial | exact Ext.refl _ | assumption | exact Ext.trans (by assumption) (by assumption)), ?_⟩
        refine runJ ?_
        (apply (s_storeF (subm 0 y q)); exact rfl; exact rfl; exact rfl; exact rfl; exact rfl; exact o9; exact rfl; (first | assumption | omega))
        intro h10 o10 k10
        refine ⟨(by first | exact trivial | exact Ext.refl _ | assumption | exact Ext.trans (by assumption) (by assumption)), ?_⟩
        refine runJ ?_
        apply again_normal (m + 1, ys.set (at_ - n) (subm 0 y q))
        · exact (Sub.cons rfl (Sub.cons rfl (Sub.cons rfl (Sub.cons rfl (Sub.cons rfl (Sub.cons rfl (Sub.cons rfl (Sub.cons rfl (Sub.cons rfl (Sub.cons rfl (Sub.cons rfl (Sub.cons rfl (Sub.cons rfl (Sub.nil _))))))))))))))
        · exact ⟨o9.old k10 e9 (Nat.le_refl _), by dsimp only; omega, o10, by dsimp only; rw [hst]⟩
        · dsimp only; omega
    · obtain rfl : m = ws.length := by omega
      rw [List.take_length] at t9
      have R9 := R7.ext e9
      have x9 := x7.ext e9
      have e39 := e7.trans e9
      have o9one := o9.sl.one
      have hlen : rows.length + 1 < 1000000 := by omega
      refine runJ ?_
      (refine s_app1V (bytes := 24) ((w8, ys)) R9.own e39 rfl rfl rfl rfl rfl rfl rfl rfl rfl (by first | exact rfl | exact congrArg some (congrArg I (by omega))) o9one rfl rfl (fun _ _ => trivial) (by omega) (by simp only [maxLen]; omega) ?_)
      intro v10 h10 o10 e10 k10 b10
      have x10 := x9.only k10 hpv
      refine runJ ?_
      (apply s_storeC; exact rfl; exact rfl; (first | exact rfl | exact SlF.one (by assumption) | exact SlF.one (OwnF.sl (by assumption)) | exact Var.one (by assumption)); exact rfl; exact rfl; exact x10; exact rfl)
      intro h11 x11 k11
      refine ⟨(by first | exact trivial | exact Ext.refl _ | assumption | exact Ext.only (by assumption) _ | exact Only.trans (Ext.only (by assumption) _) (by assumption)), ?_⟩
      have e11 : Ext h3 h11 := k11.oldV e10 b4 (Nat.le_refl _)
      rw [b4] at k11
      have R11 := R9.push (z := h7.size) (o9.base (Nat.le_trans hk4s z7)) (fun k hk => (o9.blk k hk).1) (fun k hk => (R7.own.blk k hk).2) (Nat.lt_of_lt_of_le hb34 z7) e9.1 o10 k10 b10 k11
      refine runJ ?_
      apply again_normal ((j + 1, k % (2 * n)), rows ++ [(w8, ys)], v10)
      · exact (Sub.cons rfl (Sub.cons rfl (Sub.cons rfl (Sub.cons rfl (Sub.cons rfl (Sub.cons rfl (Sub.cons rfl (Sub.nil _))))))))
      · exact ⟨e11, Nat.le_trans z7 (Nat.le_trans e9.1 (Nat.le_trans k10.1 k11.1)), hj, Nat.mod_mod _ _, by dsimp only; omega, x11, R11, by dsimp only; rw [List.length_append]; simp [l7], hMM _ t9⟩
      · dsimp only; omega
  · have hjn : j = xs.length := by omega
    subst hjn
    have w37 := w6.ext e7
    refine runJ ?_
    (apply s_storeV; exact rfl; exact rfl; exact rfl; exact (OneAll.cons R7.own.sl.one OneAll.nil : OneAll [vR]); exact rfl; exact rfl; exact w37; exact rfl)
    intro h8 x8 k8
    refine ⟨trivial, ?_⟩
    have x8 : Var h8 p6 37 [vR] := x8
    have e8 : Ext h h8 := k8.oldV (E3.trans e7) b3 e1.1
    rw [b3] at k8
    have hb23 : h1.size < h3.size := by obtain ⟨b, hb, hlb⟩ := w6.blk; rw [b3] at hb; cases hb; exact hlb
    refine runJ ?_
    exact finC rfl rfl x8 rfl rfl ⟨e8, _, rows, _, rfl, (R7.low k8 hb23).base E3.1, l7, m7⟩
end Go.Proofs.YtfcmdefigldpnaaDoor

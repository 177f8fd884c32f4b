/- Texts RngE to RngF of this work, joined: each says in its own head what it proves, and of which condition. -/
import Derived.Test.YtfgfmempmkjlnaaDoorMBat20
/- Package ring: a power of X for X. No condition. -/
namespace Go.Proofs.YtfgfmempmkjlnaaDoor
set_option linter.unusedVariables false
set_option maxRecDepth 8000
open Go Go.Den Go.RowKit Go.Mth Go.Dig

/-- One coefficient is laid where it comes to lie. -/
def turnStep (n q kk : Nat) (s : List Nat × Nat) (v : Nat) : List Nat × Nat :=
  (if s.2 < n then s.1.set s.2 v else s.1.set (s.2 - n) (subm 0 v q), (s.2 + kk) % (2 * n))
def turnF (n q k : Nat) (xs : List Nat) : List Nat × Nat := xs.foldl (turnStep n q (k % (2 * n))) (List.replicate n 0, 0)
def turnL (n q k : Nat) (xs : List Nat) : List Nat := (turnF n q k xs).1
theorem turnF_ok {n : Nat} (hn : 0 < n) (q k : Nat) (xs : List Nat) : (turnF n q k xs).1.length = n ∧ (turnF n q k xs).2 < 2 * n := by
  suffices H : ∀ (xs : List Nat) (s : List Nat × Nat), s.1.length = n ∧ s.2 < 2 * n → (xs.foldl (turnStep n q (k % (2 * n))) s).1.length = n ∧ (xs.foldl (turnStep n q (k % (2 * n))) s).2 < 2 * n from H xs _ ⟨by simp, by omega⟩
  intro xs
  induction xs with
  | nil => intro s h; exact h
  | cons x xs ih =>
    intro s h
    rw [List.foldl_cons]
    refine ih _ ⟨?_, Nat.mod_lt _ (by omega)⟩
    unfold turnStep
    dsimp only
    split <;> simp [h.1]
theorem turnF_snoc (n q k : Nat) (xs : List Nat) (v : Nat) : turnF n q k (xs ++ [v]) = turnStep n q (k % (2 * n)) (turnF n q k xs) v := by
  unfold turnF; rw [List.foldl_append]; rfl
theorem turn_and {L a : Nat} (ha : a < 2 * 2 ^ L) : (a &&& 2 ^ L = 0) ↔ a < 2 ^ L := by
  constructor
  · intro h
    refine Classical.byContradiction fun hc => ?_
    have ht : a.testBit L = true := by
      have : a / 2 ^ L = 1 := by
        refine Nat.div_eq_of_lt_le ?_ ?_ <;> omega
      rw [Nat.testBit_eq_decide_div_mod_eq, this]; rfl
    have h2 : (a &&& 2 ^ L).testBit L = (0 : Nat).testBit L := by rw [h]
    rw [Nat.testBit_and, ht, Nat.testBit_two_pow_self, Nat.zero_testBit] at h2
    cases h2
  · intro h
    refine Nat.eq_of_testBit_eq fun i => ?_
    rw [Nat.testBit_and, Nat.zero_testBit, Nat.testBit_two_pow]
    by_cases hi : L = i
    · subst hi
      rw [Nat.testBit_lt_two_pow h]; rfl
    · rw [decide_eq_false hi, Bool.and_false]

theorem turn_nil (va : Value) (k : Int) (h : Hp) : CallsH Tryd.prog 41 [.pointer none, .agg #[va], I k] h fun v' h' => v' = .tuple #[.agg #[.slice none 0 0], N 1] ∧ Ext h h' := by
  (apply enter Tryd.func41 rfl Tryd.ntmps41 rfl)
  refine runJ ?_
  (apply s_box; exact rfl; exact rfl; exact rfl; exact rfl)
  intro p4 h1 x1 e1 b1
  (try dsimp only [Value.cells, List.toList_toArray] at x1)
  refine ⟨(by first | exact trivial | exact Ext.refl _ | assumption | exact Ext.trans (by assumption) (by assumption)), ?_⟩
  refine runJ ?_
  (apply s_alloc; exact rfl; exact rfl; exact rfl)
  intro p6 h2 x2 e2 b2
  (try dsimp only [Value.cells, List.toList_toArray] at x2)
  refine ⟨(by first | exact trivial | exact Ext.refl _ | assumption | exact Ext.trans (by assumption) (by assumption)), ?_⟩
  refine runJ ?_
  (apply (s_build ([.slice none 0 0])); exact rfl; exact rfl; exact rfl; (repeat (first | exact CellsAll.nil | (apply CellsAll.cons; (first | exact oneL (by assumption) | exact oneL (SlF.one (by assumption)) | exact oneL (SlF.one (OwnF.sl (by assumption))) | exact oneL (Var.one (by assumption)) | exact rfl)))); exact rfl; exact rfl)
  refine runJ ?_
  (apply s_storeV; exact rfl; exact rfl; exact rfl; (repeat (first | exact OneAll.nil | (apply OneAll.cons; (first | exact rfl | exact SlF.one (by assumption) | exact SlF.one (OwnF.sl (by assumption)) | exact Var.one (by assumption))))); exact rfl; exact rfl; exact x2; exact rfl)
  intro h3 x3 k3
  (try dsimp only [Value.cells, List.toList_toArray] at x3)
  refine ⟨(by first | exact trivial | exact Ext.refl _ | assumption | exact Ext.only (by assumption) _ | exact Only.trans (Ext.only (by assumption) _) (by assumption)), ?_⟩
  have x3 : Var h3 p6 54 [.slice none 0 0] := x3
  have e3 : Ext h h3 := k3.oldV (e1.trans e2) b2 e1.1
  refine runJ ?_
  exact finCT rfl rfl rfl x3 rfl rfl ⟨rfl, e3⟩

theorem Tryd_ent41 : Ent Tryd.prog 41 := ent_of Tryd.func41 (by kernel_rfl) rfl
set_option maxHeartbeats 4000000 in
theorem turn_spec (g va : Value) (R : RngD) (xs : List (Value × List Nat)) (k : Nat) (h : Hp) (K : RngOk R) (A : RngAt h g R) (sa : PolAt h va xs) (Pa : PolOk R xs) (hk : k < 4611686018427387904) (hk1 : k % 2 = 1) :
    CallsH Tryd.prog 41 [g, .agg #[va], N k] h fun v' h' => Ext h h' ∧ ∃ vr rows p, v' = .tuple #[.agg #[vr], N 0] ∧ RowsAt h' h.size p vr rows ∧ rows.length = xs.length ∧
      ∀ (i q : Nat) (x r : Value × List Nat), xs[i]? = some x → R.qs[i]? = some q → rows[i]? = some r → r.2 = turnL (2 ^ R.L) q k x.2 := by
  have hn : 2 ≤ 2 ^ R.L ∧ 2 ^ R.L ≤ 512 := ⟨Nat.pow_le_pow_right (n := 2) (by omega) K.l1, Nat.pow_le_pow_right (n := 2) (by omega) K.l9⟩
  have h24 := K.n24
  have hle := Pa.le
  have hodd : k &&& 1 = 1 := by rw [Nat.and_one_is_mod]; exact hk1
  have G := A.var
  obtain ⟨gb, hgp, -⟩ := id G
  (apply enter Tryd.func41 rfl Tryd.ntmps41 rfl)
  refine runJ ?_
  (apply s_box; exact rfl; exact rfl; exact rfl; exact rfl)
  intro p4 h1 x1 e1 b1
  (try dsimp only [Value.cells, List.toList_toArray] at x1)
  refine ⟨(by first | exact trivial | exact Ext.refl _ | assumption | exact Ext.trans (by assumption) (by assumption)), ?_⟩
  refine runJ ?_
  (apply s_alloc; exact rfl; exact rfl; exact rfl)
  intro p6 h2 x2 e2 b2
  (try dsimp only [Value.cells, List.toList_toArray] at x2)
  refine ⟨(by first | exact trivial | exact Ext.refl _ | assumption | exact Ext.trans (by assumption) (by assumption)), ?_⟩
  have e12 := e1.trans e2
  have y1 := x1.ext e2
  refine runJ ?_
  rw [hodd]
  refine runJ ?_
  apply (s_call Tryd_ent36 rfl rfl rfl)
  refine (level_spec g va R xs h2 K (A.ext e12) (sa.ext e12) Pa).mono ?_
  rintro _ h3 ⟨rfl, e3⟩
  refine ⟨(by first | exact trivial | exact trivial), ?_⟩
  have e13 := e12.trans e3
  have A3 := A.ext e13
  have G3 := A3.var
  have w1 := y1.ext e3
  have w2 := x2.ext e3
  have rq3 := A3.rq
  have sa3 := (sa.ext e13).row
  have ela := (sa.ext e13).el
  have fa := Pa.fit
  have hL : ∀ a, a < 2 * 2 ^ R.L → (a &&& 2 ^ R.L = 0 ↔ a < 2 ^ R.L) := fun a ha => turn_and ha
  have hM : ∀ a : Nat, a &&& (2 * 2 ^ R.L - 1) = a % (2 * 2 ^ R.L) := fun a => by
    rw [show 2 * 2 ^ R.L = 2 ^ (R.L + 1) by rw [Nat.pow_succ, Nat.mul_comm]]; exact Nat.and_two_pow_sub_one_eq_mod _ _
  generalize hnn : 2 ^ R.L = n at *
  refine runJ ?_
  (apply (s_build ([.slice none 0 0])); exact rfl; exact rfl; exact rfl; (repeat (first | exact CellsAll.nil | (apply CellsAll.cons; (first | exact oneL (by assumption) | exact oneL (SlF.one (by assumption)) | exact oneL (SlF.one (OwnF.sl (by assumption))) | exact oneL (Var.one (by assumption)) | exact rfl)))); exact rfl; exact rfl)
  refine runJ ?_
  (apply s_alloc; exact rfl; exact rfl; exact rfl)
  intro p11 h5 x5 e5 b5
  (try dsimp only [Value.cells, List.toList_toArray] at x5)
  refine ⟨(by first | exact trivial | exact Ext.refl _ | assumption | exact Ext.trans (by assumption) (by assumption)), ?_⟩
  refine runJ ?_
  (apply s_storeV; exact rfl; exact rfl; exact rfl; (repeat (first | exact OneAll.nil | (apply OneAll.cons; (first | exact rfl | exact SlF.one (by assumption) | exact SlF.one (OwnF.sl (by assumption)) | exact Var.one (by assumption))))); exact rfl; exact rfl; exact x5; exact rfl)
  intro h6 x6 k6
  (try dsimp only [Value.cells, List.toList_toArray] at x6)
  refine ⟨(by first | exact trivial | exact Ext.refl _ | assumption | exact Ext.only (by assumption) _ | exact Only.trans (Ext.only (by assumption) _) (by assumption)), ?_⟩
  have e6 : Ext h3 h6 := k6.oldV e5 b5 (Nat.le_refl _)
  have hb36 : h3.size < h6.size := by obtain ⟨j, hj, hlj⟩ := x6.blk; rw [b5] at hj; cases hj; exact hlj
  have v1 := w1.ext e6
  have sa6 := sa3.ext e6
  have hk6s := e6.1
  have hb5 := b5
  clear x5 k6 e5 x1 y1 x2
  refine runJ ?_
  have hn0 : 0 < n := by omega
  (first | (apply w_seqB; exact rfl; apply w_block; exact rfl) | skip)
  apply (w_loop (σ := Nat × List (Value × List Nat) × Value) rfl (fun j => [(0, g), (2, N k), (4, p4), (6, p6), (10, N (2 * n - 1)), (11, p11), (44, va), (45, N xs.length), (46, N j.1)])
    (fun j h' => Ext h3 h' ∧ h6.size ≤ h'.size ∧ j.1 ≤ xs.length ∧ Var h' p11 54 [j.2.2] ∧ RowsAt h' h3.size (some h3.size) j.2.2 j.2.1 ∧ j.2.1.length = j.1 ∧
      ∀ (i q : Nat) (x r : Value × List Nat), xs[i]? = some x → R.qs[i]? = some q → j.2.1[i]? = some r → r.2 = turnL n q k x.2) (fun j => xs.length - j.1) (0, [], .slice none 0 0))
  · exact (Sub.cons rfl (Sub.cons rfl (Sub.cons rfl (Sub.cons rfl (Sub.cons rfl (Sub.cons rfl (Sub.cons rfl (Sub.cons rfl (Sub.cons rfl (Sub.nil _))))))))))
  · exact ⟨e6, Nat.le_refl _, Nat.zero_le _, x6, RowsAt.nil _ _ _, rfl, by intro i q x r _ _ hr; cases hr⟩
  rintro ⟨j, rows, vR⟩ h7 ⟨e7, z7, j1, x7, R7, l7, m7⟩
  dsimp only at e7 z7 j1 x7 R7 l7 m7 ⊢
  have u1 := w1.ext e7
  have G7 := G3.ext e7
  have sa7 := sa3.ext e7
  have hpv : pblk p11 ≠ vR.ownBlock := by
    rw [hb5]; intro e
    rcases R7.vp with h0 | h0
    · rw [h0] at e; cases e
    · exact h0 e.symm
  refine runJ ?_
  (apply w_condD; exact rfl; exact rfl) <;> intro hj
  · obtain ⟨x, hxj⟩ := get_lt hj
    obtain ⟨q, hqj⟩ := get_lt (l := R.qs) (j := j) (by omega)
    have hq61 := (K.q q (List.mem_of_getElem? hqj)).q61
    have fx := fa j q x hxj hqj
    have sx := (ela x (List.mem_of_getElem? hxj)).ext e7
    obtain ⟨vx, ws⟩ := x
    dsimp only at sx fx ⊢
    have hwl := fx.1
    have hwq := fx.2
    refine runJ ?_
    (apply (s_make (f := U) (bytes := 8) (0)); (first | exact isK_c | exact isK_t rfl); (first | exact isK_c | exact isK_t rfl); exact rfl; exact rfl; exact rfl; exact rfl; exact rfl; exact rfl; omega; omega; omega)
    intro w8 h8 o8 e8 b8
    refine ⟨(by first | exact trivial | exact Ext.refl _ | assumption | exact Ext.trans (by assumption) (by assumption)), ?_⟩
    have sx8 := sx.ext e8
    refine runJ ?_
    (first | (apply w_seqB; exact rfl; apply w_block; exact rfl) | skip)
    apply (w_loop (σ := Nat × List Nat × Nat) rfl (fun m => [(0, g), (2, N k), (4, p4), (6, p6), (10, N (2 * n - 1)), (11, p11), (44, va), (45, N xs.length), (46, N j), (12, N j), (14, w8), (15, N m.2.2), (56, vx), (57, N ws.length), (58, N m.1)])
      (fun m h' => Ext h7 h' ∧ m.1 ≤ n ∧ OwnF h' h7.size 24 U w8 m.2.1 ∧ (m.2.1, m.2.2) = turnF n q k (ws.take m.1)) (fun m => n - m.1) (0, List.replicate n 0, 0))
    · exact (Sub.cons rfl (Sub.cons rfl (Sub.cons rfl (Sub.cons rfl (Sub.cons rfl (Sub.cons rfl (Sub.cons rfl (Sub.cons rfl (Sub.cons rfl (Sub.cons rfl (Sub.cons rfl (Sub.cons rfl (Sub.cons rfl (Sub.cons rfl (Sub.cons rfl (Sub.nil _))))))))))))))))
    · exact ⟨e8, Nat.zero_le _, o8, rfl⟩
    clear o8
    rintro ⟨m, ys, at_⟩ h9 ⟨e9, m1, o9, t9⟩
    dsimp only at e9 m1 o9 t9 ⊢
    have sx9 := sx.ext e9
    have G9 := G7.ext e9
    have rq9 := rq3.ext (e7.trans e9)
    have tok := turnF_ok hn0 q k (ws.take m)
    rw [← t9] at tok
    obtain ⟨tl, ta⟩ := tok
    dsimp only at tl ta
    refine runJ ?_
    (apply w_condD; exact rfl; exact rfl) <;> intro hm
    · obtain ⟨y, hym⟩ := get_lt hm
      have hyq := hwq y (List.mem_of_getElem? hym)
      have hLa := hL at_ ta
      have hkm := hM k
      have hkn : k &&& (2 * n - 1) < 2 * n := by rw [hkm]; exact Nat.mod_lt _ (by omega)
      refine runJ ?_
      (apply w_condD; exact rfl; exact rfl) <;> intro ha <;> rw [hLa] at ha
      · refine runJ ?_
        (apply (s_storeF (y)); exact rfl; exact rfl; exact rfl; exact rfl; exact rfl; exact o9; exact rfl; (first | assumption | omega))
        intro h10 o10 k10
        refine ⟨(by first | exact trivial | exact Ext.refl _ | assumption | exact Ext.trans (by assumption) (by assumption)), ?_⟩
        refine runJ ?_
        apply again_normal (m + 1, ys.set at_ y, (at_ + (k &&& (2 * n - 1))) &&& (2 * n - 1))
        · exact (Sub.cons rfl (Sub.cons rfl (Sub.cons rfl (Sub.cons rfl (Sub.cons rfl (Sub.cons rfl (Sub.cons rfl (Sub.cons rfl (Sub.cons rfl (Sub.cons rfl (Sub.cons rfl (Sub.cons rfl (Sub.cons rfl (Sub.cons rfl (Sub.cons rfl (Sub.nil _))))))))))))))))
        · refine ⟨o9.old k10 e9 (Nat.le_refl _), by dsimp only; omega, o10, ?_⟩
          dsimp only
          rw [take_snoc hym, turnF_snoc, ← t9, hM, hkm]
          unfold turnStep
          rw [if_pos ha]
        · dsimp only; omega
      · have ng := G7.neq (u := w8) b8 (Nat.le_refl _)
        have nq := (rq3.ext e7).neq (u := w8) (by omega) b8 (Nat.le_refl _)
        have o9s := o9.sl
        have hat : at_ - n < ys.length := by omega
        refine runJN ?_
        (apply (r_drawnO (w8.ownBlock)); exact rfl; exact mixed; kernel_rfl)
        refine runJ ?_
        apply (s_call Tryd_ent63 rfl rfl rfl)
        refine (sub_spec 0 y q h9 (by omega) (by omega) (by omega)).mono ?_
        rintro _ _ ⟨rfl, rfl⟩
        refine ⟨Only.refl _ _, ?_⟩
        refine runJ ?_
        (apply (s_storeF (subm 0 y q)); exact rfl; exact rfl; exact rfl; exact rfl; exact rfl; exact o9; exact rfl; (first | assumption | omega))
        intro h10 o10 k10
        refine ⟨(by first | exact k10 | exact trivial | exact Ext.refl _ | assumption | exact Ext.trans (by assumption) (by assumption)), ?_⟩
        refine runJ ?_
        apply again_normal (m + 1, ys.set (at_ - n) (subm 0 y q), (at_ + (k &&& (2 * n - 1))) &&& (2 * n - 1))
        · exact (Sub.cons rfl (Sub.cons rfl (Sub.cons rfl (Sub.cons rfl (Sub.cons rfl (Sub.cons rfl (Sub.cons rfl (Sub.cons rfl (Sub.cons rfl (Sub.cons rfl (Sub.cons rfl (Sub.cons rfl (Sub.cons rfl (Sub.cons rfl (Sub.cons rfl (Sub.nil _))))))))))))))))
        · refine ⟨o9.old k10 e9 (Nat.le_refl _), by dsimp only; omega, o10, ?_⟩
          dsimp only
          rw [take_snoc hym, turnF_snoc, ← t9, hM, hkm]
          unfold turnStep
          rw [if_neg ha]
        · dsimp only; omega
    · obtain rfl : m = n := by omega
      rw [← hwl, List.take_length, hwl] at t9
      have R9 := R7.ext e9
      have x9 := x7.ext e9
      have e39 := e7.trans e9
      have o9one := o9.sl.one
      have hlen : rows.length + 1 < 1000000 := by omega
      refine runJ ?_
      (refine s_app1V (bytes := 24) ((w8, ys)) R9.own e39 rfl rfl rfl rfl rfl rfl rfl rfl rfl (by first | exact rfl | exact congrArg some (congrArg I (by omega))) o9one rfl rfl (fun _ _ => trivial) (by omega) (by simp only [maxLen]; omega) ?_)
      intro v10 h10 o10 e10 k10 b10
      have x10 := x9.only k10 hpv
      refine runJ ?_
      (apply s_storeC; exact rfl; exact rfl; (first | exact rfl | exact SlF.one (by assumption) | exact SlF.one (OwnF.sl (by assumption)) | exact Var.one (by assumption)); exact rfl; exact rfl; exact x10; exact rfl)
      intro h11 x11 k11
      refine ⟨(by first | exact trivial | exact Ext.refl _ | assumption | exact Ext.only (by assumption) _ | exact Only.trans (Ext.only (by assumption) _) (by assumption)), ?_⟩
      have e11 : Ext h3 h11 := k11.oldV e10 hb5 (Nat.le_refl _)
      rw [hb5] at k11
      have R11 := R9.push (z := h7.size) (o9.base (Nat.le_trans hk6s z7)) (fun k hk => (o9.blk k hk).1) (fun k hk => (R7.own.blk k hk).2) (Nat.lt_of_lt_of_le hb36 z7) e9.1 o10 k10 b10 k11
      refine runJ ?_
      apply again_normal (j + 1, rows ++ [(w8, ys)], v10)
      · exact (Sub.cons rfl (Sub.cons rfl (Sub.cons rfl (Sub.cons rfl (Sub.cons rfl (Sub.cons rfl (Sub.cons rfl (Sub.cons rfl (Sub.cons rfl (Sub.nil _))))))))))
      · refine ⟨e11, Nat.le_trans z7 (Nat.le_trans e9.1 (Nat.le_trans k10.1 k11.1)), hj, x11, R11, by dsimp only; rw [List.length_append]; simp [l7], ?_⟩
        dsimp only
        intro i q' x r hx hq' hr
        rcases Nat.lt_or_ge i j with hij | hij
        · rw [List.getElem?_append_left (by omega)] at hr
          exact m7 i q' x r hx hq' hr
        · have hi := (List.getElem?_eq_some_iff.1 hr).1
          rw [List.length_append] at hi
          simp only [List.length_cons, List.length_nil] at hi
          obtain rfl : i = j := by omega
          rw [List.getElem?_append_right (by omega), l7, Nat.sub_self] at hr
          rw [hxj] at hx
          rw [hqj] at hq'
          cases hx; cases hq'; cases hr
          exact congrArg Prod.fst t9
      · dsimp only; omega
  · have hjn : j = xs.length := by omega
    subst hjn
    have w37 := w2.ext e7
    refine runJ ?_
    (apply s_storeV; exact rfl; exact rfl; exact rfl; exact (OneAll.cons R7.own.sl.one OneAll.nil : OneAll [vR]); exact rfl; exact rfl; exact w37; exact rfl)
    intro h8 x8 k8
    refine ⟨trivial, ?_⟩
    have x8 : Var h8 p6 54 [vR] := x8
    have e8 : Ext h h8 := k8.oldV (e13.trans e7) b2 e1.1
    rw [b2] at k8
    have hb13 : h1.size < h3.size := by obtain ⟨b, hb, hlb⟩ := w2.blk; rw [b2] at hb; cases hb; exact hlb
    refine runJ ?_
    exact finCT rfl rfl rfl x8 rfl rfl ⟨e8, _, rows, _, rfl, (R7.low k8 hb13).base e13.1, l7, m7⟩
end Go.Proofs.YtfgfmempmkjlnaaDoor

/- Package ring: what there is without a ring. No condition. -/
namespace Go.Proofs.YtfgfmempmkjlnaaDoor
set_option linter.unusedVariables false
set_option maxRecDepth 8000
open Go Go.Den Go.RowKit Go.Mth Go.Dig

theorem Tryd_ent61 : Ent Tryd.prog 61 := ent_of Tryd.func61 (by kernel_rfl) rfl
theorem each_nil (va vb f : Value) (h : Hp) : CallsH Tryd.prog 61 [.pointer none, .agg #[va], .agg #[vb], f] h fun v' h' => v' = .tuple #[.agg #[.slice none 0 0], N 1] ∧ Ext h h' := by
  (apply enter Tryd.func61 rfl Tryd.ntmps61 rfl)
  refine runJ ?_
  (apply s_box; exact rfl; exact rfl; exact rfl; exact rfl)
  intro p5 h1 x1 e1 b1
  (try dsimp only [Value.cells, List.toList_toArray] at x1)
  refine ⟨(by first | exact trivial | exact Ext.refl _ | assumption | exact Ext.trans (by assumption) (by assumption)), ?_⟩
  refine runJ ?_
  (apply s_box; exact rfl; exact rfl; exact rfl; exact rfl)
  intro p6 h2 x2 e2 b2
  (try dsimp only [Value.cells, List.toList_toArray] at x2)
  refine ⟨(by first | exact trivial | exact Ext.refl _ | assumption | exact Ext.trans (by assumption) (by assumption)), ?_⟩
  have y1 := x1.ext e2
  have e12 := e1.trans e2
  refine runJ ?_
  (apply s_alloc; exact rfl; exact rfl; exact rfl)
  intro p8 h3 x3 e3 b3
  (try dsimp only [Value.cells, List.toList_toArray] at x3)
  refine ⟨(by first | exact trivial | exact Ext.refl _ | assumption | exact Ext.trans (by assumption) (by assumption)), ?_⟩
  have z1 := y1.ext e3
  have z2 := x2.ext e3
  have e13 := e12.trans e3
  refine runJ ?_
  apply (s_call Tryd_ent65 rfl rfl rfl)
  refine (pair_nil va vb h3).mono ?_
  rintro _ h4 ⟨rfl, e4⟩
  refine ⟨(by first | exact trivial | exact trivial), ?_⟩
  have w3 := x3.ext e4
  refine runJ ?_
  (apply (s_build ([.slice none 0 0])); exact rfl; exact rfl; exact rfl; (repeat (first | exact CellsAll.nil | (apply CellsAll.cons; (first | exact oneL (by assumption) | exact oneL (SlF.one (by assumption)) | exact oneL (SlF.one (OwnF.sl (by assumption))) | exact oneL (Var.one (by assumption)) | exact rfl)))); exact rfl; exact rfl)
  refine runJ ?_
  (apply s_storeV; exact rfl; exact rfl; exact rfl; (repeat (first | exact OneAll.nil | (apply OneAll.cons; (first | exact rfl | exact SlF.one (by assumption) | exact SlF.one (OwnF.sl (by assumption)) | exact Var.one (by assumption))))); exact rfl; exact rfl; exact w3; exact rfl)
  intro h5 x5 k5
  (try dsimp only [Value.cells, List.toList_toArray] at x5)
  refine ⟨(by first | exact trivial | exact Ext.refl _ | assumption | exact Ext.only (by assumption) _ | exact Only.trans (Ext.only (by assumption) _) (by assumption)), ?_⟩
  have x5 : Var h5 p8 54 [.slice none 0 0] := x5
  have e5 : Ext h h5 := k5.oldV (e13.trans e4) b3 e12.1
  refine runJ ?_
  exact finCT rfl rfl rfl x5 rfl rfl ⟨rfl, e5⟩

theorem rmul_nil (va vb : Value) (h : Hp) : CallsH Tryd.prog 40 [.pointer none, .agg #[va], .agg #[vb]] h fun v' h' => v' = .tuple #[.agg #[.slice none 0 0], N 1] ∧ Ext h h' := by
  (apply enter Tryd.func40 rfl Tryd.ntmps40 rfl)
  refine runJ ?_
  (apply s_box; exact rfl; exact rfl; exact rfl; exact rfl)
  intro p5 h1 x1 e1 b1
  (try dsimp only [Value.cells, List.toList_toArray] at x1)
  refine ⟨(by first | exact trivial | exact Ext.refl _ | assumption | exact Ext.trans (by assumption) (by assumption)), ?_⟩
  refine runJ ?_
  (apply s_box; exact rfl; exact rfl; exact rfl; exact rfl)
  intro p6 h2 x2 e2 b2
  (try dsimp only [Value.cells, List.toList_toArray] at x2)
  refine ⟨(by first | exact trivial | exact Ext.refl _ | assumption | exact Ext.trans (by assumption) (by assumption)), ?_⟩
  have y1 := x1.ext e2
  have e12 := e1.trans e2
  refine runJ ?_
  (apply s_alloc; exact rfl; exact rfl; exact rfl)
  intro p8 h3 x3 e3 b3
  (try dsimp only [Value.cells, List.toList_toArray] at x3)
  refine ⟨(by first | exact trivial | exact Ext.refl _ | assumption | exact Ext.trans (by assumption) (by assumption)), ?_⟩
  have z1 := y1.ext e3
  have z2 := x2.ext e3
  have e13 := e12.trans e3
  refine runJ ?_
  apply (s_call Tryd_ent65 rfl rfl rfl)
  refine (pair_nil va vb h3).mono ?_
  rintro _ h4 ⟨rfl, e4⟩
  refine ⟨(by first | exact trivial | exact trivial), ?_⟩
  have w3 := x3.ext e4
  refine runJ ?_
  (apply (s_build ([.slice none 0 0])); exact rfl; exact rfl; exact rfl; (repeat (first | exact CellsAll.nil | (apply CellsAll.cons; (first | exact oneL (by assumption) | exact oneL (SlF.one (by assumption)) | exact oneL (SlF.one (OwnF.sl (by assumption))) | exact oneL (Var.one (by assumption)) | exact rfl)))); exact rfl; exact rfl)
  refine runJ ?_
  (apply s_storeV; exact rfl; exact rfl; exact rfl; (repeat (first | exact OneAll.nil | (apply OneAll.cons; (first | exact rfl | exact SlF.one (by assumption) | exact SlF.one (OwnF.sl (by assumption)) | exact Var.one (by assumption))))); exact rfl; exact rfl; exact w3; exact rfl)
  intro h5 x5 k5
  (try dsimp only [Value.cells, List.toList_toArray] at x5)
  refine ⟨(by first | exact trivial | exact Ext.refl _ | assumption | exact Ext.only (by assumption) _ | exact Only.trans (Ext.only (by assumption) _) (by assumption)), ?_⟩
  have x5 : Var h5 p8 54 [.slice none 0 0] := x5
  have e5 : Ext h h5 := k5.oldV (e13.trans e4) b3 e12.1
  refine runJ ?_
  exact finCT rfl rfl rfl x5 rfl rfl ⟨rfl, e5⟩

theorem Tryd_ent37 : Ent Tryd.prog 37 := ent_of Tryd.func37 (by kernel_rfl) rfl
theorem radd_nil (va vb : Value) (h : Hp) : CallsH Tryd.prog 37 [.pointer none, .agg #[va], .agg #[vb]] h fun v' h' => v' = .tuple #[.agg #[.slice none 0 0], N 1] ∧ Ext h h' := by
  (apply enter Tryd.func37 rfl Tryd.ntmps37 rfl)
  refine runJ ?_
  (apply s_box; exact rfl; exact rfl; exact rfl; exact rfl)
  intro p5 h1 x1 e1 b1
  (try dsimp only [Value.cells, List.toList_toArray] at x1)
  refine ⟨(by first | exact trivial | exact Ext.refl _ | assumption | exact Ext.trans (by assumption) (by assumption)), ?_⟩
  refine runJ ?_
  (apply s_box; exact rfl; exact rfl; exact rfl; exact rfl)
  intro p6 h2 x2 e2 b2
  (try dsimp only [Value.cells, List.toList_toArray] at x2)
  refine ⟨(by first | exact trivial | exact Ext.refl _ | assumption | exact Ext.trans (by assumption) (by assumption)), ?_⟩
  have y1 := x1.ext e2
  have e12 := e1.trans e2
  refine runJ ?_
  (apply s_alloc; exact rfl; exact rfl; exact rfl)
  intro p8 h3 x3 e3 b3
  (try dsimp only [Value.cells, List.toList_toArray] at x3)
  refine ⟨(by first | exact trivial | exact Ext.refl _ | assumption | exact Ext.trans (by assumption) (by assumption)), ?_⟩
  have z1 := y1.ext e3
  have z2 := x2.ext e3
  have e13 := e12.trans e3
  refine runJ ?_
  apply (s_call Tryd_ent61 rfl rfl rfl)
  refine (each_nil va vb _ h3).mono ?_
  rintro _ h4 ⟨rfl, e4⟩
  refine ⟨(by first | exact trivial | exact trivial), ?_⟩
  have w3 := x3.ext e4
  refine runJ ?_
  (apply s_storeV; exact rfl; exact rfl; exact rfl; (repeat (first | exact OneAll.nil | (apply OneAll.cons; (first | exact rfl | exact SlF.one (by assumption) | exact SlF.one (OwnF.sl (by assumption)) | exact Var.one (by assumption))))); exact rfl; exact rfl; exact w3; exact rfl)
  intro h5 x5 k5
  (try dsimp only [Value.cells, List.toList_toArray] at x5)
  refine ⟨(by first | exact trivial | exact Ext.refl _ | assumption | exact Ext.only (by assumption) _ | exact Only.trans (Ext.only (by assumption) _) (by assumption)), ?_⟩
  have x5 : Var h5 p8 54 [.slice none 0 0] := x5
  have e5 : Ext h h5 := k5.oldV (e13.trans e4) b3 e12.1
  refine runJ ?_
  exact finCT rfl rfl rfl x5 rfl rfl ⟨rfl, e5⟩

theorem Tryd_ent38 : Ent Tryd.prog 38 := ent_of Tryd.func38 (by kernel_rfl) rfl
theorem rsub_nil (va vb : Value) (h : Hp) : CallsH Tryd.prog 38 [.pointer none, .agg #[va], .agg #[vb]] h fun v' h' => v' = .tuple #[.agg #[.slice none 0 0], N 1] ∧ Ext h h' := by
  (apply enter Tryd.func38 rfl Tryd.ntmps38 rfl)
  refine runJ ?_
  (apply s_box; exact rfl; exact rfl; exact rfl; exact rfl)
  intro p5 h1 x1 e1 b1
  (try dsimp only [Value.cells, List.toList_toArray] at x1)
  refine ⟨(by first | exact trivial | exact Ext.refl _ | assumption | exact Ext.trans (by assumption) (by assumption)), ?_⟩
  refine runJ ?_
  (apply s_box; exact rfl; exact rfl; exact rfl; exact rfl)
  intro p6 h2 x2 e2 b2
  (try dsimp only [Value.cells, List.toList_toArray] at x2)
  refine ⟨(by first | exact trivial | exact Ext.refl _ | assumption | exact Ext.trans (by assumption) (by assumption)), ?_⟩
  have y1 := x1.ext e2
  have e12 := e1.trans e2
  refine runJ ?_
  (apply s_alloc; exact rfl; exact rfl; exact rfl)
  intro p8 h3 x3 e3 b3
  (try dsimp only [Value.cells, List.toList_toArray] at x3)
  refine ⟨(by first | exact trivial | exact Ext.refl _ | assumption | exact Ext.trans (by assumption) (by assumption)), ?_⟩
  have z1 := y1.ext e3
  have z2 := x2.ext e3
  have e13 := e12.trans e3
  refine runJ ?_
  apply (s_call Tryd_ent61 rfl rfl rfl)
  refine (each_nil va vb _ h3).mono ?_
  rintro _ h4 ⟨rfl, e4⟩
  refine ⟨(by first | exact trivial | exact trivial), ?_⟩
  have w3 := x3.ext e4
  refine runJ ?_
  (apply s_storeV; exact rfl; exact rfl; exact rfl; (repeat (first | exact OneAll.nil | (apply OneAll.cons; (first | exact rfl | exact SlF.one (by assumption) | exact SlF.one (OwnF.sl (by assumption)) | exact Var.one (by assumption))))); exact rfl; exact rfl; exact w3; exact rfl)
  intro h5 x5 k5
  (try dsimp only [Value.cells, List.toList_toArray] at x5)
  refine ⟨(by first | exact trivial | exact Ext.refl _ | assumption | exact Ext.only (by assumption) _ | exact Only.trans (Ext.only (by assumption) _) (by assumption)), ?_⟩
  have x5 : Var h5 p8 54 [.slice none 0 0] := x5
  have e5 : Ext h h5 := k5.oldV (e13.trans e4) b3 e12.1
  refine runJ ?_
  exact finCT rfl rfl rfl x5 rfl rfl ⟨rfl, e5⟩

theorem Tryd_ent39 : Ent Tryd.prog 39 := ent_of Tryd.func39 (by kernel_rfl) rfl
theorem rneg_nil (va : Value) (h : Hp) : CallsH Tryd.prog 39 [.pointer none, .agg #[va]] h fun v' h' => v' = .tuple #[.agg #[.slice none 0 0], N 1] ∧ Ext h h' := by
  (apply enter Tryd.func39 rfl Tryd.ntmps39 rfl)
  refine runJ ?_
  (apply s_box; exact rfl; exact rfl; exact rfl; exact rfl)
  intro p5 h1 x1 e1 b1
  (try dsimp only [Value.cells, List.toList_toArray] at x1)
  refine ⟨(by first | exact trivial | exact Ext.refl _ | assumption | exact Ext.trans (by assumption) (by assumption)), ?_⟩
  refine runJ ?_
  (apply s_alloc; exact rfl; exact rfl; exact rfl)
  intro p8 h3 x3 e3 b3
  (try dsimp only [Value.cells, List.toList_toArray] at x3)
  refine ⟨(by first | exact trivial | exact Ext.refl _ | assumption | exact Ext.trans (by assumption) (by assumption)), ?_⟩
  have z1 := x1.ext e3
  have e13 := e1.trans e3
  refine runJ ?_
  apply (s_call Tryd_ent61 rfl rfl rfl)
  refine (each_nil va va _ h3).mono ?_
  rintro _ h4 ⟨rfl, e4⟩
  refine ⟨(by first | exact trivial | exact trivial), ?_⟩
  have w3 := x3.ext e4
  refine runJ ?_
  (apply s_storeV; exact rfl; exact rfl; exact rfl; (repeat (first | exact OneAll.nil | (apply OneAll.cons; (first | exact rfl | exact SlF.one (by assumption) | exact SlF.one (OwnF.sl (by assumption)) | exact Var.one (by assumption))))); exact rfl; exact rfl; exact w3; exact rfl)
  intro h5 x5 k5
  (try dsimp only [Value.cells, List.toList_toArray] at x5)
  refine ⟨(by first | exact trivial | exact Ext.refl _ | assumption | exact Ext.only (by assumption) _ | exact Only.trans (Ext.only (by assumption) _) (by assumption)), ?_⟩
  have x5 : Var h5 p8 54 [.slice none 0 0] := x5
  have e5 : Ext h h5 := k5.oldV (e13.trans e4) b3 e1.1
  refine runJ ?_
  exact finCT rfl rfl rfl x5 rfl rfl ⟨rfl, e5⟩

theorem Tryd_ent42 : Ent Tryd.prog 42 := ent_of Tryd.func42 (by kernel_rfl) rfl
theorem drop_nil (va : Value) (k : Int) (h : Hp) : CallsH Tryd.prog 42 [.pointer none, .agg #[va], I k] h fun v' h' => v' = .tuple #[.agg #[.slice none 0 0], N 1] ∧ Ext h h' := by
  (apply enter Tryd.func42 rfl Tryd.ntmps42 rfl)
  refine runJ ?_
  (apply s_box; exact rfl; exact rfl; exact rfl; exact rfl)
  intro p5 h1 x1 e1 b1
  (try dsimp only [Value.cells, List.toList_toArray] at x1)
  refine ⟨(by first | exact trivial | exact Ext.refl _ | assumption | exact Ext.trans (by assumption) (by assumption)), ?_⟩
  refine runJ ?_
  (apply s_alloc; exact rfl; exact rfl; exact rfl)
  intro p8 h3 x3 e3 b3
  (try dsimp only [Value.cells, List.toList_toArray] at x3)
  refine ⟨(by first | exact trivial | exact Ext.refl _ | assumption | exact Ext.trans (by assumption) (by assumption)), ?_⟩
  have z1 := x1.ext e3
  have e13 := e1.trans e3
  refine runJ ?_
  apply (s_call Tryd_ent36 rfl rfl rfl)
  refine (level_nil va h3).mono ?_
  rintro _ h4 ⟨rfl, e4⟩
  refine ⟨(by first | exact trivial | exact trivial), ?_⟩
  have w3 := x3.ext e4
  refine runJ ?_
  (apply (s_build ([.slice none 0 0])); exact rfl; exact rfl; exact rfl; (repeat (first | exact CellsAll.nil | (apply CellsAll.cons; (first | exact oneL (by assumption) | exact oneL (SlF.one (by assumption)) | exact oneL (SlF.one (OwnF.sl (by assumption))) | exact oneL (Var.one (by assumption)) | exact rfl)))); exact rfl; exact rfl)
  refine runJ ?_
  (apply s_storeV; exact rfl; exact rfl; exact rfl; (repeat (first | exact OneAll.nil | (apply OneAll.cons; (first | exact rfl | exact SlF.one (by assumption) | exact SlF.one (OwnF.sl (by assumption)) | exact Var.one (by assumption))))); exact rfl; exact rfl; exact w3; exact rfl)
  intro h5 x5 k5
  (try dsimp only [Value.cells, List.toList_toArray] at x5)
  refine ⟨(by first | exact trivial | exact Ext.refl _ | assumption | exact Ext.only (by assumption) _ | exact Only.trans (Ext.only (by assumption) _) (by assumption)), ?_⟩
  have x5 : Var h5 p8 54 [.slice none 0 0] := x5
  have e5 : Ext h h5 := k5.oldV (e13.trans e4) b3 e1.1
  refine runJ ?_
  exact finCT rfl rfl rfl x5 rfl rfl ⟨rfl, e5⟩

theorem rlift_nil (k : Int) (h : Hp) : CallsH Tryd.prog 43 [.pointer none, .slice none 0 0, I k] h fun v' h' => v' = .tuple #[.agg #[.slice none 0 0], N 1] ∧ Ext h h' := by
  (apply enter Tryd.func43 rfl Tryd.ntmps43 rfl)
  refine runJ ?_
  (apply s_alloc; exact rfl; exact rfl; exact rfl)
  intro p8 h3 x3 e3 b3
  (try dsimp only [Value.cells, List.toList_toArray] at x3)
  refine ⟨(by first | exact trivial | exact Ext.refl _ | assumption | exact Ext.trans (by assumption) (by assumption)), ?_⟩
  refine runJ ?_
  (apply (s_build ([.slice none 0 0])); exact rfl; exact rfl; exact rfl; (repeat (first | exact CellsAll.nil | (apply CellsAll.cons; (first | exact oneL (by assumption) | exact oneL (SlF.one (by assumption)) | exact oneL (SlF.one (OwnF.sl (by assumption))) | exact oneL (Var.one (by assumption)) | exact rfl)))); exact rfl; exact rfl)
  refine runJ ?_
  (apply s_storeV; exact rfl; exact rfl; exact rfl; (repeat (first | exact OneAll.nil | (apply OneAll.cons; (first | exact rfl | exact SlF.one (by assumption) | exact SlF.one (OwnF.sl (by assumption)) | exact Var.one (by assumption))))); exact rfl; exact rfl; exact x3; exact rfl)
  intro h5 x5 k5
  (try dsimp only [Value.cells, List.toList_toArray] at x5)
  refine ⟨(by first | exact trivial | exact Ext.refl _ | assumption | exact Ext.only (by assumption) _ | exact Only.trans (Ext.only (by assumption) _) (by assumption)), ?_⟩
  have x5 : Var h5 p8 54 [.slice none 0 0] := x5
  have e5 : Ext h h5 := k5.oldV e3 b3 (Nat.le_refl _)
  refine runJ ?_
  exact finCT rfl rfl rfl x5 rfl rfl ⟨rfl, e5⟩

theorem Tryd_ent58 : Ent Tryd.prog 58 := ent_of Tryd.func58 (by kernel_rfl) rfl
theorem same5_spec (va vb : Value) (xs ys : List (Value × List Nat)) (h : Hp) (sa : PolAt h va xs) (sb : PolAt h vb ys) (hab : xs.length = ys.length) (he : ∀ (i : Nat) (x y : Value × List Nat), xs[i]? = some x → ys[i]? = some y → x.2 = y.2) (hl : xs.length < 1000) (hx : ∀ x ∈ xs, x.2.length < 1000000) :
    CallsH Tryd.prog 58 [.agg #[va], .agg #[vb]] h fun v' h' => v' = .bool true ∧ Ext h h' := by
  (apply enter Tryd.func58 rfl Tryd.ntmps58 rfl)
  refine runJ ?_
  (apply s_box; exact rfl; exact rfl; exact rfl; exact rfl)
  intro p2 h1 x1 e1 b1
  (try dsimp only [Value.cells, List.toList_toArray] at x1)
  refine ⟨(by first | exact trivial | exact Ext.refl _ | assumption | exact Ext.trans (by assumption) (by assumption)), ?_⟩
  refine runJ ?_
  (apply s_box; exact rfl; exact rfl; exact rfl; exact rfl)
  intro p3 h2 x2 e2 b2
  (try dsimp only [Value.cells, List.toList_toArray] at x2)
  refine ⟨(by first | exact trivial | exact Ext.refl _ | assumption | exact Ext.trans (by assumption) (by assumption)), ?_⟩
  have y1 := x1.ext e2
  have e12 := e1.trans e2
  have sa2 := (sa.ext e12).row
  have sb2 := (sb.ext e12).row
  have ela := (sa.ext e12).el
  have elb := (sb.ext e12).el
  refine runJ ?_
  (apply w_condF; exact rfl; exact rfl; exact (show ¬ xs.length ≠ ys.length by omega))
  refine runJ ?_
  (first | (apply w_seqB; exact rfl; apply w_block; exact rfl) | skip)
  apply (w_loop (σ := Nat) rfl (fun j => [(2, p2), (3, p3), (15, N xs.length), (16, N j)])
    (fun j h' => h2 = h' ∧ j ≤ xs.length) (fun j => xs.length - j) 0)
  · exact (Sub.cons rfl (Sub.cons rfl (Sub.cons rfl (Sub.cons rfl (Sub.nil _)))))
  · exact ⟨rfl, Nat.zero_le _⟩
  rintro j h' ⟨rfl, j1⟩
  refine runJ ?_
  (apply w_condD; exact rfl; exact rfl) <;> intro hj
  · obtain ⟨x, hxj⟩ := get_lt hj
    obtain ⟨y, hyj⟩ := get_lt (l := ys) (j := j) (by omega)
    have sx := ela x (List.mem_of_getElem? hxj)
    have sy := elb y (List.mem_of_getElem? hyj)
    have hxl := hx x (List.mem_of_getElem? hxj)
    have exy := he j x y hxj hyj
    obtain ⟨vx, ws⟩ := x
    obtain ⟨vy, us⟩ := y
    dsimp only at sx sy exy hxl ⊢
    subst exy
    have hS := sameU9_spec vx vy ws ws h2 sx sy (by omega) (by omega)
    rw [decide_eq_true (rfl : ws = ws)] at hS
    refine runJ ?_
    apply (s_call Tryd_ent17 rfl rfl rfl)
    refine (hS).mono ?_
    rintro _ _ ⟨rfl, rfl⟩
    refine ⟨(by first | exact trivial | exact Ext.refl _), ?_⟩
    refine runJ ?_
    apply again_normal (j + 1)
    · exact (Sub.cons rfl (Sub.cons rfl (Sub.cons rfl (Sub.cons rfl (Sub.nil _)))))
    · exact ⟨rfl, hj⟩
    · omega
  · refine runJ ?_
    exact fin1 rfl rfl ⟨rfl, e12⟩
end Go.Proofs.YtfgfmempmkjlnaaDoor

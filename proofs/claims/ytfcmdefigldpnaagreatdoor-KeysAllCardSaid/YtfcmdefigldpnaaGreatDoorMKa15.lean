/- Texts RngE to RfrB of this work, joined, without what the law does not lean on. -/
import Derived.Test.YtfcmdefigldpnaaGreatDoorMKa14
namespace Go.Proofs.YtfcmdefigldpnaaGreatDoor
set_option linter.unusedVariables false
set_option maxRecDepth 8000
open Go Go.Den Go.RowKit Go.Mth Go.Dig

/-- One coefficient is laid where it comes to lie. -/
def turnStep (n q kk : Nat) (s : List Nat × Nat) (v : Nat) : List Nat × Nat :=
  (if s.2 < n then s.1.set s.2 v else s.1.set (s.2 - n) (subm 0 v q), (s.2 + kk) % (2 * n))
def turnF (n q k : Nat) (xs : List Nat) : List Nat × Nat := xs.foldl (turnStep n q (k % (2 * n))) (List.replicate n 0, 0)
def turnL (n q k : Nat) (xs : List Nat) : List Nat := (turnF n q k xs).1
theorem turnF_ok {n : Nat} (hn : 0 < n) (q k : Nat) (xs : List Nat) : (turnF n q k xs).1.length = n ∧ (turnF n q k xs).2 < 2 * n := by
  suffices H : ∀ (xs : List Nat) (s : List Nat × Nat), s.1.length = n ∧ s.2 < 2 * n → (xs.foldl (turnStep n q (k % (2 * n))) s).1.length = n ∧ (xs.foldl (turnStep n q (k % (2 * n))) s).2 < 2 * n from H xs _ ⟨by simp, by omega⟩
  intro xs
  induction xs with
  | nil => intro s h; exact h
  | cons x xs ih =>
    intro s h
    rw [List.foldl_cons]
    refine ih _ ⟨?_, Nat.mod_lt _ (by omega)⟩
    unfold turnStep
    dsimp only
    split <;> simp [h.1]
theorem turnF_snoc (n q k : Nat) (xs : List Nat) (v : Nat) : turnF n q k (xs ++ [v]) = turnStep n q (k % (2 * n)) (turnF n q k xs) v := by
  unfold turnF; rw [List.foldl_append]; rfl
theorem turn_and {L a : Nat} (ha : a < 2 * 2 ^ L) : (a &&& 2 ^ L = 0) ↔ a < 2 ^ L := by
  constructor
  · intro h
    refine Classical.byContradiction fun hc => ?_
    have ht : a.testBit L = true := by
      have : a / 2 ^ L = 1 := by
        refine Nat.div_eq_of_lt_le ?_ ?_ <;> omega
      rw [Nat.testBit_eq_decide_div_mod_eq, this]; rfl
    have h2 : (a &&& 2 ^ L).testBit L = (0 : Nat).testBit L := by rw [h]
    rw [Nat.testBit_and, ht, Nat.testBit_two_pow_self, Nat.zero_testBit] at h2
    cases h2
  · intro h
    refine Nat.eq_of_testBit_eq fun i => ?_
    rw [Nat.testBit_and, Nat.zero_testBit, Nat.testBit_two_pow]
    by_cases hi : L = i
    · subst hi
      rw [Nat.testBit_lt_two_pow h]; rfl
    · rw [decide_eq_false hi, Bool.and_false]

theorem Tryz_ent85 : Ent Tryz.prog 85 := ent_of Tryz.func85 (by kernel_rfl) rfl
set_option maxHeartbeats 4000000 in
theorem turn_spec (g va : Value) (R : RngD) (xs : List (Value × List Nat)) (k : Nat) (h : Hp) (K : RngOk R) (A : RngAt h g R) (sa : PolAt h va xs) (Pa : PolOk R xs) (hk : k < 4611686018427387904) (hk1 : k % 2 = 1) :
    CallsH Tryz.prog 85 [g, .agg #[va], N k] h fun v' h' => Ext h h' ∧ ∃ vr rows p, v' = .tuple #[.agg #[vr], N 0] ∧ RowsAt h' h.size p vr rows ∧ rows.length = xs.length ∧
      ∀ (i q : Nat) (x r : Value × List Nat), xs[i]? = some x → R.qs[i]? = some q → rows[i]? = some r → r.2 = turnL (2 ^ R.L) q k x.2 := by
  have hn : 2 ≤ 2 ^ R.L ∧ 2 ^ R.L ≤ 512 := ⟨Nat.pow_le_pow_right (n := 2) (by omega) K.l1, Nat.pow_le_pow_right (n := 2) (by omega) K.l9⟩
  have h24 := K.n24
  have hle := Pa.le
  have hodd : k &&& 1 = 1 := by rw [Nat.and_one_is_mod]; exact hk1
  have G := A.var
  obtain ⟨gb, hgp, -⟩ := id G
  (apply enter Tryz.func85 rfl Tryz.ntmps85 rfl)
  refine runJ ?_
  (apply s_box; exact rfl; exact rfl; exact rfl; exact rfl)
  intro p4 h1 x1 e1 b1
  (try dsimp only [Value.cells, List.toList_toArray] at x1)
  refine ⟨(by first | exact trivial | exact Ext.refl _ | assumption | exact Ext.trans (by assumption) (by assumption)), ?_⟩
  refine runJ ?_
  (apply s_alloc; exact rfl; exact rfl; exact rfl)
  intro p6 h2 x2 e2 b2
  (try dsimp only [Value.cells, List.toList_toArray] at x2)
  refine ⟨(by first | exact trivial | exact Ext.refl _ | assumption | exact Ext.trans (by assumption) (by assumption)), ?_⟩
  have e12 := e1.trans e2
  have y1 := x1.ext e2
  refine runJ ?_
  rw [hodd]
  refine runJ ?_
  apply (s_call Tryz_ent51 rfl rfl rfl)
  refine (level_spec g va R xs h2 K (A.ext e12) (sa.ext e12) Pa).mono ?_
  rintro _ h3 ⟨rfl, e3⟩
  refine ⟨(by first | exact trivial | exact trivial), ?_⟩
  have e13 := e12.trans e3
  have A3 := A.ext e13
  have G3 := A3.var
  have w1 := y1.ext e3
  have w2 := x2.ext e3
  have rq3 := A3.rq
  have sa3 := (sa.ext e13).row
  have ela := (sa.ext e13).el
  have fa := Pa.fit
  have hL : ∀ a, a < 2 * 2 ^ R.L → (a &&& 2 ^ R.L = 0 ↔ a < 2 ^ R.L) := fun a ha => turn_and ha
  have hM : ∀ a : Nat, a &&& (2 * 2 ^ R.L - 1) = a % (2 * 2 ^ R.L) := fun a => by
    rw [show 2 * 2 ^ R.L = 2 ^ (R.L + 1) by rw [Nat.pow_succ, Nat.mul_comm]]; exact Nat.and_two_pow_sub_one_eq_mod _ _
  generalize hnn : 2 ^ R.L = n at *
  refine runJ ?_
  (apply (s_build ([.slice none 0 0])); exact rfl; exact rfl; exact rfl; (repeat (first | exact CellsAll.nil | (apply CellsAll.cons; (first | exact oneL (by assumption) | exact oneL (SlF.one (by assumption)) | exact oneL (SlF.one (OwnF.sl (by assumption))) | exact oneL (Var.one (by assumption)) | exact rfl)))); exact rfl; exact rfl)
  refine runJ ?_
  (apply s_alloc; exact rfl; exact rfl; exact rfl)
  intro p11 h5 x5 e5 b5
  (try dsimp only [Value.cells, List.toList_toArray] at x5)
  refine ⟨(by first | exact trivial | exact Ext.refl _ | assumption | exact Ext.trans (by assumption) (by assumption)), ?_⟩
  refine runJ ?_
  (apply s_storeV; exact rfl; exact rfl; exact rfl; (repeat (first | exact OneAll.nil | (apply OneAll.cons; (first | exact rfl | exact SlF.one (by assumption) | exact SlF.one (OwnF.sl (by assumption)) | exact Var.one (by assumption))))); exact rfl; exact rfl; exact x5; exact rfl)
  intro h6 x6 k6
  (try dsimp only [Value.cells, List.toList_toArray] at x6)
  refine ⟨(by first | exact trivial | exact Ext.refl _ | assumption | exact Ext.only (by assumption) _ | exact Only.trans (Ext.only (by assumption) _) (by assumption)), ?_⟩
  have e6 : Ext h3 h6 := k6.oldV e5 b5 (Nat.le_refl _)
  have hb36 : h3.size < h6.size := by obtain ⟨j, hj, hlj⟩ := x6.blk; rw [b5] at hj; cases hj; exact hlj
  have v1 := w1.ext e6
  have sa6 := sa3.ext e6
  have hk6s := e6.1
  have hb5 := b5
  clear x5 k6 e5 x1 y1 x2
  refine runJ ?_
  have hn0 : 0 < n := by omega
  (first | (apply w_seqB; exact rfl; apply w_block; exact rfl) | skip)
  apply (w_loop (σ := Nat × List (Value × List Nat) × Value) rfl (fun j => [(0, g), (2, N k), (4, p4), (6, p6), (10, N (2 * n - 1)), (11, p11), (44, va), (45, N xs.length), (46, N j.1)])
    (fun j h' => Ext h3 h' ∧ h6.size ≤ h'.size ∧ j.1 ≤ xs.length ∧ Var h' p11 56 [j.2.2] ∧ RowsAt h' h3.size (some h3.size) j.2.2 j.2.1 ∧ j.2.1.length = j.1 ∧
      ∀ (i q : Nat) (x r : Value × List Nat), xs[i]? = some x → R.qs[i]? = some q → j.2.1[i]? = some r → r.2 = turnL n q k x.2) (fun j => xs.length - j.1) (0, [], .slice none 0 0))
  · exact (Sub.cons rfl (Sub.cons rfl (Sub.cons rfl (Sub.cons rfl (Sub.cons rfl (Sub.cons rfl (Sub.cons rfl (Sub.cons rfl (Sub.cons rfl (Sub.nil _))))))))))
  · exact ⟨e6, Nat.le_refl _, Nat.zero_le _, x6, RowsAt.nil _ _ _, rfl, by intro i q x r _ _ hr; cases hr⟩
  rintro ⟨j, rows, vR⟩ h7 ⟨e7, z7, j1, x7, R7, l7, m7⟩
  dsimp only at e7 z7 j1 x7 R7 l7 m7 ⊢
  have u1 := w1.ext e7
  have G7 := G3.ext e7
  have sa7 := sa3.ext e7
  have hpv : pblk p11 ≠ vR.ownBlock := by
    rw [hb5]; intro e
    rcases R7.vp with h0 | h0
    · rw [h0] at e; cases e
    · exact h0 e.symm
  refine runJ ?_
  (apply w_condD; exact rfl; exact rfl) <;> intro hj
  · obtain ⟨x, hxj⟩ := get_lt hj
    obtain ⟨q, hqj⟩ := get_lt (l := R.qs) (j := j) (by omega)
    have hq61 := (K.q q (List.mem_of_getElem? hqj)).q61
    have fx := fa j q x hxj hqj
    have sx := (ela x (List.mem_of_getElem? hxj)).ext e7
    obtain ⟨vx, ws⟩ := x
    dsimp only at sx fx ⊢
    have hwl := fx.1
    have hwq := fx.2
    refine runJ ?_
    (apply (s_make (f := U) (bytes := 8) (0)); (first | exact isK_c | exact isK_t rfl); (first | exact isK_c | exact isK_t rfl); exact rfl; exact rfl; exact rfl; exact rfl; exact rfl; exact rfl; omega; omega; omega)
    intro w8 h8 o8 e8 b8
    refine ⟨(by first | exact trivial | exact Ext.refl _ | assumption | exact Ext.trans (by assumption) (by assumption)), ?_⟩
    have sx8 := sx.ext e8
    refine runJ ?_
    (first | (apply w_seqB; exact rfl; apply w_block; exact rfl) | skip)
    apply (w_loop (σ := Nat × List Nat × Nat) rfl (fun m => [(0, g), (2, N k), (4, p4), (6, p6), (10, N (2 * n - 1)), (11, p11), (44, va), (45, N xs.length), (46, N j), (12, N j), (14, w8), (15, N m.2.2), (56, vx), (57, N ws.length), (58, N m.1)])
      (fun m h' => Ext h7 h' ∧ m.1 ≤ n ∧ OwnF h' h7.size 26 U w8 m.2.1 ∧ (m.2.1, m.2.2) = turnF n q k (ws.take m.1)) (fun m => n - m.1) (0, List.replicate n 0, 0))
    · exact (Sub.cons rfl (Sub.cons rfl (Sub.cons rfl (Sub.cons rfl (Sub.cons rfl (Sub.cons rfl (Sub.cons rfl (Sub.cons rfl (Sub.cons rfl (Sub.cons rfl (Sub.cons rfl (Sub.cons rfl (Sub.cons rfl (Sub.cons rfl (Sub.cons rfl (Sub.nil _))))))))))))))))
    · exact ⟨e8, Nat.zero_le _, o8, rfl⟩
    clear o8
    rintro ⟨m, ys, at_⟩ h9 ⟨e9, m1, o9, t9⟩
    dsimp only at e9 m1 o9 t9 ⊢
    have sx9 := sx.ext e9
    have G9 := G7.ext e9
    have rq9 := rq3.ext (e7.trans e9)
    have tok := turnF_ok hn0 q k (ws.take m)
    rw [← t9] at tok
    obtain ⟨tl, ta⟩ := tok
    dsimp only at tl ta
    refine runJ ?_
    (apply w_condD; exact rfl; exact rfl) <;> intro hm
    · obtain ⟨y, hym⟩ := get_lt hm
      have hyq := hwq y (List.mem_of_getElem? hym)
      have hLa := hL at_ ta
      have hkm := hM k
      have hkn : k &&& (2 * n - 1) < 2 * n := by rw [hkm]; exact Nat.mod_lt _ (by omega)
      refine runJ ?_
      (apply w_condD; exact rfl; exact rfl) <;> intro ha <;> rw [hLa] at ha
      · refine runJ ?_
        (apply (s_storeF (y)); exact rfl; exact rfl; exact rfl; exact rfl; exact rfl; exact o9; exact rfl; (first | assumption | omega))
        intro h10 o10 k10
        refine ⟨(by first | exact trivial | exact Ext.refl _ | assumption | exact Ext.trans (by assumption) (by assumption)), ?_⟩
        refine runJ ?_
        apply again_normal (m + 1, ys.set at_ y, (at_ + (k &&& (2 * n - 1))) &&& (2 * n - 1))
        · exact (Sub.cons rfl (Sub.cons rfl (Sub.cons rfl (Sub.cons rfl (Sub.cons rfl (Sub.cons rfl (Sub.cons rfl (Sub.cons rfl (Sub.cons rfl (Sub.cons rfl (Sub.cons rfl (Sub.cons rfl (Sub.cons rfl (Sub.cons rfl (Sub.cons rfl (Sub.nil _))))))))))))))))
        · refine ⟨o9.old k10 e9 (Nat.le_refl _), by dsimp only; omega, o10, ?_⟩
          dsimp only
          rw [take_snoc hym, turnF_snoc, ← t9, hM, hkm]
          unfold turnStep
          rw [if_pos ha]
        · dsimp only; omega
      · have ng := G7.neq (u := w8) b8 (Nat.le_refl _)
        have nq := (rq3.ext e7).neq (u := w8) (by omega) b8 (Nat.le_refl _)
        have o9s := o9.sl
        have hat : at_ - n < ys.length := by omega
        refine runJN ?_
        (apply (r_drawnO (w8.ownBlock)); exact rfl; exact mixed; kernel_rfl)
        refine runJ ?_
        apply (s_call Tryz_ent66 rfl rfl rfl)
        refine (sub_spec 0 y q h9 (by omega) (by omega) (by omega)).mono ?_
        rintro _ _ ⟨rfl, rfl⟩
        refine ⟨Only.refl _ _, ?_⟩
        refine runJ ?_
        (apply (s_storeF (subm 0 y q)); exact rfl; exact rfl; exact rfl; exact rfl; exact rfl; exact o9; exact rfl; (first | assumption | omega))
        intro h10 o10 k10
        refine ⟨(by first | exact k10 | exact trivial | exact Ext.refl _ | assumption | exact Ext.trans (by assumption) (by assumption)), ?_⟩
        refine runJ ?_
        apply again_normal (m + 1, ys.set (at_ - n) (subm 0 y q), (at_ + (k &&& (2 * n - 1))) &&& (2 * n - 1))
        · exact (Sub.cons rfl (Sub.cons rfl (Sub.cons rfl (Sub.cons rfl (Sub.cons rfl (Sub.cons rfl (Sub.cons rfl (Sub.cons rfl (Sub.cons rfl (Sub.cons rfl (Sub.cons rfl (Sub.cons rfl (Sub.cons rfl (Sub.cons rfl (Sub.cons rfl (Sub.nil _))))))))))))))))
        · refine ⟨o9.old k10 e9 (Nat.le_refl _), by dsimp only; omega, o10, ?_⟩
          dsimp only
          rw [take_snoc hym, turnF_snoc, ← t9, hM, hkm]
          unfold turnStep
          rw [if_neg ha]
        · dsimp only; omega
    · obtain rfl : m = n := by omega
      rw [← hwl, List.take_length, hwl] at t9
      have R9 := R7.ext e9
      have x9 := x7.ext e9
      have e39 := e7.trans e9
      have o9one := o9.sl.one
      have hlen : rows.length + 1 < 1000000 := by omega
      refine runJ ?_
      (refine s_app1V (bytes := 24) ((w8, ys)) R9.own e39 rfl rfl rfl rfl rfl rfl rfl rfl rfl (by first | exact rfl | exact congrArg some (congrArg I (by omega))) o9one rfl rfl (fun _ _ => trivial) (by omega) (by simp only [maxLen]; omega) ?_)
      intro v10 h10 o10 e10 k10 b10
      have x10 := x9.only k10 hpv
      refine runJ ?_
      (apply s_storeC; exact rfl; exact rfl; (first | exact rfl | exact SlF.one (by assumption) | exact SlF.one (OwnF.sl (by assumption)) | exact Var.one (by assumption)); exact rfl; exact rfl; exact x10; exact rfl)
      intro h11 x11 k11
      refine ⟨(by first | exact trivial | exact Ext.refl _ | assumption | exact Ext.only (by assumption) _ | exact Only.trans (Ext.only (by assumption) _) (by assumption)), ?_⟩
      have e11 : Ext h3 h11 := k11.oldV e10 hb5 (Nat.le_refl _)
      rw [hb5] at k11
      have R11 := R9.push (z := h7.size) (o9.base (Nat.le_trans hk6s z7)) (fun k hk => (o9.blk k hk).1) (fun k hk => (R7.own.blk k hk).2) (Nat.lt_of_lt_of_le hb36 z7) e9.1 o10 k10 b10 k11
      refine runJ ?_
      apply again_normal (j + 1, rows ++ [(w8, ys)], v10)
      · exact (Sub.cons rfl (Sub.cons rfl (Sub.cons rfl (Sub.cons rfl (Sub.cons rfl (Sub.cons rfl (Sub.cons rfl (Sub.cons rfl (Sub.cons rfl (Sub.nil _))))))))))
      · refine ⟨e11, Nat.le_trans z7 (Nat.le_trans e9.1 (Nat.le_trans k10.1 k11.1)), hj, x11, R11, by dsimp only; rw [List.length_append]; simp [l7], ?_⟩
        dsimp only
        intro i q' x r hx hq' hr
        rcases Nat.lt_or_ge i j with hij | hij
        · rw [List.getElem?_append_left (by omega)] at hr
          exact m7 i q' x r hx hq' hr
        · have hi := (List.getElem?_eq_some_iff.1 hr).1
          rw [List.length_append] at hi
          simp only [List.length_cons, List.length_nil] at hi
          obtain rfl : i = j := by omega
          rw [List.getElem?_append_right (by omega), l7, Nat.sub_self] at hr
          rw [hxj] at hx
          rw [hqj] at hq'
          cases hx; cases hq'; cases hr
          exact congrArg Prod.fst t9
      · dsimp only; omega
  · have hjn : j = xs.length := by omega
    subst hjn
    have w37 := w2.ext e7
    refine runJ ?_
    (apply s_storeV; exact rfl; exact rfl; exact rfl; exact (OneAll.cons R7.own.sl.one OneAll.nil : OneAll [vR]); exact rfl; exact rfl; exact w37; exact rfl)
    intro h8 x8 k8
    refine ⟨trivial, ?_⟩
    have x8 : Var h8 p6 56 [vR] := x8
    have e8 : Ext h h8 := k8.oldV (e13.trans e7) b2 e1.1
    rw [b2] at k8
    have hb13 : h1.size < h3.size := by obtain ⟨b, hb, hlb⟩ := w2.blk; rw [b2] at hb; cases hb; exact hlb
    refine runJ ?_
    exact finCT rfl rfl rfl x8 rfl rfl ⟨e8, _, rows, _, rfl, (R7.low k8 hb13).base e13.1, l7, m7⟩
end Go.Proofs.YtfcmdefigldpnaaGreatDoor


namespace Go.Proofs.YtfcmdefigldpnaaGreatDoor
set_option linter.unusedVariables false
set_option maxRecDepth 8000
open Go Go.Den Go.RowKit Go.Mth Go.Dig

theorem Tryz_ent113 : Ent Tryz.prog 113 := ent_of Tryz.func113 (by kernel_rfl) rfl
theorem Tryz_ent57 : Ent Tryz.prog 57 := ent_of Tryz.func57 (by kernel_rfl) rfl
theorem Tryz_ent69 : Ent Tryz.prog 69 := ent_of Tryz.func69 (by kernel_rfl) rfl
theorem Tryz_ent67 : Ent Tryz.prog 67 := ent_of Tryz.func67 (by kernel_rfl) rfl
theorem same5_spec (va vb : Value) (xs ys : List (Value × List Nat)) (h : Hp) (sa : PolAt h va xs) (sb : PolAt h vb ys) (hab : xs.length = ys.length) (he : ∀ (i : Nat) (x y : Value × List Nat), xs[i]? = some x → ys[i]? = some y → x.2 = y.2) (hl : xs.length < 1000) (hx : ∀ x ∈ xs, x.2.length < 1000000) :
    CallsH Tryz.prog 67 [.agg #[va], .agg #[vb]] h fun v' h' => v' = .bool true ∧ Ext h h' := by
  (apply enter Tryz.func67 rfl Tryz.ntmps67 rfl)
  refine runJ ?_
  (apply s_box; exact rfl; exact rfl; exact rfl; exact rfl)
  intro p2 h1 x1 e1 b1
  (try dsimp only [Value.cells, List.toList_toArray] at x1)
  refine ⟨(by first | exact trivial | exact Ext.refl _ | assumption | exact Ext.trans (by assumption) (by assumption)), ?_⟩
  refine runJ ?_
  (apply s_box; exact rfl; exact rfl; exact rfl; exact rfl)
  intro p3 h2 x2 e2 b2
  (try dsimp only [Value.cells, List.toList_toArray] at x2)
  refine ⟨(by first | exact trivial | exact Ext.refl _ | assumption | exact Ext.trans (by assumption) (by assumption)), ?_⟩
  have y1 := x1.ext e2
  have e12 := e1.trans e2
  have sa2 := (sa.ext e12).row
  have sb2 := (sb.ext e12).row
  have ela := (sa.ext e12).el
  have elb := (sb.ext e12).el
  refine runJ ?_
  (apply w_condF; exact rfl; exact rfl; exact (show ¬ xs.length ≠ ys.length by omega))
  refine runJ ?_
  (first | (apply w_seqB; exact rfl; apply w_block; exact rfl) | skip)
  apply (w_loop (σ := Nat) rfl (fun j => [(2, p2), (3, p3), (15, N xs.length), (16, N j)])
    (fun j h' => h2 = h' ∧ j ≤ xs.length) (fun j => xs.length - j) 0)
  · exact (Sub.cons rfl (Sub.cons rfl (Sub.cons rfl (Sub.cons rfl (Sub.nil _)))))
  · exact ⟨rfl, Nat.zero_le _⟩
  rintro j h' ⟨rfl, j1⟩
  refine runJ ?_
  (apply w_condD; exact rfl; exact rfl) <;> intro hj
  · obtain ⟨x, hxj⟩ := get_lt hj
    obtain ⟨y, hyj⟩ := get_lt (l := ys) (j := j) (by omega)
    have sx := ela x (List.mem_of_getElem? hxj)
    have sy := elb y (List.mem_of_getElem? hyj)
    have hxl := hx x (List.mem_of_getElem? hxj)
    have exy := he j x y hxj hyj
    obtain ⟨vx, ws⟩ := x
    obtain ⟨vy, us⟩ := y
    dsimp only at sx sy exy hxl ⊢
    subst exy
    have hS := sameU9_spec vx vy ws ws h2 sx sy (by omega) (by omega)
    rw [decide_eq_true (rfl : ws = ws)] at hS
    refine runJ ?_
    apply (s_call Tryz_ent23 rfl rfl rfl)
    refine (hS).mono ?_
    rintro _ _ ⟨rfl, rfl⟩
    refine ⟨(by first | exact trivial | exact Ext.refl _), ?_⟩
    refine runJ ?_
    apply again_normal (j + 1)
    · exact (Sub.cons rfl (Sub.cons rfl (Sub.cons rfl (Sub.cons rfl (Sub.nil _)))))
    · exact ⟨rfl, hj⟩
    · omega
  · refine runJ ?_
    exact fin1 rfl rfl ⟨rfl, e12⟩
end Go.Proofs.YtfcmdefigldpnaaGreatDoor


namespace Go.Proofs.YtfcmdefigldpnaaGreatDoor
set_option linter.unusedVariables false
set_option maxRecDepth 8000
open Go Go.Den Go.RowKit Go.Mth Go.Dig

theorem Tryz_ent86 : Ent Tryz.prog 86 := ent_of Tryz.func86 (by kernel_rfl) rfl
/-- The power of X that so many steps make. -/
def pow3 (n k : Nat) : Nat := 3 ^ k % (2 * n)
set_option maxHeartbeats 1000000 in
theorem power_spec (g vt vp : Value) (L t : Nat) (k : Int) (h : Hp) (G : Var h g 199 [N (2 ^ L), N (2 ^ L / 2), U t, vt, vp]) (hL : 1 ≤ L) (hL2 : L ≤ 12) (hk : -9223372036854775808 ≤ k ∧ k < 9223372036854775808) :
    CallsH Tryz.prog 86 [g, I k] h fun v' h' => v' = N (pow3 (2 ^ L) (k.emod ((2 ^ L / 2 : Nat) : Int)).toNat) ∧ h = h' := by
  have hn : 2 ≤ 2 ^ L ∧ 2 ^ L ≤ 4096 := ⟨Nat.pow_le_pow_right (n := 2) (by omega) hL, Nat.pow_le_pow_right (n := 2) (by omega) hL2⟩
  have hM : ∀ a : Nat, a &&& (2 * 2 ^ L - 1) = a % (2 * 2 ^ L) := fun a => by
    rw [show 2 * 2 ^ L = 2 ^ (L + 1) by rw [Nat.pow_succ, Nat.mul_comm]]; exact Nat.and_two_pow_sub_one_eq_mod _ _
  generalize 2 ^ L = n at *
  obtain ⟨s, hs⟩ : ∃ s, s = n / 2 := ⟨_, rfl⟩
  rw [← hs] at G ⊢
  have hs1 : 1 ≤ s := by omega
  obtain ⟨gb, hgp, -⟩ := id G
  obtain ⟨e, he, hes, htm⟩ : ∃ e : Nat, (k.emod (s : Int)).toNat = e ∧ e < s ∧ (k.tmod (s : Int) = e ∨ k.tmod (s : Int) = (e : Int) - s) := by
    have h1 := Int.emod_nonneg k (show (s : Int) ≠ 0 by omega)
    have h2 := Int.emod_lt_of_pos k (show (0 : Int) < s by omega)
    have h3 := Int.tmod_eq_emod (a := k) (b := s)
    refine ⟨(k.emod (s : Int)).toNat, rfl, ?_, ?_⟩
    · change (k % (s : Int)).toNat < s
      omega
    · change k.tmod (s : Int) = ((k % (s : Int)).toNat : Int) ∨ k.tmod (s : Int) = ((k % (s : Int)).toNat : Int) - s
      rw [h3]
      split <;> omega
  rw [he]
  (apply enter Tryz.func86 rfl Tryz.ntmps86 rfl)
  refine runJ ?_
  refine s_remI (b := (s : Int)) rfl rfl rfl (by omega) ?_
  generalize k.tmod (s : Int) = tm at *
  have hp0 : 1 = pow3 n 0 := by unfold pow3; rw [Nat.pow_zero, Nat.mod_eq_of_lt (by omega)]
  have hps : ∀ j, pow3 n j < 2 * n ∧ pow3 n j * 3 &&& (2 * n - 1) = pow3 n (j + 1) := fun j => by
    refine ⟨Nat.mod_lt _ (by omega), ?_⟩
    rw [hM]
    unfold pow3
    rw [Nat.pow_succ, Nat.mod_mul_mod]
  refine runJ ?_
  (apply w_condD; exact rfl; exact rfl) <;> intro hc
  · refine runJ ?_
    (apply w_know (t := 22) (u := N (e)) rfl (congrArg I (by omega)))
    (first | (apply w_seqB; exact rfl; apply w_block; exact rfl) | skip)
    apply (w_loop (σ := Nat) rfl (fun j => [(0, g), (5, N (pow3 n j)), (22, N e), (23, N j)]) (fun j h' => h = h' ∧ j ≤ e) (fun j => e - j) 0)
    · rw [← hp0]; exact (Sub.cons rfl (Sub.cons rfl (Sub.cons rfl (Sub.cons rfl (Sub.nil _)))))
    · exact ⟨rfl, Nat.zero_le _⟩
    rintro j h' ⟨rfl, j1⟩
    have hpj := (hps j).1
    have hpn := (hps j).2
    refine runJ ?_
    (apply w_condD; exact rfl; exact rfl) <;> intro hj
    · refine runJ ?_
      rw [hpn]
      refine runJ ?_
      apply again_normal (j + 1)
      · exact (Sub.cons rfl (Sub.cons rfl (Sub.cons rfl (Sub.cons rfl (Sub.nil _)))))
      · exact ⟨rfl, hj⟩
      · omega
    · obtain rfl : j = e := by omega
      refine runJ ?_
      exact fin1 rfl rfl ⟨rfl, rfl⟩
  · refine runJ ?_
    (apply w_know (t := 22) (u := N (e)) rfl (congrArg I (by omega)))
    (first | (apply w_seqB; exact rfl; apply w_block; exact rfl) | skip)
    apply (w_loop (σ := Nat) rfl (fun j => [(0, g), (5, N (pow3 n j)), (22, N e), (23, N j)]) (fun j h' => h = h' ∧ j ≤ e) (fun j => e - j) 0)
    · rw [← hp0]; exact (Sub.cons rfl (Sub.cons rfl (Sub.cons rfl (Sub.cons rfl (Sub.nil _)))))
    · exact ⟨rfl, Nat.zero_le _⟩
    rintro j h' ⟨rfl, j1⟩
    have hpj := (hps j).1
    have hpn := (hps j).2
    refine runJ ?_
    (apply w_condD; exact rfl; exact rfl) <;> intro hj
    · refine runJ ?_
      rw [hpn]
      refine runJ ?_
      apply again_normal (j + 1)
      · exact (Sub.cons rfl (Sub.cons rfl (Sub.cons rfl (Sub.cons rfl (Sub.nil _)))))
      · exact ⟨rfl, hj⟩
      · omega
    · obtain rfl : j = e := by omega
      refine runJ ?_
      exact fin1 rfl rfl ⟨rfl, rfl⟩
end Go.Proofs.YtfcmdefigldpnaaGreatDoor


namespace Go.Proofs.YtfcmdefigldpnaaGreatDoor
set_option linter.unusedVariables false
set_option maxRecDepth 8000
open Go Go.Den Go.RowKit Go.Mth Go.Dig

/-- What a batch holds. -/
structure BatD where
  L : Nat
  t : Nat
  vt : Value
  T : Tbl
  vp : Value
  ps : List (Nat × Nat)
def pr2 (x : Nat × Nat) : List Value := [N x.1, N x.2]
structure BatAt (h : Hp) (g : Value) (B : BatD) : Prop where mk ::
  var : Var h g 199 [N (2 ^ B.L), N (2 ^ B.L / 2), U B.t, B.vt, B.vp]
  tab : TblAt h B.vt B.T
  pl : SlA h pr2 2 B.vp B.ps
theorem BatAt.ext {h h' : Hp} {g : Value} {B : BatD} (s : BatAt h g B) (e : Ext h h') : BatAt h' g B := ⟨s.var.ext e, s.tab.ext e, s.pl.ext e⟩
/-- Where the value of a slot, and that beneath it, stand. -/
def place (n i : Nat) : Nat × Nat := ((pow3 n i - 1) / 2, (2 * n - pow3 n i - 1) / 2)
structure BatOk (B : BatD) : Prop where mk ::
  l1 : 1 ≤ B.L
  l9 : B.L ≤ 9
  tl : B.T.L = B.L
  tq : B.T.q = B.t
  ok : TblOk B.T
  root : RootR B.t (2 ^ (B.L + 1)) B.T.w
  ps : B.ps = (List.range (2 ^ B.L / 2)).map (place (2 ^ B.L))
theorem liftm_lt9 {v : Int} {t : Nat} (ht : 0 < t) : liftm v t < t := by
  unfold liftm
  rw [if_neg (by omega)]
  have h1 := Int.emod_nonneg v (show (t : Int) ≠ 0 by omega)
  have h2 := Int.emod_lt_of_pos v (show (0 : Int) < t by omega)
  omega
end Go.Proofs.YtfcmdefigldpnaaGreatDoor


namespace Go.Proofs.YtfcmdefigldpnaaGreatDoor
set_option linter.unusedVariables false
set_option maxRecDepth 8000
open Go Go.Den Go.RowKit Go.Mth Go.Dig

theorem pow3_odd (n j : Nat) : pow3 n j % 2 = 1 := by
  unfold pow3
  rw [Nat.mod_mul_right_mod]
  induction j with
  | zero => rfl
  | succ j ih => rw [Nat.pow_succ, Nat.mul_mod, ih]
def plc (n j : Nat) : List Value := ((List.range j).map (place n)).flatMap pr2
theorem plc_succ (n j : Nat) : plc n (j + 1) = plc n j ++ pr2 (place n j) := by
  unfold plc
  rw [List.range_succ, List.map_append, List.flatMap_append]
  simp

theorem Tryz_ent84 : Ent Tryz.prog 84 := ent_of Tryz.func84 (by kernel_rfl) rfl
set_option maxHeartbeats 2000000 in
theorem batchNew_spec (p : ParD) (L : Nat) (h : Hp) (TB0 : TB h) (A : ParAt h p) (P : parP p) (hN : p.n = ((2 ^ L : Nat) : Int)) (hL1 : 1 ≤ L) (hL9 : L ≤ 9) (Q : QOk L p.t) :
    CallsH Tryz.prog 84 [.agg p.cells.toArray] h fun v' h' => Ext h h' ∧ ∃ (g : Value) (B : BatD), v' = .tuple #[g, N 0] ∧ BatAt h' g B ∧ BatOk B ∧ B.L = L ∧ B.t = p.t := by
  have CK := check_spec p
  rw [if_pos P] at CK
  obtain ⟨X, hX1, hX2, hX3⟩ := Q.root
  have NW := fun h T => nttNewX_spec L p.t X h T hL1 hL9 Q.q61 Q.qm Q.q1 Q.is hX1 hX2 hX3
  have hq61 := Q.q61
  have hq1 := Q.q1
  have hn : 2 ≤ 2 ^ L ∧ 2 ^ L ≤ 512 := ⟨Nat.pow_le_pow_right (n := 2) (by omega) hL1, Nat.pow_le_pow_right (n := 2) (by omega) hL9⟩
  have hPW := fun g vt vp t k h G => power_spec g vt vp L t k h G hL1 (by omega)
  obtain ⟨pn, t, vq, qs, pw⟩ := p
  dsimp only at hN NW hq61 hq1
  unfold ParD.cells at CK ⊢
  dsimp only at CK ⊢
  subst hN
  clear Q hX1 hX2 hX3
  generalize hnn : 2 ^ L = n at *
  (apply enter Tryz.func84 rfl Tryz.ntmps84 rfl)
  refine runJ ?_
  (apply s_box; exact rfl; exact rfl; exact rfl; exact rfl)
  intro p1 h1 x1 e1 b1
  (try dsimp only [Value.cells, List.toList_toArray] at x1)
  refine ⟨(by first | exact trivial | exact Ext.refl _ | assumption | exact Ext.trans (by assumption) (by assumption)), ?_⟩
  refine runJ ?_
  apply (s_call Tryz_ent45 rfl rfl rfl)
  refine (CK h1 (TB0.ext e1) (A.ext e1)).mono ?_
  rintro _ h2 ⟨rfl, e2⟩
  refine ⟨(by first | exact trivial | exact trivial), ?_⟩
  have x2 := x1.ext e2
  have E2 := e1.trans e2
  refine runJ ?_
  (apply (s_build ([N n, N (n / 2), U t, .pointer none, .slice none 0 0])); exact rfl; exact rfl; exact rfl; (repeat (first | exact CellsAll.nil | (apply CellsAll.cons; (first | exact oneL (by assumption) | exact oneL (SlF.one (by assumption)) | exact oneL (SlF.one (OwnF.sl (by assumption))) | exact oneL (Var.one (by assumption)) | exact rfl)))); exact rfl; exact rfl)
  refine runJ ?_
  (apply s_box; exact rfl; exact rfl; exact rfl; exact rfl)
  intro g h3 g3 e3 b3
  (try dsimp only [Value.cells, List.toList_toArray] at g3)
  refine ⟨(by first | exact trivial | exact Ext.refl _ | assumption | exact Ext.trans (by assumption) (by assumption)), ?_⟩
  have g3 : Var h3 g 199 [N n, N (n / 2), U t, .pointer none, .slice none 0 0] := g3
  have x3 := x2.ext e3
  have E3 := E2.trans e3
  refine runJ ?_
  apply (s_call Tryz_ent128 rfl rfl rfl)
  refine (NW h3 (TB0.ext E3)).mono ?_
  rintro _ h4 ⟨e4, vt, T, rfl, At, Kt, hTL, hTq, hTR, hTN⟩
  refine ⟨(by first | exact trivial | exact trivial), ?_⟩
  have g4 := g3.ext e4
  have x4 := x3.ext e4
  have Av := At.var
  refine runJ ?_
  (apply s_storeC; exact rfl; exact rfl; (first | exact rfl | exact SlF.one (by assumption) | exact SlF.one (OwnF.sl (by assumption)) | exact Var.one (by assumption)); exact rfl; exact rfl; exact g4; exact rfl)
  intro h5 g5 k5
  refine ⟨(by first | exact trivial | exact Ext.refl _ | assumption | exact Ext.only (by assumption) _ | exact Only.trans (Ext.only (by assumption) _) (by assumption)), ?_⟩
  have e5 : Ext h2 h5 := k5.oldV (e3.trans e4) b3 (Nat.le_refl _)
  have g5 : Var h5 g 199 [N n, N (n / 2), U t, vt, .slice none 0 0] := g5
  have hb23 : h2.size < h3.size := by obtain ⟨b, hb, hlb⟩ := g3.blk; rw [b3] at hb; cases hb; exact hlb
  rw [b3] at k5
  have At5 := At.only k5 (hTN.sep hb23)
  have x5 := x2.ext e5
  have hs5 := k5.1
  have hs35 : h3.size ≤ h5.size := Nat.le_trans e4.1 hs5
  have hs02 : h.size < h2.size := by obtain ⟨b, hb, hlb⟩ := x2.blk; rw [b1] at hb; cases hb; exact hlb
  clear g3 g4 x3 x4 Av At E3 k5
  refine runJ ?_
  (first | (apply w_seqB; exact rfl; apply w_block; exact rfl) | skip)
  apply (w_loop (σ := Nat × Value) rfl (fun j => [(1, p1), (5, g), (36, N (n / 2)), (37, N j.1)])
    (fun j h' => Ext h2 h' ∧ h5.size ≤ h'.size ∧ j.1 ≤ n / 2 ∧ Var h' g 199 [N n, N (n / 2), U t, vt, j.2] ∧ TblAt h' vt T ∧ Own h' h5.size 200 2 j.2 j.1 (plc n j.1)) (fun j => n / 2 - j.1) (0, .slice none 0 0))
  · exact (Sub.cons rfl (Sub.cons rfl (Sub.cons rfl (Sub.cons rfl (Sub.nil _)))))
  · exact ⟨e5, Nat.le_refl _, Nat.zero_le _, g5, At5, Own.nil _ _ _ _⟩
  rintro ⟨j, vp⟩ h6 ⟨e6, z6, j1, g6, A6, o6⟩
  dsimp only at e6 z6 j1 g6 A6 o6 ⊢
  have x6 := x2.ext e6
  refine runJ ?_
  (apply w_condD; exact rfl; exact rfl) <;> intro hj
  · have PW := hPW g vt vp t (j : Int) h6 g6 (by omega)
    rw [show ((j : Int).emod ((n / 2 : Nat) : Int)).toNat = j by change ((j : Int) % ((n / 2 : Nat) : Int)).toNat = j; rw [Int.emod_eq_of_lt (by omega) (by omega)]; rfl] at PW
    have npv : ∀ b, b < h5.size → vp.ownBlock ≠ some b := fun b hb e => by
      have := o6.blk b e; omega
    have ngv : pblk g ≠ vp.ownBlock := by rw [b3]; exact fun e => npv _ (by omega) e.symm
    have nxv : pblk p1 ≠ vp.ownBlock := by rw [b1]; exact fun e => npv _ (by omega) e.symm
    have hk1 := pow3_odd n j
    have hk2 : pow3 n j < 2 * n := Nat.mod_lt _ (by omega)
    have hpl : place n j = ((pow3 n j - 1) / 2, (2 * n - pow3 n j - 1) / 2) := rfl
    have hps := plc_succ n j
    rw [hpl] at hps
    generalize pow3 n j = k at *
    refine runJ ?_
    apply (s_call Tryz_ent86 rfl rfl rfl)
    refine (PW).mono ?_
    rintro _ _ ⟨rfl, rfl⟩
    refine ⟨(by first | exact trivial | exact trivial), ?_⟩
    refine runJN ?_
    (apply (r_drawnT 20 (Only vp.ownBlock h6)); exact rfl; exact mixed; kernel_rfl; exact rfl; first | exact Ext.refl _ | exact Only.refl _ _)
    refine runJ ?_
    have hts : TblSep vp.ownBlock (vt, T) := by
      rcases hv : vp.ownBlock with _ | b
      · exact At5.sep0
      · exact At5.lt Kt (o6.blk b hv).1
    refine s_buildArr [N ((k - 1) / 2), N ((2 * n - k - 1) / 2)] rfl rfl rfl rfl (.cons rfl (.cons rfl .nil)) rfl rfl ?_
    refine runJ ?_
    (apply (s_litC (s := 2) ([N ((k - 1) / 2), N ((2 * n - k - 1) / 2)])); exact rfl; (repeat (first | exact CellsAll.nil | (apply CellsAll.cons; exact rfl))); exact rfl; exact rfl; exact rfl; exact rfl; exact rfl; exact rfl; exact rfl; exact rfl; exact rfl; exact rfl)
    intro w7 h7 o7 e7 b7
    refine ⟨e7.only _, ?_⟩
    have o67 := o6.ext e7
    refine runJ ?_
    refine s_append (bytes := 16) (s := 2) (k' := 1) rfl rfl rfl rfl rfl (by decide) rfl rfl o67 o7.sl rfl (by intro u hu; simp only [List.mem_cons, List.not_mem_nil, or_false] at hu; rcases hu with rfl | rfl <;> rfl) (Nat.le_trans z6 e7.1) (by simp only [maxLen]; omega) (by omega) ?_
    intro v8 h8 o8 k8 b8
    have k68 := (e7.only vp.ownBlock).trans k8
    refine ⟨k68, ?_⟩
    have g8 := g6.only k68 ngv
    have A8 := A6.only k68 hts
    have e8 : Ext h2 h8 := o6.old k68 e6 (Nat.le_trans (Nat.le_of_lt hb23) hs35)
    have s8 := o8.sl.one
    refine runJ ?_
    apply tail_end
    refine runJ ?_
    (apply s_storeC; exact rfl; exact rfl; exact s8; exact rfl; exact rfl; exact g8; exact rfl)
    intro h9 g9 k9
    refine ⟨trivial, ?_⟩
    have g9 : Var h9 g 199 [N n, N (n / 2), U t, vt, v8] := g9
    have e9 : Ext h2 h9 := k9.oldV e8 b3 (Nat.le_refl _)
    rw [b3] at k9
    have A9 := A8.only k9 (hTN.sep hb23)
    have o9 := o8.only k9 (.inr fun e => by have := (o8.blk _ e).1; omega)
    refine runJ ?_
    apply again_normal (j + 1, v8)
    · exact (Sub.cons rfl (Sub.cons rfl (Sub.cons rfl (Sub.cons rfl (Sub.nil _)))))
    · refine ⟨e9, Nat.le_trans z6 (Nat.le_trans k68.1 k9.1), hj, g9, A9, ?_⟩
      dsimp only
      rw [hps]
      exact o9
    · dsimp only; omega
  · obtain rfl : j = n / 2 := by omega
    refine runJ ?_
    refine fin2 rfl rfl rfl ⟨(e1.trans e2).trans e6, g, ⟨L, t, vt, T, vp, (List.range (n / 2)).map (place n)⟩, rfl, ⟨?_, A6, ?_⟩, ⟨hL1, hL9, hTL, hTq, Kt, hTR, ?_⟩, rfl, rfl⟩
    · dsimp only; rw [hnn]; exact g6
    · refine ⟨fun x => rfl, ?_⟩
      have := o6.sl
      dsimp only
      rw [List.length_map, List.length_range]
      exact this
    · dsimp only; rw [hnn]
end Go.Proofs.YtfcmdefigldpnaaGreatDoor


namespace Go.Proofs.YtfcmdefigldpnaaGreatDoor
set_option linter.unusedVariables false
set_option maxRecDepth 8000
open Go Go.Den Go.RowKit Go.Mth

def fp (m : Nat) : Nat → Nat → Nat → Nat
  | 0, _, _ => 1 % m
  | f + 1, a, n => if n = 0 then 1 % m else if n % 2 = 1 then a * fp m f (a * a % m) (n / 2) % m else fp m f (a * a % m) (n / 2)
theorem fp_eq (m : Nat) : ∀ f a n, n < 2 ^ f → fp m f a n = a ^ n % m
  | 0, a, n, h => by
    obtain rfl : n = 0 := by rw [Nat.pow_zero] at h; omega
    rfl
  | f + 1, a, n, h => by
    unfold fp
    by_cases h0 : n = 0
    · rw [if_pos h0, h0, Nat.pow_zero]
    rw [if_neg h0, fp_eq m f _ _ (by rw [Nat.pow_succ] at h; omega)]
    have e : (a * a % m) ^ (n / 2) % m = a ^ (2 * (n / 2)) % m := by rw [← Nat.pow_mod, Nat.pow_mul, Nat.pow_two]
    rw [e]
    by_cases h1 : n % 2 = 1
    · rw [if_pos h1, Nat.mul_mod_mod, ← Nat.pow_succ', show (2 * (n / 2)).succ = n by omega]
    · rw [if_neg h1, show 2 * (n / 2) = n by omega]
theorem powm_fp {a n m : Nat} (hn : n < 18446744073709551616) (hm : m ≠ 0) : powm a n m = fp m 64 a n := by
  unfold powm; rw [if_neg hm, fp_eq m 64 a n hn]

def holdsF (n d s a : Nat) : Bool := a % n == 0 || (fp n 64 (a % n) d == 1 || (fp n 64 (a % n) d == n - 1 || holdsLoop n (s - 1) (fp n 64 (a % n) d)))
def isF (n : Nat) : Bool := if n < 4 ∨ n % 2 = 0 then n == 2 || n == 3 else bases.all (holdsF n ((n - 1) / 2 ^ tz (n - 1)) (tz (n - 1)))
theorem isB_fast {n : Nat} (hn : n < 18446744073709551616) (h0 : n ≠ 0) : isB n = isF n := by
  unfold isB isF
  have hd : (n - 1) / 2 ^ tz (n - 1) < 18446744073709551616 := Nat.lt_of_le_of_lt (Nat.div_le_self _ _) (by omega)
  have : holdsB n ((n - 1) / 2 ^ tz (n - 1)) (tz (n - 1)) = holdsF n ((n - 1) / 2 ^ tz (n - 1)) (tz (n - 1)) := by
    funext a
    unfold holdsB holdsF
    rw [powm_fp hd h0]
  rw [this]

def q3 : List Nat := [12289, 40961, 1152921504606830593]
def x3 : List Nat := [11, 3, 5]
def facts (r : Nat) (q X : Nat) : Bool := Nat.beq (q % (2 * 2 ^ (r + 1))) 1 && Nat.beq (fp q 64 (fp q 64 X ((q - 1) / 2 ^ (r + 2))) (2 ^ (r + 2) / 2)) (q - 1)
end Go.Proofs.YtfcmdefigldpnaaGreatDoor


namespace Go.Proofs.YtfcmdefigldpnaaGreatDoor
set_option linter.unusedVariables false
set_option maxRecDepth 8000
open Go Go.Den Go.RowKit Go.Mth Go.Dig

theorem par17 (w : Value) : parP ⟨8, 17, w, [97], 1⟩ := (by decide +kernel : parP ⟨8, 17, .bool false, [97], 1⟩)
end Go.Proofs.YtfcmdefigldpnaaGreatDoor


namespace Go.Proofs.YtfcmdefigldpnaaGreatDoor
set_option linter.unusedVariables false
set_option maxRecDepth 8000
open Go Go.Den Go.RowKit Go.Mth Go.Dig

/-- The places are unlike. -/
def apart (n : Nat) : Bool := (List.range (n / 2)).all fun i => Nat.blt (place n i).1 n && Nat.blt (place n i).2 n && !(Nat.beq (place n i).1 (place n i).2) && (List.range i).all fun j => !(Nat.beq (place n i).1 (place n j).1) && !(Nat.beq (place n i).1 (place n j).2) && !(Nat.beq (place n i).2 (place n j).1) && !(Nat.beq (place n i).2 (place n j).2)
/-- A row of slots, filled up with noughts. -/
def fillL (n t : Nat) (xs : List Int) : List Nat := (List.range (n / 2)).map fun i => if i < xs.length then liftm (xs.getD i 0) t else 0
end Go.Proofs.YtfcmdefigldpnaaGreatDoor


namespace Go.Mth
set_option linter.unusedVariables false
set_option maxRecDepth 8000

/-- A prime: nothing but 1 and itself goes into it. -/
def Pr (p : Nat) : Prop := 2 ≤ p ∧ ∀ d, d ∣ p → d = 1 ∨ d = p
theorem Pr.euclid {p a b : Nat} (h : Pr p) (k : p ∣ a * b) : p ∣ a ∨ p ∣ b := by
  rcases h.2 (Nat.gcd p a) (Nat.gcd_dvd_left p a) with h1 | h1
  · exact .inr (Nat.Coprime.dvd_of_dvd_mul_left h1 k)
  · exact .inl (h1 ▸ Nat.gcd_dvd_right p a)
theorem Pr.pow {p a : Nat} (h : Pr p) : ∀ n, p ∣ a ^ n → p ∣ a
  | 0, k => by
    rw [Nat.pow_zero] at k
    have := Nat.le_of_dvd (by decide) k
    have := h.1; omega
  | n + 1, k => by
    rw [Nat.pow_succ] at k
    rcases h.euclid k with k | k
    · exact h.pow n k
    · exact k

/-- Every number above 1 has a least divisor above 1, which is a prime; it is at most the root, if the number is none. -/
theorem least {n : Nat} (hn : 2 ≤ n) : ∃ p, Pr p ∧ p ∣ n ∧ ∀ d, 2 ≤ d → d ∣ n → p ≤ d := by
  have key : ∀ k, (∃ d, 2 ≤ d ∧ d ≤ k ∧ d ∣ n) → ∃ p, 2 ≤ p ∧ p ∣ n ∧ ∀ d, 2 ≤ d → d ∣ n → p ≤ d := by
    intro k
    induction k with
    | zero => rintro ⟨d, h1, h2, -⟩; omega
    | succ k ih =>
      rintro ⟨d, h1, h2, h3⟩
      by_cases hc : ∃ d, 2 ≤ d ∧ d ≤ k ∧ d ∣ n
      · exact ih hc
      · refine ⟨d, h1, h3, fun e he1 he2 => ?_⟩
        refine Classical.byContradiction fun hlt => hc ⟨e, he1, by omega, he2⟩
  obtain ⟨p, h1, h2, h3⟩ := key n ⟨n, hn, Nat.le_refl _, Nat.dvd_refl _⟩
  refine ⟨p, ⟨h1, fun d hd => ?_⟩, h2, h3⟩
  rcases Nat.lt_or_ge d 2 with hd2 | hd2
  · rcases Nat.eq_zero_or_pos d with rfl | h0
    · have := Nat.eq_zero_of_zero_dvd hd; omega
    · exact .inl (by omega)
  · exact .inr (Nat.le_antisymm (Nat.le_of_dvd (by omega) hd) (h3 d hd2 (Nat.dvd_trans hd h2)))

end Go.Mth


namespace Go.Proofs.YtfcmdefigldpnaaGreatDoor
set_option linter.unusedVariables false
set_option maxRecDepth 8000
open Go Go.Den Go.RowKit Go.Mth Go.Dig

/-- One product's share of the coefficient p. -/
def ctr (n : Nat) (X Y : Nat → Int) (p a b : Nat) : Int := if a + b = p then X a * Y b else if a + b = p + n then -(X a * Y b) else 0
/-- The product of two polynomials modulo X^n + 1. -/
def cnv (n : Nat) (X Y : Nat → Int) (p : Nat) : Int := sm n fun a => sm n fun b => ctr n X Y p a b
theorem cnv_dft {q w : Int} {n : Nat} (hw : Cg q (w ^ n) (-1)) (X Y : Nat → Int) (k : Nat) : Cg q (dft n w (cnv n X Y) k) (dft n w X k * dft n w Y k) := by
  have e1 : dft n w (cnv n X Y) k = sm n fun a => sm n fun b => sm n fun p => ctr n X Y p a b * w ^ (p * (2 * k + 1)) := by
    have e : dft n w (cnv n X Y) k = sm n fun p => sm n fun a => sm n fun b => ctr n X Y p a b * w ^ (p * (2 * k + 1)) := by
      unfold dft cnv
      refine sm_congr n fun p _ => ?_
      rw [← sm_mulR]
      exact sm_congr n fun a _ => (sm_mulR _ _).symm
    rw [e, sm_swap]
    exact sm_congr n fun a _ => sm_swap n n
  have e2 : dft n w X k * dft n w Y k = sm n fun a => sm n fun b => X a * w ^ (a * (2 * k + 1)) * (Y b * w ^ (b * (2 * k + 1))) := by
    unfold dft
    rw [← sm_mulR]
    exact sm_congr n fun a _ => (sm_mul _ _).symm
  rw [e1, e2]
  refine sm_cg n fun a ha => sm_cg n fun b hb => ?_
  have hp : w ^ (a * (2 * k + 1)) * w ^ (b * (2 * k + 1)) = w ^ ((a + b) * (2 * k + 1)) := by rw [Nat.add_mul, Int.pow_add]
  have e3 : X a * w ^ (a * (2 * k + 1)) * (Y b * w ^ (b * (2 * k + 1))) = X a * Y b * w ^ ((a + b) * (2 * k + 1)) := by rw [← hp]; ac_rfl
  rw [e3]
  rcases Nat.lt_or_ge (a + b) n with h | h
  · rw [sm_single (i := a + b) n h fun j hj hne => by unfold ctr; rw [if_neg (fun e => hne e.symm), if_neg (by omega), Int.zero_mul]]
    unfold ctr
    rw [if_pos rfl]
    exact Cg.refl _ _
  · rw [sm_single (i := a + b - n) n (by omega) fun j hj hne => by unfold ctr; rw [if_neg (by omega), if_neg (by omega), Int.zero_mul]]
    unfold ctr
    rw [if_neg (by omega), if_pos (by omega)]
    have e4 : w ^ ((a + b) * (2 * k + 1)) = w ^ ((a + b - n) * (2 * k + 1)) * w ^ (n * (2 * k + 1)) := by rw [← Int.pow_add, ← Nat.add_mul, Nat.sub_add_cancel h]
    rw [e4]
    have h5 := ((Cg.refl q (X a * Y b * w ^ ((a + b - n) * (2 * k + 1)))).mul (pow_odd hw k)).symm
    refine (Cg.of_eq ?_).trans (h5.trans (Cg.of_eq (Int.mul_assoc _ _ _)))
    rw [Int.mul_neg_one, Int.neg_mul]

/-- Sums of lists; a sum in another order. -/
def sl : List Int → Int
  | [] => 0
  | x :: xs => x + sl xs
/-- Where a coefficient comes to lie by a turn. -/
def at2 (n k j : Nat) : Nat := j * (k % (2 * n)) % (2 * n)
theorem turnF_two (n q k : Nat) : ∀ (l : Nat) (xs : List Nat), xs.length = l → (turnF n q k xs).2 = at2 n k l := by
  intro l
  induction l with
  | zero =>
    intro xs hl
    obtain rfl : xs = [] := List.eq_nil_of_length_eq_zero hl
    show 0 = _
    unfold at2
    rw [Nat.zero_mul, Nat.zero_mod]
  | succ l ih =>
    intro xs hl
    obtain ⟨ys, x, rfl⟩ : ∃ ys x, xs = ys ++ [x] := ⟨xs.dropLast, xs.getLast (by intro e; subst e; cases hl), (List.dropLast_concat_getLast _).symm⟩
    have hyl : ys.length = l := by simpa using hl
    rw [turnF_snoc]
    unfold turnStep
    dsimp only
    rw [ih ys hyl]
    unfold at2
    rw [Nat.mod_add_mod, Nat.add_mul, Nat.one_mul]
/-- The product of two rows, as it was reckoned; its values. -/
def Cnv (n q : Nat) (xs ys zs : List Nat) : Prop := Fit n q zs ∧ ∀ p, p < n → Cg q (gt zs p) (cnv n (gt xs) (gt ys) p)
theorem Cnv.dft {q n : Nat} {w : Int} {xs ys zs : List Nat} (hw : Cg q (w ^ n) (-1)) (h : Cnv n q xs ys zs) (k : Nat) : Cg q (dft n w (gt zs) k) (dft n w (gt xs) k * dft n w (gt ys) k) :=
  (dft_cg h.2 k).trans (cnv_dft hw _ _ k)
end Go.Proofs.YtfcmdefigldpnaaGreatDoor


namespace Go.Proofs.YtfcmdefigldpnaaGreatDoor
set_option linter.unusedVariables false
set_option maxRecDepth 8000
open Go Go.Den Go.RowKit Go.Mth Go.Dig

theorem gt_set {xs : List Nat} {r p v : Nat} (h : p < xs.length) : gt (xs.set r v) p = if p = r then (v : Int) else gt xs p := by
  unfold gt; rw [getD_set h]; split <;> rfl
theorem cmul_step {n q : Nat} (hq : 0 < q) {i k : Nat} (hi : i < n) (hk : k < n) {out : List Nat} {S X Y : Nat → Int} {pr : Nat} (hl : out.length = n) (h : ∀ p, p < n → Cg q (gt out p) (S p)) (hp : Cg q (pr : Int) (X i * Y k)) :
    (i + k < n → ∀ p, p < n → Cg q (gt (out.set (i + k) (addm (out.getD (i + k) 0) pr q)) p) (S p + ctr n X Y p i k)) ∧
    (¬ i + k < n → ∀ p, p < n → Cg q (gt (out.set (i + k - n) (subm (out.getD (i + k - n) 0) pr q)) p) (S p + ctr n X Y p i k)) := by
  constructor <;> intro hc p hpn
  · rw [gt_set (by omega)]
    unfold ctr
    by_cases e : p = i + k
    · subst e
      rw [if_pos rfl, if_pos rfl]
      exact (cg_addm hq _ _).trans ((h _ hpn).add hp)
    · rw [if_neg e, if_neg (fun e' => e e'.symm), if_neg (by omega), Int.add_zero]
      exact h p hpn
  · rw [gt_set (by omega)]
    unfold ctr
    rw [if_neg (show ¬ i + k = p by omega)]
    by_cases e : p = i + k - n
    · subst e
      rw [if_pos rfl, if_pos (by omega)]
      exact ((cg_subm hq _ _).trans ((h _ hpn).sub hp)).trans (Cg.of_eq (Int.sub_eq_add_neg))
    · rw [if_neg e, if_neg (by omega), Int.add_zero]
      exact h p hpn

theorem fit_set {n q r v : Nat} {xs : List Nat} (h : Fit n q xs) (hv : v < q) : Fit n q (xs.set r v) := ⟨by rw [List.length_set]; exact h.1, fun x hx => by
  rcases List.mem_or_eq_of_mem_set hx with hx | rfl
  · exact h.2 x hx
  · exact hv⟩

/-- Sum, difference and what is below 0, word by word. -/
def addL (q : Nat) (xs ys : List Nat) : List Nat := List.zipWith (fun a b => addm a b q) xs ys
def subL (q : Nat) (xs ys : List Nat) : List Nat := List.zipWith (fun a b => subm a b q) xs ys
def negL (q : Nat) (xs : List Nat) : List Nat := xs.map fun a => subm 0 a q
theorem addL_len {q : Nat} {xs ys : List Nat} (h : xs.length = ys.length) : (addL q xs ys).length = xs.length := by unfold addL; simp [h]
theorem addL_get {q i a b : Nat} {xs ys : List Nat} (h1 : xs[i]? = some a) (h2 : ys[i]? = some b) : (addL q xs ys)[i]? = some (addm a b q) := by
  unfold addL; rw [List.getElem?_zipWith, h1, h2]
theorem addL_fit {n q : Nat} {xs ys : List Nat} (hq : 0 < q) (h1 : xs.length = n) (h2 : ys.length = n) : Fit n q (addL q xs ys) := ⟨by rw [addL_len (by omega), h1], fun x hx => by
  obtain ⟨i, hi⟩ := List.getElem?_of_mem hx
  have hil := (List.getElem?_eq_some_iff.1 hi).1
  rw [addL_len (by omega)] at hil
  rw [addL_get (List.getElem?_eq_getElem hil) (List.getElem?_eq_getElem (show i < ys.length by omega))] at hi
  cases hi
  exact addm_lt hq⟩

theorem BatOk.cw {B : BatD} (K : BatOk B) : Cg B.t ((B.T.w : Int) ^ (2 ^ B.L)) (-1) := by
  have := K.ok.cw
  rwa [K.tl, K.tq] at this
theorem turnL_fit {n q k : Nat} (hn : 0 < n) (hq : 0 < q) {xs : List Nat} (hx : ∀ x ∈ xs, x < q) : Fit n q (turnL n q k xs) := by
  refine ⟨(turnF_ok hn q k xs).1, ?_⟩
  unfold turnL turnF
  suffices H : ∀ (xs : List Nat) (s : List Nat × Nat), (∀ x ∈ xs, x < q) → (∀ x ∈ s.1, x < q) → ∀ x ∈ (xs.foldl (turnStep n q (k % (2 * n))) s).1, x < q from H xs _ hx (fun x h => by have := (List.mem_replicate.1 h).2; omega)
  intro xs
  induction xs with
  | nil => intro s _ h; exact h
  | cons x xs ih =>
    intro s hx hs
    rw [List.foldl_cons]
    refine ih _ (fun y hy => hx y (List.mem_cons_of_mem _ hy)) ?_
    unfold turnStep
    dsimp only
    intro y hy
    split at hy
    · rcases List.mem_or_eq_of_mem_set hy with hy | rfl
      · exact hs y hy
      · exact hx _ (List.mem_cons_self ..)
    · rcases List.mem_or_eq_of_mem_set hy with hy | rfl
      · exact hs y hy
      · exact subm_lt hq
end Go.Proofs.YtfcmdefigldpnaaGreatDoor


/- Texts NatL to NatN of this work, joined: each says in its own head what it proves, and of which condition. -/
import Derived.Test.YtajgcmgkhmkmbaaDoorMBou15
/- Naturals: sum, difference and product of the reference's digits, by contracts. No condition. -/
namespace Go.Proofs.YtajgcmgkhmkmbaaDoor
set_option linter.unusedVariables false
set_option maxRecDepth 8000
open Go Go.Den Go.RowKit Go.Dig

theorem Tryd_ent46 : Ent Tryd.prog 46 := ent_of Tryd.func46 (by kernel_rfl) rfl
set_option maxHeartbeats 1600000 in
theorem plus_spec (va vb : Value) (xs ys : List Nat) (h : Hp) (ha : SlF h N va xs) (hb : SlF h N vb ys) (hx : Al 65536 xs) (hy : Al 65536 ys) (hl : xs.length < 1099511627776) (hl2 : ys.length < 1099511627776) :
    CallsH Tryd.prog 46 [va, vb] h fun v' h' => Ext h h' ∧ OwnF h' h.size 3 N v' (dg 65536 (vl 65536 xs + vl 65536 ys)) := by
  (apply enter Tryd.func46 rfl Tryd.ntmps46 rfl)
  refine runM ?_
  (first | (apply w_seqB; exact rfl; apply w_block; exact rfl) | skip)
  apply (w_loop (σ := Nat × Nat × Value × List Nat) rfl (fun p => [(0, va), (1, vb), (5, p.2.2.1), (6, N p.2.1), (7, N p.1)])
    (fun p h' => Ext h h' ∧ OwnF h' h.size 3 N p.2.2.1 p.2.2.2 ∧ p.2.2.2.length = p.1 ∧ Al 65536 p.2.2.2 ∧ p.2.1 ≤ 1 ∧ (p.1 ≤ max xs.length ys.length ∨ p.1 = max xs.length ys.length + 1 ∧ p.2.1 = 0) ∧
      vl 65536 p.2.2.2 + 65536 ^ p.1 * p.2.1 = pv 65536 xs p.1 + pv 65536 ys p.1) (fun p => 2 * (max xs.length ys.length - p.1) + p.2.1) (0, 0, .slice none 0 0, []))
  · exact (Sub.cons rfl (Sub.cons rfl (Sub.cons rfl (Sub.cons rfl (Sub.cons rfl (Sub.nil _))))))
  · exact ⟨Ext.refl h, OwnF.nil _ _ _ _, rfl, Al.nil, by simp only []; omega, .inl (Nat.zero_le _), by simp [pv, vl]⟩
  · rintro ⟨i, c, v, os⟩ h1 ⟨e, o, i1, i2, i3, i4, i5⟩
    dsimp only at e o i1 i2 i3 i4 i5 ⊢
    have ha1 := ha.ext e
    have hb1 := hb.ext e
    have hil : i < 1099511627776 + 1 := by omega
    repeat (apply w_seq; exact rfl)
    apply (w_tcut (σ := Unit) (fun _ => [(0, va), (1, vb), (5, v), (6, N c), (7, N i), (21, .bool (decide (i < xs.length ∨ i < ys.length ∨ 0 < c)))]) (fun _ h' => h1 = h'))
    · refine runM ?_
      (apply s_splitG; exact rfl; exact rfl; exact rfl; exact rfl) <;> intro c1
      · refine runM ?_
        apply cut_normal ()
        · exact (Sub.consE rfl (by first | rfl | (refine congrArg I ?_; (try dsimp only); omega) | (refine congrArg Value.bool ?_; simp [*])) (Sub.consE rfl (by first | rfl | (refine congrArg I ?_; (try dsimp only); omega) | (refine congrArg Value.bool ?_; simp [*])) (Sub.consE rfl (by first | rfl | (refine congrArg I ?_; (try dsimp only); omega) | (refine congrArg Value.bool ?_; simp [*])) (Sub.consE rfl (by first | rfl | (refine congrArg I ?_; (try dsimp only); omega) | (refine congrArg Value.bool ?_; simp [*])) (Sub.consE rfl (by first | rfl | (refine congrArg I ?_; (try dsimp only); omega) | (refine congrArg Value.bool ?_; simp [*])) (Sub.consE rfl (by first | rfl | (refine congrArg I ?_; (try dsimp only); omega) | (refine congrArg Value.bool ?_; simp [*])) (Sub.nil _)))))))
        · rfl
      · refine runM ?_
        (apply s_splitG; exact rfl; exact rfl; exact rfl; exact rfl) <;> intro c2
        · refine runM ?_
          apply cut_normal ()
          · exact (Sub.consE rfl (by first | rfl | (refine congrArg I ?_; (try dsimp only); omega) | (refine congrArg Value.bool ?_; simp [*])) (Sub.consE rfl (by first | rfl | (refine congrArg I ?_; (try dsimp only); omega) | (refine congrArg Value.bool ?_; simp [*])) (Sub.consE rfl (by first | rfl | (refine congrArg I ?_; (try dsimp only); omega) | (refine congrArg Value.bool ?_; simp [*])) (Sub.consE rfl (by first | rfl | (refine congrArg I ?_; (try dsimp only); omega) | (refine congrArg Value.bool ?_; simp [*])) (Sub.consE rfl (by first | rfl | (refine congrArg I ?_; (try dsimp only); omega) | (refine congrArg Value.bool ?_; simp [*])) (Sub.consE rfl (by first | rfl | (refine congrArg I ?_; (try dsimp only); omega) | (refine congrArg Value.bool ?_; simp [*])) (Sub.nil _)))))))
          · rfl
        · refine runM ?_
          apply cut_normal ()
          · exact (Sub.consE rfl (by first | rfl | (refine congrArg I ?_; (try dsimp only); omega) | (refine congrArg Value.bool ?_; simp [*])) (Sub.consE rfl (by first | rfl | (refine congrArg I ?_; (try dsimp only); omega) | (refine congrArg Value.bool ?_; simp [*])) (Sub.consE rfl (by first | rfl | (refine congrArg I ?_; (try dsimp only); omega) | (refine congrArg Value.bool ?_; simp [*])) (Sub.consE rfl (by first | rfl | (refine congrArg I ?_; (try dsimp only); omega) | (refine congrArg Value.bool ?_; simp [*])) (Sub.consE rfl (by first | rfl | (refine congrArg I ?_; (try dsimp only); omega) | (refine congrArg Value.bool ?_; simp [*])) (Sub.consE rfl (by first | rfl | (refine congrArg I ?_; (try dsimp only); omega) | (refine congrArg Value.bool ?_; simp [*])) (Sub.nil _)))))))
          · rfl
    · rintro _ _ rfl
      refine runM ?_
      (apply w_condD; exact rfl; exact rfl) <;> intro hc
      · refine runM ?_
        apply (s_call Tryd_ent76 rfl rfl rfl)
        refine (at_spec va xs i h1 ha1 (by omega)).mono ?_
        rintro _ _ ⟨rfl, rfl⟩
        refine ⟨(by first | exact trivial | exact Ext.refl _ | assumption | exact Ext.trans (by assumption) (by assumption)), ?_⟩
        have hxi := hx.getD (by omega) i
        have hyi := hy.getD (by omega) i
        have hst := add_step (b := 65536) (x := xs.getD i 0) (y := ys.getD i 0) i5
        have hx0 : xs.length ≤ i → xs.getD i 0 = 0 := getD_none
        have hy0 : ys.length ≤ i → ys.getD i 0 = 0 := getD_none
        generalize hxd : xs.getD i 0 = x at *
        refine runM ?_
        apply (s_call Tryd_ent76 rfl rfl rfl)
        refine (at_spec vb ys i h1 hb1 (by omega)).mono ?_
        rintro _ _ ⟨rfl, rfl⟩
        refine ⟨(by first | exact trivial | exact Ext.refl _ | assumption | exact Ext.trans (by assumption) (by assumption)), ?_⟩
        generalize hyd : ys.getD i 0 = y at *
        refine runM ?_
        rw [show c + x + y = x + y + c by omega]
        have hm : (x + y + c) % 65536 < 65536 := Nat.mod_lt _ (by omega)
        generalize hw1 : (x + y + c) % 65536 = w1 at *
        (refine s_app1 (bytes := 8) (w1) o e rfl rfl rfl rfl rfl rfl rfl rfl rfl (by first | exact rfl | exact congrArg some (congrArg I (by omega))) (fun _ => rfl) rfl rfl (fun _ _ => trivial) (by omega) (by simp only [maxLen]; omega) ?_)
        intro v3 h3 o3 e3 k3 b3
        refine runM ?_
        apply again_normal (i + 1, (x + y + c) / 65536, v3, os ++ [w1])
        · exact (Sub.cons rfl (Sub.cons rfl (Sub.cons rfl (Sub.cons rfl (Sub.cons rfl (Sub.nil _))))))
        · refine ⟨e3, o3, by simp [i1], i2.snoc hm, by simp only []; omega, ?_, ?_⟩
          · simp only []; omega
          · simp only [pv]
            rw [vl_snoc, i1, Nat.pow_succ, hxd, hyd]
            exact hst
        · simp only []; omega
      · have hc0 : c = 0 := by omega
        subst hc0
        rw [Nat.mul_zero, Nat.add_zero, pv_full (by omega), pv_full (by omega)] at i5
        refine runM ?_
        apply (s_call Tryd_ent75 rfl rfl rfl)
        refine (trim_spec v os h1 o.sl (by omega)).mono ?_
        rintro v3 _ ⟨rfl, s3, o3⟩
        refine ⟨(by first | exact trivial | exact Ext.refl _ | assumption | exact Ext.trans (by assumption) (by assumption)), ?_⟩
        refine runM ?_
        refine fin1 rfl rfl ⟨e, ?_⟩
        have := o3 _ _ o
        rw [nrm_eq (by omega) i2, i5] at this
        exact this

theorem Tryd_ent69 : Ent Tryd.prog 69 := ent_of Tryd.func69 (by kernel_rfl) rfl
set_option maxHeartbeats 1600000 in
theorem less_spec (va vb : Value) (xs ys : List Nat) (h : Hp) (ha : SlF h N va xs) (hb : SlF h N vb ys) (hx : Al 65536 xs) (hy : Al 65536 ys) (hl : xs.length < 1099511627776) (hl2 : ys.length < 1099511627776) (hle : vl 65536 ys ≤ vl 65536 xs) :
    CallsH Tryd.prog 69 [va, vb] h fun v' h' => Ext h h' ∧ OwnF h' h.size 3 N v' (dg 65536 (vl 65536 xs - vl 65536 ys)) := by
  (apply enter Tryd.func69 rfl Tryd.ntmps69 rfl)
  refine runM ?_
  (first | (apply w_seqB; exact rfl; apply w_block; exact rfl) | skip)
  apply (w_loop (σ := Nat × Nat × Value × List Nat) rfl (fun p => [(0, va), (1, vb), (5, p.2.2.1), (6, N p.2.1), (7, N p.1)])
    (fun p h' => Ext h h' ∧ OwnF h' h.size 3 N p.2.2.1 p.2.2.2 ∧ p.2.2.2.length = p.1 ∧ Al 65536 p.2.2.2 ∧ p.2.1 ≤ 1 ∧ p.1 ≤ xs.length ∧
      vl 65536 p.2.2.2 + pv 65536 ys p.1 = pv 65536 xs p.1 + 65536 ^ p.1 * p.2.1) (fun p => xs.length - p.1) (0, 0, .slice none 0 0, []))
  · exact (Sub.cons rfl (Sub.cons rfl (Sub.cons rfl (Sub.cons rfl (Sub.cons rfl (Sub.nil _))))))
  · exact ⟨Ext.refl h, OwnF.nil _ _ _ _, rfl, Al.nil, by simp only []; omega, Nat.zero_le _, by simp [pv, vl]⟩
  · rintro ⟨i, c, v, os⟩ h1 ⟨e, o, i1, i2, i3, i4, i5⟩
    dsimp only at e o i1 i2 i3 i4 i5 ⊢
    have ha1 := ha.ext e
    have hb1 := hb.ext e
    refine runM ?_
    (apply w_condD; exact rfl; exact rfl) <;> intro hi
    · have hxi := hx.getD (by omega) i
      have hyi := hy.getD (by omega) i
      refine runM ?_
      apply (s_call Tryd_ent76 rfl rfl rfl)
      refine (at_spec vb ys i h1 hb1 (by omega)).mono ?_
      rintro _ _ ⟨rfl, rfl⟩
      refine ⟨(by first | exact trivial | exact Ext.refl _ | assumption | exact Ext.trans (by assumption) (by assumption)), ?_⟩
      generalize hyd : ys.getD i 0 = y at *
      generalize hxd : xs.getD i 0 = x at *
      refine runM ?_
      (apply w_condD; exact rfl; exact rfl) <;> intro hneg
      · obtain ⟨w1, hw1⟩ : ∃ w1, w1 = x + 65536 - y - c := ⟨_, rfl⟩
        have hwl : w1 < 65536 := by omega
        have hst := less_step (b := 65536) (B := 65536 ^ i) (x := x) (y := y) (o := w1) (c' := 1) i5 (by omega)
        refine runM ?_
        (refine s_app1 (bytes := 8) (w1) o e rfl rfl rfl rfl rfl rfl rfl rfl rfl (by first | exact rfl | exact congrArg some (congrArg I (by omega))) (fun _ => rfl) rfl rfl (fun _ _ => trivial) (by omega) (by simp only [maxLen]; omega) ?_)
        intro v3 h3 o3 e3 k3 b3
        refine runM ?_
        apply again_normal (i + 1, 1, v3, os ++ [w1])
        · exact (Sub.cons rfl (Sub.cons rfl (Sub.cons rfl (Sub.cons rfl (Sub.cons rfl (Sub.nil _))))))
        · refine ⟨e3, o3, by simp [i1], i2.snoc hwl, by simp only []; omega, hi, ?_⟩
          simp only [pv]
          rw [vl_snoc, i1, Nat.pow_succ, hxd, hyd]
          exact hst
        · simp only []; omega
      · obtain ⟨w1, hw1⟩ : ∃ w1, w1 = x - y - c := ⟨_, rfl⟩
        have hwl : w1 < 65536 := by omega
        have hst := less_step (b := 65536) (B := 65536 ^ i) (x := x) (y := y) (o := w1) (c' := 0) i5 (by omega)
        refine runM ?_
        (refine s_app1 (bytes := 8) (w1) o e rfl rfl rfl rfl rfl rfl rfl rfl rfl (by first | exact rfl | exact congrArg some (congrArg I (by omega))) (fun _ => rfl) rfl rfl (fun _ _ => trivial) (by omega) (by simp only [maxLen]; omega) ?_)
        intro v3 h3 o3 e3 k3 b3
        refine runM ?_
        apply again_normal (i + 1, 0, v3, os ++ [w1])
        · exact (Sub.cons rfl (Sub.cons rfl (Sub.cons rfl (Sub.cons rfl (Sub.cons rfl (Sub.nil _))))))
        · refine ⟨e3, o3, by simp [i1], i2.snoc hwl, by simp only []; omega, hi, ?_⟩
          simp only [pv]
          rw [vl_snoc, i1, Nat.pow_succ, hxd, hyd]
          exact hst
        · simp only []; omega
    · have hie : i = xs.length := by omega
      subst hie
      have hvl := vl_lt i2
      rw [i1] at hvl
      rw [pv_full (xs := xs) (Nat.le_refl _), pv_of_lt (Nat.lt_of_le_of_lt hle (vl_lt hx))] at i5
      have hc0 : c = 0 := by
        rcases (by omega : c = 0 ∨ c = 1) with rfl | rfl
        · rfl
        · omega
      subst hc0
      have hv : vl 65536 os = vl 65536 xs - vl 65536 ys := by omega
      refine runM ?_
      apply (s_call Tryd_ent75 rfl rfl rfl)
      refine (trim_spec v os h1 o.sl (by omega)).mono ?_
      rintro v3 _ ⟨rfl, s3, o3⟩
      refine ⟨(by first | exact trivial | exact Ext.refl _ | assumption | exact Ext.trans (by assumption) (by assumption)), ?_⟩
      refine runM ?_
      refine fin1 rfl rfl ⟨e, ?_⟩
      have := o3 _ _ o
      rw [nrm_eq (by omega) i2, hv] at this
      exact this

theorem Tryd_ent48 : Ent Tryd.prog 48 := ent_of Tryd.func48 (by kernel_rfl) rfl
set_option maxHeartbeats 1600000 in
theorem times_spec (va vb : Value) (xs ys : List Nat) (h : Hp) (ha : SlF h N va xs) (hb : SlF h N vb ys) (hx : Al 65536 xs) (hy : Al 65536 ys) (hl : xs.length < 1099511627776) (hl2 : ys.length < 1099511627776) :
    CallsH Tryd.prog 48 [va, vb] h fun v' h' => Ext h h' ∧ OwnF h' h.size 3 N v' (dg 65536 (vl 65536 xs * vl 65536 ys)) := by
  (apply enter Tryd.func48 rfl Tryd.ntmps48 rfl)
  refine runM ?_
  (apply (s_make (f := N) (bytes := 8) (0)); (first | exact isK_c | exact isK_t rfl); (first | exact isK_c | exact isK_t rfl); exact rfl; exact rfl; exact rfl; exact rfl; exact rfl; exact rfl; omega; omega; omega)
  intro out h1 o1 e1 b1
  refine ⟨(by first | exact trivial | exact Ext.refl _ | assumption | exact Ext.trans (by assumption) (by assumption)), ?_⟩
  refine runM ?_
  (first | (apply w_seqB; exact rfl; apply w_block; exact rfl) | skip)
  apply (w_loop (σ := Nat × List Nat) rfl (fun p => [(0, va), (1, vb), (16, va), (17, N xs.length), (18, N p.1), (5, out)])
    (fun p h' => Ext h h' ∧ OwnF h' h.size 3 N out p.2 ∧ p.2.length = xs.length + ys.length + 1 ∧ p.1 ≤ xs.length ∧ Al 65536 p.2 ∧
      vl 65536 p.2 = pv 65536 xs p.1 * vl 65536 ys) (fun p => xs.length - p.1) (0, List.replicate (xs.length + ys.length + 1) 0))
  · exact (Sub.cons rfl (Sub.cons rfl (Sub.cons rfl (Sub.cons rfl (Sub.cons rfl (Sub.cons rfl (Sub.nil _)))))))
  · refine ⟨e1, o1, by simp, Nat.zero_le _, Al.replicate (by omega) _, ?_⟩
    simp only [vl_zeros, pv, Nat.zero_mul]
  · rintro ⟨i, os0⟩ h' ⟨e, o, i1, i2, i3, i4⟩
    dsimp only at e o i1 i2 i3 i4 ⊢
    have ha' := ha.ext e
    have hb' := hb.ext e
    refine runM ?_
    (apply w_condD; exact rfl; exact rfl) <;> intro hi
    · have hxi := hx.getD (by omega) i
      have hbd : vl 65536 os0 < 65536 ^ (i + ys.length) := by
        have h1 := pv_lt hx (by omega) i
        have h2 := vl_lt hy
        rw [i4, Nat.pow_add]
        exact Nat.mul_lt_mul'' h1 h2
      have hz := getD_of_lt (xs := os0) (j := i + ys.length) (by omega) hbd (Nat.le_refl _)
      refine runM ?_
      generalize hxd : xs.getD i 0 = x at *
      (first | (apply w_seqB; exact rfl; apply w_block; exact rfl) | skip)
      apply (w_loop (σ := Nat × Nat × List Nat) rfl (fun p => [(0, va), (1, vb), (16, va), (17, N xs.length), (18, N i), (5, out), (6, N i), (7, N p.2.1), (8, N p.1)])
        (fun p h' => Ext h h' ∧ OwnF h' h.size 3 N out p.2.2 ∧ p.2.2.length = xs.length + ys.length + 1 ∧ Al 65536 p.2.2 ∧ p.2.1 < 65536 ∧ (p.1 ≤ ys.length ∨ p.1 = ys.length + 1 ∧ p.2.1 = 0) ∧
          vl 65536 p.2.2 + 65536 ^ (i + p.1) * p.2.1 = vl 65536 os0 + 65536 ^ i * (x * pv 65536 ys p.1) ∧
          ∀ j, i + p.1 ≤ j → p.2.2.getD j 0 = os0.getD j 0) (fun p => ys.length + 1 - p.1) (0, 0, os0))
      · exact (Sub.cons rfl (Sub.cons rfl (Sub.cons rfl (Sub.cons rfl (Sub.cons rfl (Sub.cons rfl (Sub.cons rfl (Sub.cons rfl (Sub.cons rfl (Sub.nil _))))))))))
      · exact ⟨e, o, i1, i3, by simp only []; omega, .inl (Nat.zero_le _), by simp [pv], fun _ _ => rfl⟩
      · rintro ⟨k, c, os⟩ h2 ⟨e', o', j1, j2, j3, j4, j5, j6⟩
        dsimp only at e' o' j1 j2 j3 j4 j5 j6 ⊢
        have ha2 := ha.ext e'
        have hb2 := hb.ext e'
        have hso := o'.sl
        repeat (apply w_seq; exact rfl)
        apply (w_tcut (σ := Unit) (fun _ => [(0, va), (1, vb), (16, va), (17, N xs.length), (18, N i), (5, out), (6, N i), (7, N c), (8, N k), (28, .bool (decide (k < ys.length ∨ 0 < c)))]) (fun _ h' => h2 = h'))
        · refine runM ?_
          (apply s_splitG; exact rfl; exact rfl; exact rfl; exact rfl) <;> intro c1
          · refine runM ?_
            apply cut_normal ()
            · exact (Sub.consE rfl (by first | rfl | (refine congrArg I ?_; (try dsimp only); omega) | (refine congrArg Value.bool ?_; simp [*])) (Sub.consE rfl (by first | rfl | (refine congrArg I ?_; (try dsimp only); omega) | (refine congrArg Value.bool ?_; simp [*])) (Sub.consE rfl (by first | rfl | (refine congrArg I ?_; (try dsimp only); omega) | (refine congrArg Value.bool ?_; simp [*])) (Sub.consE rfl (by first | rfl | (refine congrArg I ?_; (try dsimp only); omega) | (refine congrArg Value.bool ?_; simp [*])) (Sub.consE rfl (by first | rfl | (refine congrArg I ?_; (try dsimp only); omega) | (refine congrArg Value.bool ?_; simp [*])) (Sub.consE rfl (by first | rfl | (refine congrArg I ?_; (try dsimp only); omega) | (refine congrArg Value.bool ?_; simp [*])) (Sub.consE rfl (by first | rfl | (refine congrArg I ?_; (try dsimp only); omega) | (refine congrArg Value.bool ?_; simp [*])) (Sub.consE rfl (by first | rfl | (refine congrArg I ?_; (try dsimp only); omega) | (refine congrArg Value.bool ?_; simp [*])) (Sub.consE rfl (by first | rfl | (refine congrArg I ?_; (try dsimp only); omega) | (refine congrArg Value.bool ?_; simp [*])) (Sub.consE rfl (by first | rfl | (refine congrArg I ?_; (try dsimp only); omega) | (refine congrArg Value.bool ?_; simp [*])) (Sub.nil _)))))))))))
            · rfl
          · refine runM ?_
            apply cut_normal ()
            · exact (Sub.consE rfl (by first | rfl | (refine congrArg I ?_; (try dsimp only); omega) | (refine congrArg Value.bool ?_; simp [*])) (Sub.consE rfl (by first | rfl | (refine congrArg I ?_; (try dsimp only); omega) | (refine congrArg Value.bool ?_; simp [*])) (Sub.consE rfl (by first | rfl | (refine congrArg I ?_; (try dsimp only); omega) | (refine congrArg Value.bool ?_; simp [*])) (Sub.consE rfl (by first | rfl | (refine congrArg I ?_; (try dsimp only); omega) | (refine congrArg Value.bool ?_; simp [*])) (Sub.consE rfl (by first | rfl | (refine congrArg I ?_; (try dsimp only); omega) | (refine congrArg Value.bool ?_; simp [*])) (Sub.consE rfl (by first | rfl | (refine congrArg I ?_; (try dsimp only); omega) | (refine congrArg Value.bool ?_; simp [*])) (Sub.consE rfl (by first | rfl | (refine congrArg I ?_; (try dsimp only); omega) | (refine congrArg Value.bool ?_; simp [*])) (Sub.consE rfl (by first | rfl | (refine congrArg I ?_; (try dsimp only); omega) | (refine congrArg Value.bool ?_; simp [*])) (Sub.consE rfl (by first | rfl | (refine congrArg I ?_; (try dsimp only); omega) | (refine congrArg Value.bool ?_; simp [*])) (Sub.consE rfl (by first | rfl | (refine congrArg I ?_; (try dsimp only); omega) | (refine congrArg Value.bool ?_; simp [*])) (Sub.nil _)))))))))))
            · rfl
        · rintro _ _ rfl
          refine runM ?_
          (apply w_condD; exact rfl; exact rfl) <;> intro hc
          · have hkl : k ≤ ys.length := by omega
            have hyk := hy.getD (by omega) k
            have hok := j2.getD (by omega) (i + k)
            have hoe := j6 (i + k) (Nat.le_refl _)
            have hik : i + k < os.length := by omega
            have hy0 : ys.length ≤ k → ys.getD k 0 = 0 := getD_none
            have hst := times_step (b := 65536) (v' := vl 65536 (os.set (i + k) ((c + os.getD (i + k) 0 + x * ys.getD k 0) % 65536))) (y := ys.getD k 0) j5 (vl_set hik) (Nat.pow_add _ _ _) rfl
            refine runM ?_
            rw [hxd]
            apply (s_call Tryd_ent76 rfl rfl rfl)
            refine (at_spec vb ys k h2 hb2 (by omega)).mono ?_
            rintro _ _ ⟨rfl, rfl⟩
            refine ⟨(by first | exact trivial | exact Ext.refl _ | assumption | exact Ext.trans (by assumption) (by assumption)), ?_⟩
            generalize hyd : ys.getD k 0 = y at *
            generalize hod : os.getD (i + k) 0 = ov at *
            have hxy : x * y ≤ 65535 * 65535 := Nat.mul_le_mul (by omega) (by omega)
            have hxy0 : ys.length ≤ k → x * y = 0 := fun hh => by rw [hy0 hh, Nat.mul_zero]
            have hm : (c + ov + x * y) % 65536 < 65536 := Nat.mod_lt _ (by omega)
            refine runM ?_
            generalize x * y = p at *
            generalize hw1 : (c + ov + p) % 65536 = w1 at *
            (apply (s_storeF (w1)); exact rfl; exact rfl; exact rfl; exact rfl; exact rfl; exact o'; exact rfl; (first | assumption | omega))
            intro h3 o3 k3
            refine ⟨(by first | exact trivial | exact Ext.refl _ | assumption | exact Ext.trans (by assumption) (by assumption)), ?_⟩
            have e3 := o'.old k3 e' (Nat.le_refl _)
            refine runM ?_
            apply again_normal (k + 1, (c + ov + p) / 65536, os.set (i + k) w1)
            · exact (Sub.cons rfl (Sub.cons rfl (Sub.cons rfl (Sub.cons rfl (Sub.cons rfl (Sub.cons rfl (Sub.cons rfl (Sub.cons rfl (Sub.cons rfl (Sub.nil _))))))))))
            · refine ⟨e3, o3, by simp [j1], j2.set hm _, by simp only []; omega, ?_, ?_, fun j hj => ?_⟩
              · simp only []
                rcases Nat.lt_or_ge k ys.length with hlt | hge
                · exact .inl hlt
                · have h5 : k = ys.length := by omega
                  have h6 : ov = 0 := by rw [hoe, h5]; exact hz
                  have h7 := hxy0 hge
                  exact .inr ⟨by omega, by omega⟩
              · simp only [pv]
                rw [← Nat.add_assoc, Nat.pow_succ, hyd]
                exact hst
              · simp only [] at hj ⊢
                rw [getD_set_other (by omega)]; exact j6 j (by omega)
            · simp only []; omega
          · have hc0 : c = 0 := by omega
            subst hc0
            rw [Nat.mul_zero, Nat.add_zero, pv_full (by omega)] at j5
            refine runM ?_
            apply again_normal (i + 1, os)
            · exact (Sub.cons rfl (Sub.cons rfl (Sub.cons rfl (Sub.cons rfl (Sub.cons rfl (Sub.cons rfl (Sub.nil _)))))))
            · refine ⟨e', o', j1, hi, j2, ?_⟩
              simp only [pv]
              rw [j5, i4, hxd, Nat.add_mul, Nat.mul_assoc]
            · simp only []; omega
    · refine runM ?_
      have hie : i = xs.length := by omega
      subst hie
      rw [pv_full (Nat.le_refl _)] at i4
      apply (s_call Tryd_ent75 rfl rfl rfl)
      refine (trim_spec out _ h' o.sl (by omega)).mono ?_
      rintro v3 _ ⟨rfl, s3, o3⟩
      refine ⟨(by first | exact trivial | exact Ext.refl _ | assumption | exact Ext.trans (by assumption) (by assumption)), ?_⟩
      refine runM ?_
      refine fin1 rfl rfl ⟨e, ?_⟩
      have := o3 _ _ o
      rw [nrm_eq (by omega) i3, i4] at this
      exact this
end Go.Proofs.YtajgcmgkhmkmbaaDoor

/- Naturals and whole numbers: long division by bits of the reference, and the functions on whole numbers. No condition. -/
namespace Go.Proofs.YtajgcmgkhmkmbaaDoor
set_option linter.unusedVariables false
set_option maxRecDepth 8000
open Go Go.Den Go.RowKit Go.Dig

/-- A whole number as it is told: its cells. -/
def wcells (neg : Bool) (v : Value) : List Value := [.bool neg, v]

/-- What a row of a whole number says. -/
def IV (neg : Bool) (X : Nat) : Int := if neg then -(X : Int) else X
/-- v is a whole number in memory, of the value z, as it is told: its size in own words. -/
def IntOf (h : Hp) (B : Nat) (v : Value) (z : Int) : Prop := ∃ a, v = .agg #[.bool (decide (z < 0)), a] ∧ OwnF h B 31 U a (dg 18446744073709551616 z.natAbs)
theorem IntOf.ext {h h' : Hp} {B : Nat} {v : Value} {z : Int} (s : IntOf h B v z) (e : Ext h h') : IntOf h' B v z := by obtain ⟨a, h1, h2⟩ := s; exact ⟨a, h1, h2.ext e⟩
theorem IntOf.base {h : Hp} {B B' : Nat} {v : Value} {z : Int} (s : IntOf h B v z) (hB : B' ≤ B) : IntOf h B' v z := by obtain ⟨a, h1, h2⟩ := s; exact ⟨a, h1, h2.base hB⟩
theorem iv_abs (neg : Bool) (X : Nat) : (IV neg X).natAbs = X ∧ decide (IV neg X < 0) = (neg && decide (X ≠ 0)) := by
  unfold IV
  cases neg with
  | true => simp only [if_true, Int.natAbs_neg, Int.natAbs_natCast, Bool.true_and, true_and, decide_eq_decide]; omega
  | false => simp only [Bool.false_eq_true, if_false, Int.natAbs_natCast, Bool.false_and, true_and, decide_eq_false_iff_not]; omega
theorem IntOf.of {h : Hp} {B : Nat} {neg : Bool} {Z : Nat} {v : Value} (o : OwnF h B 31 U v (dg 18446744073709551616 Z)) : IntOf h B (.agg #[.bool (neg && decide (Z ≠ 0)), v]) (IV neg Z) := by
  obtain ⟨h1, h2⟩ := iv_abs neg Z
  exact ⟨v, by rw [h2], by rw [h1]; exact o⟩
theorem iv_same (neg : Bool) (X Y : Nat) : IV neg (X + Y) = IV neg X + IV neg Y := by
  unfold IV; cases neg <;> simp <;> omega
theorem iv_other {n1 n2 : Bool} {X Y : Nat} (hn : n1 ≠ n2) (hle : Y ≤ X) : IV n1 (X - Y) = IV n1 X + IV n2 Y := by
  unfold IV; cases n1 <;> cases n2 <;> simp at hn ⊢ <;> omega
theorem dg_len_add {X Y m : Nat} {xs ys : List Nat} (hx : Al 18446744073709551616 xs) (hy : Al 18446744073709551616 ys) (hX : vl 18446744073709551616 xs = X) (hY : vl 18446744073709551616 ys = Y) (h1 : xs.length ≤ m) (h2 : ys.length ≤ m) : (dg 18446744073709551616 (X + Y)).length ≤ m + 1 := by
  apply dg_len (by omega)
  have a := vl_lt hx
  have b := vl_lt hy
  have c : 18446744073709551616 ^ xs.length ≤ 18446744073709551616 ^ m := Nat.pow_le_pow_right (by omega) h1
  have d : 18446744073709551616 ^ ys.length ≤ 18446744073709551616 ^ m := Nat.pow_le_pow_right (by omega) h2
  rw [Nat.pow_succ]
  omega
theorem dg_len_le {X Y : Nat} {xs : List Nat} (hx : Al 18446744073709551616 xs) (hX : vl 18446744073709551616 xs = X) (h : Y ≤ X) : (dg 18446744073709551616 Y).length ≤ xs.length := by
  apply dg_len (by omega)
  have a := vl_lt hx
  omega

theorem cmpI_pos {m n : Nat} : 0 < cmpI m n ↔ n < m := by
  unfold cmpI
  by_cases h1 : m < n
  · simp [h1]; omega
  · by_cases h2 : n < m <;> simp [h1, h2]
theorem cmpI_zero {m n : Nat} : cmpI m n = 0 ↔ m = n := by
  unfold cmpI
  by_cases h1 : m < n
  · simp [h1]; omega
  · by_cases h2 : n < m <;> simp [h1, h2] <;> omega
theorem iv_mul (n1 n2 : Bool) (X Y : Nat) : IV (decide (n1 ≠ n2)) (X * Y) = IV n1 X * IV n2 Y := by
  unfold IV; cases n1 <;> cases n2 <;> simp [Int.neg_mul, Int.mul_neg]
theorem dg_len_mul {xs ys : List Nat} (hx : Al 18446744073709551616 xs) (hy : Al 18446744073709551616 ys) : (dg 18446744073709551616 (vl 18446744073709551616 xs * vl 18446744073709551616 ys)).length ≤ xs.length + ys.length := by
  apply dg_len (by omega)
  rw [Nat.pow_add]
  exact Nat.mul_lt_mul'' (vl_lt hx) (vl_lt hy)

theorem ediv_of {n d k : Int} (hd : 0 < d) (h1 : d * k ≤ n) (h2 : n < d * k + d) : n / d = k := by
  have a := Int.emod_nonneg n (by omega : d ≠ 0)
  have b := Int.emod_lt_of_pos n hd
  have c := Int.mul_ediv_add_emod n d
  have e : d * (n / d - k) < d := by rw [Int.mul_sub]; omega
  have f : -d < d * (n / d - k) := by rw [Int.mul_sub]; omega
  have g1 : n / d - k < 1 := by
    refine Int.lt_of_not_ge fun hge => ?_
    have := Int.mul_le_mul_of_nonneg_left hge (Int.le_of_lt hd)
    omega
  have g2 : -1 < n / d - k := by
    refine Int.lt_of_not_ge fun hge => ?_
    have := Int.mul_le_mul_of_nonneg_left hge (Int.le_of_lt hd)
    rw [Int.mul_neg] at this
    omega
  omega
/-- The nearest whole number to a quotient; a half goes up. -/
def nearZ (z : Int) (Y : Nat) : Int := (2 * z + Y) / (2 * Y)
def nearQ (neg : Bool) (X Y : Nat) : Nat := X / Y + if Y < 2 * (X % Y) ∨ 2 * (X % Y) = Y ∧ (neg && decide (X ≠ 0)) = false then 1 else 0
theorem near_eq {neg : Bool} {X Y : Nat} (hY : 0 < Y) : nearZ (IV neg X) Y = IV neg (nearQ neg X Y) := by
  unfold nearZ nearQ
  have h1 := Nat.div_add_mod X Y
  have h2 := Nat.mod_lt X hY
  generalize X / Y = q at *
  generalize X % Y = r at *
  apply ediv_of (by omega)
  all_goals
    have hp : (Y : Int) * (q : Int) = ((Y * q : Nat) : Int) := by simp
    have hq0 : q = 0 → Y * q = 0 := fun h => by rw [h, Nat.mul_zero]
    unfold IV
    cases neg with
    | false =>
      simp only [Bool.false_and, and_true, Bool.false_eq_true, if_false]
      split <;> (simp only [Int.natCast_add, Int.mul_add, Int.mul_assoc, hp, Int.natCast_one, Int.natCast_zero, Int.mul_one, Int.mul_zero]; omega)
    | true =>
      simp only [Bool.true_and, decide_eq_false_iff_not, if_true]
      split <;> (simp only [Int.natCast_add, Int.mul_add, Int.mul_neg, Int.neg_add, Int.mul_assoc, hp, Int.natCast_one, Int.natCast_zero, Int.mul_one, Int.mul_zero]; omega)

end Go.Proofs.YtajgcmgkhmkmbaaDoor

/- Naturals: long division by bits of the reference, by contract. No condition. -/
namespace Go.Proofs.YtajgcmgkhmkmbaaDoor
set_option linter.unusedVariables false
set_option maxRecDepth 8000
open Go Go.Den Go.RowKit Go.Dig

/-- A bit more of what is divided. -/
theorem bit_step {V W x j t R Y : Nat} (hj : j ≤ 15) (h : V * 2 ^ (16 - (j + 1)) + x / 2 ^ (j + 1) = (W * 2 ^ (16 - (j + 1)) + t) * Y + R) :
    V * 2 ^ (16 - j) + x / 2 ^ j = (W * 2 ^ (16 - j) + 2 * t) * Y + (2 * R + x / 2 ^ j % 2) := by
  have e : 2 ^ (16 - j) = 2 * 2 ^ (16 - (j + 1)) := by rw [show 16 - j = (16 - (j + 1)) + 1 by omega, Nat.pow_succ, Nat.mul_comm]
  have d : x / 2 ^ (j + 1) = x / 2 ^ j / 2 := by rw [Nat.pow_succ, Nat.div_div_eq_div_mul]
  rw [d] at h
  have m := Nat.div_add_mod (x / 2 ^ j) 2
  have f0 : W * 2 ^ (16 - j) + 2 * t = 2 * (W * 2 ^ (16 - (j + 1)) + t) := by rw [e, Nat.mul_add, Nat.mul_left_comm]
  have f : (W * 2 ^ (16 - j) + 2 * t) * Y = 2 * ((W * 2 ^ (16 - (j + 1)) + t) * Y) := by rw [f0, Nat.mul_assoc]
  have g : V * 2 ^ (16 - j) = 2 * (V * 2 ^ (16 - (j + 1))) := by rw [e, Nat.mul_left_comm]
  rw [f, g]
  omega
theorem bit_take {A t R Y N : Nat} (h : N = (A + 2 * t) * Y + R) (hle : Y ≤ R) : N = (A + (2 * t + 1)) * Y + (R - Y) := by
  rw [h, ← Nat.add_assoc, Nat.add_mul (A + 2 * t) 1 Y, Nat.one_mul]; omega

theorem cmpI_ge {m n : Nat} : 0 ≤ cmpI m n ↔ n ≤ m := by
  unfold cmpI
  by_cases h1 : m < n
  · simp [h1]
  · by_cases h2 : n < m <;> simp [h1, h2] <;> omega
theorem tpow {t j : Nat} (hj : j ≤ 15) (ht : t < 2 ^ (16 - (j + 1))) : 2 * t + 1 < 2 ^ (16 - j) ∧ (2 * t + 1) * 2 ^ j < 65536 ∧ t * 2 ^ (j + 1) + 1 * 2 ^ j = (2 * t + 1) * 2 ^ j ∧ t * 2 ^ (j + 1) = 2 * t * 2 ^ j ∧ 1 * 2 ^ j < 9223372036854775808 ∧ t * 2 ^ (j + 1) + 1 * 2 ^ j < 9223372036854775808 := by
  have e : 2 ^ (16 - j) = 2 * 2 ^ (16 - (j + 1)) := by rw [show 16 - j = (16 - (j + 1)) + 1 by omega, Nat.pow_succ, Nat.mul_comm]
  have h1 : 2 * t + 1 < 2 ^ (16 - j) := by omega
  have h2 : (2 * t + 1) * 2 ^ j < 65536 := by
    have := Nat.mul_lt_mul_of_pos_right h1 (Nat.pow_pos (show 0 < 2 by omega) (n := j))
    rwa [← Nat.pow_add, show 16 - j + j = 16 by omega] at this
  have h3 : t * 2 ^ (j + 1) = 2 * t * 2 ^ j := by rw [Nat.pow_succ, Nat.mul_comm (2 ^ j) 2, ← Nat.mul_assoc, Nat.mul_comm t 2]
  have h4 : t * 2 ^ (j + 1) + 1 * 2 ^ j = (2 * t + 1) * 2 ^ j := by rw [h3, Nat.add_mul]
  have h5 : 1 * 2 ^ j ≤ (2 * t + 1) * 2 ^ j := Nat.mul_le_mul_right _ (by omega)
  refine ⟨h1, h2, h4, h3, by omega, by rw [h4]; omega⟩

end Go.Proofs.YtajgcmgkhmkmbaaDoor

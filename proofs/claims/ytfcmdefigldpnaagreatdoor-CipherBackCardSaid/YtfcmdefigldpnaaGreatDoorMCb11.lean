/- Texts NatL to NatN of this work, joined, without what the law does not lean on. -/
import Derived.Test.YtfcmdefigldpnaaGreatDoorMCb10
namespace Go.Proofs.YtfcmdefigldpnaaGreatDoor
set_option linter.unusedVariables false
set_option maxRecDepth 8000
open Go Go.Den Go.RowKit Go.Dig

theorem Tryz_ent204 : Ent Tryz.prog 204 := ent_of Tryz.func204 (by kernel_rfl) rfl
set_option maxHeartbeats 1600000 in
theorem plus_spec (va vb : Value) (xs ys : List Nat) (h : Hp) (ha : SlF h N va xs) (hb : SlF h N vb ys) (hx : Al 65536 xs) (hy : Al 65536 ys) (hl : xs.length < 1099511627776) (hl2 : ys.length < 1099511627776) :
    CallsH Tryz.prog 204 [va, vb] h fun v' h' => Ext h h' ∧ OwnF h' h.size 3 N v' (dg 65536 (vl 65536 xs + vl 65536 ys)) := by
  (apply enter Tryz.func204 rfl Tryz.ntmps204 rfl)
  refine runM ?_
  (first | (apply w_seqB; exact rfl; apply w_block; exact rfl) | skip)
  apply (w_loop (σ := Nat × Nat × Value × List Nat) rfl (fun p => [(0, va), (1, vb), (5, p.2.2.1), (6, N p.2.1), (7, N p.1)])
    (fun p h' => Ext h h' ∧ OwnF h' h.size 3 N p.2.2.1 p.2.2.2 ∧ p.2.2.2.length = p.1 ∧ Al 65536 p.2.2.2 ∧ p.2.1 ≤ 1 ∧ (p.1 ≤ max xs.length ys.length ∨ p.1 = max xs.length ys.length + 1 ∧ p.2.1 = 0) ∧
      vl 65536 p.2.2.2 + 65536 ^ p.1 * p.2.1 = pv 65536 xs p.1 + pv 65536 ys p.1) (fun p => 2 * (max xs.length ys.length - p.1) + p.2.1) (0, 0, .slice none 0 0, []))
  · exact subs
  · exact ⟨Ext.refl h, OwnF.nil _ _ _ _, rfl, Al.nil, by simp only []; omega, .inl (Nat.zero_le _), by simp [pv, vl]⟩
  · rintro ⟨i, c, v, os⟩ h1 ⟨e, o, i1, i2, i3, i4, i5⟩
    dsimp only at e o i1 i2 i3 i4 i5 ⊢
    have ha1 := ha.ext e
    have hb1 := hb.ext e
    have hil : i < 1099511627776 + 1 := by omega
    repeat (apply w_seq; exact rfl)
    apply (w_tcut (σ := Unit) (fun _ => [(0, va), (1, vb), (5, v), (6, N c), (7, N i), (21, .bool (decide (i < xs.length ∨ i < ys.length ∨ 0 < c)))]) (fun _ h' => h1 = h'))
    · refine runM ?_
      (apply s_splitG; exact rfl; exact rfl; exact rfl; exact rfl) <;> intro c1
      · refine runM ?_
        apply cut_normal ()
        · exact subsX
        · rfl
      · refine runM ?_
        (apply s_splitG; exact rfl; exact rfl; exact rfl; exact rfl) <;> intro c2
        · refine runM ?_
          apply cut_normal ()
          · exact subsX
          · rfl
        · refine runM ?_
          apply cut_normal ()
          · exact subsX
          · rfl
    · rintro _ _ rfl
      refine runM ?_
      (apply w_condD; exact rfl; exact rfl) <;> intro hc
      · refine runM ?_
        apply (s_call Tryz_ent201 rfl rfl rfl)
        refine (at_spec va xs i h1 ha1 (by omega)).mono ?_
        rintro _ _ ⟨rfl, rfl⟩
        refine clsI ?_
        have hxi := hx.getD (by omega) i
        have hyi := hy.getD (by omega) i
        have hst := add_step (b := 65536) (x := xs.getD i 0) (y := ys.getD i 0) i5
        have hx0 : xs.length ≤ i → xs.getD i 0 = 0 := getD_none
        have hy0 : ys.length ≤ i → ys.getD i 0 = 0 := getD_none
        generalize hxd : xs.getD i 0 = x at *
        refine runM ?_
        apply (s_call Tryz_ent201 rfl rfl rfl)
        refine (at_spec vb ys i h1 hb1 (by omega)).mono ?_
        rintro _ _ ⟨rfl, rfl⟩
        refine clsI ?_
        generalize hyd : ys.getD i 0 = y at *
        refine runM ?_
        rw [show c + x + y = x + y + c by omega]
        have hm : (x + y + c) % 65536 < 65536 := Nat.mod_lt _ (by omega)
        generalize hw1 : (x + y + c) % 65536 = w1 at *
        (refine s_app1 (bytes := 8) (w1) o e rfl rfl rfl rfl rfl rfl rfl rfl rfl (by first | exact rfl | exact congrArg some (congrArg I (by omega))) (fun _ => rfl) rfl rfl (fun _ _ => trivial) (by omega) (by simp only [maxLen]; omega) ?_)
        intro v3 h3 o3 e3 k3 b3
        refine runM ?_
        apply again_normal (i + 1, (x + y + c) / 65536, v3, os ++ [w1])
        · exact subs
        · refine ⟨e3, o3, by simp [i1], i2.snoc hm, by simp only []; omega, ?_, ?_⟩
          · simp only []; omega
          · simp only [pv]
            rw [vl_snoc, i1, Nat.pow_succ, hxd, hyd]
            exact hst
        · simp only []; omega
      · have hc0 : c = 0 := by omega
        subst hc0
        rw [Nat.mul_zero, Nat.add_zero, pv_full (by omega), pv_full (by omega)] at i5
        refine runM ?_
        apply (s_call Tryz_ent131 rfl rfl rfl)
        refine (trim_spec v os h1 o.sl (by omega)).mono ?_
        rintro v3 _ ⟨rfl, s3, o3⟩
        refine clsI ?_
        refine runM ?_
        refine fin1 rfl rfl ⟨e, ?_⟩
        have := o3 _ _ o
        rw [nrm_eq (by omega) i2, i5] at this
        exact this

theorem Tryz_ent205 : Ent Tryz.prog 205 := ent_of Tryz.func205 (by kernel_rfl) rfl
set_option maxHeartbeats 1600000 in
theorem less_spec (va vb : Value) (xs ys : List Nat) (h : Hp) (ha : SlF h N va xs) (hb : SlF h N vb ys) (hx : Al 65536 xs) (hy : Al 65536 ys) (hl : xs.length < 1099511627776) (hl2 : ys.length < 1099511627776) (hle : vl 65536 ys ≤ vl 65536 xs) :
    CallsH Tryz.prog 205 [va, vb] h fun v' h' => Ext h h' ∧ OwnF h' h.size 3 N v' (dg 65536 (vl 65536 xs - vl 65536 ys)) := by
  (apply enter Tryz.func205 rfl Tryz.ntmps205 rfl)
  refine runM ?_
  (first | (apply w_seqB; exact rfl; apply w_block; exact rfl) | skip)
  apply (w_loop (σ := Nat × Nat × Value × List Nat) rfl (fun p => [(0, va), (1, vb), (5, p.2.2.1), (6, N p.2.1), (7, N p.1)])
    (fun p h' => Ext h h' ∧ OwnF h' h.size 3 N p.2.2.1 p.2.2.2 ∧ p.2.2.2.length = p.1 ∧ Al 65536 p.2.2.2 ∧ p.2.1 ≤ 1 ∧ p.1 ≤ xs.length ∧
      vl 65536 p.2.2.2 + pv 65536 ys p.1 = pv 65536 xs p.1 + 65536 ^ p.1 * p.2.1) (fun p => xs.length - p.1) (0, 0, .slice none 0 0, []))
  · exact subs
  · exact ⟨Ext.refl h, OwnF.nil _ _ _ _, rfl, Al.nil, by simp only []; omega, Nat.zero_le _, by simp [pv, vl]⟩
  · rintro ⟨i, c, v, os⟩ h1 ⟨e, o, i1, i2, i3, i4, i5⟩
    dsimp only at e o i1 i2 i3 i4 i5 ⊢
    have ha1 := ha.ext e
    have hb1 := hb.ext e
    refine runM ?_
    (apply w_condD; exact rfl; exact rfl) <;> intro hi
    · have hxi := hx.getD (by omega) i
      have hyi := hy.getD (by omega) i
      refine runM ?_
      apply (s_call Tryz_ent201 rfl rfl rfl)
      refine (at_spec vb ys i h1 hb1 (by omega)).mono ?_
      rintro _ _ ⟨rfl, rfl⟩
      refine clsI ?_
      generalize hyd : ys.getD i 0 = y at *
      generalize hxd : xs.getD i 0 = x at *
      refine runM ?_
      (apply w_condD; exact rfl; exact rfl) <;> intro hneg
      · obtain ⟨w1, hw1⟩ : ∃ w1, w1 = x + 65536 - y - c := ⟨_, rfl⟩
        have hwl : w1 < 65536 := by omega
        have hst := less_step (b := 65536) (B := 65536 ^ i) (x := x) (y := y) (o := w1) (c' := 1) i5 (by omega)
        refine runM ?_
        (refine s_app1 (bytes := 8) (w1) o e rfl rfl rfl rfl rfl rfl rfl rfl rfl (by first | exact rfl | exact congrArg some (congrArg I (by omega))) (fun _ => rfl) rfl rfl (fun _ _ => trivial) (by omega) (by simp only [maxLen]; omega) ?_)
        intro v3 h3 o3 e3 k3 b3
        refine runM ?_
        apply again_normal (i + 1, 1, v3, os ++ [w1])
        · exact subs
        · refine ⟨e3, o3, by simp [i1], i2.snoc hwl, by simp only []; omega, hi, ?_⟩
          simp only [pv]
          rw [vl_snoc, i1, Nat.pow_succ, hxd, hyd]
          exact hst
        · simp only []; omega
      · obtain ⟨w1, hw1⟩ : ∃ w1, w1 = x - y - c := ⟨_, rfl⟩
        have hwl : w1 < 65536 := by omega
        have hst := less_step (b := 65536) (B := 65536 ^ i) (x := x) (y := y) (o := w1) (c' := 0) i5 (by omega)
        refine runM ?_
        (refine s_app1 (bytes := 8) (w1) o e rfl rfl rfl rfl rfl rfl rfl rfl rfl (by first | exact rfl | exact congrArg some (congrArg I (by omega))) (fun _ => rfl) rfl rfl (fun _ _ => trivial) (by omega) (by simp only [maxLen]; omega) ?_)
        intro v3 h3 o3 e3 k3 b3
        refine runM ?_
        apply again_normal (i + 1, 0, v3, os ++ [w1])
        · exact subs
        · refine ⟨e3, o3, by simp [i1], i2.snoc hwl, by simp only []; omega, hi, ?_⟩
          simp only [pv]
          rw [vl_snoc, i1, Nat.pow_succ, hxd, hyd]
          exact hst
        · simp only []; omega
    · have hie : i = xs.length := by omega
      subst hie
      have hvl := vl_lt i2
      rw [i1] at hvl
      rw [pv_full (xs := xs) (Nat.le_refl _), pv_of_lt (Nat.lt_of_le_of_lt hle (vl_lt hx))] at i5
      have hc0 : c = 0 := by
        rcases (by omega : c = 0 ∨ c = 1) with rfl | rfl
        · rfl
        · omega
      subst hc0
      have hv : vl 65536 os = vl 65536 xs - vl 65536 ys := by omega
      refine runM ?_
      apply (s_call Tryz_ent131 rfl rfl rfl)
      refine (trim_spec v os h1 o.sl (by omega)).mono ?_
      rintro v3 _ ⟨rfl, s3, o3⟩
      refine clsI ?_
      refine runM ?_
      refine fin1 rfl rfl ⟨e, ?_⟩
      have := o3 _ _ o
      rw [nrm_eq (by omega) i2, hv] at this
      exact this

theorem Tryz_ent183 : Ent Tryz.prog 183 := ent_of Tryz.func183 (by kernel_rfl) rfl
set_option maxHeartbeats 1600000 in
theorem times_spec (va vb : Value) (xs ys : List Nat) (h : Hp) (ha : SlF h N va xs) (hb : SlF h N vb ys) (hx : Al 65536 xs) (hy : Al 65536 ys) (hl : xs.length < 1099511627776) (hl2 : ys.length < 1099511627776) :
    CallsH Tryz.prog 183 [va, vb] h fun v' h' => Ext h h' ∧ OwnF h' h.size 3 N v' (dg 65536 (vl 65536 xs * vl 65536 ys)) := by
  (apply enter Tryz.func183 rfl Tryz.ntmps183 rfl)
  refine runM ?_
  (apply (s_make (f := N) (bytes := 8) (0)); (first | exact isK_c | exact isK_t rfl); (first | exact isK_c | exact isK_t rfl); exact rfl; exact rfl; exact rfl; exact rfl; exact rfl; exact rfl; omega; omega; omega)
  intro out h1 o1 e1 b1
  refine clsI ?_
  refine runM ?_
  (first | (apply w_seqB; exact rfl; apply w_block; exact rfl) | skip)
  apply (w_loop (σ := Nat × List Nat) rfl (fun p => [(0, va), (1, vb), (16, va), (17, N xs.length), (18, N p.1), (5, out)])
    (fun p h' => Ext h h' ∧ OwnF h' h.size 3 N out p.2 ∧ p.2.length = xs.length + ys.length + 1 ∧ p.1 ≤ xs.length ∧ Al 65536 p.2 ∧
      vl 65536 p.2 = pv 65536 xs p.1 * vl 65536 ys) (fun p => xs.length - p.1) (0, List.replicate (xs.length + ys.length + 1) 0))
  · exact subs
  · refine ⟨e1, o1, by simp, Nat.zero_le _, Al.replicate (by omega) _, ?_⟩
    simp only [vl_zeros, pv, Nat.zero_mul]
  · rintro ⟨i, os0⟩ h' ⟨e, o, i1, i2, i3, i4⟩
    dsimp only at e o i1 i2 i3 i4 ⊢
    have ha' := ha.ext e
    have hb' := hb.ext e
    refine runM ?_
    (apply w_condD; exact rfl; exact rfl) <;> intro hi
    · have hxi := hx.getD (by omega) i
      have hbd : vl 65536 os0 < 65536 ^ (i + ys.length) := by
        have h1 := pv_lt hx (by omega) i
        have h2 := vl_lt hy
        rw [i4, Nat.pow_add]
        exact Nat.mul_lt_mul'' h1 h2
      have hz := getD_of_lt (xs := os0) (j := i + ys.length) (by omega) hbd (Nat.le_refl _)
      refine runM ?_
      generalize hxd : xs.getD i 0 = x at *
      (first | (apply w_seqB; exact rfl; apply w_block; exact rfl) | skip)
      apply (w_loop (σ := Nat × Nat × List Nat) rfl (fun p => [(0, va), (1, vb), (16, va), (17, N xs.length), (18, N i), (5, out), (6, N i), (7, N p.2.1), (8, N p.1)])
        (fun p h' => Ext h h' ∧ OwnF h' h.size 3 N out p.2.2 ∧ p.2.2.length = xs.length + ys.length + 1 ∧ Al 65536 p.2.2 ∧ p.2.1 < 65536 ∧ (p.1 ≤ ys.length ∨ p.1 = ys.length + 1 ∧ p.2.1 = 0) ∧
          vl 65536 p.2.2 + 65536 ^ (i + p.1) * p.2.1 = vl 65536 os0 + 65536 ^ i * (x * pv 65536 ys p.1) ∧
          ∀ j, i + p.1 ≤ j → p.2.2.getD j 0 = os0.getD j 0) (fun p => ys.length + 1 - p.1) (0, 0, os0))
      · exact subs
      · exact ⟨e, o, i1, i3, by simp only []; omega, .inl (Nat.zero_le _), by simp [pv], fun _ _ => rfl⟩
      · rintro ⟨k, c, os⟩ h2 ⟨e', o', j1, j2, j3, j4, j5, j6⟩
        dsimp only at e' o' j1 j2 j3 j4 j5 j6 ⊢
        have ha2 := ha.ext e'
        have hb2 := hb.ext e'
        have hso := o'.sl
        repeat (apply w_seq; exact rfl)
        apply (w_tcut (σ := Unit) (fun _ => [(0, va), (1, vb), (16, va), (17, N xs.length), (18, N i), (5, out), (6, N i), (7, N c), (8, N k), (28, .bool (decide (k < ys.length ∨ 0 < c)))]) (fun _ h' => h2 = h'))
        · refine runM ?_
          (apply s_splitG; exact rfl; exact rfl; exact rfl; exact rfl) <;> intro c1
          · refine runM ?_
            apply cut_normal ()
            · exact subsX
            · rfl
          · refine runM ?_
            apply cut_normal ()
            · exact subsX
            · rfl
        · rintro _ _ rfl
          refine runM ?_
          (apply w_condD; exact rfl; exact rfl) <;> intro hc
          · have hkl : k ≤ ys.length := by omega
            have hyk := hy.getD (by omega) k
            have hok := j2.getD (by omega) (i + k)
            have hoe := j6 (i + k) (Nat.le_refl _)
            have hik : i + k < os.length := by omega
            have hy0 : ys.length ≤ k → ys.getD k 0 = 0 := getD_none
            have hst := times_step (b := 65536) (v' := vl 65536 (os.set (i + k) ((c + os.getD (i + k) 0 + x * ys.getD k 0) % 65536))) (y := ys.getD k 0) j5 (vl_set hik) (Nat.pow_add _ _ _) rfl
            refine runM ?_
            rw [hxd]
            apply (s_call Tryz_ent201 rfl rfl rfl)
            refine (at_spec vb ys k h2 hb2 (by omega)).mono ?_
            rintro _ _ ⟨rfl, rfl⟩
            refine clsI ?_
            generalize hyd : ys.getD k 0 = y at *
            generalize hod : os.getD (i + k) 0 = ov at *
            have hxy : x * y ≤ 65535 * 65535 := Nat.mul_le_mul (by omega) (by omega)
            have hxy0 : ys.length ≤ k → x * y = 0 := fun hh => by rw [hy0 hh, Nat.mul_zero]
            have hm : (c + ov + x * y) % 65536 < 65536 := Nat.mod_lt _ (by omega)
            refine runM ?_
            generalize x * y = p at *
            generalize hw1 : (c + ov + p) % 65536 = w1 at *
            (apply (s_storeF (w1)); exact rfl; exact rfl; exact rfl; exact rfl; exact rfl; exact o'; exact rfl; (first | assumption | omega))
            intro h3 o3 k3
            refine clsI ?_
            have e3 := o'.old k3 e' (Nat.le_refl _)
            refine runM ?_
            apply again_normal (k + 1, (c + ov + p) / 65536, os.set (i + k) w1)
            · exact subs
            · refine ⟨e3, o3, by simp [j1], j2.set hm _, by simp only []; omega, ?_, ?_, fun j hj => ?_⟩
              · simp only []
                rcases Nat.lt_or_ge k ys.length with hlt | hge
                · exact .inl hlt
                · have h5 : k = ys.length := by omega
                  have h6 : ov = 0 := by rw [hoe, h5]; exact hz
                  have h7 := hxy0 hge
                  exact .inr ⟨by omega, by omega⟩
              · simp only [pv]
                rw [← Nat.add_assoc, Nat.pow_succ, hyd]
                exact hst
              · simp only [] at hj ⊢
                rw [getD_set_other (by omega)]; exact j6 j (by omega)
            · simp only []; omega
          · have hc0 : c = 0 := by omega
            subst hc0
            rw [Nat.mul_zero, Nat.add_zero, pv_full (by omega)] at j5
            refine runM ?_
            apply again_normal (i + 1, os)
            · exact subs
            · refine ⟨e', o', j1, hi, j2, ?_⟩
              simp only [pv]
              rw [j5, i4, hxd, Nat.add_mul, Nat.mul_assoc]
            · simp only []; omega
    · refine runM ?_
      have hie : i = xs.length := by omega
      subst hie
      rw [pv_full (Nat.le_refl _)] at i4
      apply (s_call Tryz_ent131 rfl rfl rfl)
      refine (trim_spec out _ h' o.sl (by omega)).mono ?_
      rintro v3 _ ⟨rfl, s3, o3⟩
      refine clsI ?_
      refine runM ?_
      refine fin1 rfl rfl ⟨e, ?_⟩
      have := o3 _ _ o
      rw [nrm_eq (by omega) i3, i4] at this
      exact this

theorem Tryz_ent125 : Ent Tryz.prog 125 := ent_of Tryz.func125 (by kernel_rfl) rfl
theorem whole_spec (neg : Bool) (va : Value) (xs : List Nat) (h : Hp) (ha : SlF h U va xs) (hx : Al 18446744073709551616 xs) (hl : xs.length < 1099511627776) :
    CallsH Tryz.prog 125 [.bool neg, va] h fun v' h' => ∃ v, v' = .agg #[.bool (neg && decide (vl 18446744073709551616 xs ≠ 0)), v] ∧ Ext h h' ∧ SlF h' U v (dg 18446744073709551616 (vl 18446744073709551616 xs)) ∧
      ∀ B e, OwnF h B e U va xs → OwnF h' B e U v (dg 18446744073709551616 (vl 18446744073709551616 xs)) := by
  (apply enter Tryz.func125 rfl Tryz.ntmps125 rfl)
  refine runG ?_
  (apply s_alloc; exact rfl; exact rfl; exact rfl)
  intro p h1 v1 e1 b1
  (try dsimp only [Value.cells, List.toList_toArray] at v1)
  refine clsI ?_
  refine runG ?_
  have ha1 := ha.ext e1
  apply (s_call Tryz_ent126 rfl rfl rfl)
  refine (norm_spec' va xs h1 ha1 (by omega)).mono ?_
  rintro vn _ ⟨rfl, sn⟩
  refine clsI ?_
  rw [nrm_eq (by omega) hx] at sn
  have hz : (dg 18446744073709551616 (vl 18446744073709551616 xs)).length = 0 ↔ vl 18446744073709551616 xs = 0 := dg_len0 (by omega)
  generalize hX : vl 18446744073709551616 xs = X at *
  generalize hD : dg 18446744073709551616 X = D at *
  have hDl : D.length < 1099511627776 := by
    have := nrm_len xs
    rw [nrm_eq (b := 18446744073709551616) (by omega) hx, hX, hD] at this; omega
  have sn1 := (sn h1).1 ha1
  cases neg with
  | true =>
    refine runG ?_
    (apply (s_build ([.bool (decide (0 < D.length)), vn])); exact rfl; exact rfl; exact rfl; (repeat (first | exact CellsAll.nil | (apply CellsAll.cons; (first | exact oneL (by assumption) | exact oneL (SlF.one (by assumption)) | exact oneL (SlF.one (OwnF.sl (by assumption))) | exact oneL (Var.one (by assumption)) | exact rfl)))); exact rfl; exact rfl)
    refine runG ?_
    (apply s_storeV; exact rfl; exact rfl; exact rfl; (repeat (first | exact OneAll.nil | (apply OneAll.cons; (first | exact rfl | exact SlF.one (by assumption) | exact SlF.one (OwnF.sl (by assumption)) | exact Var.one (by assumption))))); exact rfl; exact rfl; exact v1; exact rfl)
    intro h2 v2 k2
    (try dsimp only [Value.cells, List.toList_toArray] at v2)
    refine ⟨(by first | exact trivial | exact Ext.refl _ | assumption | exact Ext.only (by assumption) _ | exact Only.trans (Ext.only (by assumption) _) (by assumption)), ?_⟩
    have e2 : Ext h h2 := k2.old e1 (by intro k hk; rw [b1] at hk; cases hk; exact Nat.le_refl _)
    refine runG ?_
    refine finC rfl rfl v2 rfl rfl ⟨vn, ?_, e2, (sn h2).1 (ha.ext e2), fun B e o => (sn h2).2 B e (o.ext e2)⟩
    have : (0 < D.length) ↔ X ≠ 0 := by omega
    simp only [this, Bool.true_and]
  | false =>
    refine runG ?_
    (apply (s_build ([.bool false, vn])); exact rfl; exact rfl; exact rfl; (repeat (first | exact CellsAll.nil | (apply CellsAll.cons; (first | exact oneL (by assumption) | exact oneL (SlF.one (by assumption)) | exact oneL (SlF.one (OwnF.sl (by assumption))) | exact oneL (Var.one (by assumption)) | exact rfl)))); exact rfl; exact rfl)
    refine runG ?_
    (apply s_storeV; exact rfl; exact rfl; exact rfl; (repeat (first | exact OneAll.nil | (apply OneAll.cons; (first | exact rfl | exact SlF.one (by assumption) | exact SlF.one (OwnF.sl (by assumption)) | exact Var.one (by assumption))))); exact rfl; exact rfl; exact v1; exact rfl)
    intro h2 v2 k2
    (try dsimp only [Value.cells, List.toList_toArray] at v2)
    refine ⟨(by first | exact trivial | exact Ext.refl _ | assumption | exact Ext.only (by assumption) _ | exact Only.trans (Ext.only (by assumption) _) (by assumption)), ?_⟩
    have e2 : Ext h h2 := k2.old e1 (by intro k hk; rw [b1] at hk; cases hk; exact Nat.le_refl _)
    refine runG ?_
    exact finC rfl rfl v2 rfl rfl ⟨vn, by rw [Bool.false_and], e2, (sn h2).1 (ha.ext e2), fun B e o => (sn h2).2 B e (o.ext e2)⟩

def IV (neg : Bool) (X : Nat) : Int := if neg then -(X : Int) else X
def IntOf (h : Hp) (B : Nat) (v : Value) (z : Int) : Prop := ∃ a, v = .agg #[.bool (decide (z < 0)), a] ∧ OwnF h B 26 U a (dg 18446744073709551616 z.natAbs)
theorem IntOf.ext {h h' : Hp} {B : Nat} {v : Value} {z : Int} (s : IntOf h B v z) (e : Ext h h') : IntOf h' B v z := by obtain ⟨a, h1, h2⟩ := s; exact ⟨a, h1, h2.ext e⟩
theorem IntOf.base {h : Hp} {B B' : Nat} {v : Value} {z : Int} (s : IntOf h B v z) (hB : B' ≤ B) : IntOf h B' v z := by obtain ⟨a, h1, h2⟩ := s; exact ⟨a, h1, h2.base hB⟩
theorem iv_abs (neg : Bool) (X : Nat) : (IV neg X).natAbs = X ∧ decide (IV neg X < 0) = (neg && decide (X ≠ 0)) := by
  unfold IV
  cases neg with
  | true => simp only [if_true, Int.natAbs_neg, Int.natAbs_natCast, Bool.true_and, true_and, decide_eq_decide]; omega
  | false => simp only [Bool.false_eq_true, if_false, Int.natAbs_natCast, Bool.false_and, true_and, decide_eq_false_iff_not]; omega
theorem IntOf.of {h : Hp} {B : Nat} {neg : Bool} {Z : Nat} {v : Value} (o : OwnF h B 26 U v (dg 18446744073709551616 Z)) : IntOf h B (.agg #[.bool (neg && decide (Z ≠ 0)), v]) (IV neg Z) := by
  obtain ⟨h1, h2⟩ := iv_abs neg Z
  exact ⟨v, by rw [h2], by rw [h1]; exact o⟩
theorem dg_len_add {X Y m : Nat} {xs ys : List Nat} (hx : Al 18446744073709551616 xs) (hy : Al 18446744073709551616 ys) (hX : vl 18446744073709551616 xs = X) (hY : vl 18446744073709551616 ys = Y) (h1 : xs.length ≤ m) (h2 : ys.length ≤ m) : (dg 18446744073709551616 (X + Y)).length ≤ m + 1 := by
  apply dg_len (by omega)
  have a := vl_lt hx
  have b := vl_lt hy
  have c : 18446744073709551616 ^ xs.length ≤ 18446744073709551616 ^ m := Nat.pow_le_pow_right (by omega) h1
  have d : 18446744073709551616 ^ ys.length ≤ 18446744073709551616 ^ m := Nat.pow_le_pow_right (by omega) h2
  rw [Nat.pow_succ]
  omega
theorem dg_len_le {X Y : Nat} {xs : List Nat} (hx : Al 18446744073709551616 xs) (hX : vl 18446744073709551616 xs = X) (h : Y ≤ X) : (dg 18446744073709551616 Y).length ≤ xs.length := by
  apply dg_len (by omega)
  have a := vl_lt hx
  omega

theorem cmpI_pos {m n : Nat} : 0 < cmpI m n ↔ n < m := by
  unfold cmpI
  by_cases h1 : m < n
  · simp [h1]; omega
  · by_cases h2 : n < m <;> simp [h1, h2]
theorem cmpI_zero {m n : Nat} : cmpI m n = 0 ↔ m = n := by
  unfold cmpI
  by_cases h1 : m < n
  · simp [h1]; omega
  · by_cases h2 : n < m <;> simp [h1, h2] <;> omega
theorem iv_mul (n1 n2 : Bool) (X Y : Nat) : IV (decide (n1 ≠ n2)) (X * Y) = IV n1 X * IV n2 Y := by
  unfold IV; cases n1 <;> cases n2 <;> simp [Int.neg_mul, Int.mul_neg]
theorem dg_len_mul {xs ys : List Nat} (hx : Al 18446744073709551616 xs) (hy : Al 18446744073709551616 ys) : (dg 18446744073709551616 (vl 18446744073709551616 xs * vl 18446744073709551616 ys)).length ≤ xs.length + ys.length := by
  apply dg_len (by omega)
  rw [Nat.pow_add]
  exact Nat.mul_lt_mul'' (vl_lt hx) (vl_lt hy)

theorem Tryz_ent63 : Ent Tryz.prog 63 := ent_of Tryz.func63 (by kernel_rfl) rfl
set_option maxHeartbeats 1600000 in
theorem ntimes_spec (n1 n2 : Bool) (va vb : Value) (xs ys : List Nat) (h : Hp) (ha : SlF h U va xs) (hb : SlF h U vb ys) (hx : Al 18446744073709551616 xs) (hy : Al 18446744073709551616 ys) (hl : xs.length < 274877906944) (hl2 : ys.length < 274877906944) :
    CallsH Tryz.prog 63 [.agg #[.bool n1, va], .agg #[.bool n2, vb]] h fun v' h' => Ext h h' ∧ IntOf h' h.size v' (IV n1 (vl 18446744073709551616 xs) * IV n2 (vl 18446744073709551616 ys)) := by
  (apply enter Tryz.func63 rfl Tryz.ntmps63 rfl)
  refine runG ?_
  (apply s_box; exact rfl; exact rfl; exact rfl; exact rfl)
  intro p h1 v1 e1 b1
  (try dsimp only [Value.cells, List.toList_toArray] at v1)
  refine clsI ?_
  refine runG ?_
  (apply s_box; exact rfl; exact rfl; exact rfl; exact rfl)
  intro q h2 v2 e2 b2
  (try dsimp only [Value.cells, List.toList_toArray] at v2)
  refine clsI ?_
  have v1' := v1.ext e2
  refine runG ?_
  (apply s_alloc; exact rfl; exact rfl; exact rfl)
  intro r h3 v3 e3 b3
  (try dsimp only [Value.cells, List.toList_toArray] at v3)
  refine clsI ?_
  have v1'' := v1'.ext e3
  have v2' := v2.ext e3
  have npr := v1'.ne_new b3 (Nat.le_refl _)
  have nqr := v2.ne_new b3 (Nat.le_refl _)
  have E3 := (e1.trans e2).trans e3
  have ha3 := ha.ext E3
  have hb3 := hb.ext E3
  have eh2 := e1.1
  have eh3 := e2.1
  have eh4 := e3.1
  have hr3 : h2.size < h3.size := by
    obtain ⟨k, hk, hlt⟩ := v3.blk
    rw [b3] at hk; cases hk; exact hlt
  refine runGN ?_
  (apply (r_drawnO (pblk r)); exact rfl; exact mixed; kernel_rfl)
  refine runG ?_
  apply (s_call Tryz_ent122 rfl rfl rfl)
  refine (nmul_spec va vb xs ys h3 ha3 hb3 hx hy (by omega) (by omega)).mono ?_
  rintro v4 h4 ⟨e4, o4⟩
  refine ⟨e4.only _, ?_⟩
  have hl4 := dg_len_mul hx hy
  refine runG ?_
  apply (s_call Tryz_ent125 rfl rfl rfl)
  refine (whole_spec (decide (n1 ≠ n2)) v4 _ h4 o4.sl (al_dg (by omega) _) (by omega)).mono ?_
  rintro _ h5 ⟨v5, rfl, e5, s5, o5⟩
  refine ⟨(e4.trans e5).only _, ?_⟩
  have o5 := o5 _ _ o4
  rw [vl_dg (by omega)] at o5
  rw [vl_dg (by omega)]
  have e35 := e4.trans e5
  have v3' := v3.ext e35
  refine runG ?_
  (apply s_storeV; exact rfl; exact rfl; exact rfl; (repeat (first | exact OneAll.nil | (apply OneAll.cons; (first | exact rfl | exact SlF.one (by assumption) | exact SlF.one (OwnF.sl (by assumption)) | exact Var.one (by assumption))))); exact rfl; exact rfl; exact v3'; exact rfl)
  intro h6 v6 k6
  (try dsimp only [Value.cells, List.toList_toArray] at v6)
  refine ⟨(by first | exact trivial | exact Ext.refl _ | assumption | exact Ext.only (by assumption) _ | exact Only.trans (Ext.only (by assumption) _) (by assumption)), ?_⟩
  have e6 := k6.oldV (E3.trans e35) b3 (by omega)
  have o6 := (o5.only k6 (o5.neV b3 hr3)).base (B' := h.size) (by omega)
  refine runG ?_
  exact finC rfl rfl v6 rfl rfl ⟨e6, by rw [← iv_mul]; exact IntOf.of o6⟩

theorem ediv_of {n d k : Int} (hd : 0 < d) (h1 : d * k ≤ n) (h2 : n < d * k + d) : n / d = k := by
  have a := Int.emod_nonneg n (by omega : d ≠ 0)
  have b := Int.emod_lt_of_pos n hd
  have c := Int.mul_ediv_add_emod n d
  have e : d * (n / d - k) < d := by rw [Int.mul_sub]; omega
  have f : -d < d * (n / d - k) := by rw [Int.mul_sub]; omega
  have g1 : n / d - k < 1 := by
    refine Int.lt_of_not_ge fun hge => ?_
    have := Int.mul_le_mul_of_nonneg_left hge (Int.le_of_lt hd)
    omega
  have g2 : -1 < n / d - k := by
    refine Int.lt_of_not_ge fun hge => ?_
    have := Int.mul_le_mul_of_nonneg_left hge (Int.le_of_lt hd)
    rw [Int.mul_neg] at this
    omega
  omega
def nearZ (z : Int) (Y : Nat) : Int := (2 * z + Y) / (2 * Y)
def nearQ (neg : Bool) (X Y : Nat) : Nat := X / Y + if Y < 2 * (X % Y) ∨ 2 * (X % Y) = Y ∧ (neg && decide (X ≠ 0)) = false then 1 else 0
theorem near_eq {neg : Bool} {X Y : Nat} (hY : 0 < Y) : nearZ (IV neg X) Y = IV neg (nearQ neg X Y) := by
  unfold nearZ nearQ
  have h1 := Nat.div_add_mod X Y
  have h2 := Nat.mod_lt X hY
  generalize X / Y = q at *
  generalize X % Y = r at *
  apply ediv_of (by omega)
  all_goals
    have hp : (Y : Int) * (q : Int) = ((Y * q : Nat) : Int) := by simp
    have hq0 : q = 0 → Y * q = 0 := fun h => by rw [h, Nat.mul_zero]
    unfold IV
    cases neg with
    | false =>
      simp only [Bool.false_and, and_true, Bool.false_eq_true, if_false]
      split <;> (simp only [Int.natCast_add, Int.mul_add, Int.mul_assoc, hp, Int.natCast_one, Int.natCast_zero, Int.mul_one, Int.mul_zero]; omega)
    | true =>
      simp only [Bool.true_and, decide_eq_false_iff_not, if_true]
      split <;> (simp only [Int.natCast_add, Int.mul_add, Int.mul_neg, Int.neg_add, Int.mul_assoc, hp, Int.natCast_one, Int.natCast_zero, Int.mul_one, Int.mul_zero]; omega)

theorem Tryz_ent62 : Ent Tryz.prog 62 := ent_of Tryz.func62 (by kernel_rfl) rfl
set_option maxHeartbeats 1600000 in
theorem nnear_spec (n1 : Bool) (va vb : Value) (xs ys : List Nat) (h : Hp) (ha : SlF h U va xs) (hb : SlF h U vb ys) (hx : Al 18446744073709551616 xs) (hy : Al 18446744073709551616 ys) (hl : xs.length < 274877906944) (hl2 : ys.length < 274877906944) :
    CallsH Tryz.prog 62 [.agg #[.bool n1, va], vb] h fun v' h' => Ext h h' ∧ ∃ w, v' = .tuple #[w, N (if vl 18446744073709551616 ys = 0 then 1 else 0)] ∧ IntOf h' h.size w (if vl 18446744073709551616 ys = 0 then 0 else nearZ (IV n1 (vl 18446744073709551616 xs)) (vl 18446744073709551616 ys)) := by
  (apply enter Tryz.func62 rfl Tryz.ntmps62 rfl)
  refine runG ?_
  (apply s_box; exact rfl; exact rfl; exact rfl; exact rfl)
  intro p h1 v1 e1 b1
  (try dsimp only [Value.cells, List.toList_toArray] at v1)
  refine clsI ?_
  refine runG ?_
  (apply s_alloc; exact rfl; exact rfl; exact rfl)
  intro r h2 v2 e2 b2
  (try dsimp only [Value.cells, List.toList_toArray] at v2)
  refine clsI ?_
  have v1' := v1.ext e2
  have npr := v1.ne_new b2 (Nat.le_refl _)
  have E2 := e1.trans e2
  have ha2 := ha.ext E2
  have hb2 := hb.ext E2
  have eh1 := e1.1
  have eh2 := e2.1
  have hr2 : h1.size < h2.size := by
    obtain ⟨k, hk, hlt⟩ := v2.blk
    rw [b2] at hk; cases hk; exact hlt
  refine runG ?_
  apply (s_call Tryz_ent123 rfl rfl rfl)
  refine (ndiv_spec va vb xs ys h2 ha2 hb2 hx hy (by omega) (by omega)).mono ?_
  rintro _ h3 ⟨q, s, rfl, e3, o3, o3'⟩
  refine clsI ?_
  have v1'' := v1'.ext e3
  have v2' := v2.ext e3
  generalize hX : vl 18446744073709551616 xs = X at *
  generalize hY : vl 18446744073709551616 ys = Y at *
  by_cases hY0 : Y = 0
  · rw [if_pos hY0, if_pos hY0] at *
    refine runG ?_
    (apply (s_build ([.bool false, .slice none 0 0])); exact rfl; exact rfl; exact rfl; (repeat (first | exact CellsAll.nil | (apply CellsAll.cons; (first | exact oneL (by assumption) | exact oneL (SlF.one (by assumption)) | exact oneL (SlF.one (OwnF.sl (by assumption))) | exact oneL (Var.one (by assumption)) | exact rfl)))); exact rfl; exact rfl)
    refine runG ?_
    (apply s_storeV; exact rfl; exact rfl; exact rfl; (repeat (first | exact OneAll.nil | (apply OneAll.cons; (first | exact rfl | exact SlF.one (by assumption) | exact SlF.one (OwnF.sl (by assumption)) | exact Var.one (by assumption))))); exact rfl; exact rfl; exact v2'; exact rfl)
    intro h4 v4 k4
    (try dsimp only [Value.cells, List.toList_toArray] at v4)
    refine ⟨(by first | exact trivial | exact Ext.refl _ | assumption | exact Ext.only (by assumption) _ | exact Only.trans (Ext.only (by assumption) _) (by assumption)), ?_⟩
    have e4 := k4.oldV (E2.trans e3) b2 (by omega)
    refine runG ?_
    exact finCT rfl rfl rfl v4 rfl rfl ⟨e4, _, rfl, ⟨_, rfl, OwnF.nil _ _ _ _⟩⟩
  · rw [if_neg hY0, if_neg hY0, near_eq (by omega)]
    rw [if_neg hY0] at o3'
    have hlq := dg_len_le (Y := X / Y) hx hX (Nat.div_le_self _ _)
    have hlr := dg_len_le (Y := X % Y) hx hX (Nat.mod_le _ _)
    have hb3 := hb2.ext e3
    have ha3 := ha2.ext e3
    refine runG ?_
    apply (s_call Tryz_ent124 rfl rfl rfl)
    refine (nadd_spec s s _ _ h3 o3'.sl o3'.sl (al_dg (by omega) _) (al_dg (by omega) _) (by omega) (by omega)).mono ?_
    rintro v4 h4 ⟨e4, o4⟩
    refine clsI ?_
    rw [vl_dg (by omega)] at o4
    have hb4 := hb3.ext e4
    have hls := dg_len_add (m := xs.length) (al_dg (b := 18446744073709551616) (by omega) (X % Y)) (al_dg (b := 18446744073709551616) (by omega) (X % Y)) rfl rfl (by omega) (by omega)
    rw [vl_dg (by omega)] at hls
    refine runG ?_
    apply (s_call Tryz_ent70 rfl rfl rfl)
    refine (cmp_spec v4 vb _ ys h4 o4.sl hb4 (al_dg (by omega) _) hy (by omega) (by omega)).mono ?_
    rintro _ _ ⟨rfl, rfl⟩
    refine clsI ?_
    rw [vl_dg (by omega), hY]
    have ha4 := ha3.ext e4
    have v1a := v1''.ext e4
    have o34 := o3.ext e4
    refine runGN ?_
    apply (s_tcut2 (σ := Value) (fun v => [(2, p), (4, r), (6, v)]) (fun v h' => Ext h4 h' ∧ OwnF h' h2.size 26 U v (dg 18446744073709551616 (nearQ n1 X Y))))
    · (apply s_splitG; exact rfl; exact rfl; exact rfl; exact rfl) <;> intro c1
      · rw [cmpI_pos] at c1
        have hq : nearQ n1 X Y = X / Y + 1 := by unfold nearQ; rw [if_pos (.inl (by omega))]
        rw [hq]
        refine runG ?_
        (apply (s_litF (f := U) [1] (fun _ => rfl)); exact rfl; exact rfl; exact rfl; exact rfl; exact rfl; exact rfl; exact rfl; exact rfl; omega)
        intro v5 h5 o5 e5 b5
        refine clsI ?_
        have o35 := (o34.ext (Ext.refl h4)).ext e5
        refine runG ?_
        apply (s_call Tryz_ent124 rfl rfl rfl)
        refine (nadd_spec q v5 _ _ h5 o35.sl o5.sl (al_dg (by omega) _) (Al.cons (by omega) Al.nil) (by omega) (by simp)).mono ?_
        rintro v6 h6 ⟨e6, o6⟩
        refine clsI ?_
        rw [vl_dg (by omega)] at o6
        refine runG ?_
        apply cut_normal v6
        · exact subs
        · exact ⟨((Ext.refl h4).trans e5).trans e6, (by simpa [vl] using o6.base (B' := h2.size) (by have := e5.1; have := (Ext.refl h4).1; have := e4.1; have := e3.1; omega))⟩
      · rw [cmpI_pos] at c1
        refine runG ?_
        (apply s_splitG; exact rfl; exact rfl; exact rfl; exact rfl) <;> intro c2
        · rw [cmpI_zero] at c2
          refine runG ?_
          apply (s_call Tryz_ent125 rfl rfl rfl)
          refine (whole_spec n1 va xs h4 ha4 hx (by omega)).mono ?_
          rintro _ h7 ⟨v7, rfl, e7, -, -⟩
          refine clsI ?_
          rw [hX]
          refine runG ?_
          (apply w_cond; exact rfl; exact rfl) <;> intro c3
          · have hq : nearQ n1 X Y = X / Y + 1 := by unfold nearQ; rw [if_pos (.inr ⟨by omega, (Bool.not_eq_true' _).mp c3⟩)]
            rw [hq]
            refine runG ?_
            (apply (s_litF (f := U) [1] (fun _ => rfl)); exact rfl; exact rfl; exact rfl; exact rfl; exact rfl; exact rfl; exact rfl; exact rfl; omega)
            intro v5 h5 o5 e5 b5
            refine clsI ?_
            have o35 := (o34.ext e7).ext e5
            refine runG ?_
            apply (s_call Tryz_ent124 rfl rfl rfl)
            refine (nadd_spec q v5 _ _ h5 o35.sl o5.sl (al_dg (by omega) _) (Al.cons (by omega) Al.nil) (by omega) (by simp)).mono ?_
            rintro v6 h6 ⟨e6, o6⟩
            refine clsI ?_
            rw [vl_dg (by omega)] at o6
            refine runG ?_
            apply cut_normal v6
            · exact subs
            · exact ⟨(e7.trans e5).trans e6, (by simpa [vl] using o6.base (B' := h2.size) (by have := e5.1; have := e7.1; have := e4.1; have := e3.1; omega))⟩
          · have hq : nearQ n1 X Y = X / Y := by
              unfold nearQ; rw [if_neg, Nat.add_zero]
              rintro (hh | ⟨-, hh⟩)
              · omega
              · rw [hh] at c3; cases c3
            rw [hq]
            refine runG ?_
            apply cut_normal q
            · exact subs
            · exact ⟨e7, o34.ext e7⟩
        · rw [cmpI_zero] at c2
          have hq : nearQ n1 X Y = X / Y := by unfold nearQ; rw [if_neg (by omega), Nat.add_zero]
          rw [hq]
          refine runG ?_
          apply cut_normal q
          · exact subs
          · exact ⟨Ext.refl h4, o34⟩
    · rintro v6 h6 ⟨e6, o6⟩
      have v1b := v1a.ext e6
      have hq0 : nearQ n1 X Y ≤ X + 1 := by
        have := Nat.div_le_self X Y
        unfold nearQ; split <;> omega
      have hl6 : (dg 18446744073709551616 (nearQ n1 X Y)).length ≤ xs.length + 1 := by
        apply dg_len (by omega)
        have := vl_lt hx
        rw [hX] at this
        rw [Nat.pow_succ]
        omega
      refine runG ?_
      apply (s_call Tryz_ent125 rfl rfl rfl)
      refine (whole_spec n1 v6 _ h6 o6.sl (al_dg (by omega) _) (by omega)).mono ?_
      rintro _ h7 ⟨v7, rfl, e7, -, o7⟩
      refine clsI ?_
      have o7 := o7 _ _ o6
      rw [vl_dg (by omega)] at o7
      rw [vl_dg (by omega)]
      have v2b := ((v2'.ext e4).ext e6).ext e7
      refine runG ?_
      (apply s_storeV; exact rfl; exact rfl; exact rfl; (repeat (first | exact OneAll.nil | (apply OneAll.cons; (first | exact rfl | exact SlF.one (by assumption) | exact SlF.one (OwnF.sl (by assumption)) | exact Var.one (by assumption))))); exact rfl; exact rfl; exact v2b; exact rfl)
      intro h8 v8 k8
      (try dsimp only [Value.cells, List.toList_toArray] at v8)
      refine ⟨(by first | exact trivial | exact Ext.refl _ | assumption | exact Ext.only (by assumption) _ | exact Only.trans (Ext.only (by assumption) _) (by assumption)), ?_⟩
      have e8 := k8.oldV ((((E2.trans e3).trans e4).trans e6).trans e7) b2 (by omega)
      have o8 := (o7.only k8 (o7.neV b2 (by omega))).base (B' := h.size) (by omega)
      refine runG ?_
      exact finCT rfl rfl rfl v8 rfl rfl ⟨e8, _, rfl, IntOf.of o8⟩

theorem bit_step {V W x j t R Y : Nat} (hj : j ≤ 15) (h : V * 2 ^ (16 - (j + 1)) + x / 2 ^ (j + 1) = (W * 2 ^ (16 - (j + 1)) + t) * Y + R) :
    V * 2 ^ (16 - j) + x / 2 ^ j = (W * 2 ^ (16 - j) + 2 * t) * Y + (2 * R + x / 2 ^ j % 2) := by
  have e : 2 ^ (16 - j) = 2 * 2 ^ (16 - (j + 1)) := by rw [show 16 - j = (16 - (j + 1)) + 1 by omega, Nat.pow_succ, Nat.mul_comm]
  have d : x / 2 ^ (j + 1) = x / 2 ^ j / 2 := by rw [Nat.pow_succ, Nat.div_div_eq_div_mul]
  rw [d] at h
  have m := Nat.div_add_mod (x / 2 ^ j) 2
  have f0 : W * 2 ^ (16 - j) + 2 * t = 2 * (W * 2 ^ (16 - (j + 1)) + t) := by rw [e, Nat.mul_add, Nat.mul_left_comm]
  have f : (W * 2 ^ (16 - j) + 2 * t) * Y = 2 * ((W * 2 ^ (16 - (j + 1)) + t) * Y) := by rw [f0, Nat.mul_assoc]
  have g : V * 2 ^ (16 - j) = 2 * (V * 2 ^ (16 - (j + 1))) := by rw [e, Nat.mul_left_comm]
  rw [f, g]
  omega
theorem bit_take {A t R Y N : Nat} (h : N = (A + 2 * t) * Y + R) (hle : Y ≤ R) : N = (A + (2 * t + 1)) * Y + (R - Y) := by
  rw [h, ← Nat.add_assoc, Nat.add_mul (A + 2 * t) 1 Y, Nat.one_mul]; omega

theorem cmpI_ge {m n : Nat} : 0 ≤ cmpI m n ↔ n ≤ m := by
  unfold cmpI
  by_cases h1 : m < n
  · simp [h1]
  · by_cases h2 : n < m <;> simp [h1, h2] <;> omega
theorem tpow {t j : Nat} (hj : j ≤ 15) (ht : t < 2 ^ (16 - (j + 1))) : 2 * t + 1 < 2 ^ (16 - j) ∧ (2 * t + 1) * 2 ^ j < 65536 ∧ t * 2 ^ (j + 1) + 1 * 2 ^ j = (2 * t + 1) * 2 ^ j ∧ t * 2 ^ (j + 1) = 2 * t * 2 ^ j ∧ 1 * 2 ^ j < 9223372036854775808 ∧ t * 2 ^ (j + 1) + 1 * 2 ^ j < 9223372036854775808 := by
  have e : 2 ^ (16 - j) = 2 * 2 ^ (16 - (j + 1)) := by rw [show 16 - j = (16 - (j + 1)) + 1 by omega, Nat.pow_succ, Nat.mul_comm]
  have h1 : 2 * t + 1 < 2 ^ (16 - j) := by omega
  have h2 : (2 * t + 1) * 2 ^ j < 65536 := by
    have := Nat.mul_lt_mul_of_pos_right h1 (Nat.pow_pos (show 0 < 2 by omega) (n := j))
    rwa [← Nat.pow_add, show 16 - j + j = 16 by omega] at this
  have h3 : t * 2 ^ (j + 1) = 2 * t * 2 ^ j := by rw [Nat.pow_succ, Nat.mul_comm (2 ^ j) 2, ← Nat.mul_assoc, Nat.mul_comm t 2]
  have h4 : t * 2 ^ (j + 1) + 1 * 2 ^ j = (2 * t + 1) * 2 ^ j := by rw [h3, Nat.add_mul]
  have h5 : 1 * 2 ^ j ≤ (2 * t + 1) * 2 ^ j := Nat.mul_le_mul_right _ (by omega)
  refine ⟨h1, h2, h4, h3, by omega, by rw [h4]; omega⟩

theorem Tryz_ent198 : Ent Tryz.prog 198 := ent_of Tryz.func198 (by kernel_rfl) rfl
set_option maxHeartbeats 4000000 in
theorem parts_spec (va vb : Value) (xs ys : List Nat) (h : Hp) (ha : SlF h N va xs) (hb : SlF h N vb ys) (hx : Al 65536 xs) (hy : Al 65536 ys) (hyn : nrm ys = ys) (hl : xs.length < 549755813888) (hl2 : ys.length < 549755813888) (hY0 : 0 < vl 65536 ys) :
    CallsH Tryz.prog 198 [va, vb] h fun v' h' => ∃ q r, v' = .tuple #[q, r] ∧ Ext h h' ∧ OwnF h' h.size 3 N q (dg 65536 (vl 65536 xs / vl 65536 ys)) ∧ OwnF h' h.size 3 N r (dg 65536 (vl 65536 xs % vl 65536 ys)) := by
  have hYl := vl_lt hy
  generalize hY : vl 65536 ys = Y at *
  (apply enter Tryz.func198 rfl Tryz.ntmps198 rfl)
  refine runG ?_
  (apply (s_make (f := N) (bytes := 8) (0)); (first | exact isK_c | exact isK_t rfl); (first | exact isK_c | exact isK_t rfl); exact rfl; exact rfl; exact rfl; exact rfl; exact rfl; exact rfl; omega; omega; omega)
  intro qv h1 o1 e1 b1
  refine clsI ?_
  refine runG ?_
  (first | (apply w_seqB; exact rfl; apply w_block; exact rfl) | skip)
  apply (w_loop (σ := Nat × Value × Nat × List Nat) rfl (fun p => [(0, va), (1, vb), (6, qv), (7, p.2.1), (8, I ((p.1 : Int) - 1))])
    (fun p h' => Ext h h' ∧ h1.size ≤ h'.size ∧ OwnF h' h.size 3 N qv p.2.2.2 ∧ OwnF h' h1.size 3 N p.2.1 (dg 65536 p.2.2.1) ∧ p.2.2.2.length = xs.length ∧ p.1 ≤ xs.length ∧ Al 65536 p.2.2.2 ∧ p.2.2.1 < Y ∧
      vl 65536 (xs.drop p.1) = vl 65536 (p.2.2.2.drop p.1) * Y + p.2.2.1 ∧ ∀ j, j < p.1 → p.2.2.2.getD j 0 = 0) (fun p => p.1) (xs.length, .slice none 0 0, 0, List.replicate xs.length 0))
  · exact subsX
  · refine ⟨e1, Nat.le_refl _, o1, OwnF.nil _ _ _ _, by simp, Nat.le_refl _, Al.replicate (by omega) _, hY0, ?_, fun j hj => ?_⟩
    · simp [List.drop_of_length_le, vl]
    · simp only [] at hj ⊢
      simp [hj]
  · rintro ⟨k, rv, R, qs0⟩ h2 ⟨e2, hs2, q2, r2, i1, i2, i3, i4, i5, i6⟩
    dsimp only at e2 hs2 q2 r2 i1 i2 i3 i4 i5 i6 ⊢
    refine runG ?_
    (apply w_condD; exact rfl; exact rfl) <;> intro hk
    · obtain ⟨i, rfl⟩ : ∃ i, k = i + 1 := ⟨k - 1, by omega⟩
      (apply w_know (t := 8) (u := N (i)) rfl (congrArg I (by omega)))
      have hxi := hx.getD (by omega) i
      have hq0 := i6 i (by omega)
      refine runG ?_
      (first | (apply w_seqB; exact rfl; apply w_block; exact rfl) | skip)
      apply (w_loop (σ := Nat × Value × Nat × Nat × List Nat) rfl (fun p => [(0, va), (1, vb), (6, qv), (7, p.2.1), (8, N i), (9, I ((p.1 : Int) - 1))])
        (fun p h' => Ext h h' ∧ h1.size ≤ h'.size ∧ OwnF h' h.size 3 N qv p.2.2.2.2 ∧ OwnF h' h1.size 3 N p.2.1 (dg 65536 p.2.2.1) ∧ p.2.2.2.2.length = xs.length ∧ p.1 ≤ 16 ∧ Al 65536 p.2.2.2.2 ∧ p.2.2.1 < Y ∧
          vl 65536 (xs.drop (i + 1)) * 2 ^ (16 - p.1) + xs.getD i 0 / 2 ^ p.1 = (vl 65536 (qs0.drop (i + 1)) * 2 ^ (16 - p.1) + p.2.2.2.1) * Y + p.2.2.1 ∧ p.2.2.2.2.drop (i + 1) = qs0.drop (i + 1) ∧
          p.2.2.2.2.getD i 0 = p.2.2.2.1 * 2 ^ p.1 ∧ p.2.2.2.1 < 2 ^ (16 - p.1) ∧ ∀ j, j < i → p.2.2.2.2.getD j 0 = 0) (fun p => p.1) (16, rv, R, 0, qs0))
      · exact subsX
      · refine ⟨e2, hs2, q2, r2, i1, Nat.le_refl _, i3, i4, ?_, rfl, by rw [hq0]; simp, by simp, fun j hj => i6 j (by omega)⟩
        simp only [Nat.sub_self, Nat.pow_zero, Nat.mul_one, Nat.add_zero]
        rw [Nat.div_eq_of_lt hxi, Nat.add_zero]; exact i5
      · rintro ⟨kk, rv, R, t, qs⟩ h3 ⟨e3, hs3, q3, r3, j1, j2, j3, j4, j5, j6, j7, j8, j9⟩
        dsimp only at e3 hs3 q3 r3 j1 j2 j3 j4 j5 j6 j7 j8 j9 ⊢
        refine runG ?_
        (apply w_condD; exact rfl; exact rfl) <;> intro hkk
        · obtain ⟨j, rfl⟩ : ∃ j, kk = j + 1 := ⟨kk - 1, by omega⟩
          (apply w_know (t := 9) (u := N (j)) rfl (congrArg I (by omega)))
          have hst := bit_step (by omega) j5
          have hRl : (dg 65536 R).length ≤ ys.length := dg_len (by omega) (by omega)
          have hR2 : ∀ Z, Z < 2 * Y → (dg 65536 Z).length ≤ ys.length + 1 := fun Z hZ => dg_len (by omega) (by rw [Nat.pow_succ]; omega)
          refine runG ?_
          apply (s_call Tryz_ent204 rfl rfl rfl)
          refine (plus_spec rv rv _ _ h3 r3.sl r3.sl (al_dg (by omega) _) (al_dg (by omega) _) (by omega) (by omega)).mono ?_
          rintro v4 h4 ⟨e4, o4⟩
          refine clsI ?_
          rw [vl_dg (by omega)] at o4
          have ha4 := ha.ext (e3.trans e4)
          have hR3 := hR2 (R + R) (by omega)
          have hjj : j ≤ 64 := by omega
          have hxj : xs.getD i 0 / 2 ^ j < 65536 := Nat.lt_of_le_of_lt (Nat.div_le_self _ _) hxi
          refine runG ?_
          generalize hbd : xs.getD i 0 / 2 ^ j % 2 = bit at *
          have hb2 : bit < 2 := by omega
          (apply (s_litF (f := N) [bit] (fun _ => rfl)); exact rfl; exact rfl; exact rfl; exact rfl; exact rfl; exact rfl; exact rfl; exact rfl; omega)
          intro v5 h5 o5 e5 b5
          refine clsI ?_
          have e35 := e4.trans e5
          have o45 := o4.ext e5
          refine runG ?_
          apply (s_call Tryz_ent131 rfl rfl rfl)
          refine (trim_spec v5 [bit] h5 o5.sl (by simp)).mono ?_
          rintro v6 _ ⟨rfl, s6, -⟩
          refine clsI ?_
          rw [nrm_eq (b := 65536) (by omega) (Al.cons (by omega) Al.nil)] at s6
          have hbl : (dg 65536 (vl 65536 [bit])).length ≤ 1 := dg_len (by omega) (by simp [vl]; omega)
          refine runG ?_
          apply (s_call Tryz_ent204 rfl rfl rfl)
          refine (plus_spec v4 v6 _ _ h5 o45.sl s6 (al_dg (by omega) _) (al_dg (by omega) _) (by omega) (by omega)).mono ?_
          rintro v7 h7 ⟨e7, o7⟩
          refine clsI ?_
          rw [vl_dg (by omega), vl_dg (by omega), show R + R + vl 65536 [bit] = 2 * R + bit by simp [vl]; omega] at o7
          generalize hR' : 2 * R + bit = R2 at *
          have e37 := e35.trans e7
          have hb7 := hb.ext (e3.trans e37)
          have hR4 := hR2 R2 (by omega)
          refine runG ?_
          apply (s_call Tryz_ent74 rfl rfl rfl)
          refine (compare_spec v7 vb _ ys h7 o7.sl hb7 (al_dg (by omega) _) (nrm_dg (by omega) _) hy hyn (by omega) (by omega)).mono ?_
          rintro _ _ ⟨rfl, rfl⟩
          refine clsI ?_
          rw [vl_dg (by omega), hY]
          obtain ⟨tp1, tp2, tp3, tp4, tp5, tp6⟩ := tpow (by omega) j8
          have hil : i < qs.length := by omega
          have hh7 := e37.1
          have hh5 := e35.1
          have nqr := OwnF.ne' q3 o7 (by have := q3.blk; omega)
          have q7 := q3.ext e37
          refine runG ?_
          (apply w_condD; exact rfl; exact rfl) <;> intro hge
          · rw [cmpI_ge] at hge
            refine runG ?_
            apply (s_call Tryz_ent205 rfl rfl rfl)
            refine (less_spec v7 vb _ ys h7 o7.sl hb7 (al_dg (by omega) _) hy (by omega) (by omega) (by rw [vl_dg (by omega), hY]; exact hge)).mono ?_
            rintro v8 h8 ⟨e8, o8⟩
            refine clsI ?_
            rw [vl_dg (by omega), hY] at o8
            have q8 := q7.ext e8
            have hh8 := e8.1
            have nrq := OwnF.ne q7 o8 (Nat.le_refl _)
            refine runG ?_
            rw [j7]
            refine runG ?_
            rw [tp3]
            have htk := bit_take hst hge
            generalize hqi : (2 * t + 1) * 2 ^ j = qi at *
            (apply (s_storeF (qi)); exact rfl; exact rfl; exact rfl; exact rfl; exact rfl; exact q8; exact rfl; (first | assumption | omega))
            intro h9 q9 k9
            refine clsI ?_
            have e9 := q8.old k9 ((e3.trans e37).trans e8) (Nat.le_refl _)
            have o9 := (o8.only k9 nrq).base (B' := h1.size) (by omega)
            have hh9 := k9.1
            refine runG ?_
            apply again_normal (j, v8, R2 - Y, 2 * t + 1, qs.set i qi)
            · exact subs
            · refine ⟨e9, by (try simp only []); omega, q9, o9, by simpa using j1, by (try simp only []); omega, j3.set tp2 _, by (try simp only []); omega, htk, ?_, ?_, tp1, fun m hm => ?_⟩
              · (try simp only []); rw [List.drop_set_of_lt (by omega)]; exact j6
              · (try simp only []); rw [getD_set_self hil, hqi]
              · (try simp only [] at hm ⊢); rw [getD_set_other (by omega)]; exact j9 m hm
            · exact Nat.lt_succ_self j
          · rw [cmpI_ge] at hge
            have o9 := o7.base (B' := h1.size) (by omega)
            refine runG ?_
            apply again_normal (j, v7, R2, 2 * t, qs)
            · exact subs
            · exact ⟨e3.trans e37, by (try simp only []); omega, q7, o9, j1, by (try simp only []); omega, j3, by (try simp only []); omega, hst, j6, by (try simp only []); rw [j7, tp4], by (try simp only []); omega, j9⟩
            · exact Nat.lt_succ_self j
        · obtain rfl : kk = 0 := by omega
          simp only [Nat.sub_zero, Nat.pow_zero, Nat.div_one, Nat.mul_one] at j5 j7 j8
          refine runG ?_
          apply again_normal (i, rv, R, qs)
          · exact subs
          · refine ⟨e3, hs3, q3, r3, j1, by (try simp only []); omega, j3, j4, ?_, j9⟩
            (try simp only [])
            rw [vl_drop_head (by omega : i < xs.length), vl_drop_head (by omega : i < qs.length), j6, j7, Nat.add_comm (xs.getD i 0), Nat.add_comm t, Nat.mul_comm 65536, Nat.mul_comm 65536]
            exact j5
          · exact Nat.lt_succ_self i
    · obtain rfl : k = 0 := by omega
      simp only [List.drop_zero] at i5
      obtain ⟨f1, f2⟩ := div_mod_of (X := vl 65536 xs) (q := vl 65536 qs0) (r := R) (by omega) i4
      refine runG ?_
      apply (s_call Tryz_ent131 rfl rfl rfl)
      refine (trim_spec qv qs0 h2 q2.sl (by omega)).mono ?_
      rintro v6 _ ⟨rfl, s6, o6⟩
      refine clsI ?_
      have o6 := o6 _ _ q2
      rw [nrm_eq (by omega) i3, f1] at o6
      rw [f2] at r2
      have := e1.1
      refine runG ?_
      exact fin2 rfl rfl rfl ⟨_, _, rfl, e2, o6, r2.base this⟩
end Go.Proofs.YtfcmdefigldpnaaGreatDoor


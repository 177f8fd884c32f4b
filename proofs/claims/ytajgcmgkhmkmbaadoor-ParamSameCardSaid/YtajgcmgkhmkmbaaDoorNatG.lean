/- Naturals: digits put together again, by contract. No condition. -/
import Derived.Test.YtajgcmgkhmkmbaaDoorNatF
namespace Go.Proofs.YtajgcmgkhmkmbaaDoor
set_option linter.unusedVariables false
set_option maxRecDepth 8000
open Go Go.Den Go.RowKit Go.Dig

/-- Four digits from place i on, the lowest k of them left out. -/
def gv (l : List Nat) (i : Nat) : Nat → Nat
  | 0 => l.getD i 0 + 65536 * (l.getD (i + 1) 0 + 65536 * (l.getD (i + 2) 0 + 65536 * l.getD (i + 3) 0))
  | 1 => l.getD (i + 1) 0 + 65536 * (l.getD (i + 2) 0 + 65536 * l.getD (i + 3) 0)
  | 2 => l.getD (i + 2) 0 + 65536 * l.getD (i + 3) 0
  | 3 => l.getD (i + 3) 0
  | _ => 0
theorem gv_step (l : List Nat) (i k : Nat) (h : k < 4) : gv l i k = gv l i (k + 1) * 65536 + l.getD (i + k) 0 := by
  rcases (by omega : k = 0 ∨ k = 1 ∨ k = 2 ∨ k = 3) with rfl | rfl | rfl | rfl <;> simp only [gv, Nat.add_zero] <;> omega
theorem gv_lt {l : List Nat} (hl : Al 65536 l) (i k : Nat) (h : k ≤ 4) : gv l i k < 65536 ^ (4 - k) := by
  have h0 := hl.getD (by omega) i
  have h1 := hl.getD (by omega) (i + 1)
  have h2 := hl.getD (by omega) (i + 2)
  have h3 := hl.getD (by omega) (i + 3)
  rcases (by omega : k = 0 ∨ k = 1 ∨ k = 2 ∨ k = 3 ∨ k = 4) with rfl | rfl | rfl | rfl | rfl <;> simp only [gv] <;> omega
theorem gv_word {l : List Nat} (hl : Al 65536 l) (i k : Nat) (h : k < 4) : gv l i (k + 1) * 65536 + l.getD (i + k) 0 < 18446744073709551616 ∧ gv l i (k + 1) * 65536 < 18446744073709551616 ∧ l.getD (i + k) 0 < 18446744073709551616 := by
  have h2 := gv_lt hl i k (by omega)
  have h4 : 65536 ^ (4 - k) ≤ 65536 ^ 4 := Nat.pow_le_pow_right (by omega) (by omega)
  have h5 := gv_step l i k h
  have h6 : gv l i k < 18446744073709551616 := Nat.lt_of_lt_of_le h2 h4
  clear h2 h4
  omega
theorem gv_pv (l : List Nat) (i : Nat) : pv 65536 l (4 * (i + 1)) = pv 65536 l (4 * i) + 65536 ^ (4 * i) * gv l (4 * i) 0 := by
  rw [show 4 * (i + 1) = 4 * i + 1 + 1 + 1 + 1 by omega]
  simp only [pv, gv, Nat.pow_succ]
  generalize 65536 ^ (4 * i) = B
  simp only [Nat.mul_add, Nat.mul_assoc]
  omega

theorem Tryd_ent45 : Ent Tryd.prog 45 := ent_of Tryd.func45 (by kernel_rfl) rfl
set_option maxHeartbeats 800000 in
theorem from_spec (va : Value) (xs0 : List Nat) (h : Hp) (ha0 : SlF h N va xs0) (hx0 : Al 65536 xs0) (hl0 : xs0.length < 1099511627776) :
    CallsH Tryd.prog 45 [va] h fun v' h' => Ext h h' ∧ OwnF h' h.size 31 U v' (dg 18446744073709551616 (vl 65536 xs0)) := by
  (apply enter Tryd.func45 rfl Tryd.ntmps45 rfl)
  refine runM ?_
  apply (s_call Tryd_ent75 rfl rfl rfl)
  refine (trim_spec va _ h ha0 (by omega)).mono ?_
  rintro v1 _ ⟨rfl, ha, -⟩
  refine ⟨(by first | exact trivial | exact Ext.refl _ | assumption | exact Ext.trans (by assumption) (by assumption)), ?_⟩
  rw [← vl_nrm xs0]
  have hx : Al 65536 (nrm xs0) := by rw [nrm_pre]; exact hx0.take _
  have hxn := nrm_nrm xs0
  have hlx := nrm_len xs0
  have hl : (nrm xs0).length < 1099511627776 := by omega
  clear hlx hl0 hx0 ha0
  generalize nrm xs0 = xs at *
  refine runM ?_
  (first | (apply w_seqB; exact rfl; apply w_block; exact rfl) | skip)
  apply (w_loop (σ := Nat × Value × List Nat) rfl (fun p => [(0, v1), (4, N (4 * p.1)), (3, p.2.1)])
    (fun p h' => Ext h h' ∧ OwnF h' h.size 31 U p.2.1 p.2.2 ∧ p.2.2.length = p.1 ∧ 4 * p.1 < xs.length + 4 ∧ Al 18446744073709551616 p.2.2 ∧ vl 18446744073709551616 p.2.2 = pv 65536 xs (4 * p.1) ∧
      ∀ j, p.1 = j + 1 → p.2.2.getD j 0 = gv xs (4 * j) 0) (fun p => xs.length - 4 * p.1) (0, .slice none 0 0, []))
  · exact (Sub.cons rfl (Sub.cons rfl (Sub.cons rfl (Sub.nil _))))
  · exact ⟨Ext.refl h, OwnF.nil _ _ _ _, rfl, by simp only []; omega, Al.nil, rfl, fun j hj => by cases hj⟩
  · rintro ⟨g, out, os⟩ h' ⟨e, o, i1, i2, i3, i4, i5⟩
    dsimp only at e o i1 i2 i3 i4 i5 ⊢
    have ha' := ha.ext e
    refine runM ?_
    (apply w_condD; exact rfl; exact rfl) <;> intro hg
    · refine runM ?_
      (first | (apply w_seqB; exact rfl; apply w_block; exact rfl) | skip)
      apply (w_loop (σ := Nat) rfl (fun k => [(0, v1), (4, N (4 * g)), (3, out), (5, U (gv xs (4 * g) k)), (6, I ((k : Int) - 1))]) (fun k h2 => h' = h2 ∧ k ≤ 4) (fun k => k) 4)
      · exact (Sub.cons rfl (Sub.cons rfl (Sub.cons rfl (Sub.cons rfl (Sub.cons rfl (Sub.nil _))))))
      · exact ⟨rfl, Nat.le_refl _⟩
      · rintro k _ ⟨rfl, hk4⟩
        refine runM ?_
        (apply w_condD; exact rfl; exact rfl) <;> intro hk
        · obtain ⟨j, rfl⟩ : ∃ j, k = j + 1 := ⟨k - 1, by omega⟩
          (apply w_know (t := 6) (u := N (j)) rfl (congrArg I (by omega)))
          have hst := gv_step xs (4 * g) j (by omega)
          obtain ⟨hsum0, hm, hd64⟩ := gv_word hx (4 * g) j (by omega)
          have ha := ha'
          refine runM ?_
          (apply w_condD; exact rfl; exact rfl) <;> intro hb
          · generalize gv xs (4 * g) (j + 1) * 65536 = p at *
            refine runM ?_
            rw [← hst]
            apply again_normal j
            · exact (Sub.cons rfl (Sub.cons rfl (Sub.cons rfl (Sub.cons rfl (Sub.cons rfl (Sub.nil _))))))
            · exact ⟨rfl, by omega⟩
            · exact Nat.lt_succ_self j
          · rw [getD_none (by omega), Nat.add_zero] at hst
            rw [← hst]
            refine runM ?_
            apply again_normal j
            · exact (Sub.cons rfl (Sub.cons rfl (Sub.cons rfl (Sub.cons rfl (Sub.consE rfl (congrArg I (show ((j - 1 : Nat) : Int) = (j : Int) - 1 by omega)) (Sub.nil _))))))
            · exact ⟨rfl, by omega⟩
            · exact Nat.lt_succ_self j
        · have hk0 : k = 0 := by omega
          subst hk0
          have hw : gv xs (4 * g) 0 < 18446744073709551616 := gv_lt hx (4 * g) 0 (by omega)
          have hgp := gv_pv xs g
          have hgl : os.length = g := i1
          generalize hwd : gv xs (4 * g) 0 = w at *
          refine runM ?_
          (refine s_app1 (bytes := 8) (w) o e rfl rfl rfl rfl rfl rfl rfl rfl rfl (by first | exact rfl | exact congrArg some (congrArg I (by omega))) (fun _ => rfl) rfl rfl (fun _ _ => trivial) (by omega) (by simp only [maxLen]; omega) ?_)
          intro v3 h3 o3 e3 k3 b3
          refine runM ?_
          apply again_normal (g + 1, v3, os ++ [w])
          · exact (Sub.cons rfl (Sub.consE rfl (by congr 1) (Sub.cons rfl (Sub.nil _))))
          · refine ⟨e3, o3, by simp [i1], by simp only []; omega, i3.snoc hw, ?_, fun j hj => ?_⟩
            · simp only []
              rw [vl_snoc, i4, hgp, hgl, pow64]
            · simp only [] at hj ⊢
              obtain rfl : g = j := by omega
              rw [hwd, ← hgl]; simp
          · simp only []; omega
    · have hfull : vl 18446744073709551616 os = vl 65536 xs := by rw [i4, pv_full (by omega)]
      have hos : nrm os = os := by
        cases g with
        | zero => rw [List.eq_nil_of_length_eq_zero i1]; rfl
        | succ j =>
          apply nrm_last
          rw [i1, Nat.add_sub_cancel, i5 j rfl]
          intro h0
          have hgp := gv_pv xs j
          rw [h0, Nat.mul_zero, pv_full (by omega)] at hgp
          have hlt := pv_lt hx (by omega) (4 * j)
          rw [Nat.add_zero] at hgp
          rw [← hgp] at hlt
          have hle := dg_len (b := 65536) (by omega) hlt
          rw [← nrm_eq (by omega) hx, hxn] at hle
          omega
      rw [← hfull, ← nrm_eq (by omega) i3, hos]
      refine runM ?_
      exact fin1 rfl rfl ⟨e, o⟩
end Go.Proofs.YtajgcmgkhmkmbaaDoor

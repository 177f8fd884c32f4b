/- Texts NatF to NatH of this work, joined, without what the law does not lean on. -/
import Derived.Test.YtfcmdefigldpnaaGreatDoorMCb8
namespace Go.Proofs.YtfcmdefigldpnaaGreatDoor
set_option linter.unusedVariables false
set_option maxRecDepth 8000
open Go Go.Den Go.RowKit Go.Dig

theorem pow16 (k : Nat) : 2 ^ (16 * k) = 65536 ^ k := by rw [Nat.pow_mul]
theorem pow64 (i : Nat) : 65536 ^ (4 * i) = 18446744073709551616 ^ i := by rw [Nat.pow_mul]
theorem dig_step (p B w k : Nat) : p + B * (w % 65536 ^ k) + B * 65536 ^ k * (w / 2 ^ (16 * k) % 65536) = p + B * (w % 65536 ^ (k + 1)) := by
  rw [pow16, Nat.mod_pow_succ, Nat.mul_add, Nat.mul_assoc, Nat.add_assoc]

theorem Tryz_ent73 : Ent Tryz.prog 73 := ent_of Tryz.func73 (by kernel_rfl) rfl
set_option maxHeartbeats 800000 in
theorem digits_spec (va : Value) (xs : List Nat) (h : Hp) (ha : SlF h U va xs) (hx : Al 18446744073709551616 xs) (hl : xs.length < 1099511627776) :
    CallsH Tryz.prog 73 [va] h fun v' h' => Ext h h' ∧ OwnF h' h.size 3 N v' (dg 65536 (vl 18446744073709551616 xs)) := by
  (apply enter Tryz.func73 rfl Tryz.ntmps73 rfl)
  refine runM ?_
  (first | (apply w_seqB; exact rfl; apply w_block; exact rfl) | skip)
  apply (w_loop (σ := Nat × Value × List Nat) rfl (fun p => [(7, va), (8, N xs.length), (9, N p.1), (3, p.2.1)])
    (fun p h' => Ext h h' ∧ OwnF h' h.size 3 N p.2.1 p.2.2 ∧ p.2.2.length = 4 * p.1 ∧ p.1 ≤ xs.length ∧ Al 65536 p.2.2 ∧ vl 65536 p.2.2 = pv 18446744073709551616 xs p.1) (fun p => xs.length - p.1) (0, .slice none 0 0, []))
  · exact subs
  · exact ⟨Ext.refl h, OwnF.nil _ _ _ _, rfl, Nat.zero_le _, Al.nil, rfl⟩
  · rintro ⟨i, out, os0⟩ h' ⟨e, o, i1, i2, i3, i4⟩
    dsimp only at e o i1 i2 i3 i4 ⊢
    have ha' := ha.ext e
    refine runM ?_
    (apply w_condD; exact rfl; exact rfl) <;> intro hi
    · refine runM ?_
      have hw := hx.getD (by omega) i
      generalize hwd : xs.getD i 0 = w at *
      (first | (apply w_seqB; exact rfl; apply w_block; exact rfl) | skip)
      apply (w_loop (σ := Nat × Value × List Nat) rfl (fun p => [(7, va), (8, N xs.length), (9, N i), (5, U w), (6, N p.1), (3, p.2.1)])
        (fun p h' => Ext h h' ∧ OwnF h' h.size 3 N p.2.1 p.2.2 ∧ p.2.2.length = 4 * i + p.1 ∧ p.1 ≤ 4 ∧ Al 65536 p.2.2 ∧ vl 65536 p.2.2 = pv 18446744073709551616 xs i + 65536 ^ (4 * i) * (w % 65536 ^ p.1)) (fun p => 4 - p.1) (0, out, os0))
      · exact subs
      · exact ⟨e, o, i1, by simp only []; omega, i3, by simp [i4, Nat.mod_one]⟩
      · rintro ⟨k, out, os⟩ h2 ⟨e', o', j1, j2, j3, j4⟩
        dsimp only at e' o' j1 j2 j3 j4 ⊢
        refine runM ?_
        (apply w_condD; exact rfl; exact rfl) <;> intro hk
        · have hm : w / 2 ^ (16 * k) % 65536 < 65536 := Nat.mod_lt _ (by omega)
          have hd : w / 2 ^ (16 * k) < 18446744073709551616 := Nat.lt_of_le_of_lt (Nat.div_le_self _ _) hw
          have hst := dig_step (pv 18446744073709551616 xs i) (65536 ^ (4 * i)) w k
          refine runM ?_
          generalize hdd : w / 2 ^ (16 * k) % 65536 = d at *
          (refine s_app1 (bytes := 8) (d) o' e' rfl rfl rfl rfl rfl rfl rfl rfl rfl (by first | exact rfl | exact congrArg some (congrArg I (by omega))) (fun _ => rfl) rfl rfl (fun _ _ => trivial) (by omega) (by simp only [maxLen]; omega) ?_)
          intro v3 h3 o3 e3 k3 b3
          refine runM ?_
          apply again_normal (k + 1, v3, os ++ [d])
          · exact subs
          · refine ⟨e3, o3, by simp [j1]; omega, hk, j3.snoc hm, ?_⟩
            simp only []
            rw [vl_snoc, j4, j1, Nat.pow_add]
            exact hst
          · simp only []; omega
        · have hke : k = 4 := by omega
          subst hke
          refine runM ?_
          apply again_normal (i + 1, out, os)
          · exact subs
          · refine ⟨e', o', by simp only []; omega, hi, j3, ?_⟩
            simp only []
            rw [j4, pow64, pv, hwd, Nat.mod_eq_of_lt (by omega : w < 65536 ^ 4)]
          · simp only []; omega
    · refine runM ?_
      have hie : i = xs.length := by omega
      subst hie
      rw [pv_full (Nat.le_refl _)] at i4
      apply (s_call Tryz_ent131 rfl rfl rfl)
      refine (trim_spec out _ h' o.sl (by omega)).mono ?_
      rintro v3 _ ⟨rfl, s3, o3⟩
      refine clsI ?_
      refine runM ?_
      refine fin1 rfl rfl ⟨e, ?_⟩
      have := o3 _ _ o
      rw [nrm_eq (by omega) i3, i4] at this
      exact this

def gv (l : List Nat) (i : Nat) : Nat → Nat
  | 0 => l.getD i 0 + 65536 * (l.getD (i + 1) 0 + 65536 * (l.getD (i + 2) 0 + 65536 * l.getD (i + 3) 0))
  | 1 => l.getD (i + 1) 0 + 65536 * (l.getD (i + 2) 0 + 65536 * l.getD (i + 3) 0)
  | 2 => l.getD (i + 2) 0 + 65536 * l.getD (i + 3) 0
  | 3 => l.getD (i + 3) 0
  | _ => 0
theorem gv_step (l : List Nat) (i k : Nat) (h : k < 4) : gv l i k = gv l i (k + 1) * 65536 + l.getD (i + k) 0 := by
  rcases (by omega : k = 0 ∨ k = 1 ∨ k = 2 ∨ k = 3) with rfl | rfl | rfl | rfl <;> simp only [gv, Nat.add_zero] <;> omega
theorem gv_lt {l : List Nat} (hl : Al 65536 l) (i k : Nat) (h : k ≤ 4) : gv l i k < 65536 ^ (4 - k) := by
  have h0 := hl.getD (by omega) i
  have h1 := hl.getD (by omega) (i + 1)
  have h2 := hl.getD (by omega) (i + 2)
  have h3 := hl.getD (by omega) (i + 3)
  rcases (by omega : k = 0 ∨ k = 1 ∨ k = 2 ∨ k = 3 ∨ k = 4) with rfl | rfl | rfl | rfl | rfl <;> simp only [gv] <;> omega
theorem gv_word {l : List Nat} (hl : Al 65536 l) (i k : Nat) (h : k < 4) : gv l i (k + 1) * 65536 + l.getD (i + k) 0 < 18446744073709551616 ∧ gv l i (k + 1) * 65536 < 18446744073709551616 ∧ l.getD (i + k) 0 < 18446744073709551616 := by
  have h2 := gv_lt hl i k (by omega)
  have h4 : 65536 ^ (4 - k) ≤ 65536 ^ 4 := Nat.pow_le_pow_right (by omega) (by omega)
  have h5 := gv_step l i k h
  have h6 : gv l i k < 18446744073709551616 := Nat.lt_of_lt_of_le h2 h4
  clear h2 h4
  omega
theorem gv_pv (l : List Nat) (i : Nat) : pv 65536 l (4 * (i + 1)) = pv 65536 l (4 * i) + 65536 ^ (4 * i) * gv l (4 * i) 0 := by
  rw [show 4 * (i + 1) = 4 * i + 1 + 1 + 1 + 1 by omega]
  simp only [pv, gv, Nat.pow_succ]
  generalize 65536 ^ (4 * i) = B
  simp only [Nat.mul_add, Nat.mul_assoc]
  omega

theorem Tryz_ent72 : Ent Tryz.prog 72 := ent_of Tryz.func72 (by kernel_rfl) rfl
set_option maxHeartbeats 800000 in
theorem from_spec (va : Value) (xs0 : List Nat) (h : Hp) (ha0 : SlF h N va xs0) (hx0 : Al 65536 xs0) (hl0 : xs0.length < 1099511627776) :
    CallsH Tryz.prog 72 [va] h fun v' h' => Ext h h' ∧ OwnF h' h.size 26 U v' (dg 18446744073709551616 (vl 65536 xs0)) := by
  (apply enter Tryz.func72 rfl Tryz.ntmps72 rfl)
  refine runM ?_
  apply (s_call Tryz_ent131 rfl rfl rfl)
  refine (trim_spec va _ h ha0 (by omega)).mono ?_
  rintro v1 _ ⟨rfl, ha, -⟩
  refine clsI ?_
  rw [← vl_nrm xs0]
  have hx : Al 65536 (nrm xs0) := by rw [nrm_pre]; exact hx0.take _
  have hxn := nrm_nrm xs0
  have hlx := nrm_len xs0
  have hl : (nrm xs0).length < 1099511627776 := by omega
  clear hlx hl0 hx0 ha0
  generalize nrm xs0 = xs at *
  refine runM ?_
  (first | (apply w_seqB; exact rfl; apply w_block; exact rfl) | skip)
  apply (w_loop (σ := Nat × Value × List Nat) rfl (fun p => [(0, v1), (4, N (4 * p.1)), (3, p.2.1)])
    (fun p h' => Ext h h' ∧ OwnF h' h.size 26 U p.2.1 p.2.2 ∧ p.2.2.length = p.1 ∧ 4 * p.1 < xs.length + 4 ∧ Al 18446744073709551616 p.2.2 ∧ vl 18446744073709551616 p.2.2 = pv 65536 xs (4 * p.1) ∧
      ∀ j, p.1 = j + 1 → p.2.2.getD j 0 = gv xs (4 * j) 0) (fun p => xs.length - 4 * p.1) (0, .slice none 0 0, []))
  · exact subs
  · exact ⟨Ext.refl h, OwnF.nil _ _ _ _, rfl, by simp only []; omega, Al.nil, rfl, fun j hj => by cases hj⟩
  · rintro ⟨g, out, os⟩ h' ⟨e, o, i1, i2, i3, i4, i5⟩
    dsimp only at e o i1 i2 i3 i4 i5 ⊢
    have ha' := ha.ext e
    refine runM ?_
    (apply w_condD; exact rfl; exact rfl) <;> intro hg
    · refine runM ?_
      (first | (apply w_seqB; exact rfl; apply w_block; exact rfl) | skip)
      apply (w_loop (σ := Nat) rfl (fun k => [(0, v1), (4, N (4 * g)), (3, out), (5, U (gv xs (4 * g) k)), (6, I ((k : Int) - 1))]) (fun k h2 => h' = h2 ∧ k ≤ 4) (fun k => k) 4)
      · exact subs
      · exact ⟨rfl, Nat.le_refl _⟩
      · rintro k _ ⟨rfl, hk4⟩
        refine runM ?_
        (apply w_condD; exact rfl; exact rfl) <;> intro hk
        · obtain ⟨j, rfl⟩ : ∃ j, k = j + 1 := ⟨k - 1, by omega⟩
          (apply w_know (t := 6) (u := N (j)) rfl (congrArg I (by omega)))
          have hst := gv_step xs (4 * g) j (by omega)
          obtain ⟨hsum0, hm, hd64⟩ := gv_word hx (4 * g) j (by omega)
          have ha := ha'
          refine runM ?_
          (apply w_condD; exact rfl; exact rfl) <;> intro hb
          · generalize gv xs (4 * g) (j + 1) * 65536 = p at *
            refine runM ?_
            rw [← hst]
            apply again_normal j
            · exact subs
            · exact ⟨rfl, by omega⟩
            · exact Nat.lt_succ_self j
          · rw [getD_none (by omega), Nat.add_zero] at hst
            rw [← hst]
            refine runM ?_
            apply again_normal j
            · exact (Sub.cons rfl (Sub.cons rfl (Sub.cons rfl (Sub.cons rfl (Sub.consE rfl (congrArg I (show ((j - 1 : Nat) : Int) = (j : Int) - 1 by omega)) (Sub.nil _))))))
            · exact ⟨rfl, by omega⟩
            · exact Nat.lt_succ_self j
        · have hk0 : k = 0 := by omega
          subst hk0
          have hw : gv xs (4 * g) 0 < 18446744073709551616 := gv_lt hx (4 * g) 0 (by omega)
          have hgp := gv_pv xs g
          have hgl : os.length = g := i1
          generalize hwd : gv xs (4 * g) 0 = w at *
          refine runM ?_
          (refine s_app1 (bytes := 8) (w) o e rfl rfl rfl rfl rfl rfl rfl rfl rfl (by first | exact rfl | exact congrArg some (congrArg I (by omega))) (fun _ => rfl) rfl rfl (fun _ _ => trivial) (by omega) (by simp only [maxLen]; omega) ?_)
          intro v3 h3 o3 e3 k3 b3
          refine runM ?_
          apply again_normal (g + 1, v3, os ++ [w])
          · exact (Sub.cons rfl (Sub.consE rfl (by congr 1) (Sub.cons rfl (Sub.nil _))))
          · refine ⟨e3, o3, by simp [i1], by simp only []; omega, i3.snoc hw, ?_, fun j hj => ?_⟩
            · simp only []
              rw [vl_snoc, i4, hgp, hgl, pow64]
            · simp only [] at hj ⊢
              obtain rfl : g = j := by omega
              rw [hwd, ← hgl]; simp
          · simp only []; omega
    · have hfull : vl 18446744073709551616 os = vl 65536 xs := by rw [i4, pv_full (by omega)]
      have hos : nrm os = os := by
        cases g with
        | zero => rw [List.eq_nil_of_length_eq_zero i1]; rfl
        | succ j =>
          apply nrm_last
          rw [i1, Nat.add_sub_cancel, i5 j rfl]
          intro h0
          have hgp := gv_pv xs j
          rw [h0, Nat.mul_zero, pv_full (by omega)] at hgp
          have hlt := pv_lt hx (by omega) (4 * j)
          rw [Nat.add_zero] at hgp
          rw [← hgp] at hlt
          have hle := dg_len (b := 65536) (by omega) hlt
          rw [← nrm_eq (by omega) hx, hxn] at hle
          omega
      rw [← hfull, ← nrm_eq (by omega) i3, hos]
      refine runM ?_
      exact fin1 rfl rfl ⟨e, o⟩
end Go.Proofs.YtfcmdefigldpnaaGreatDoor


namespace Go.Dig
set_option linter.unusedVariables false
set_option maxRecDepth 8000

section
variable {b : Nat}

theorem guess_top {X Y p X2 yt : Nat} (hX : X < p * (X2 + 1)) (hY : p * yt ≤ Y) (h0 : 0 < yt) : X / Y ≤ X2 / yt := by
  rw [Nat.le_div_iff_mul_le h0]
  refine Nat.le_of_not_lt fun hlt => ?_
  have h1 : X / Y * Y ≤ X := Nat.div_mul_le_self _ _
  have h2 : X / Y * (p * yt) ≤ X / Y * Y := Nat.mul_le_mul_left _ hY
  have h3 : p * (X2 + 1) ≤ p * (X / Y * yt) := Nat.mul_le_mul_left _ hlt
  have h4 : X / Y * (p * yt) = p * (X / Y * yt) := by rw [← Nat.mul_assoc, ← Nat.mul_assoc, Nat.mul_comm (X / Y) p]
  omega

theorem guess_next {X Y p X2 x2 yt y2 g r : Nat} (hX : X < p * (X2 * b + x2 + 1)) (hY : p * (yt * b + y2) ≤ Y) (h0 : 0 < Y) (hg : g * yt + r = X2) (hlt : r * b + x2 < g * y2) : X / Y < g := by
  rw [Nat.div_lt_iff_lt_mul h0]
  have h1 : g * (p * (yt * b + y2)) ≤ g * Y := Nat.mul_le_mul_left _ hY
  have h2 : g * (p * (yt * b + y2)) = p * (g * (yt * b + y2)) := by rw [← Nat.mul_assoc, ← Nat.mul_assoc, Nat.mul_comm g p]
  have h3 : g * (yt * b + y2) = g * yt * b + g * y2 := by rw [Nat.mul_add, Nat.mul_assoc]
  have h4 : X2 * b = g * yt * b + r * b := by rw [← hg, Nat.add_mul]
  have h5 : p * (X2 * b + x2 + 1) ≤ p * (g * yt * b + g * y2) := Nat.mul_le_mul_left _ (by omega)
  rw [h2, h3] at h1
  omega

theorem vl_top2 {xs : List Nat} {n : Nat} (hl : xs.length = n + 2) : vl b xs = pv b xs n + b ^ n * (xs.getD n 0 + b * xs.getD (n + 1) 0) := by
  rw [← pv_full (k := n + 2) (by omega)]
  simp only [pv, Nat.pow_succ, Nat.mul_add, Nat.mul_assoc]; omega
theorem vl_top3 {xs : List Nat} {n : Nat} (hl : xs.length = n + 3) : vl b xs = pv b xs n + b ^ n * (xs.getD n 0 + b * (xs.getD (n + 1) 0 + b * xs.getD (n + 2) 0)) := by
  rw [← pv_full (k := n + 3) (by omega)]
  simp only [pv, Nat.pow_succ, Nat.mul_add, Nat.mul_assoc]; omega

theorem guess_facts {xs ys : List Nat} {n : Nat} (hb : 0 < b) (hx : Al b xs) (hxl : xs.length = n + 3) (hyl : ys.length = n + 2) (h0 : 0 < ys.getD (n + 1) 0) :
    vl b xs / vl b ys ≤ (xs.getD (n + 2) 0 * b + xs.getD (n + 1) 0) / ys.getD (n + 1) 0 ∧
    ∀ g r, g * ys.getD (n + 1) 0 + r = xs.getD (n + 2) 0 * b + xs.getD (n + 1) 0 → r * b + xs.getD n 0 < g * ys.getD n 0 → vl b xs / vl b ys < g := by
  have hxt := vl_top3 (b := b) hxl
  have hyt := vl_top2 (b := b) hyl
  have hp := pv_lt hx hb n
  have hp1 := pv_lt hx hb (n + 1)
  have hbn : 0 < b ^ n := Nat.pow_pos hb
  have hY0 : 0 < vl b ys := by
    have h1 : 1 ≤ ys.getD n 0 + b * ys.getD (n + 1) 0 := by
      have := Nat.mul_pos hb h0
      omega
    have := Nat.mul_le_mul hbn h1
    omega
  refine ⟨guess_top (p := b ^ (n + 1)) ?_ ?_ h0, fun g r h1 h2 => guess_next (b := b) (p := b ^ n) (x2 := xs.getD n 0) (y2 := ys.getD n 0) ?_ ?_ hY0 h1 h2⟩
  · have e : vl b xs = pv b xs (n + 1) + b ^ (n + 1) * (xs.getD (n + 2) 0 * b + xs.getD (n + 1) 0) := by
      rw [hxt]; simp only [pv, Nat.pow_succ, Nat.mul_add, Nat.mul_assoc, Nat.mul_comm (xs.getD (n + 2) 0) b]; omega
    rw [e, Nat.mul_add_one]
    omega
  · rw [hyt, Nat.pow_succ, Nat.mul_add, Nat.mul_assoc]; omega
  · rw [hxt, Nat.mul_add _ _ 1, Nat.mul_one]
    have : (xs.getD (n + 2) 0 * b + xs.getD (n + 1) 0) * b + xs.getD n 0 = xs.getD n 0 + b * (xs.getD (n + 1) 0 + b * xs.getD (n + 2) 0) := by
      rw [Nat.mul_comm _ b, Nat.mul_comm (xs.getD (n + 2) 0) b]; simp only [Nat.mul_add]; omega
    rw [this]; omega
  · rw [hyt, Nat.mul_comm (ys.getD (n + 1) 0) b, Nat.add_comm (b * _)]; omega

theorem sub_step {p q B g c bo x x' y c' bo' P : Nat} (h : p + g * q = P + B * (bo + c)) (hw : x' + g * y + c + bo = x + b * bo' + b * c') :
    p + B * x' + g * (q + B * y) = P + B * x + B * b * (bo' + c') := by
  have e1 : g * (q + B * y) = g * q + B * (g * y) := by rw [Nat.mul_add, ← Nat.mul_assoc, ← Nat.mul_assoc, Nat.mul_comm g B]
  have e2 : B * x' + B * (g * y) + B * c + B * bo = B * x + B * (b * bo') + B * (b * c') := by
    have := congrArg (B * ·) hw
    simpa only [Nat.mul_add] using this
  have e3 : B * b * (bo' + c') = B * (b * bo') + B * (b * c') := by rw [Nat.mul_assoc, Nat.mul_add, Nat.mul_add]
  rw [Nat.mul_add] at h
  rw [e1, e3]; omega
theorem sub_last {p q B g c bo x x' bo' P : Nat} (h : p + g * q = P + B * (bo + c)) (hw : x' + c + bo = x + b * bo') :
    p + B * x' + g * q = P + B * x + B * b * bo' := by
  have e2 : B * x' + B * c + B * bo = B * x + B * (b * bo') := by
    have := congrArg (B * ·) hw
    simpa only [Nat.mul_add] using this
  rw [Nat.mul_add] at h
  rw [Nat.mul_assoc]; omega

theorem back_lt {Z g Y X B : Nat} (h : Z + g * Y = X + B * 1) (hz : Z < B) (h0 : 0 < Y) : X / Y < g := by
  rw [Nat.div_lt_iff_lt_mul h0]; omega
theorem back_step {Z Z' g Y X B c : Nat} (h : Z + g * Y = X + B * 1) (ha : Z' + B * c = Z + Y) (hc : c ≤ 1) (hg : 1 ≤ g) : Z' + (g - 1) * Y = X + B * (1 - c) := by
  obtain ⟨k, rfl⟩ : ∃ k, g = k + 1 := ⟨g - 1, by omega⟩
  rw [Nat.add_sub_cancel]
  rw [Nat.add_mul, Nat.one_mul] at h
  rcases (by omega : c = 0 ∨ c = 1) with rfl | rfl <;> omega
theorem digit_end {Z g Y X B : Nat} (h : Z + g * Y = X + B * 0) (hge : X / Y ≤ g) (h0 : 0 < Y) : g = X / Y ∧ Z = X % Y := by
  have h1 : g ≤ X / Y := by rw [Nat.le_div_iff_mul_le h0]; omega
  have h2 : g = X / Y := Nat.le_antisymm h1 hge
  refine ⟨h2, ?_⟩
  have h3 := Nat.div_add_mod X Y
  rw [← h2, Nat.mul_comm] at h3
  omega

theorem shl_step {p B o w s b' P : Nat} (h : p + B * o = P * s) (hb : b' = b) (hw : w * s = w * s % b + b * (w * s / b)) : p + B * (o + w * s % b) + B * b' * (w * s / b) = (P + B * w) * s := by
  have e : B * (w * s) = B * (w * s % b) + B * (b * (w * s / b)) := by rw [← Nat.mul_add, ← hw]
  subst hb
  rw [Nat.add_mul, Nat.mul_assoc B w s, e, Nat.mul_add, Nat.mul_assoc]
  omega
theorem shr_step {b p q t0 t t' B x hh s m : Nat} (h : s * p + t0 = q + B * t) (hx : x = hh * s + t) (hsm : s * m = b) : s * (p + B * (hh + t' * m)) + t0 = q + B * x + B * b * t' := by
  have e : s * (B * (hh + t' * m)) = B * (hh * s) + B * b * t' := by
    rw [← hsm, ← Nat.mul_assoc, Nat.mul_comm s B, Nat.mul_assoc, Nat.mul_add, Nat.mul_comm s hh, Nat.mul_add, Nat.mul_assoc, Nat.mul_assoc, Nat.mul_comm m t', ← Nat.mul_assoc s, Nat.mul_comm s t', Nat.mul_assoc]
  rw [Nat.mul_add, e, hx, Nat.mul_add]
  omega

theorem vl_drop_head {xs : List Nat} {i : Nat} (h : i < xs.length) : vl b (xs.drop i) = xs.getD i 0 + b * vl b (xs.drop (i + 1)) := by
  rw [List.drop_eq_getElem_cons h]; simp [vl, h]
theorem win_lt {pre ws post : List Nat} {Y : Nat} (hx : Al b (pre ++ ws ++ post)) (hb : 0 < b) (hw : 0 < ws.length) (h0 : vl b post = 0) (hc : vl b ((pre ++ ws ++ post).drop (pre.length + 1)) < Y) : vl b ws < Y * b := by
  cases ws with
  | nil => simp at hw
  | cons w ws =>
    have hwb : w < b := hx w (by simp)
    have e : (pre ++ (w :: ws) ++ post).drop (pre.length + 1) = ws ++ post := by
      rw [List.append_assoc, List.drop_append]; simp [List.drop_of_length_le]
    rw [e, vl_append, h0, Nat.mul_zero, Nat.add_zero] at hc
    have h1 : b * (vl b ws + 1) ≤ b * Y := Nat.mul_le_mul_left _ hc
    rw [Nat.mul_add, Nat.mul_comm b Y] at h1
    simp only [vl]; omega
theorem div_step {pre ws ws' post qs : List Nat} {m q X Y : Nat} (hb : 0 < b) (hl' : ws'.length = m + 1) (hl : ws.length = m + 1) (ha' : Al b ws') (h0 : vl b post = 0) (hY : Y < b ^ m) (hq : q = vl b ws / Y) (hr : vl b ws' = vl b ws % Y) (hY0 : 0 < Y) (hi : pre.length < qs.length)
    (hd : vl b (pre ++ ws ++ post) + b ^ (pre.length + 1) * vl b (qs.drop (pre.length + 1)) * Y = X) :
    vl b ((pre ++ ws' ++ post).drop (pre.length + m)) = 0 ∧ vl b ((pre ++ ws' ++ post).drop pre.length) < Y ∧
    vl b (pre ++ ws' ++ post) + b ^ pre.length * vl b ((qs.set pre.length q).drop pre.length) * Y = X := by
  have hlt : vl b ws' < Y := by rw [hr]; exact Nat.mod_lt _ hY0
  have hsp := vl_split (b := b) ws' m
  have hd1 : ws'.drop m = [ws'.getD m 0] := by
    rw [List.drop_eq_getElem_cons (by omega), List.drop_of_length_le (by omega)]
    simp [show m < ws'.length by omega]
  have htop : ws'.getD m 0 = 0 := by
    rw [hd1] at hsp
    simp only [vl, Nat.mul_zero, Nat.add_zero] at hsp
    rcases Nat.eq_zero_or_pos (ws'.getD m 0) with h | h
    · exact h
    · have := Nat.mul_le_mul_left (b ^ m) h
      omega
  refine ⟨?_, ?_, ?_⟩
  · rw [List.append_assoc, List.drop_append, List.drop_of_length_le (by omega), List.nil_append, Nat.add_sub_cancel_left, List.drop_append, hd1, htop, hl', show m - (m + 1) = 0 by omega, List.drop_zero, vl_append, h0]
    simp [vl]
  · rw [List.append_assoc, List.drop_append, List.drop_of_length_le (Nat.le_refl _), List.nil_append, Nat.sub_self, List.drop_zero, vl_append, h0]
    simpa using hlt
  · rw [List.append_assoc, vl_append, vl_append, h0, Nat.mul_zero, Nat.add_zero] at hd ⊢
    rw [vl_drop_head (by simpa using hi), show (qs.set pre.length q).getD pre.length 0 = q by simp [hi], List.drop_set_of_lt (by omega)]
    have hdm := Nat.div_add_mod (vl b ws) Y
    rw [← hq, ← hr] at hdm
    rw [← hd, ← hdm, Nat.pow_succ]
    simp only [Nat.mul_add, Nat.add_mul]
    have e1 : b ^ pre.length * (Y * q) = b ^ pre.length * q * Y := by rw [Nat.mul_comm Y q, Nat.mul_assoc]
    have e2 : b ^ pre.length * b * vl b (qs.drop (pre.length + 1)) * Y = b ^ pre.length * (b * vl b (qs.drop (pre.length + 1))) * Y := by simp only [Nat.mul_assoc]
    omega
theorem div_mod_of {X Y q r : Nat} (h : r + q * Y = X) (hr : r < Y) : q = X / Y ∧ r = X % Y := by
  have h0 : 0 < Y := by omega
  constructor
  · rw [← h, Nat.mul_comm, Nat.add_mul_div_left _ _ h0, Nat.div_eq_of_lt hr, Nat.zero_add]
  · rw [← h, Nat.mul_comm, Nat.add_mul_mod_self_left, Nat.mod_eq_of_lt hr]
theorem moved {ys : List Nat} {m s H : Nat} (hb : 1 < b) (hy : Al b ys) (hyl : ys.length = m + 1) (h0 : ys.getD m 0 ≠ 0) (hH : H ≤ ys.getD m 0 * 2 ^ s) (hs : (ys.getD m 0 + 1) * 2 ^ s ≤ b) :
    (dg b (vl b ys * 2 ^ s)).length = m + 1 ∧ H ≤ (dg b (vl b ys * 2 ^ s)).getD m 0 ∧ b ^ m * H ≤ vl b ys * 2 ^ s ∧ vl b ys * 2 ^ s < b ^ (m + 1) := by
  have hsp : vl b ys = pv b ys m + b ^ m * ys.getD m 0 := by rw [← pv_full (k := m + 1) (by omega)]; rfl
  have hp := pv_lt hy (by omega) m
  have hpow : 0 < 2 ^ s := Nat.pow_pos (by omega)
  have hbm : 0 < b ^ m := Nat.pow_pos (by omega)
  have h1 : vl b ys * 2 ^ s < b ^ (m + 1) := by
    have h2 : vl b ys < b ^ m * (ys.getD m 0 + 1) := by rw [hsp, Nat.mul_add_one]; omega
    have h3 : vl b ys * 2 ^ s < b ^ m * (ys.getD m 0 + 1) * 2 ^ s := Nat.mul_lt_mul_of_pos_right h2 hpow
    have h4 : b ^ m * ((ys.getD m 0 + 1) * 2 ^ s) ≤ b ^ m * b := Nat.mul_le_mul_left _ hs
    rw [← Nat.mul_assoc] at h4
    rw [Nat.pow_succ]; omega
  have h2 : b ^ m * H ≤ vl b ys * 2 ^ s := by
    have := Nat.mul_le_mul_left (b ^ m) hH
    rw [← Nat.mul_assoc] at this
    rw [hsp, Nat.add_mul]; omega
  have h3 : b ^ m ≤ vl b ys * 2 ^ s := by
    have h5 : b ^ m * 1 ≤ b ^ m * ys.getD m 0 := Nat.mul_le_mul_left _ (by omega)
    have h6 : vl b ys * 1 ≤ vl b ys * 2 ^ s := Nat.mul_le_mul_left _ hpow
    omega
  have hlen : (dg b (vl b ys * 2 ^ s)).length = m + 1 := by
    have h5 := dg_len hb h1
    have h6 := dg_lt hb (vl b ys * 2 ^ s)
    have h7 := (Nat.pow_lt_pow_iff_right hb).1 (Nat.lt_of_le_of_lt h3 h6)
    omega
  refine ⟨hlen, ?_, h2, h1⟩
  have hv := vl_dg hb (vl b ys * 2 ^ s)
  have ha := al_dg (b := b) (by omega) (vl b ys * 2 ^ s)
  generalize dg b (vl b ys * 2 ^ s) = zs at *
  have hz : vl b zs = pv b zs m + b ^ m * zs.getD m 0 := by rw [← pv_full (k := m + 1) (by omega)]; rfl
  have hzp := pv_lt ha (by omega) m
  refine Nat.le_of_not_lt fun hlt => ?_
  have := Nat.mul_le_mul_left (b ^ m) hlt
  rw [Nat.mul_succ] at this
  omega
theorem top_lt {xs : List Nat} {k m H Y : Nat} (hx : Al b xs) (hb : 0 < b) (hl : xs.length = k + m + 1) (hH : xs.getD (k + m) 0 < H) (hY : b ^ m * H ≤ Y) : vl b (xs.drop k) < Y := by
  have e : vl b (xs.drop k) = pv b (xs.drop k) m + b ^ m * xs.getD (k + m) 0 := by
    rw [← pv_full (xs := xs.drop k) (k := m + 1) (by simp; omega)]
    simp [pv]
  have hp := pv_lt (hx.drop k) hb m
  have := Nat.mul_le_mul_left (b ^ m) hH
  rw [Nat.mul_succ] at this
  omega
theorem pv_of_lt {xs : List Nat} {k : Nat} (h : vl b xs < b ^ k) : pv b xs k = vl b xs := by
  have := vl_split (b := b) xs k
  rcases Nat.eq_zero_or_pos (vl b (xs.drop k)) with h0 | h0
  · rw [h0, Nat.mul_zero, Nat.add_zero] at this; exact this.symm
  · have := Nat.mul_le_mul_left (b ^ k) h0
    omega
theorem getD_of_lt {xs : List Nat} {k j : Nat} (hb : 0 < b) (h : vl b xs < b ^ k) (hj : k ≤ j) : xs.getD j 0 = 0 := by
  have h1 := vl_split (b := b) xs (j + 1)
  simp only [pv] at h1
  have h2 : b ^ k ≤ b ^ j := Nat.pow_le_pow_right hb hj
  rcases Nat.eq_zero_or_pos (xs.getD j 0) with h0 | h0
  · exact h0
  · have := Nat.mul_le_mul_left (b ^ j) h0
    omega
theorem vl_set {xs : List Nat} {j v : Nat} (hj : j < xs.length) : vl b (xs.set j v) + b ^ j * xs.getD j 0 = vl b xs + b ^ j * v := by
  have h1 := vl_split (b := b) xs (j + 1)
  have h2 := vl_split (b := b) (xs.set j v) (j + 1)
  simp only [pv] at h1 h2
  rw [pv_set (Nat.le_refl _), getD_set_self hj, List.drop_set_of_lt (by omega)] at h2
  omega
theorem less_step {p q B x y c o c' P : Nat} (h : p + q = P + B * c) (hw : o + y + c = x + b * c') : p + B * o + (q + B * y) = P + B * x + B * b * c' := by
  have e := congrArg (B * ·) hw
  simp only [Nat.mul_add] at e
  rw [Nat.mul_assoc]; omega
theorem times_step {v v' v0 B q W x y c o p n : Nat} (h : v + B * c = v0 + q * (x * p)) (hs : v' + B * o = v + B * (n % b)) (hB : B = q * W) (hn : n = c + o + x * y) : v' + B * b * (n / b) = v0 + q * (x * (p + W * y)) := by
  have e : B * (n % b) + B * b * (n / b) = B * n := by rw [Nat.mul_assoc, ← Nat.mul_add, Nat.mod_add_div]
  have e2 : q * (x * (p + W * y)) = q * (x * p) + B * (x * y) := by
    subst hB
    rw [Nat.mul_add, Nat.mul_add, Nat.mul_assoc q W]
    congr 2
    rw [← Nat.mul_assoc, ← Nat.mul_assoc, Nat.mul_comm x W]
  have e3 : B * n = B * c + B * o + B * (x * y) := by rw [hn, Nat.mul_add, Nat.mul_add]
  rw [e2]
  omega
def nb (n : Nat) : Nat := if n = 0 then 0 else n.log2 + 1
theorem nb_of {n k : Nat} (h1 : 2 ^ k ≤ n) (h2 : n < 2 ^ (k + 1)) : nb n = k + 1 := by
  have h0 : n ≠ 0 := by have := Nat.pow_pos (n := k) (show 0 < 2 by omega); omega
  have h3 := (Nat.le_log2 h0).2 h1
  have h4 := (Nat.log2_lt h0).2 h2
  rw [nb, if_neg h0]; omega
theorem nb_top {xs : List Nat} {m k : Nat} (hb : b = 2 ^ k) (hx : Al b xs) (hl : xs.length = m + 1) {j : Nat} (h1 : 2 ^ j ≤ xs.getD m 0) (h2 : xs.getD m 0 < 2 ^ (j + 1)) : nb (vl b xs) = k * m + j + 1 := by
  have hsp : vl b xs = pv b xs m + b ^ m * xs.getD m 0 := by rw [← pv_full (k := m + 1) (by omega)]; rfl
  have hb0 : 0 < b := by rw [hb]; exact Nat.pow_pos (by omega)
  have hp := pv_lt hx hb0 m
  have e : b ^ m = 2 ^ (k * m) := by rw [hb, ← Nat.pow_mul]
  apply nb_of
  · have := Nat.mul_le_mul_left (b ^ m) h1
    rw [Nat.pow_add, ← e]; omega
  · have := Nat.mul_le_mul_left (b ^ m) h2
    rw [Nat.mul_succ] at this
    rw [Nat.add_assoc, Nat.pow_add, ← e]; omega
end
end Go.Dig


namespace Go.Proofs.YtfcmdefigldpnaaGreatDoor
set_option linter.unusedVariables false
set_option maxRecDepth 8000
open Go Go.Den Go.RowKit Go.Dig

theorem shl_word {w s : Nat} (hw : w < 18446744073709551616) (hs : s ≤ 64) : w * 2 ^ s / 18446744073709551616 = w / 2 ^ (64 - s) := by
  have e : (18446744073709551616 : Nat) = 2 ^ (64 - s) * 2 ^ s := by rw [← Nat.pow_add, show 64 - s + s = 64 by omega]
  rw [e, Nat.mul_div_mul_right _ _ (Nat.pow_pos (by omega))]
theorem shl_low {w s : Nat} (hs : s ≤ 64) : w * 2 ^ s % 18446744073709551616 = w % 2 ^ (64 - s) * 2 ^ s := by
  have e : (18446744073709551616 : Nat) = 2 ^ (64 - s) * 2 ^ s := by rw [← Nat.pow_add, show 64 - s + s = 64 by omega]
  rw [e, Nat.mul_mod_mul_right]
theorem shl_or {w s o : Nat} (hs : s ≤ 64) (ho : o < 2 ^ s) : o ||| w * 2 ^ s % 18446744073709551616 = o + w * 2 ^ s % 18446744073709551616 := by
  rw [shl_low hs, Nat.or_comm, Num.or_add ho, Nat.add_comm]
theorem shl_hi {w s : Nat} (hw : w < 18446744073709551616) (hs : s ≤ 64) : w / 2 ^ (64 - s) < 2 ^ s := by
  rw [Nat.div_lt_iff_lt_mul (Nat.pow_pos (by omega)), ← Nat.pow_add, show s + (64 - s) = 64 by omega]; exact hw
theorem shl_sum {w s o : Nat} (hs : s ≤ 64) (ho : o < 2 ^ s) : o + w * 2 ^ s % 18446744073709551616 < 18446744073709551616 := by
  have e : (18446744073709551616 : Nat) = 2 ^ (64 - s) * 2 ^ s := by rw [← Nat.pow_add, show 64 - s + s = 64 by omega]
  have h1 : w % 2 ^ (64 - s) < 2 ^ (64 - s) := Nat.mod_lt _ (Nat.pow_pos (by omega))
  have h2 : (w % 2 ^ (64 - s) + 1) * 2 ^ s ≤ 2 ^ (64 - s) * 2 ^ s := Nat.mul_le_mul_right _ h1
  rw [shl_low hs]
  rw [← e, Nat.add_mul, Nat.one_mul] at h2
  omega
theorem shr_or {x y s : Nat} (hx : x < 18446744073709551616) (hs : s ≤ 64) : x / 2 ^ s ||| y * 2 ^ (64 - s) % 18446744073709551616 = x / 2 ^ s + y % 2 ^ s * 2 ^ (64 - s) ∧ x / 2 ^ s + y % 2 ^ s * 2 ^ (64 - s) < 18446744073709551616 := by
  have h1 : x / 2 ^ s < 2 ^ (64 - s) := by
    rw [Nat.div_lt_iff_lt_mul (Nat.pow_pos (by omega)), ← Nat.pow_add, show 64 - s + s = 64 by omega]; exact hx
  have h2 := shl_or (w := y) (s := 64 - s) (by omega) h1
  have h3 := shl_sum (w := y) (s := 64 - s) (by omega) h1
  have h4 := shl_low (w := y) (s := 64 - s) (by omega)
  rw [show 64 - (64 - s) = s by omega] at h4
  rw [h4] at h2 h3 ⊢
  exact ⟨h2, h3⟩

theorem Tryz_ent166 : Ent Tryz.prog 166 := ent_of Tryz.func166 (by kernel_rfl) rfl
set_option maxHeartbeats 800000 in
theorem shifted_spec (va : Value) (xs : List Nat) (s : Nat) (h : Hp) (ha : SlF h U va xs) (hx : Al 18446744073709551616 xs) (hl : xs.length < 1099511627776) (hs : s < 64) :
    CallsH Tryz.prog 166 [va, U s] h fun v' h' => ∃ os, Ext h h' ∧ OwnF h' h.size 26 U v' os ∧ os.length = xs.length + 1 ∧ Al 18446744073709551616 os ∧ vl 18446744073709551616 os = vl 18446744073709551616 xs * 2 ^ s ∧ os.getD xs.length 0 < 2 ^ s := by
  have hp0 : 0 < 2 ^ s := Nat.pow_pos (by omega)
  (apply enter Tryz.func166 rfl Tryz.ntmps166 rfl)
  refine runM ?_
  (apply (s_make (f := U) (bytes := 8) (0)); (first | exact isK_c | exact isK_t rfl); (first | exact isK_c | exact isK_t rfl); exact rfl; exact rfl; exact rfl; exact rfl; exact rfl; exact rfl; omega; omega; omega)
  intro out h1 o1 e1 b1
  refine clsI ?_
  refine runM ?_
  (first | (apply w_seqB; exact rfl; apply w_block; exact rfl) | skip)
  apply (w_loop (σ := Nat × List Nat) rfl (fun p => [(1, U s), (12, va), (13, N xs.length), (14, N p.1), (5, out)])
    (fun p h' => Ext h h' ∧ OwnF h' h.size 26 U out p.2 ∧ p.2.length = xs.length + 1 ∧ p.1 ≤ xs.length ∧ Al 18446744073709551616 p.2 ∧
      pv 18446744073709551616 p.2 p.1 + 18446744073709551616 ^ p.1 * p.2.getD p.1 0 = pv 18446744073709551616 xs p.1 * 2 ^ s ∧ p.2.getD p.1 0 < 2 ^ s) (fun p => xs.length - p.1) (0, List.replicate (xs.length + 1) 0))
  · exact subs
  · refine ⟨e1, o1, by simp, Nat.zero_le _, Al.replicate (by omega) _, ?_, ?_⟩
    · simp [pv, List.replicate_succ]
    · simpa [List.replicate_succ] using hp0
  · rintro ⟨i, os⟩ h' ⟨e, o, i1, i2, i3, i4, i5⟩
    dsimp only at e o i1 i2 i3 i4 i5 ⊢
    have ha' := ha.ext e
    refine runM ?_
    (apply w_condD; exact rfl; exact rfl) <;> intro hi
    · have hw := hx.getD (by omega) i
      have ho := i3.getD (by omega) i
      have hor := shl_or (w := xs.getD i 0) (s := s) (by omega) i5
      have hsum := shl_sum (w := xs.getD i 0) (s := s) (by omega) i5
      have hhi := shl_hi hw (s := s) (by omega)
      have hdv := shl_word hw (s := s) (by omega)
      have hmd := Num.modW (xs.getD i 0 * 2 ^ s)
      have hst := shl_step (b := 18446744073709551616) (w := xs.getD i 0) i4 rfl (Nat.mod_add_div _ _).symm
      have hlw : xs.getD i 0 / 2 ^ (64 - s) < 18446744073709551616 := Nat.lt_of_le_of_lt (Nat.div_le_self _ _) hw
      refine runM ?_
      rw [hor]
      rw [hdv] at hst
      generalize hw1 : os.getD i 0 + xs.getD i 0 * 2 ^ s % 18446744073709551616 = w1 at *
      generalize hw2 : xs.getD i 0 / 2 ^ (64 - s) = w2 at *
      (apply (s_storeF (w1)); exact rfl; exact rfl; exact rfl; exact rfl; exact rfl; exact o; exact rfl; (first | assumption | omega))
      intro h2 o2 k2
      refine clsI ?_
      have e2 := o.old k2 e (Nat.le_refl _)
      have hl2 : (os.set i w1).length = xs.length + 1 := by simp [i1]
      refine runM ?_
      rw [hw2]
      (apply (s_storeF (w2)); exact rfl; exact rfl; exact rfl; exact rfl; exact rfl; exact o2; exact rfl; (first | assumption | omega))
      intro h3 o3 k3
      refine clsI ?_
      have e3 := o2.old k3 e2 (Nat.le_refl _)
      refine runM ?_
      apply again_normal (i + 1, (os.set i w1).set (i + 1) w2)
      · exact subs
      · refine ⟨e3, o3, by simp [i1], hi, (i3.set hsum _).set hlw _, ?_, ?_⟩
        · simp only []
          rw [getD_set_self (by simp; omega)]
          simp only [pv]
          rw [pv_set (by omega), pv_set (Nat.le_refl _), getD_set_other (by omega), getD_set_self (by omega), Nat.pow_succ]
          exact hst
        · simp only []
          rw [getD_set_self (by simp; omega)]; exact hhi
      · simp only []; omega
    · have hie : i = xs.length := by omega
      subst hie
      refine runM ?_
      refine fin1 rfl rfl ⟨os, e, o, i1, i3, ?_, i5⟩
      rw [← pv_full (xs := os) (k := xs.length + 1) (by omega), pv, i4, pv_full (Nat.le_refl _)]

theorem Tryz_ent127 : Ent Tryz.prog 127 := ent_of Tryz.func127 (by kernel_rfl) rfl
set_option maxHeartbeats 800000 in
theorem byWord_spec (va : Value) (xs : List Nat) (w : Nat) (h : Hp) (ha : SlF h U va xs) (hx : Al 18446744073709551616 xs) (hl : xs.length < 1099511627776) (hw0 : 0 < w) (hw : w < 18446744073709551616) :
    CallsH Tryz.prog 127 [va, U w] h fun v' h' => ∃ q, v' = .tuple #[q, U (vl 18446744073709551616 xs % w)] ∧ Ext h h' ∧ OwnF h' h.size 26 U q (dg 18446744073709551616 (vl 18446744073709551616 xs / w)) := by
  (apply enter Tryz.func127 rfl Tryz.ntmps127 rfl)
  refine runM ?_
  (apply (s_make (f := U) (bytes := 8) (0)); (first | exact isK_c | exact isK_t rfl); (first | exact isK_c | exact isK_t rfl); exact rfl; exact rfl; exact rfl; exact rfl; exact rfl; exact rfl; omega; omega; omega)
  intro out h1 o1 e1 b1
  refine clsI ?_
  refine runM ?_
  (first | (apply w_seqB; exact rfl; apply w_block; exact rfl) | skip)
  apply (w_loop (σ := Nat × Nat × List Nat) rfl (fun p => [(0, va), (1, U w), (6, out), (7, U p.2.1), (8, I ((p.1 : Int) - 1))])
    (fun p h' => Ext h h' ∧ OwnF h' h.size 26 U out p.2.2 ∧ p.2.2.length = xs.length ∧ p.1 ≤ xs.length ∧ Al 18446744073709551616 p.2.2 ∧ p.2.1 < w ∧
      vl 18446744073709551616 (xs.drop p.1) = vl 18446744073709551616 (p.2.2.drop p.1) * w + p.2.1) (fun p => p.1) (xs.length, 0, List.replicate xs.length 0))
  · exact subs
  · refine ⟨e1, o1, by simp, Nat.le_refl _, Al.replicate (by omega) _, hw0, ?_⟩
    simp [List.drop_of_length_le, vl]
  · rintro ⟨k, r, os⟩ h' ⟨e, o, i1, i2, i3, i4, i5⟩
    dsimp only at e o i1 i2 i3 i4 i5 ⊢
    have ha' := ha.ext e
    refine runM ?_
    (apply w_condD; exact rfl; exact rfl) <;> intro hk
    · obtain ⟨i, rfl⟩ : ∃ i, k = i + 1 := ⟨k - 1, by omega⟩
      (apply w_know (t := 8) (u := N (i)) rfl (congrArg I (by omega)))
      have hxi := hx.getD (by omega) i
      refine runM ?_
      generalize hxd : xs.getD i 0 = x at *
      apply (s_call Tryz_ent168 rfl rfl rfl)
      refine (div64_spec r x w h' i4 hxi hw).mono ?_
      rintro _ _ ⟨rfl, rfl⟩
      refine clsI ?_
      have hdm := Nat.div_add_mod (r * 18446744073709551616 + x) w
      have hml : (r * 18446744073709551616 + x) % w < w := Nat.mod_lt _ hw0
      have hql : (r * 18446744073709551616 + x) / w < 18446744073709551616 := Num.digit_lt hxi i4
      generalize (r * 18446744073709551616 + x) / w = q at *
      generalize (r * 18446744073709551616 + x) % w = r' at *
      refine runM ?_
      (apply (s_storeF (q)); exact rfl; exact rfl; exact rfl; exact rfl; exact rfl; exact o; exact rfl; (first | assumption | omega))
      intro h2 o2 k2
      refine clsI ?_
      have e2 := o.old k2 e (Nat.le_refl _)
      refine runM ?_
      apply again_normal (i, r', os.set i q)
      · exact subs
      · refine ⟨e2, o2, by simp [i1], by simp only []; omega, i3.set hql _, hml, ?_⟩
        simp only []
        rw [List.drop_eq_getElem_cons (by omega : i < xs.length), List.drop_eq_getElem_cons (by simp; omega : i < (os.set i q).length)]
        simp only [vl, List.getElem_set_self, i5]
        rw [List.drop_set_of_lt (by omega)]
        have hx' : xs[i] = x := by rw [← hxd]; simp [show i < xs.length by omega]
        rw [hx', Nat.add_mul, Nat.mul_add, Nat.mul_comm q w, Nat.mul_assoc]
        omega
      · exact Nat.lt_succ_self i
    · have hk0 : k = 0 := by omega
      subst hk0
      simp only [List.drop_zero] at i5
      refine runM ?_
      apply (s_call Tryz_ent126 rfl rfl rfl)
      refine (norm_spec out _ h' o.sl (by omega)).mono ?_
      rintro v3 _ ⟨rfl, s3, o3⟩
      refine clsI ?_
      have hq : vl 18446744073709551616 os = vl 18446744073709551616 xs / w := by
        rw [i5, Nat.mul_comm, Nat.mul_add_div hw0, Nat.div_eq_of_lt i4, Nat.add_zero]
      have hr : r = vl 18446744073709551616 xs % w := by
        rw [i5, Nat.mul_comm, Nat.mul_add_mod, Nat.mod_eq_of_lt i4]
      refine runM ?_
      refine fin2 rfl rfl rfl ⟨v3, by rw [hr], e, ?_⟩
      have := o3 _ _ o
      rw [nrm_eq (by omega) i3, hq] at this
      exact this
end Go.Proofs.YtfcmdefigldpnaaGreatDoor


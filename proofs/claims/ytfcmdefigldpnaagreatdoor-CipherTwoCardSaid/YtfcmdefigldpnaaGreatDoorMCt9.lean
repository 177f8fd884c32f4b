/- Texts Knu to NatI of this work, joined, without what the law does not lean on. -/
import Derived.Test.YtfcmdefigldpnaaGreatDoorMCt8
namespace Go.Dig
set_option linter.unusedVariables false
set_option maxRecDepth 8000

section
variable {b : Nat}

theorem guess_top {X Y p X2 yt : Nat} (hX : X < p * (X2 + 1)) (hY : p * yt ≤ Y) (h0 : 0 < yt) : X / Y ≤ X2 / yt := by
  rw [Nat.le_div_iff_mul_le h0]
  refine Nat.le_of_not_lt fun hlt => ?_
  have h1 : X / Y * Y ≤ X := Nat.div_mul_le_self _ _
  have h2 : X / Y * (p * yt) ≤ X / Y * Y := Nat.mul_le_mul_left _ hY
  have h3 : p * (X2 + 1) ≤ p * (X / Y * yt) := Nat.mul_le_mul_left _ hlt
  have h4 : X / Y * (p * yt) = p * (X / Y * yt) := by rw [← Nat.mul_assoc, ← Nat.mul_assoc, Nat.mul_comm (X / Y) p]
  omega

theorem guess_next {X Y p X2 x2 yt y2 g r : Nat} (hX : X < p * (X2 * b + x2 + 1)) (hY : p * (yt * b + y2) ≤ Y) (h0 : 0 < Y) (hg : g * yt + r = X2) (hlt : r * b + x2 < g * y2) : X / Y < g := by
  rw [Nat.div_lt_iff_lt_mul h0]
  have h1 : g * (p * (yt * b + y2)) ≤ g * Y := Nat.mul_le_mul_left _ hY
  have h2 : g * (p * (yt * b + y2)) = p * (g * (yt * b + y2)) := by rw [← Nat.mul_assoc, ← Nat.mul_assoc, Nat.mul_comm g p]
  have h3 : g * (yt * b + y2) = g * yt * b + g * y2 := by rw [Nat.mul_add, Nat.mul_assoc]
  have h4 : X2 * b = g * yt * b + r * b := by rw [← hg, Nat.add_mul]
  have h5 : p * (X2 * b + x2 + 1) ≤ p * (g * yt * b + g * y2) := Nat.mul_le_mul_left _ (by omega)
  rw [h2, h3] at h1
  omega

/-- The highest digits of a number, and what they leave. -/
theorem vl_top2 {xs : List Nat} {n : Nat} (hl : xs.length = n + 2) : vl b xs = pv b xs n + b ^ n * (xs.getD n 0 + b * xs.getD (n + 1) 0) := by
  rw [← pv_full (k := n + 2) (by omega)]
  simp only [pv, Nat.pow_succ, Nat.mul_add, Nat.mul_assoc]; omega
theorem vl_top3 {xs : List Nat} {n : Nat} (hl : xs.length = n + 3) : vl b xs = pv b xs n + b ^ n * (xs.getD n 0 + b * (xs.getD (n + 1) 0 + b * xs.getD (n + 2) 0)) := by
  rw [← pv_full (k := n + 3) (by omega)]
  simp only [pv, Nat.pow_succ, Nat.mul_add, Nat.mul_assoc]; omega

/-- All that the guess of a digit needs: x has n + 3 digits, y n + 2. -/
theorem guess_facts {xs ys : List Nat} {n : Nat} (hb : 0 < b) (hx : Al b xs) (hxl : xs.length = n + 3) (hyl : ys.length = n + 2) (h0 : 0 < ys.getD (n + 1) 0) :
    vl b xs / vl b ys ≤ (xs.getD (n + 2) 0 * b + xs.getD (n + 1) 0) / ys.getD (n + 1) 0 ∧
    ∀ g r, g * ys.getD (n + 1) 0 + r = xs.getD (n + 2) 0 * b + xs.getD (n + 1) 0 → r * b + xs.getD n 0 < g * ys.getD n 0 → vl b xs / vl b ys < g := by
  have hxt := vl_top3 (b := b) hxl
  have hyt := vl_top2 (b := b) hyl
  have hp := pv_lt hx hb n
  have hp1 := pv_lt hx hb (n + 1)
  have hbn : 0 < b ^ n := Nat.pow_pos hb
  have hY0 : 0 < vl b ys := by
    have h1 : 1 ≤ ys.getD n 0 + b * ys.getD (n + 1) 0 := by
      have := Nat.mul_pos hb h0
      omega
    have := Nat.mul_le_mul hbn h1
    omega
  refine ⟨guess_top (p := b ^ (n + 1)) ?_ ?_ h0, fun g r h1 h2 => guess_next (b := b) (p := b ^ n) (x2 := xs.getD n 0) (y2 := ys.getD n 0) ?_ ?_ hY0 h1 h2⟩
  · have e : vl b xs = pv b xs (n + 1) + b ^ (n + 1) * (xs.getD (n + 2) 0 * b + xs.getD (n + 1) 0) := by
      rw [hxt]; simp only [pv, Nat.pow_succ, Nat.mul_add, Nat.mul_assoc, Nat.mul_comm (xs.getD (n + 2) 0) b]; omega
    rw [e, Nat.mul_add_one]
    omega
  · rw [hyt, Nat.pow_succ, Nat.mul_add, Nat.mul_assoc]; omega
  · rw [hxt, Nat.mul_add _ _ 1, Nat.mul_one]
    have : (xs.getD (n + 2) 0 * b + xs.getD (n + 1) 0) * b + xs.getD n 0 = xs.getD n 0 + b * (xs.getD (n + 1) 0 + b * xs.getD (n + 2) 0) := by
      rw [Nat.mul_comm _ b, Nat.mul_comm (xs.getD (n + 2) 0) b]; simp only [Nat.mul_add]; omega
    rw [this]; omega
  · rw [hyt, Nat.mul_comm (ys.getD (n + 1) 0) b, Nat.add_comm (b * _)]; omega

theorem sub_step {p q B g c bo x x' y c' bo' P : Nat} (h : p + g * q = P + B * (bo + c)) (hw : x' + g * y + c + bo = x + b * bo' + b * c') :
    p + B * x' + g * (q + B * y) = P + B * x + B * b * (bo' + c') := by
  have e1 : g * (q + B * y) = g * q + B * (g * y) := by rw [Nat.mul_add, ← Nat.mul_assoc, ← Nat.mul_assoc, Nat.mul_comm g B]
  have e2 : B * x' + B * (g * y) + B * c + B * bo = B * x + B * (b * bo') + B * (b * c') := by
    have := congrArg (B * ·) hw
    simpa only [Nat.mul_add] using this
  have e3 : B * b * (bo' + c') = B * (b * bo') + B * (b * c') := by rw [Nat.mul_assoc, Nat.mul_add, Nat.mul_add]
  rw [Nat.mul_add] at h
  rw [e1, e3]; omega
theorem sub_last {p q B g c bo x x' bo' P : Nat} (h : p + g * q = P + B * (bo + c)) (hw : x' + c + bo = x + b * bo') :
    p + B * x' + g * q = P + B * x + B * b * bo' := by
  have e2 : B * x' + B * c + B * bo = B * x + B * (b * bo') := by
    have := congrArg (B * ·) hw
    simpa only [Nat.mul_add] using this
  rw [Nat.mul_add] at h
  rw [Nat.mul_assoc]; omega

/-- Where too much was taken the guess was too great. -/
theorem back_lt {Z g Y X B : Nat} (h : Z + g * Y = X + B * 1) (hz : Z < B) (h0 : 0 < Y) : X / Y < g := by
  rw [Nat.div_lt_iff_lt_mul h0]; omega
theorem back_step {Z Z' g Y X B c : Nat} (h : Z + g * Y = X + B * 1) (ha : Z' + B * c = Z + Y) (hc : c ≤ 1) (hg : 1 ≤ g) : Z' + (g - 1) * Y = X + B * (1 - c) := by
  obtain ⟨k, rfl⟩ : ∃ k, g = k + 1 := ⟨g - 1, by omega⟩
  rw [Nat.add_sub_cancel]
  rw [Nat.add_mul, Nat.one_mul] at h
  rcases (by omega : c = 0 ∨ c = 1) with rfl | rfl <;> omega
theorem digit_end {Z g Y X B : Nat} (h : Z + g * Y = X + B * 0) (hge : X / Y ≤ g) (h0 : 0 < Y) : g = X / Y ∧ Z = X % Y := by
  have h1 : g ≤ X / Y := by rw [Nat.le_div_iff_mul_le h0]; omega
  have h2 : g = X / Y := Nat.le_antisymm h1 hge
  refine ⟨h2, ?_⟩
  have h3 := Nat.div_add_mod X Y
  rw [← h2, Nat.mul_comm] at h3
  omega

theorem shl_step {p B o w s b' P : Nat} (h : p + B * o = P * s) (hb : b' = b) (hw : w * s = w * s % b + b * (w * s / b)) : p + B * (o + w * s % b) + B * b' * (w * s / b) = (P + B * w) * s := by
  have e : B * (w * s) = B * (w * s % b) + B * (b * (w * s / b)) := by rw [← Nat.mul_add, ← hw]
  subst hb
  rw [Nat.add_mul, Nat.mul_assoc B w s, e, Nat.mul_add, Nat.mul_assoc]
  omega
theorem shr_step {b p q t0 t t' B x hh s m : Nat} (h : s * p + t0 = q + B * t) (hx : x = hh * s + t) (hsm : s * m = b) : s * (p + B * (hh + t' * m)) + t0 = q + B * x + B * b * t' := by
  have e : s * (B * (hh + t' * m)) = B * (hh * s) + B * b * t' := by
    rw [← hsm, ← Nat.mul_assoc, Nat.mul_comm s B, Nat.mul_assoc, Nat.mul_add, Nat.mul_comm s hh, Nat.mul_add, Nat.mul_assoc, Nat.mul_assoc, Nat.mul_comm m t', ← Nat.mul_assoc s, Nat.mul_comm s t', Nat.mul_assoc]
  rw [Nat.mul_add, e, hx, Nat.mul_add]
  omega

theorem vl_drop_head {xs : List Nat} {i : Nat} (h : i < xs.length) : vl b (xs.drop i) = xs.getD i 0 + b * vl b (xs.drop (i + 1)) := by
  rw [List.drop_eq_getElem_cons h]; simp [vl, h]
/-- What a window holds, where nothing stands above it. -/
theorem win_lt {pre ws post : List Nat} {Y : Nat} (hx : Al b (pre ++ ws ++ post)) (hb : 0 < b) (hw : 0 < ws.length) (h0 : vl b post = 0) (hc : vl b ((pre ++ ws ++ post).drop (pre.length + 1)) < Y) : vl b ws < Y * b := by
  cases ws with
  | nil => simp at hw
  | cons w ws =>
    have hwb : w < b := hx w (by simp)
    have e : (pre ++ (w :: ws) ++ post).drop (pre.length + 1) = ws ++ post := by
      rw [List.append_assoc, List.drop_append]; simp [List.drop_of_length_le]
    rw [e, vl_append, h0, Nat.mul_zero, Nat.add_zero] at hc
    have h1 : b * (vl b ws + 1) ≤ b * Y := Nat.mul_le_mul_left _ hc
    rw [Nat.mul_add, Nat.mul_comm b Y] at h1
    simp only [vl]; omega
theorem div_step {pre ws ws' post qs : List Nat} {m q X Y : Nat} (hb : 0 < b) (hl' : ws'.length = m + 1) (hl : ws.length = m + 1) (ha' : Al b ws') (h0 : vl b post = 0) (hY : Y < b ^ m) (hq : q = vl b ws / Y) (hr : vl b ws' = vl b ws % Y) (hY0 : 0 < Y) (hi : pre.length < qs.length)
    (hd : vl b (pre ++ ws ++ post) + b ^ (pre.length + 1) * vl b (qs.drop (pre.length + 1)) * Y = X) :
    vl b ((pre ++ ws' ++ post).drop (pre.length + m)) = 0 ∧ vl b ((pre ++ ws' ++ post).drop pre.length) < Y ∧
    vl b (pre ++ ws' ++ post) + b ^ pre.length * vl b ((qs.set pre.length q).drop pre.length) * Y = X := by
  have hlt : vl b ws' < Y := by rw [hr]; exact Nat.mod_lt _ hY0
  have hsp := vl_split (b := b) ws' m
  have hd1 : ws'.drop m = [ws'.getD m 0] := by
    rw [List.drop_eq_getElem_cons (by omega), List.drop_of_length_le (by omega)]
    simp [show m < ws'.length by omega]
  have htop : ws'.getD m 0 = 0 := by
    rw [hd1] at hsp
    simp only [vl, Nat.mul_zero, Nat.add_zero] at hsp
    rcases Nat.eq_zero_or_pos (ws'.getD m 0) with h | h
    · exact h
    · have := Nat.mul_le_mul_left (b ^ m) h
      omega
  refine ⟨?_, ?_, ?_⟩
  · rw [List.append_assoc, List.drop_append, List.drop_of_length_le (by omega), List.nil_append, Nat.add_sub_cancel_left, List.drop_append, hd1, htop, hl', show m - (m + 1) = 0 by omega, List.drop_zero, vl_append, h0]
    simp [vl]
  · rw [List.append_assoc, List.drop_append, List.drop_of_length_le (Nat.le_refl _), List.nil_append, Nat.sub_self, List.drop_zero, vl_append, h0]
    simpa using hlt
  · rw [List.append_assoc, vl_append, vl_append, h0, Nat.mul_zero, Nat.add_zero] at hd ⊢
    rw [vl_drop_head (by simpa using hi), show (qs.set pre.length q).getD pre.length 0 = q by simp [hi], List.drop_set_of_lt (by omega)]
    have hdm := Nat.div_add_mod (vl b ws) Y
    rw [← hq, ← hr] at hdm
    rw [← hd, ← hdm, Nat.pow_succ]
    simp only [Nat.mul_add, Nat.add_mul]
    have e1 : b ^ pre.length * (Y * q) = b ^ pre.length * q * Y := by rw [Nat.mul_comm Y q, Nat.mul_assoc]
    have e2 : b ^ pre.length * b * vl b (qs.drop (pre.length + 1)) * Y = b ^ pre.length * (b * vl b (qs.drop (pre.length + 1))) * Y := by simp only [Nat.mul_assoc]
    omega
theorem div_mod_of {X Y q r : Nat} (h : r + q * Y = X) (hr : r < Y) : q = X / Y ∧ r = X % Y := by
  have h0 : 0 < Y := by omega
  constructor
  · rw [← h, Nat.mul_comm, Nat.add_mul_div_left _ _ h0, Nat.div_eq_of_lt hr, Nat.zero_add]
  · rw [← h, Nat.mul_comm, Nat.add_mul_mod_self_left, Nat.mod_eq_of_lt hr]
/-- The divisor, moved up till it fills its words. -/
theorem moved {ys : List Nat} {m s H : Nat} (hb : 1 < b) (hy : Al b ys) (hyl : ys.length = m + 1) (h0 : ys.getD m 0 ≠ 0) (hH : H ≤ ys.getD m 0 * 2 ^ s) (hs : (ys.getD m 0 + 1) * 2 ^ s ≤ b) :
    (dg b (vl b ys * 2 ^ s)).length = m + 1 ∧ H ≤ (dg b (vl b ys * 2 ^ s)).getD m 0 ∧ b ^ m * H ≤ vl b ys * 2 ^ s ∧ vl b ys * 2 ^ s < b ^ (m + 1) := by
  have hsp : vl b ys = pv b ys m + b ^ m * ys.getD m 0 := by rw [← pv_full (k := m + 1) (by omega)]; rfl
  have hp := pv_lt hy (by omega) m
  have hpow : 0 < 2 ^ s := Nat.pow_pos (by omega)
  have hbm : 0 < b ^ m := Nat.pow_pos (by omega)
  have h1 : vl b ys * 2 ^ s < b ^ (m + 1) := by
    have h2 : vl b ys < b ^ m * (ys.getD m 0 + 1) := by rw [hsp, Nat.mul_add_one]; omega
    have h3 : vl b ys * 2 ^ s < b ^ m * (ys.getD m 0 + 1) * 2 ^ s := Nat.mul_lt_mul_of_pos_right h2 hpow
    have h4 : b ^ m * ((ys.getD m 0 + 1) * 2 ^ s) ≤ b ^ m * b := Nat.mul_le_mul_left _ hs
    rw [← Nat.mul_assoc] at h4
    rw [Nat.pow_succ]; omega
  have h2 : b ^ m * H ≤ vl b ys * 2 ^ s := by
    have := Nat.mul_le_mul_left (b ^ m) hH
    rw [← Nat.mul_assoc] at this
    rw [hsp, Nat.add_mul]; omega
  have h3 : b ^ m ≤ vl b ys * 2 ^ s := by
    have h5 : b ^ m * 1 ≤ b ^ m * ys.getD m 0 := Nat.mul_le_mul_left _ (by omega)
    have h6 : vl b ys * 1 ≤ vl b ys * 2 ^ s := Nat.mul_le_mul_left _ hpow
    omega
  have hlen : (dg b (vl b ys * 2 ^ s)).length = m + 1 := by
    have h5 := dg_len hb h1
    have h6 := dg_lt hb (vl b ys * 2 ^ s)
    have h7 := (Nat.pow_lt_pow_iff_right hb).1 (Nat.lt_of_le_of_lt h3 h6)
    omega
  refine ⟨hlen, ?_, h2, h1⟩
  have hv := vl_dg hb (vl b ys * 2 ^ s)
  have ha := al_dg (b := b) (by omega) (vl b ys * 2 ^ s)
  generalize dg b (vl b ys * 2 ^ s) = zs at *
  have hz : vl b zs = pv b zs m + b ^ m * zs.getD m 0 := by rw [← pv_full (k := m + 1) (by omega)]; rfl
  have hzp := pv_lt ha (by omega) m
  refine Nat.le_of_not_lt fun hlt => ?_
  have := Nat.mul_le_mul_left (b ^ m) hlt
  rw [Nat.mul_succ] at this
  omega
/-- The highest words of what is divided are less than the divisor. -/
theorem top_lt {xs : List Nat} {k m H Y : Nat} (hx : Al b xs) (hb : 0 < b) (hl : xs.length = k + m + 1) (hH : xs.getD (k + m) 0 < H) (hY : b ^ m * H ≤ Y) : vl b (xs.drop k) < Y := by
  have e : vl b (xs.drop k) = pv b (xs.drop k) m + b ^ m * xs.getD (k + m) 0 := by
    rw [← pv_full (xs := xs.drop k) (k := m + 1) (by simp; omega)]
    simp [pv]
  have hp := pv_lt (hx.drop k) hb m
  have := Nat.mul_le_mul_left (b ^ m) hH
  rw [Nat.mul_succ] at this
  omega
/-- How many bits a number has. -/
def nb (n : Nat) : Nat := if n = 0 then 0 else n.log2 + 1
theorem nb_of {n k : Nat} (h1 : 2 ^ k ≤ n) (h2 : n < 2 ^ (k + 1)) : nb n = k + 1 := by
  have h0 : n ≠ 0 := by have := Nat.pow_pos (n := k) (show 0 < 2 by omega); omega
  have h3 := (Nat.le_log2 h0).2 h1
  have h4 := (Nat.log2_lt h0).2 h2
  rw [nb, if_neg h0]; omega
theorem nb_top {xs : List Nat} {m k : Nat} (hb : b = 2 ^ k) (hx : Al b xs) (hl : xs.length = m + 1) {j : Nat} (h1 : 2 ^ j ≤ xs.getD m 0) (h2 : xs.getD m 0 < 2 ^ (j + 1)) : nb (vl b xs) = k * m + j + 1 := by
  have hsp : vl b xs = pv b xs m + b ^ m * xs.getD m 0 := by rw [← pv_full (k := m + 1) (by omega)]; rfl
  have hb0 : 0 < b := by rw [hb]; exact Nat.pow_pos (by omega)
  have hp := pv_lt hx hb0 m
  have e : b ^ m = 2 ^ (k * m) := by rw [hb, ← Nat.pow_mul]
  apply nb_of
  · have := Nat.mul_le_mul_left (b ^ m) h1
    rw [Nat.pow_add, ← e]; omega
  · have := Nat.mul_le_mul_left (b ^ m) h2
    rw [Nat.mul_succ] at this
    rw [Nat.add_assoc, Nat.pow_add, ← e]; omega
end
end Go.Dig


namespace Go.Proofs.YtfcmdefigldpnaaGreatDoor
set_option linter.unusedVariables false
set_option maxRecDepth 8000
open Go Go.Den Go.RowKit Go.Dig

theorem shl_word {w s : Nat} (hw : w < 18446744073709551616) (hs : s ≤ 64) : w * 2 ^ s / 18446744073709551616 = w / 2 ^ (64 - s) := by
  have e : (18446744073709551616 : Nat) = 2 ^ (64 - s) * 2 ^ s := by rw [← Nat.pow_add, show 64 - s + s = 64 by omega]
  rw [e, Nat.mul_div_mul_right _ _ (Nat.pow_pos (by omega))]
theorem shl_low {w s : Nat} (hs : s ≤ 64) : w * 2 ^ s % 18446744073709551616 = w % 2 ^ (64 - s) * 2 ^ s := by
  have e : (18446744073709551616 : Nat) = 2 ^ (64 - s) * 2 ^ s := by rw [← Nat.pow_add, show 64 - s + s = 64 by omega]
  rw [e, Nat.mul_mod_mul_right]
theorem shl_or {w s o : Nat} (hs : s ≤ 64) (ho : o < 2 ^ s) : o ||| w * 2 ^ s % 18446744073709551616 = o + w * 2 ^ s % 18446744073709551616 := by
  rw [shl_low hs, Nat.or_comm, Num.or_add ho, Nat.add_comm]
theorem shl_hi {w s : Nat} (hw : w < 18446744073709551616) (hs : s ≤ 64) : w / 2 ^ (64 - s) < 2 ^ s := by
  rw [Nat.div_lt_iff_lt_mul (Nat.pow_pos (by omega)), ← Nat.pow_add, show s + (64 - s) = 64 by omega]; exact hw
theorem shl_sum {w s o : Nat} (hs : s ≤ 64) (ho : o < 2 ^ s) : o + w * 2 ^ s % 18446744073709551616 < 18446744073709551616 := by
  have e : (18446744073709551616 : Nat) = 2 ^ (64 - s) * 2 ^ s := by rw [← Nat.pow_add, show 64 - s + s = 64 by omega]
  have h1 : w % 2 ^ (64 - s) < 2 ^ (64 - s) := Nat.mod_lt _ (Nat.pow_pos (by omega))
  have h2 : (w % 2 ^ (64 - s) + 1) * 2 ^ s ≤ 2 ^ (64 - s) * 2 ^ s := Nat.mul_le_mul_right _ h1
  rw [shl_low hs]
  rw [← e, Nat.add_mul, Nat.one_mul] at h2
  omega
theorem shr_or {x y s : Nat} (hx : x < 18446744073709551616) (hs : s ≤ 64) : x / 2 ^ s ||| y * 2 ^ (64 - s) % 18446744073709551616 = x / 2 ^ s + y % 2 ^ s * 2 ^ (64 - s) ∧ x / 2 ^ s + y % 2 ^ s * 2 ^ (64 - s) < 18446744073709551616 := by
  have h1 : x / 2 ^ s < 2 ^ (64 - s) := by
    rw [Nat.div_lt_iff_lt_mul (Nat.pow_pos (by omega)), ← Nat.pow_add, show 64 - s + s = 64 by omega]; exact hx
  have h2 := shl_or (w := y) (s := 64 - s) (by omega) h1
  have h3 := shl_sum (w := y) (s := 64 - s) (by omega) h1
  have h4 := shl_low (w := y) (s := 64 - s) (by omega)
  rw [show 64 - (64 - s) = s by omega] at h4
  rw [h4] at h2 h3 ⊢
  exact ⟨h2, h3⟩

theorem Tryz_ent166 : Ent Tryz.prog 166 := ent_of Tryz.func166 (by kernel_rfl) rfl
set_option maxHeartbeats 800000 in
theorem shifted_spec (va : Value) (xs : List Nat) (s : Nat) (h : Hp) (ha : SlF h U va xs) (hx : Al 18446744073709551616 xs) (hl : xs.length < 1099511627776) (hs : s < 64) :
    CallsH Tryz.prog 166 [va, U s] h fun v' h' => ∃ os, Ext h h' ∧ OwnF h' h.size 26 U v' os ∧ os.length = xs.length + 1 ∧ Al 18446744073709551616 os ∧ vl 18446744073709551616 os = vl 18446744073709551616 xs * 2 ^ s ∧ os.getD xs.length 0 < 2 ^ s := by
  have hp0 : 0 < 2 ^ s := Nat.pow_pos (by omega)
  (apply enter Tryz.func166 rfl Tryz.ntmps166 rfl)
  refine runM ?_
  (apply (s_make (f := U) (bytes := 8) (0)); (first | exact isK_c | exact isK_t rfl); (first | exact isK_c | exact isK_t rfl); exact rfl; exact rfl; exact rfl; exact rfl; exact rfl; exact rfl; omega; omega; omega)
  intro out h1 o1 e1 b1
  refine ⟨(by first | exact trivial | exact Ext.refl _ | assumption | exact Ext.trans (by assumption) (by assumption)), ?_⟩
  refine runM ?_
  (first | (apply w_seqB; exact rfl; apply w_block; exact rfl) | skip)
  apply (w_loop (σ := Nat × List Nat) rfl (fun p => [(1, U s), (12, va), (13, N xs.length), (14, N p.1), (5, out)])
    (fun p h' => Ext h h' ∧ OwnF h' h.size 26 U out p.2 ∧ p.2.length = xs.length + 1 ∧ p.1 ≤ xs.length ∧ Al 18446744073709551616 p.2 ∧
      pv 18446744073709551616 p.2 p.1 + 18446744073709551616 ^ p.1 * p.2.getD p.1 0 = pv 18446744073709551616 xs p.1 * 2 ^ s ∧ p.2.getD p.1 0 < 2 ^ s) (fun p => xs.length - p.1) (0, List.replicate (xs.length + 1) 0))
  · exact (Sub.cons rfl (Sub.cons rfl (Sub.cons rfl (Sub.cons rfl (Sub.cons rfl (Sub.nil _))))))
  · refine ⟨e1, o1, by simp, Nat.zero_le _, Al.replicate (by omega) _, ?_, ?_⟩
    · simp [pv, List.replicate_succ]
    · simpa [List.replicate_succ] using hp0
  · rintro ⟨i, os⟩ h' ⟨e, o, i1, i2, i3, i4, i5⟩
    dsimp only at e o i1 i2 i3 i4 i5 ⊢
    have ha' := ha.ext e
    refine runM ?_
    (apply w_condD; exact rfl; exact rfl) <;> intro hi
    · have hw := hx.getD (by omega) i
      have ho := i3.getD (by omega) i
      have hor := shl_or (w := xs.getD i 0) (s := s) (by omega) i5
      have hsum := shl_sum (w := xs.getD i 0) (s := s) (by omega) i5
      have hhi := shl_hi hw (s := s) (by omega)
      have hdv := shl_word hw (s := s) (by omega)
      have hmd := Num.modW (xs.getD i 0 * 2 ^ s)
      have hst := shl_step (b := 18446744073709551616) (w := xs.getD i 0) i4 rfl (Nat.mod_add_div _ _).symm
      have hlw : xs.getD i 0 / 2 ^ (64 - s) < 18446744073709551616 := Nat.lt_of_le_of_lt (Nat.div_le_self _ _) hw
      refine runM ?_
      rw [hor]
      rw [hdv] at hst
      generalize hw1 : os.getD i 0 + xs.getD i 0 * 2 ^ s % 18446744073709551616 = w1 at *
      generalize hw2 : xs.getD i 0 / 2 ^ (64 - s) = w2 at *
      (apply (s_storeF (w1)); exact rfl; exact rfl; exact rfl; exact rfl; exact rfl; exact o; exact rfl; (first | assumption | omega))
      intro h2 o2 k2
      refine ⟨(by first | exact trivial | exact Ext.refl _ | assumption | exact Ext.trans (by assumption) (by assumption)), ?_⟩
      have e2 := o.old k2 e (Nat.le_refl _)
      have hl2 : (os.set i w1).length = xs.length + 1 := by simp [i1]
      refine runM ?_
      rw [hw2]
      (apply (s_storeF (w2)); exact rfl; exact rfl; exact rfl; exact rfl; exact rfl; exact o2; exact rfl; (first | assumption | omega))
      intro h3 o3 k3
      refine ⟨(by first | exact trivial | exact Ext.refl _ | assumption | exact Ext.trans (by assumption) (by assumption)), ?_⟩
      have e3 := o2.old k3 e2 (Nat.le_refl _)
      refine runM ?_
      apply again_normal (i + 1, (os.set i w1).set (i + 1) w2)
      · exact (Sub.cons rfl (Sub.cons rfl (Sub.cons rfl (Sub.cons rfl (Sub.cons rfl (Sub.nil _))))))
      · refine ⟨e3, o3, by simp [i1], hi, (i3.set hsum _).set hlw _, ?_, ?_⟩
        · simp only []
          rw [getD_set_self (by simp; omega)]
          simp only [pv]
          rw [pv_set (by omega), pv_set (Nat.le_refl _), getD_set_other (by omega), getD_set_self (by omega), Nat.pow_succ]
          exact hst
        · simp only []
          rw [getD_set_self (by simp; omega)]; exact hhi
      · simp only []; omega
    · have hie : i = xs.length := by omega
      subst hie
      refine runM ?_
      refine fin1 rfl rfl ⟨os, e, o, i1, i3, ?_, i5⟩
      rw [← pv_full (xs := os) (k := xs.length + 1) (by omega), pv, i4, pv_full (Nat.le_refl _)]

theorem Tryz_ent127 : Ent Tryz.prog 127 := ent_of Tryz.func127 (by kernel_rfl) rfl
set_option maxHeartbeats 800000 in
theorem byWord_spec (va : Value) (xs : List Nat) (w : Nat) (h : Hp) (ha : SlF h U va xs) (hx : Al 18446744073709551616 xs) (hl : xs.length < 1099511627776) (hw0 : 0 < w) (hw : w < 18446744073709551616) :
    CallsH Tryz.prog 127 [va, U w] h fun v' h' => ∃ q, v' = .tuple #[q, U (vl 18446744073709551616 xs % w)] ∧ Ext h h' ∧ OwnF h' h.size 26 U q (dg 18446744073709551616 (vl 18446744073709551616 xs / w)) := by
  (apply enter Tryz.func127 rfl Tryz.ntmps127 rfl)
  refine runM ?_
  (apply (s_make (f := U) (bytes := 8) (0)); (first | exact isK_c | exact isK_t rfl); (first | exact isK_c | exact isK_t rfl); exact rfl; exact rfl; exact rfl; exact rfl; exact rfl; exact rfl; omega; omega; omega)
  intro out h1 o1 e1 b1
  refine ⟨(by first | exact trivial | exact Ext.refl _ | assumption | exact Ext.trans (by assumption) (by assumption)), ?_⟩
  refine runM ?_
  (first | (apply w_seqB; exact rfl; apply w_block; exact rfl) | skip)
  apply (w_loop (σ := Nat × Nat × List Nat) rfl (fun p => [(0, va), (1, U w), (6, out), (7, U p.2.1), (8, I ((p.1 : Int) - 1))])
    (fun p h' => Ext h h' ∧ OwnF h' h.size 26 U out p.2.2 ∧ p.2.2.length = xs.length ∧ p.1 ≤ xs.length ∧ Al 18446744073709551616 p.2.2 ∧ p.2.1 < w ∧
      vl 18446744073709551616 (xs.drop p.1) = vl 18446744073709551616 (p.2.2.drop p.1) * w + p.2.1) (fun p => p.1) (xs.length, 0, List.replicate xs.length 0))
  · exact (Sub.cons rfl (Sub.cons rfl (Sub.cons rfl (Sub.cons rfl (Sub.cons rfl (Sub.nil _))))))
  · refine ⟨e1, o1, by simp, Nat.le_refl _, Al.replicate (by omega) _, hw0, ?_⟩
    simp [List.drop_of_length_le, vl]
  · rintro ⟨k, r, os⟩ h' ⟨e, o, i1, i2, i3, i4, i5⟩
    dsimp only at e o i1 i2 i3 i4 i5 ⊢
    have ha' := ha.ext e
    refine runM ?_
    (apply w_condD; exact rfl; exact rfl) <;> intro hk
    · obtain ⟨i, rfl⟩ : ∃ i, k = i + 1 := ⟨k - 1, by omega⟩
      (apply w_know (t := 8) (u := N (i)) rfl (congrArg I (by omega)))
      have hxi := hx.getD (by omega) i
      refine runM ?_
      generalize hxd : xs.getD i 0 = x at *
      apply (s_call Tryz_ent168 rfl rfl rfl)
      refine (div64_spec r x w h' i4 hxi hw).mono ?_
      rintro _ _ ⟨rfl, rfl⟩
      refine ⟨(by first | exact trivial | exact Ext.refl _ | assumption | exact Ext.trans (by assumption) (by assumption)), ?_⟩
      have hdm := Nat.div_add_mod (r * 18446744073709551616 + x) w
      have hml : (r * 18446744073709551616 + x) % w < w := Nat.mod_lt _ hw0
      have hql : (r * 18446744073709551616 + x) / w < 18446744073709551616 := Num.digit_lt hxi i4
      generalize (r * 18446744073709551616 + x) / w = q at *
      generalize (r * 18446744073709551616 + x) % w = r' at *
      refine runM ?_
      (apply (s_storeF (q)); exact rfl; exact rfl; exact rfl; exact rfl; exact rfl; exact o; exact rfl; (first | assumption | omega))
      intro h2 o2 k2
      refine ⟨(by first | exact trivial | exact Ext.refl _ | assumption | exact Ext.trans (by assumption) (by assumption)), ?_⟩
      have e2 := o.old k2 e (Nat.le_refl _)
      refine runM ?_
      apply again_normal (i, r', os.set i q)
      · exact (Sub.cons rfl (Sub.cons rfl (Sub.cons rfl (Sub.cons rfl (Sub.cons rfl (Sub.nil _))))))
      · refine ⟨e2, o2, by simp [i1], by simp only []; omega, i3.set hql _, hml, ?_⟩
        simp only []
        rw [List.drop_eq_getElem_cons (by omega : i < xs.length), List.drop_eq_getElem_cons (by simp; omega : i < (os.set i q).length)]
        simp only [vl, List.getElem_set_self, i5]
        rw [List.drop_set_of_lt (by omega)]
        have hx' : xs[i] = x := by rw [← hxd]; simp [show i < xs.length by omega]
        rw [hx', Nat.add_mul, Nat.mul_add, Nat.mul_comm q w, Nat.mul_assoc]
        omega
      · exact Nat.lt_succ_self i
    · have hk0 : k = 0 := by omega
      subst hk0
      simp only [List.drop_zero] at i5
      refine runM ?_
      apply (s_call Tryz_ent126 rfl rfl rfl)
      refine (norm_spec out _ h' o.sl (by omega)).mono ?_
      rintro v3 _ ⟨rfl, s3, o3⟩
      refine ⟨(by first | exact trivial | exact Ext.refl _ | assumption | exact Ext.trans (by assumption) (by assumption)), ?_⟩
      have hq : vl 18446744073709551616 os = vl 18446744073709551616 xs / w := by
        rw [i5, Nat.mul_comm, Nat.mul_add_div hw0, Nat.div_eq_of_lt i4, Nat.add_zero]
      have hr : r = vl 18446744073709551616 xs % w := by
        rw [i5, Nat.mul_comm, Nat.mul_add_mod, Nat.mod_eq_of_lt i4]
      refine runM ?_
      refine fin2 rfl rfl rfl ⟨v3, by rw [hr], e, ?_⟩
      have := o3 _ _ o
      rw [nrm_eq (by omega) i3, hq] at this
      exact this
end Go.Proofs.YtfcmdefigldpnaaGreatDoor


namespace Go.Proofs.YtfcmdefigldpnaaGreatDoor
set_option linter.unusedVariables false
set_option maxRecDepth 8000
open Go Go.Den Go.RowKit Go.Dig

section
variable {P : Program} {n : Nat} {Q : Post} {l : Fr} {h : Hp} {ops : List Oper} {Ch : Hp → Prop} {E : Nat → Bool} {i : Nat} {t : TypeId} {x y : Operand}
/-- A window of a row of the call's own. -/
theorem win_sl {α : Type} {f : α → Value} {B : Nat} {e : TypeId} {v vx : Value} {pre ws post : List α} (ho : OwnF h B e f v (pre ++ ws ++ post)) (hv : vx = cutV 1 v pre.length (pre.length + ws.length)) : SlF h f vx ws := by
  have := ho.sl.cut (lo := pre.length) (hi := pre.length + ws.length) (by omega) (by simp)
  rw [hv]
  simpa using this
theorem win_ptr {α : Type} {f : α → Value} {B : Nat} {e : TypeId} {v vx : Value} {pre ws post : List α} (ho : OwnF h B e f v (pre ++ ws ++ post)) (hv : vx = cutV 1 v pre.length (pre.length + ws.length)) {j : Nat} (hj : j < ws.length) : ptrAt vx j = ptrAt v (pre.length + j) := by
  obtain ⟨hl, ⟨rfl, hn⟩ | ⟨g, cap, cur, rfl, hB, hg, hc, hm, hs, ht⟩⟩ := ho
  · simp only [List.length_append] at hn; omega
  · subst hv
    simp only [List.length_append] at hc
    simp [cutV, show cap ≠ pre.length by omega, ptrAt, Addr.add_lit]
theorem s_storeW {α : Type} {f : α → Value} {v vx u : Value} {j B : Nat} {pre ws post : List α} {e : TypeId} (u' : α) (ho : OwnF h B e f v (pre ++ ws ++ post)) (hv : vx = cutV 1 v pre.length (pre.length + ws.length)) (hx : ev l x = some (ptrAt vx j)) (hy : ev l y = some u) (hu : f u' = u) (ht : (P.info? t).map (·.size) = some 1) (hE : E i = true) (h1 : u.oneCell' = true) (hj : j < ws.length)
    (k : ∀ h', OwnF h' B e f v (pre ++ ws.set j u' ++ post) → Only v.ownBlock h h' → Ch h' ∧ S P n ops Ch E Q (i + 1) l h') : O0 P n ops Ch E Q i (.store t x y) l h :=
  s_storeF u' (by rw [hx, win_ptr ho hv hj]) hy hu ht hE ho h1 (by simp; omega) fun h' g1 g2 => k h' (by
    rw [List.append_assoc, List.set_append_right _ _ (by omega), Nat.add_sub_cancel_left, List.set_append_left _ _ hj, ← List.append_assoc] at g1
    exact g1) g2
end

/-- One word of what is taken away. -/
theorem sub_word {g y c x bo : Nat} (hg : g < 18446744073709551616) (hy : y < 18446744073709551616) (hc : c < 18446744073709551616) (hx : x < 18446744073709551616) (hb : bo ≤ 1) :
    g * y / 18446744073709551616 + (g * y % 18446744073709551616 + c) / 18446744073709551616 < 18446744073709551616 ∧
    (x + 18446744073709551616 - (g * y % 18446744073709551616 + c) % 18446744073709551616 - bo) % 18446744073709551616 < 18446744073709551616 ∧
    (if x < (g * y % 18446744073709551616 + c) % 18446744073709551616 + bo then 1 else 0) ≤ 1 ∧
    (x + 18446744073709551616 - (g * y % 18446744073709551616 + c) % 18446744073709551616 - bo) % 18446744073709551616 + g * y + c + bo =
      x + 18446744073709551616 * (if x < (g * y % 18446744073709551616 + c) % 18446744073709551616 + bo then 1 else 0) + 18446744073709551616 * (g * y / 18446744073709551616 + (g * y % 18446744073709551616 + c) / 18446744073709551616) := by
  have hgy : g * y ≤ 18446744073709551615 * 18446744073709551615 := Nat.mul_le_mul (by omega) (by omega)
  generalize g * y = p at *
  refine ⟨by omega, by omega, by split <;> omega, ?_⟩
  split <;> omega
theorem sub_word2 {c x bo : Nat} (hc : c < 18446744073709551616) (hx : x < 18446744073709551616) (hb : bo ≤ 1) :
    (x + 18446744073709551616 - c - bo) % 18446744073709551616 < 18446744073709551616 ∧ (if x < c + bo then 1 else 0) ≤ 1 ∧
    (x + 18446744073709551616 - c - bo) % 18446744073709551616 + c + bo = x + 18446744073709551616 * (if x < c + bo then 1 else 0) := by
  refine ⟨by omega, by split <;> omega, ?_⟩
  split <;> omega

theorem Tryz_ent167 : Ent Tryz.prog 167 := ent_of Tryz.func167 (by kernel_rfl) rfl
set_option maxHeartbeats 4000000 in
theorem digit_spec (x0 vx vy : Value) (pre ws0 post ys : List Nat) (n B : Nat) (h : Hp) (ho : OwnF h B 26 U x0 (pre ++ ws0 ++ post)) (hvx : vx = cutV 1 x0 pre.length (pre.length + ws0.length)) (hy : SlF h U vy ys) (hne : vy.ownBlock = none ∨ vy.ownBlock ≠ x0.ownBlock)
    (hw : Al 18446744073709551616 ws0) (hya : Al 18446744073709551616 ys) (hwl : ws0.length = n + 3) (hyl : ys.length = n + 2) (hn : n < 1099511627776) (h0 : 0 < ys.getD (n + 1) 0) (hlt : vl 18446744073709551616 ws0 < vl 18446744073709551616 ys * 18446744073709551616) :
    CallsH Tryz.prog 167 [vx, vy] h fun v' h' => v' = U (vl 18446744073709551616 ws0 / vl 18446744073709551616 ys) ∧ Only x0.ownBlock h h' ∧ ∃ ws, ws.length = n + 3 ∧ Al 18446744073709551616 ws ∧ vl 18446744073709551616 ws = vl 18446744073709551616 ws0 % vl 18446744073709551616 ys ∧ OwnF h' B 26 U x0 (pre ++ ws ++ post) := by
  obtain ⟨gf1, gf2⟩ := guess_facts (b := 18446744073709551616) (by omega) hw hwl hyl h0
  have sx := win_sl ho hvx
  have hY0 : 0 < vl 18446744073709551616 ys := by omega
  have hql : vl 18446744073709551616 ws0 / vl 18446744073709551616 ys < 18446744073709551616 := (Nat.div_lt_iff_lt_mul hY0).2 (by rw [Nat.mul_comm]; exact hlt)
  generalize hX : vl 18446744073709551616 ws0 = X at *
  generalize hY : vl 18446744073709551616 ys = Y at *
  generalize hq : X / Y = q at *
  (apply enter Tryz.func167 rfl Tryz.ntmps167 rfl)
  refine runM ?_
  rw [hyl, show n + 2 - 1 = n + 1 from rfl]
  have hyt := hya.getD (by omega) (n + 1)
  have hy2 := hya.getD (by omega) n
  have hx2 := hw.getD (by omega) n
  have hx1 := hw.getD (by omega) (n + 1)
  apply (w_tcut (σ := Nat) (fun g => [(0, vx), (1, vy), (5, N (n + 2)), (6, U g)]) (fun g h' => h = h' ∧ q ≤ g ∧ g < 18446744073709551616))
  · (apply w_condD; exact rfl; exact rfl) <;> intro hc
    · generalize hyd : ys.getD (n + 1) 0 = yt at *
      generalize hxd1 : ws0.getD (n + 1) 0 = x1 at *
      generalize hxd2 : ws0.getD (n + 2) 0 = x2 at *
      refine runM ?_
      rw [show n + 2 - 1 = n + 1 from rfl, hyd, hxd1, hxd2]
      apply (s_call Tryz_ent168 rfl rfl rfl)
      refine (div64_spec x2 x1 yt h hc hx1 hyt).mono ?_
      rintro _ _ ⟨rfl, rfl⟩
      refine ⟨(by first | exact trivial | exact Ext.refl _ | assumption | exact Ext.trans (by assumption) (by assumption)), ?_⟩
      have hdm := Nat.div_add_mod (x2 * 18446744073709551616 + x1) yt
      have hml : (x2 * 18446744073709551616 + x1) % yt < yt := Nat.mod_lt _ (by omega)
      have hql2 : (x2 * 18446744073709551616 + x1) / yt < 18446744073709551616 := Num.digit_lt hx1 hc
      rw [Nat.mul_comm] at hdm
      generalize hX2 : x2 * 18446744073709551616 + x1 = X2 at *
      generalize X2 / yt = g0 at *
      generalize X2 % yt = r0 at *
      refine runM ?_
      (first | (apply w_seqB; exact rfl; apply w_block; exact rfl) | skip)
      apply (w_loop (σ := Nat × Nat) rfl (fun p => [(0, vx), (1, vy), (5, N (n + 2)), (6, U p.1), (7, U p.2)])
        (fun p h' => h = h' ∧ q ≤ p.1 ∧ p.1 < 18446744073709551616 ∧ p.1 * yt + p.2 = X2 ∧ p.2 < 18446744073709551616) (fun p => p.1) (g0, r0))
      · exact (Sub.cons rfl (Sub.cons rfl (Sub.cons rfl (Sub.cons rfl (Sub.cons rfl (Sub.nil _))))))
      · exact ⟨rfl, gf1, hql2, hdm, by simp only []; omega⟩
      · rintro ⟨g, r⟩ _ ⟨rfl, i1, i2, i3, i4⟩
        dsimp only at i1 i2 i3 i4 ⊢
        refine runM ?_
        rw [show n + 2 - 2 = n from rfl]
        generalize hyd2 : ys.getD n 0 = y2 at *
        apply (s_call Tryz_ent164 rfl rfl rfl)
        refine (mul64_spec g y2 h i2 hy2).mono ?_
        rintro _ _ ⟨rfl, rfl⟩
        refine ⟨(by first | exact trivial | exact Ext.refl _ | assumption | exact Ext.trans (by assumption) (by assumption)), ?_⟩
        have hgy := Nat.div_add_mod (g * y2) 18446744073709551616
        have hgm := Nat.mod_lt (g * y2) (show 0 < 18446744073709551616 by omega)
        have gf := gf2 g r i3
        generalize g * y2 = gy at *
        generalize gy / 18446744073709551616 = gh at *
        generalize gy % 18446744073709551616 = gl at *
        have hsxl : n + 2 - 2 < ws0.length := by omega
        refine runM ?_
        (apply s_splitG; exact rfl; exact rfl; exact rfl; exact rfl) <;> intro c1
        · refine runM ?_
          apply cut_normal g
          · exact (Sub.cons rfl (Sub.cons rfl (Sub.cons rfl (Sub.cons rfl (Sub.nil _)))))
          · exact ⟨rfl, i1, i2⟩
        · refine runM ?_
          (apply s_splitG; exact rfl; exact rfl; exact rfl; exact rfl) <;> intro c2
          · refine runM ?_
            rw [show n + 2 - 2 = n from rfl]
            (apply w_condD; exact rfl; exact rfl) <;> intro c3
            · refine runM ?_
              apply cut_normal g
              · exact (Sub.cons rfl (Sub.cons rfl (Sub.cons rfl (Sub.cons rfl (Sub.nil _)))))
              · exact ⟨rfl, i1, i2⟩
            · have hgt : q < g := gf (by omega)
              have hg1 : 1 ≤ g := by omega
              have hmul : (g - 1) * yt + (r + yt) = X2 := by
                rw [← i3, Nat.sub_mul, Nat.one_mul]
                have := Nat.mul_le_mul_right yt hg1
                rw [Nat.one_mul] at this
                omega
              have hyl2 : n + 2 - 1 < ys.length := by omega
              refine runM ?_
              by_cases hov : r + yt < 18446744073709551616
              · rw [show n + 2 - 1 = n + 1 from rfl, hyd]
                refine runM ?_
                rw [show n + 2 - 1 = n + 1 from rfl, hyd]
                (apply w_condF; exact rfl; exact rfl; exact (by omega))
                refine runM ?_
                apply again_normal (g - 1, r + yt)
                · exact (Sub.cons rfl (Sub.cons rfl (Sub.cons rfl (Sub.cons rfl (Sub.cons rfl (Sub.nil _))))))
                · exact ⟨rfl, by simp only []; omega, by simp only []; omega, hmul, hov⟩
                · simp only []; omega
              · rw [show n + 2 - 1 = n + 1 from rfl, hyd]
                (apply s_addUw; (first | exact isK_c | exact isK_t rfl); (first | exact isK_c | exact isK_t rfl); exact rfl)
                refine runM ?_
                rw [show n + 2 - 1 = n + 1 from rfl, hyd]
                (apply w_condT; exact rfl; exact rfl; exact (by omega))
                refine runM ?_
                apply cut_normal (g - 1)
                · exact (Sub.cons rfl (Sub.cons rfl (Sub.cons rfl (Sub.cons rfl (Sub.nil _)))))
                · exact ⟨rfl, by omega, by omega⟩
          · have hgt : q < g := gf (by omega)
            have hg1 : 1 ≤ g := by omega
            have hmul : (g - 1) * yt + (r + yt) = X2 := by
              rw [← i3, Nat.sub_mul, Nat.one_mul]
              have := Nat.mul_le_mul_right yt hg1
              rw [Nat.one_mul] at this
              omega
            have hyl2 : n + 2 - 1 < ys.length := by omega
            refine runM ?_
            by_cases hov : r + yt < 18446744073709551616
            · rw [show n + 2 - 1 = n + 1 from rfl, hyd]
              refine runM ?_
              rw [show n + 2 - 1 = n + 1 from rfl, hyd]
              (apply w_condF; exact rfl; exact rfl; exact (by omega))
              refine runM ?_
              apply again_normal (g - 1, r + yt)
              · exact (Sub.cons rfl (Sub.cons rfl (Sub.cons rfl (Sub.cons rfl (Sub.cons rfl (Sub.nil _))))))
              · exact ⟨rfl, by simp only []; omega, by simp only []; omega, hmul, hov⟩
              · simp only []; omega
            · rw [show n + 2 - 1 = n + 1 from rfl, hyd]
              (apply s_addUw; (first | exact isK_c | exact isK_t rfl); (first | exact isK_c | exact isK_t rfl); exact rfl)
              refine runM ?_
              rw [show n + 2 - 1 = n + 1 from rfl, hyd]
              (apply w_condT; exact rfl; exact rfl; exact (by omega))
              refine runM ?_
              apply cut_normal (g - 1)
              · exact (Sub.cons rfl (Sub.cons rfl (Sub.cons rfl (Sub.cons rfl (Sub.nil _)))))
              · exact ⟨rfl, by omega, by omega⟩
    · refine runM ?_
      apply cut_normal 18446744073709551615
      · exact (Sub.cons rfl (Sub.cons rfl (Sub.cons rfl (Sub.cons rfl (Sub.nil _)))))
      · exact ⟨rfl, by omega, by omega⟩
  · rintro g0 _ ⟨rfl, hge, hg⟩
    clear gf1 gf2 hyt hy2 hx2 hx1
    refine runM ?_
    rw [hyl]
    (first | (apply w_seqB; exact rfl; apply w_block; exact rfl) | skip)
    apply (w_loop (σ := Nat × Nat × Nat × List Nat) rfl (fun p => [(0, vx), (1, vy), (5, N (n + 2)), (6, U g0), (92, vy), (93, N (n + 2)), (94, N p.1), (10, U p.2.1), (11, U p.2.2.1)])
      (fun p h' => OwnF h' B 26 U x0 (pre ++ p.2.2.2 ++ post) ∧ Only x0.ownBlock h h' ∧ p.2.2.2.length = n + 3 ∧ p.1 ≤ n + 2 ∧ Al 18446744073709551616 p.2.2.2 ∧ p.2.1 < 18446744073709551616 ∧ p.2.2.1 ≤ 1 ∧
        pv 18446744073709551616 p.2.2.2 p.1 + g0 * pv 18446744073709551616 ys p.1 = pv 18446744073709551616 ws0 p.1 + 18446744073709551616 ^ p.1 * (p.2.2.1 + p.2.1) ∧ ∀ j, p.1 ≤ j → p.2.2.2.getD j 0 = ws0.getD j 0) (fun p => n + 2 - p.1) (0, 0, 0, ws0))
    · exact (Sub.cons rfl (Sub.cons rfl (Sub.cons rfl (Sub.cons rfl (Sub.cons rfl (Sub.cons rfl (Sub.cons rfl (Sub.cons rfl (Sub.cons rfl (Sub.nil _))))))))))
    · exact ⟨ho, Only.refl _ _, hwl, by simp only []; omega, hw, by simp only []; omega, by simp only []; omega, by simp [pv], fun _ _ => rfl⟩
    · rintro ⟨i, c, bo, ws⟩ h1 ⟨o1, k1, i1, i2, i3, i4, i5, i6, i7⟩
      dsimp only at o1 k1 i1 i2 i3 i4 i5 i6 i7 ⊢
      have hy1 := hy.only k1 hne
      have sx1 := win_sl o1 (hvx.trans (by rw [hwl, i1]))
      refine runM ?_
      (apply w_condD; exact rfl; exact rfl) <;> intro hi
      · have hyi := hya.getD (by omega) i
        have hwi := i3.getD (by omega) i
        have hoe := i7 i (Nat.le_refl _)
        refine runM ?_
        generalize hyd : ys.getD i 0 = y at *
        apply (s_call Tryz_ent164 rfl rfl rfl)
        refine (mul64_spec g0 y h1 hg hyi).mono ?_
        rintro _ _ ⟨rfl, rfl⟩
        refine ⟨(by first | exact trivial | exact Ext.refl _ | assumption | exact Ext.trans (by assumption) (by assumption)), ?_⟩
        have hsb := sub_word hg hyi i4 hwi i5
        have hgy := Nat.mod_lt (g0 * y) (show 0 < 18446744073709551616 by omega)
        obtain ⟨hs1, hs2, hs3, hs4⟩ := hsb
        generalize g0 * y / 18446744073709551616 = gh at *
        generalize g0 * y % 18446744073709551616 = gl at *
        refine runM ?_
        apply (s_extern (add64_run gl c 0 (by omega) hgy i4) rfl rfl)
        simp only [Nat.add_zero]
        have hlo := Nat.mod_lt (gl + c) (show 0 < 18446744073709551616 by omega)
        generalize (gl + c) % 18446744073709551616 = lo at *
        generalize (gl + c) / 18446744073709551616 = d at *
        refine runM ?_
        apply (s_extern (sub64_run _ lo bo i5) rfl rfl)
        generalize hxw : (ws.getD i 0 + 18446744073709551616 - lo - bo) % 18446744073709551616 = xw at *
        generalize (if ws.getD i 0 < lo + bo then 1 else 0) = bw at *
        refine runM ?_
        (apply (s_storeW (xw) o1 (hvx.trans (by rw [hwl, i1]))); exact rfl; exact rfl; exact rfl; exact rfl; exact rfl; exact rfl; (first | assumption | omega))
        intro h2 o2 k2
        refine ⟨(by first | exact trivial | exact Ext.refl _ | assumption | exact Ext.trans (by assumption) (by assumption)), ?_⟩
        refine runM ?_
        apply again_normal (i + 1, gh + d, bw, ws.set i xw)
        · exact (Sub.cons rfl (Sub.cons rfl (Sub.cons rfl (Sub.cons rfl (Sub.cons rfl (Sub.cons rfl (Sub.cons rfl (Sub.cons rfl (Sub.cons rfl (Sub.nil _))))))))))
        · refine ⟨o2, k1.trans k2, by simp [i1], hi, i3.set hs2 _, hs1, hs3, ?_, fun j hj => ?_⟩
          · simp only [pv]
            rw [pv_set (Nat.le_refl _), getD_set_self (by omega), Nat.pow_succ, hyd, ← hoe]
            exact Dig.sub_step i6 hs4
          · simp only [] at hj ⊢
            rw [getD_set_other (by omega)]; exact i7 j (by omega)
        · simp only []; omega
      · obtain rfl : i = n + 2 := by omega
        have hwi := i3.getD (by omega) (n + 2)
        have hoe := i7 (n + 2) (Nat.le_refl _)
        obtain ⟨hs2, hs3, hs4⟩ := sub_word2 i4 hwi i5
        have hlast := sub_last i6 hs4
        rw [pv_full (xs := ys) (by omega), hY] at hlast
        refine runM ?_
        apply (s_extern (sub64_run _ c bo i5) rfl rfl)
        generalize hxw : (ws.getD (n + 2) 0 + 18446744073709551616 - c - bo) % 18446744073709551616 = xw at *
        generalize (if ws.getD (n + 2) 0 < c + bo then 1 else 0) = bw at *
        refine runM ?_
        (apply (s_storeW (xw) o1 (hvx.trans (by rw [hwl, i1]))); exact rfl; exact rfl; exact rfl; exact rfl; exact rfl; exact rfl; (first | assumption | omega))
        intro h2 o2 k2
        refine ⟨(by first | exact trivial | exact Ext.refl _ | assumption | exact Ext.trans (by assumption) (by assumption)), ?_⟩
        have hP : pv 18446744073709551616 ws0 (n + 2) + 18446744073709551616 ^ (n + 2) * ws.getD (n + 2) 0 = X := by
          rw [hoe, ← hX, ← pv_full (xs := ws0) (k := n + 3) (by omega)]; rfl
        have hZ : pv 18446744073709551616 ws (n + 2) + 18446744073709551616 ^ (n + 2) * xw = vl 18446744073709551616 (ws.set (n + 2) xw) := by
          rw [← pv_full (xs := ws.set (n + 2) xw) (k := n + 3) (by simp; omega)]
          show _ = pv 18446744073709551616 (ws.set (n + 2) xw) (n + 2) + 18446744073709551616 ^ (n + 2) * (ws.set (n + 2) xw).getD (n + 2) 0
          rw [pv_set (Nat.le_refl _), getD_set_self (by omega)]
        rw [hP, hZ, ← Nat.pow_succ] at hlast
        have k2 := k1.trans k2
        have a2 : Al 18446744073709551616 (ws.set (n + 2) xw) := i3.set hs2 _
        have l2 : (ws.set (n + 2) xw).length = n + 3 := by simp [i1]
        clear hP hZ hs4 hxw hoe hwi i6 i7 sx1 hy1 k1 o1 i3 i1
        generalize ws.set (n + 2) xw = zs at *
        refine runM ?_
        (first | (apply w_seqB; exact rfl; apply w_block; exact rfl) | skip)
        apply (w_loop (σ := Nat × Nat × List Nat) rfl (fun p => [(0, vx), (1, vy), (5, N (n + 2)), (6, U p.1), (11, U p.2.1)])
          (fun p h' => OwnF h' B 26 U x0 (pre ++ p.2.2 ++ post) ∧ Only x0.ownBlock h h' ∧ p.2.2.length = n + 3 ∧ Al 18446744073709551616 p.2.2 ∧ p.1 < 18446744073709551616 ∧ p.2.1 ≤ 1 ∧ q ≤ p.1 ∧
            vl 18446744073709551616 p.2.2 + p.1 * Y = X + 18446744073709551616 ^ (n + 3) * p.2.1) (fun p => p.1) (g0, bw, zs))
        · exact (Sub.cons rfl (Sub.cons rfl (Sub.cons rfl (Sub.cons rfl (Sub.cons rfl (Sub.nil _))))))
        · exact ⟨o2, k2, l2, a2, hg, hs3, hge, hlast⟩
        · rintro ⟨g, bo, zs⟩ h3 ⟨o3, k3, i1, i2, i3, i4, i5, i6⟩
          dsimp only at o3 k3 i1 i2 i3 i4 i5 i6 ⊢
          refine runM ?_
          (apply w_condD; exact rfl; exact rfl) <;> intro hb
          · obtain rfl : bo = 1 := by omega
            have hvl := vl_lt i2
            rw [i1] at hvl
            have hgt := back_lt i6 hvl hY0
            rw [hq] at hgt
            have hg1 : 1 ≤ g := by omega
            have hy3 := hy.only k3 hne
            refine runM ?_
            rw [hyl]
            (first | (apply w_seqB; exact rfl; apply w_block; exact rfl) | skip)
            apply (w_loop (σ := Nat × Nat × List Nat) rfl (fun p => [(0, vx), (1, vy), (5, N (n + 2)), (6, U (g - 1)), (11, U 1), (145, vy), (146, N (n + 2)), (147, N p.1), (10, U p.2.1)])
              (fun p h' => OwnF h' B 26 U x0 (pre ++ p.2.2 ++ post) ∧ Only x0.ownBlock h h' ∧ p.2.2.length = n + 3 ∧ p.1 ≤ n + 2 ∧ Al 18446744073709551616 p.2.2 ∧ p.2.1 ≤ 1 ∧
                pv 18446744073709551616 p.2.2 p.1 + 18446744073709551616 ^ p.1 * p.2.1 = pv 18446744073709551616 zs p.1 + pv 18446744073709551616 ys p.1 ∧ ∀ j, p.1 ≤ j → p.2.2.getD j 0 = zs.getD j 0) (fun p => n + 2 - p.1) (0, 0, zs))
            · exact (Sub.cons rfl (Sub.cons rfl (Sub.cons rfl (Sub.cons rfl (Sub.cons rfl (Sub.cons rfl (Sub.cons rfl (Sub.cons rfl (Sub.cons rfl (Sub.nil _))))))))))
            · exact ⟨o3, k3, i1, by simp only []; omega, i2, by simp only []; omega, by simp [pv], fun _ _ => rfl⟩
            · rintro ⟨i, c, ws⟩ h4 ⟨o4, k4, j1, j2, j3, j4, j5, j6⟩
              dsimp only at o4 k4 j1 j2 j3 j4 j5 j6 ⊢
              have hy4 := hy.only k4 hne
              have sx4 := win_sl o4 (hvx.trans (by rw [hwl, j1]))
              refine runM ?_
              (apply w_condD; exact rfl; exact rfl) <;> intro hi
              · have hyi := hya.getD (by omega) i
                have hwi := j3.getD (by omega) i
                have hoe := j6 i (Nat.le_refl _)
                have hst := add_step (b := 18446744073709551616) (x := ws.getD i 0) (y := ys.getD i 0) j5
                refine runM ?_
                generalize hyd : ys.getD i 0 = y at *
                apply (s_extern (add64_run (ws.getD i 0) y c j4 hwi hyi) rfl rfl)
                have hs2 := Num.modW (ws.getD i 0 + y + c)
                have hs3 : (ws.getD i 0 + y + c) / 18446744073709551616 ≤ 1 := by omega
                generalize (ws.getD i 0 + y + c) % 18446744073709551616 = xw at *
                generalize (ws.getD i 0 + y + c) / 18446744073709551616 = c' at *
                refine runM ?_
                (apply (s_storeW (xw) o4 (hvx.trans (by rw [hwl, j1]))); exact rfl; exact rfl; exact rfl; exact rfl; exact rfl; exact rfl; (first | assumption | omega))
                intro h5 o5 k5
                refine ⟨(by first | exact trivial | exact Ext.refl _ | assumption | exact Ext.trans (by assumption) (by assumption)), ?_⟩
                refine runM ?_
                apply again_normal (i + 1, c', ws.set i xw)
                · exact (Sub.cons rfl (Sub.cons rfl (Sub.cons rfl (Sub.cons rfl (Sub.cons rfl (Sub.cons rfl (Sub.cons rfl (Sub.cons rfl (Sub.cons rfl (Sub.nil _))))))))))
                · refine ⟨o5, k4.trans k5, by simp [j1], hi, j3.set hs2 _, hs3, ?_, fun j hj => ?_⟩
                  · simp only [pv]
                    rw [pv_set (Nat.le_refl _), getD_set_self (by omega), Nat.pow_succ, hyd, ← hoe]
                    exact hst
                  · simp only [] at hj ⊢
                    rw [getD_set_other (by omega)]; exact j6 j (by omega)
                · simp only []; omega
              · obtain rfl : i = n + 2 := by omega
                have hwi := j3.getD (by omega) (n + 2)
                have hoe := j6 (n + 2) (Nat.le_refl _)
                have hst := add_step (b := 18446744073709551616) (x := ws.getD (n + 2) 0) (y := 0) j5
                rw [pv_full (xs := ys) (by omega), hY, Nat.mul_zero, Nat.add_zero Y] at hst
                refine runM ?_
                apply (s_extern (add64_run (ws.getD (n + 2) 0) 0 c j4 hwi (by omega)) rfl rfl)
                have hs2 := Num.modW (ws.getD (n + 2) 0 + 0 + c)
                have hs3 : (ws.getD (n + 2) 0 + 0 + c) / 18446744073709551616 ≤ 1 := by omega
                generalize (ws.getD (n + 2) 0 + 0 + c) % 18446744073709551616 = xw at *
                generalize (ws.getD (n + 2) 0 + 0 + c) / 18446744073709551616 = c' at *
                refine runM ?_
                (apply (s_storeW (xw) o4 (hvx.trans (by rw [hwl, j1]))); exact rfl; exact rfl; exact rfl; exact rfl; exact rfl; exact rfl; (first | assumption | omega))
                intro h5 o5 k5
                refine ⟨(by first | exact trivial | exact Ext.refl _ | assumption | exact Ext.trans (by assumption) (by assumption)), ?_⟩
                have hP : pv 18446744073709551616 zs (n + 2) + 18446744073709551616 ^ (n + 2) * ws.getD (n + 2) 0 = vl 18446744073709551616 zs := by
                  rw [hoe, ← pv_full (xs := zs) (k := n + 3) (by omega)]; rfl
                have hZ : pv 18446744073709551616 ws (n + 2) + 18446744073709551616 ^ (n + 2) * xw = vl 18446744073709551616 (ws.set (n + 2) xw) := by
                  rw [← pv_full (xs := ws.set (n + 2) xw) (k := n + 3) (by simp; omega)]
                  show _ = pv 18446744073709551616 (ws.set (n + 2) xw) (n + 2) + 18446744073709551616 ^ (n + 2) * (ws.set (n + 2) xw).getD (n + 2) 0
                  rw [pv_set (Nat.le_refl _), getD_set_self (by omega)]
                rw [hP, hZ, ← Nat.pow_succ] at hst
                have hbk := back_step i6 hst hs3 hg1
                refine runM ?_
                apply again_normal (g - 1, 1 - c', ws.set (n + 2) xw)
                · exact (Sub.cons rfl (Sub.cons rfl (Sub.cons rfl (Sub.cons rfl (Sub.cons rfl (Sub.nil _))))))
                · exact ⟨o5, k4.trans k5, by simp [j1], j3.set hs2 _, by simp only []; omega, by simp only []; omega, by simp only []; omega, hbk⟩
                · simp only []; omega
          · obtain rfl : bo = 0 := by omega
            rw [← hq] at i5
            obtain ⟨f1, f2⟩ := digit_end i6 i5 hY0
            refine runM ?_
            exact fin1 rfl rfl ⟨by rw [f1, hq], k3, zs, i1, i2, f2, o3⟩
end Go.Proofs.YtfcmdefigldpnaaGreatDoor


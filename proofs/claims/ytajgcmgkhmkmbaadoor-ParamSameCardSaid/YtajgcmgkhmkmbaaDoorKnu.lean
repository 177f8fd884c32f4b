/- Long division, a digit at a time: plain facts about lists of digits. No program, no condition. -/
import Derived.Test.YtajgcmgkhmkmbaaDoorDig
namespace Go.Dig

section
variable {b : Nat}

theorem guess_top {X Y p X2 yt : Nat} (hX : X < p * (X2 + 1)) (hY : p * yt ≤ Y) (h0 : 0 < yt) : X / Y ≤ X2 / yt := by
  rw [Nat.le_div_iff_mul_le h0]
  refine Nat.le_of_not_lt fun hlt => ?_
  have h1 : X / Y * Y ≤ X := Nat.div_mul_le_self _ _
  have h2 : X / Y * (p * yt) ≤ X / Y * Y := Nat.mul_le_mul_left _ hY
  have h3 : p * (X2 + 1) ≤ p * (X / Y * yt) := Nat.mul_le_mul_left _ hlt
  have h4 : X / Y * (p * yt) = p * (X / Y * yt) := by rw [← Nat.mul_assoc, ← Nat.mul_assoc, Nat.mul_comm (X / Y) p]
  omega

theorem guess_next {X Y p X2 x2 yt y2 g r : Nat} (hX : X < p * (X2 * b + x2 + 1)) (hY : p * (yt * b + y2) ≤ Y) (h0 : 0 < Y) (hg : g * yt + r = X2) (hlt : r * b + x2 < g * y2) : X / Y < g := by
  rw [Nat.div_lt_iff_lt_mul h0]
  have h1 : g * (p * (yt * b + y2)) ≤ g * Y := Nat.mul_le_mul_left _ hY
  have h2 : g * (p * (yt * b + y2)) = p * (g * (yt * b + y2)) := by rw [← Nat.mul_assoc, ← Nat.mul_assoc, Nat.mul_comm g p]
  have h3 : g * (yt * b + y2) = g * yt * b + g * y2 := by rw [Nat.mul_add, Nat.mul_assoc]
  have h4 : X2 * b = g * yt * b + r * b := by rw [← hg, Nat.add_mul]
  have h5 : p * (X2 * b + x2 + 1) ≤ p * (g * yt * b + g * y2) := Nat.mul_le_mul_left _ (by omega)
  rw [h2, h3] at h1
  omega

/-- The highest digits of a number, and what they leave. -/
theorem vl_top2 {xs : List Nat} {n : Nat} (hl : xs.length = n + 2) : vl b xs = pv b xs n + b ^ n * (xs.getD n 0 + b * xs.getD (n + 1) 0) := by
  rw [← pv_full (k := n + 2) (by omega)]
  simp only [pv, Nat.pow_succ, Nat.mul_add, Nat.mul_assoc]; omega
theorem vl_top3 {xs : List Nat} {n : Nat} (hl : xs.length = n + 3) : vl b xs = pv b xs n + b ^ n * (xs.getD n 0 + b * (xs.getD (n + 1) 0 + b * xs.getD (n + 2) 0)) := by
  rw [← pv_full (k := n + 3) (by omega)]
  simp only [pv, Nat.pow_succ, Nat.mul_add, Nat.mul_assoc]; omega

/-- All that the guess of a digit needs: x has n + 3 digits, y n + 2. -/
theorem guess_facts {xs ys : List Nat} {n : Nat} (hb : 0 < b) (hx : Al b xs) (hxl : xs.length = n + 3) (hyl : ys.length = n + 2) (h0 : 0 < ys.getD (n + 1) 0) :
    vl b xs / vl b ys ≤ (xs.getD (n + 2) 0 * b + xs.getD (n + 1) 0) / ys.getD (n + 1) 0 ∧
    ∀ g r, g * ys.getD (n + 1) 0 + r = xs.getD (n + 2) 0 * b + xs.getD (n + 1) 0 → r * b + xs.getD n 0 < g * ys.getD n 0 → vl b xs / vl b ys < g := by
  have hxt := vl_top3 (b := b) hxl
  have hyt := vl_top2 (b := b) hyl
  have hp := pv_lt hx hb n
  have hp1 := pv_lt hx hb (n + 1)
  have hbn : 0 < b ^ n := Nat.pow_pos hb
  have hY0 : 0 < vl b ys := by
    have h1 : 1 ≤ ys.getD n 0 + b * ys.getD (n + 1) 0 := by
      have := Nat.mul_pos hb h0
      omega
    have := Nat.mul_le_mul hbn h1
    omega
  refine ⟨guess_top (p := b ^ (n + 1)) ?_ ?_ h0, fun g r h1 h2 => guess_next (b := b) (p := b ^ n) (x2 := xs.getD n 0) (y2 := ys.getD n 0) ?_ ?_ hY0 h1 h2⟩
  · have e : vl b xs = pv b xs (n + 1) + b ^ (n + 1) * (xs.getD (n + 2) 0 * b + xs.getD (n + 1) 0) := by
      rw [hxt]; simp only [pv, Nat.pow_succ, Nat.mul_add, Nat.mul_assoc, Nat.mul_comm (xs.getD (n + 2) 0) b]; omega
    rw [e, Nat.mul_add_one]
    omega
  · rw [hyt, Nat.pow_succ, Nat.mul_add, Nat.mul_assoc]; omega
  · rw [hxt, Nat.mul_add _ _ 1, Nat.mul_one]
    have : (xs.getD (n + 2) 0 * b + xs.getD (n + 1) 0) * b + xs.getD n 0 = xs.getD n 0 + b * (xs.getD (n + 1) 0 + b * xs.getD (n + 2) 0) := by
      rw [Nat.mul_comm _ b, Nat.mul_comm (xs.getD (n + 2) 0) b]; simp only [Nat.mul_add]; omega
    rw [this]; omega
  · rw [hyt, Nat.mul_comm (ys.getD (n + 1) 0) b, Nat.add_comm (b * _)]; omega

theorem sub_step {p q B g c bo x x' y c' bo' P : Nat} (h : p + g * q = P + B * (bo + c)) (hw : x' + g * y + c + bo = x + b * bo' + b * c') :
    p + B * x' + g * (q + B * y) = P + B * x + B * b * (bo' + c') := by
  have e1 : g * (q + B * y) = g * q + B * (g * y) := by rw [Nat.mul_add, ← Nat.mul_assoc, ← Nat.mul_assoc, Nat.mul_comm g B]
  have e2 : B * x' + B * (g * y) + B * c + B * bo = B * x + B * (b * bo') + B * (b * c') := by
    have := congrArg (B * ·) hw
    simpa only [Nat.mul_add] using this
  have e3 : B * b * (bo' + c') = B * (b * bo') + B * (b * c') := by rw [Nat.mul_assoc, Nat.mul_add, Nat.mul_add]
  rw [Nat.mul_add] at h
  rw [e1, e3]; omega
theorem sub_last {p q B g c bo x x' bo' P : Nat} (h : p + g * q = P + B * (bo + c)) (hw : x' + c + bo = x + b * bo') :
    p + B * x' + g * q = P + B * x + B * b * bo' := by
  have e2 : B * x' + B * c + B * bo = B * x + B * (b * bo') := by
    have := congrArg (B * ·) hw
    simpa only [Nat.mul_add] using this
  rw [Nat.mul_add] at h
  rw [Nat.mul_assoc]; omega

/-- Where too much was taken the guess was too great. -/
theorem back_lt {Z g Y X B : Nat} (h : Z + g * Y = X + B * 1) (hz : Z < B) (h0 : 0 < Y) : X / Y < g := by
  rw [Nat.div_lt_iff_lt_mul h0]; omega
theorem back_step {Z Z' g Y X B c : Nat} (h : Z + g * Y = X + B * 1) (ha : Z' + B * c = Z + Y) (hc : c ≤ 1) (hg : 1 ≤ g) : Z' + (g - 1) * Y = X + B * (1 - c) := by
  obtain ⟨k, rfl⟩ : ∃ k, g = k + 1 := ⟨g - 1, by omega⟩
  rw [Nat.add_sub_cancel]
  rw [Nat.add_mul, Nat.one_mul] at h
  rcases (by omega : c = 0 ∨ c = 1) with rfl | rfl <;> omega
theorem digit_end {Z g Y X B : Nat} (h : Z + g * Y = X + B * 0) (hge : X / Y ≤ g) (h0 : 0 < Y) : g = X / Y ∧ Z = X % Y := by
  have h1 : g ≤ X / Y := by rw [Nat.le_div_iff_mul_le h0]; omega
  have h2 : g = X / Y := Nat.le_antisymm h1 hge
  refine ⟨h2, ?_⟩
  have h3 := Nat.div_add_mod X Y
  rw [← h2, Nat.mul_comm] at h3
  omega

theorem shl_step {p B o w s b' P : Nat} (h : p + B * o = P * s) (hb : b' = b) (hw : w * s = w * s % b + b * (w * s / b)) : p + B * (o + w * s % b) + B * b' * (w * s / b) = (P + B * w) * s := by
  have e : B * (w * s) = B * (w * s % b) + B * (b * (w * s / b)) := by rw [← Nat.mul_add, ← hw]
  subst hb
  rw [Nat.add_mul, Nat.mul_assoc B w s, e, Nat.mul_add, Nat.mul_assoc]
  omega
theorem shr_step {b p q t0 t t' B x hh s m : Nat} (h : s * p + t0 = q + B * t) (hx : x = hh * s + t) (hsm : s * m = b) : s * (p + B * (hh + t' * m)) + t0 = q + B * x + B * b * t' := by
  have e : s * (B * (hh + t' * m)) = B * (hh * s) + B * b * t' := by
    rw [← hsm, ← Nat.mul_assoc, Nat.mul_comm s B, Nat.mul_assoc, Nat.mul_add, Nat.mul_comm s hh, Nat.mul_add, Nat.mul_assoc, Nat.mul_assoc, Nat.mul_comm m t', ← Nat.mul_assoc s, Nat.mul_comm s t', Nat.mul_assoc]
  rw [Nat.mul_add, e, hx, Nat.mul_add]
  omega

theorem vl_drop_head {xs : List Nat} {i : Nat} (h : i < xs.length) : vl b (xs.drop i) = xs.getD i 0 + b * vl b (xs.drop (i + 1)) := by
  rw [List.drop_eq_getElem_cons h]; simp [vl, h]
/-- What a window holds, where nothing stands above it. -/
theorem win_lt {pre ws post : List Nat} {Y : Nat} (hx : Al b (pre ++ ws ++ post)) (hb : 0 < b) (hw : 0 < ws.length) (h0 : vl b post = 0) (hc : vl b ((pre ++ ws ++ post).drop (pre.length + 1)) < Y) : vl b ws < Y * b := by
  cases ws with
  | nil => simp at hw
  | cons w ws =>
    have hwb : w < b := hx w (by simp)
    have e : (pre ++ (w :: ws) ++ post).drop (pre.length + 1) = ws ++ post := by
      rw [List.append_assoc, List.drop_append]; simp [List.drop_of_length_le]
    rw [e, vl_append, h0, Nat.mul_zero, Nat.add_zero] at hc
    have h1 : b * (vl b ws + 1) ≤ b * Y := Nat.mul_le_mul_left _ hc
    rw [Nat.mul_add, Nat.mul_comm b Y] at h1
    simp only [vl]; omega
theorem div_step {pre ws ws' post qs : List Nat} {m q X Y : Nat} (hb : 0 < b) (hl' : ws'.length = m + 1) (hl : ws.length = m + 1) (ha' : Al b ws') (h0 : vl b post = 0) (hY : Y < b ^ m) (hq : q = vl b ws / Y) (hr : vl b ws' = vl b ws % Y) (hY0 : 0 < Y) (hi : pre.length < qs.length)
    (hd : vl b (pre ++ ws ++ post) + b ^ (pre.length + 1) * vl b (qs.drop (pre.length + 1)) * Y = X) :
    vl b ((pre ++ ws' ++ post).drop (pre.length + m)) = 0 ∧ vl b ((pre ++ ws' ++ post).drop pre.length) < Y ∧
    vl b (pre ++ ws' ++ post) + b ^ pre.length * vl b ((qs.set pre.length q).drop pre.length) * Y = X := by
  have hlt : vl b ws' < Y := by rw [hr]; exact Nat.mod_lt _ hY0
  have hsp := vl_split (b := b) ws' m
  have hd1 : ws'.drop m = [ws'.getD m 0] := by
    rw [List.drop_eq_getElem_cons (by omega), List.drop_of_length_le (by omega)]
    simp [show m < ws'.length by omega]
  have htop : ws'.getD m 0 = 0 := by
    rw [hd1] at hsp
    simp only [vl, Nat.mul_zero, Nat.add_zero] at hsp
    rcases Nat.eq_zero_or_pos (ws'.getD m 0) with h | h
    · exact h
    · have := Nat.mul_le_mul_left (b ^ m) h
      omega
  refine ⟨?_, ?_, ?_⟩
  · rw [List.append_assoc, List.drop_append, List.drop_of_length_le (by omega), List.nil_append, Nat.add_sub_cancel_left, List.drop_append, hd1, htop, hl', show m - (m + 1) = 0 by omega, List.drop_zero, vl_append, h0]
    simp [vl]
  · rw [List.append_assoc, List.drop_append, List.drop_of_length_le (Nat.le_refl _), List.nil_append, Nat.sub_self, List.drop_zero, vl_append, h0]
    simpa using hlt
  · rw [List.append_assoc, vl_append, vl_append, h0, Nat.mul_zero, Nat.add_zero] at hd ⊢
    rw [vl_drop_head (by simpa using hi), show (qs.set pre.length q).getD pre.length 0 = q by simp [hi], List.drop_set_of_lt (by omega)]
    have hdm := Nat.div_add_mod (vl b ws) Y
    rw [← hq, ← hr] at hdm
    rw [← hd, ← hdm, Nat.pow_succ]
    simp only [Nat.mul_add, Nat.add_mul]
    have e1 : b ^ pre.length * (Y * q) = b ^ pre.length * q * Y := by rw [Nat.mul_comm Y q, Nat.mul_assoc]
    have e2 : b ^ pre.length * b * vl b (qs.drop (pre.length + 1)) * Y = b ^ pre.length * (b * vl b (qs.drop (pre.length + 1))) * Y := by simp only [Nat.mul_assoc]
    omega
theorem div_mod_of {X Y q r : Nat} (h : r + q * Y = X) (hr : r < Y) : q = X / Y ∧ r = X % Y := by
  have h0 : 0 < Y := by omega
  constructor
  · rw [← h, Nat.mul_comm, Nat.add_mul_div_left _ _ h0, Nat.div_eq_of_lt hr, Nat.zero_add]
  · rw [← h, Nat.mul_comm, Nat.add_mul_mod_self_left, Nat.mod_eq_of_lt hr]
/-- The divisor, moved up till it fills its words. -/
theorem moved {ys : List Nat} {m s H : Nat} (hb : 1 < b) (hy : Al b ys) (hyl : ys.length = m + 1) (h0 : ys.getD m 0 ≠ 0) (hH : H ≤ ys.getD m 0 * 2 ^ s) (hs : (ys.getD m 0 + 1) * 2 ^ s ≤ b) :
    (dg b (vl b ys * 2 ^ s)).length = m + 1 ∧ H ≤ (dg b (vl b ys * 2 ^ s)).getD m 0 ∧ b ^ m * H ≤ vl b ys * 2 ^ s ∧ vl b ys * 2 ^ s < b ^ (m + 1) := by
  have hsp : vl b ys = pv b ys m + b ^ m * ys.getD m 0 := by rw [← pv_full (k := m + 1) (by omega)]; rfl
  have hp := pv_lt hy (by omega) m
  have hpow : 0 < 2 ^ s := Nat.pow_pos (by omega)
  have hbm : 0 < b ^ m := Nat.pow_pos (by omega)
  have h1 : vl b ys * 2 ^ s < b ^ (m + 1) := by
    have h2 : vl b ys < b ^ m * (ys.getD m 0 + 1) := by rw [hsp, Nat.mul_add_one]; omega
    have h3 : vl b ys * 2 ^ s < b ^ m * (ys.getD m 0 + 1) * 2 ^ s := Nat.mul_lt_mul_of_pos_right h2 hpow
    have h4 : b ^ m * ((ys.getD m 0 + 1) * 2 ^ s) ≤ b ^ m * b := Nat.mul_le_mul_left _ hs
    rw [← Nat.mul_assoc] at h4
    rw [Nat.pow_succ]; omega
  have h2 : b ^ m * H ≤ vl b ys * 2 ^ s := by
    have := Nat.mul_le_mul_left (b ^ m) hH
    rw [← Nat.mul_assoc] at this
    rw [hsp, Nat.add_mul]; omega
  have h3 : b ^ m ≤ vl b ys * 2 ^ s := by
    have h5 : b ^ m * 1 ≤ b ^ m * ys.getD m 0 := Nat.mul_le_mul_left _ (by omega)
    have h6 : vl b ys * 1 ≤ vl b ys * 2 ^ s := Nat.mul_le_mul_left _ hpow
    omega
  have hlen : (dg b (vl b ys * 2 ^ s)).length = m + 1 := by
    have h5 := dg_len hb h1
    have h6 := dg_lt hb (vl b ys * 2 ^ s)
    have h7 := (Nat.pow_lt_pow_iff_right hb).1 (Nat.lt_of_le_of_lt h3 h6)
    omega
  refine ⟨hlen, ?_, h2, h1⟩
  have hv := vl_dg hb (vl b ys * 2 ^ s)
  have ha := al_dg (b := b) (by omega) (vl b ys * 2 ^ s)
  generalize dg b (vl b ys * 2 ^ s) = zs at *
  have hz : vl b zs = pv b zs m + b ^ m * zs.getD m 0 := by rw [← pv_full (k := m + 1) (by omega)]; rfl
  have hzp := pv_lt ha (by omega) m
  refine Nat.le_of_not_lt fun hlt => ?_
  have := Nat.mul_le_mul_left (b ^ m) hlt
  rw [Nat.mul_succ] at this
  omega
/-- The highest words of what is divided are less than the divisor. -/
theorem top_lt {xs : List Nat} {k m H Y : Nat} (hx : Al b xs) (hb : 0 < b) (hl : xs.length = k + m + 1) (hH : xs.getD (k + m) 0 < H) (hY : b ^ m * H ≤ Y) : vl b (xs.drop k) < Y := by
  have e : vl b (xs.drop k) = pv b (xs.drop k) m + b ^ m * xs.getD (k + m) 0 := by
    rw [← pv_full (xs := xs.drop k) (k := m + 1) (by simp; omega)]
    simp [pv]
  have hp := pv_lt (hx.drop k) hb m
  have := Nat.mul_le_mul_left (b ^ m) hH
  rw [Nat.mul_succ] at this
  omega
theorem pv_of_lt {xs : List Nat} {k : Nat} (h : vl b xs < b ^ k) : pv b xs k = vl b xs := by
  have := vl_split (b := b) xs k
  rcases Nat.eq_zero_or_pos (vl b (xs.drop k)) with h0 | h0
  · rw [h0, Nat.mul_zero, Nat.add_zero] at this; exact this.symm
  · have := Nat.mul_le_mul_left (b ^ k) h0
    omega
theorem getD_of_lt {xs : List Nat} {k j : Nat} (hb : 0 < b) (h : vl b xs < b ^ k) (hj : k ≤ j) : xs.getD j 0 = 0 := by
  have h1 := vl_split (b := b) xs (j + 1)
  simp only [pv] at h1
  have h2 : b ^ k ≤ b ^ j := Nat.pow_le_pow_right hb hj
  rcases Nat.eq_zero_or_pos (xs.getD j 0) with h0 | h0
  · exact h0
  · have := Nat.mul_le_mul_left (b ^ j) h0
    omega
theorem vl_set {xs : List Nat} {j v : Nat} (hj : j < xs.length) : vl b (xs.set j v) + b ^ j * xs.getD j 0 = vl b xs + b ^ j * v := by
  have h1 := vl_split (b := b) xs (j + 1)
  have h2 := vl_split (b := b) (xs.set j v) (j + 1)
  simp only [pv] at h1 h2
  rw [pv_set (Nat.le_refl _), getD_set_self hj, List.drop_set_of_lt (by omega)] at h2
  omega
theorem less_step {p q B x y c o c' P : Nat} (h : p + q = P + B * c) (hw : o + y + c = x + b * c') : p + B * o + (q + B * y) = P + B * x + B * b * c' := by
  have e := congrArg (B * ·) hw
  simp only [Nat.mul_add] at e
  rw [Nat.mul_assoc]; omega
theorem times_step {v v' v0 B q W x y c o p n : Nat} (h : v + B * c = v0 + q * (x * p)) (hs : v' + B * o = v + B * (n % b)) (hB : B = q * W) (hn : n = c + o + x * y) : v' + B * b * (n / b) = v0 + q * (x * (p + W * y)) := by
  have e : B * (n % b) + B * b * (n / b) = B * n := by rw [Nat.mul_assoc, ← Nat.mul_add, Nat.mod_add_div]
  have e2 : q * (x * (p + W * y)) = q * (x * p) + B * (x * y) := by
    subst hB
    rw [Nat.mul_add, Nat.mul_add, Nat.mul_assoc q W]
    congr 2
    rw [← Nat.mul_assoc, ← Nat.mul_assoc, Nat.mul_comm x W]
  have e3 : B * n = B * c + B * o + B * (x * y) := by rw [hn, Nat.mul_add, Nat.mul_add]
  rw [e2]
  omega
/-- How many bits a number has. -/
def nb (n : Nat) : Nat := if n = 0 then 0 else n.log2 + 1
theorem nb_of {n k : Nat} (h1 : 2 ^ k ≤ n) (h2 : n < 2 ^ (k + 1)) : nb n = k + 1 := by
  have h0 : n ≠ 0 := by have := Nat.pow_pos (n := k) (show 0 < 2 by omega); omega
  have h3 := (Nat.le_log2 h0).2 h1
  have h4 := (Nat.log2_lt h0).2 h2
  rw [nb, if_neg h0]; omega
theorem nb_top {xs : List Nat} {m k : Nat} (hb : b = 2 ^ k) (hx : Al b xs) (hl : xs.length = m + 1) {j : Nat} (h1 : 2 ^ j ≤ xs.getD m 0) (h2 : xs.getD m 0 < 2 ^ (j + 1)) : nb (vl b xs) = k * m + j + 1 := by
  have hsp : vl b xs = pv b xs m + b ^ m * xs.getD m 0 := by rw [← pv_full (k := m + 1) (by omega)]; rfl
  have hb0 : 0 < b := by rw [hb]; exact Nat.pow_pos (by omega)
  have hp := pv_lt hx hb0 m
  have e : b ^ m = 2 ^ (k * m) := by rw [hb, ← Nat.pow_mul]
  apply nb_of
  · have := Nat.mul_le_mul_left (b ^ m) h1
    rw [Nat.pow_add, ← e]; omega
  · have := Nat.mul_le_mul_left (b ^ m) h2
    rw [Nat.mul_succ] at this
    rw [Nat.add_assoc, Nat.pow_add, ← e]; omega
end
end Go.Dig

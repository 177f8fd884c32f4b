/- Texts RfrA to RfrC of this work, joined: each says in its own head what it proves, and of which condition. -/
import Derived.Test.YtfcmdefigldpnaaDoorMPk19
/- Products and turns of polynomials, and what their values are: plain laws of numbers. No condition, no program. -/
namespace Go.Proofs.YtfcmdefigldpnaaDoor
set_option linter.unusedVariables false
set_option maxRecDepth 8000
open Go Go.Den Go.RowKit Go.Mth Go.Dig

/-- One product's share of the coefficient p. -/
def ctr (n : Nat) (X Y : Nat → Int) (p a b : Nat) : Int := if a + b = p then X a * Y b else if a + b = p + n then -(X a * Y b) else 0
/-- The product of two polynomials modulo X^n + 1. -/
def cnv (n : Nat) (X Y : Nat → Int) (p : Nat) : Int := sm n fun a => sm n fun b => ctr n X Y p a b
theorem cnv_dft {q w : Int} {n : Nat} (hw : Cg q (w ^ n) (-1)) (X Y : Nat → Int) (k : Nat) : Cg q (dft n w (cnv n X Y) k) (dft n w X k * dft n w Y k) := by
  have e1 : dft n w (cnv n X Y) k = sm n fun a => sm n fun b => sm n fun p => ctr n X Y p a b * w ^ (p * (2 * k + 1)) := by
    have e : dft n w (cnv n X Y) k = sm n fun p => sm n fun a => sm n fun b => ctr n X Y p a b * w ^ (p * (2 * k + 1)) := by
      unfold dft cnv
      refine sm_congr n fun p _ => ?_
      rw [← sm_mulR]
      exact sm_congr n fun a _ => (sm_mulR _ _).symm
    rw [e, sm_swap]
    exact sm_congr n fun a _ => sm_swap n n
  have e2 : dft n w X k * dft n w Y k = sm n fun a => sm n fun b => X a * w ^ (a * (2 * k + 1)) * (Y b * w ^ (b * (2 * k + 1))) := by
    unfold dft
    rw [← sm_mulR]
    exact sm_congr n fun a _ => (sm_mul _ _).symm
  rw [e1, e2]
  refine sm_cg n fun a ha => sm_cg n fun b hb => ?_
  have hp : w ^ (a * (2 * k + 1)) * w ^ (b * (2 * k + 1)) = w ^ ((a + b) * (2 * k + 1)) := by rw [Nat.add_mul, Int.pow_add]
  have e3 : X a * w ^ (a * (2 * k + 1)) * (Y b * w ^ (b * (2 * k + 1))) = X a * Y b * w ^ ((a + b) * (2 * k + 1)) := by rw [← hp]; ac_rfl
  rw [e3]
  rcases Nat.lt_or_ge (a + b) n with h | h
  · rw [sm_single (i := a + b) n h fun j hj hne => by unfold ctr; rw [if_neg (fun e => hne e.symm), if_neg (by omega), Int.zero_mul]]
    unfold ctr
    rw [if_pos rfl]
    exact Cg.refl _ _
  · rw [sm_single (i := a + b - n) n (by omega) fun j hj hne => by unfold ctr; rw [if_neg (by omega), if_neg (by omega), Int.zero_mul]]
    unfold ctr
    rw [if_neg (by omega), if_pos (by omega)]
    have e4 : w ^ ((a + b) * (2 * k + 1)) = w ^ ((a + b - n) * (2 * k + 1)) * w ^ (n * (2 * k + 1)) := by rw [← Int.pow_add, ← Nat.add_mul, Nat.sub_add_cancel h]
    rw [e4]
    have h5 := ((Cg.refl q (X a * Y b * w ^ ((a + b - n) * (2 * k + 1)))).mul (pow_odd hw k)).symm
    refine (Cg.of_eq ?_).trans (h5.trans (Cg.of_eq (Int.mul_assoc _ _ _)))
    rw [Int.mul_neg_one, Int.neg_mul]

/-- Sums of lists; a sum in another order. -/
def sl : List Int → Int
  | [] => 0
  | x :: xs => x + sl xs
theorem sl_perm {l1 l2 : List Int} (h : List.Perm l1 l2) : sl l1 = sl l2 := by
  induction h with
  | nil => rfl
  | cons x _ ih => simp only [sl, ih]
  | swap x y l => simp only [sl]; omega
  | trans _ _ ih1 ih2 => exact ih1.trans ih2
theorem sl_append : ∀ l1 l2 : List Int, sl (l1 ++ l2) = sl l1 + sl l2
  | [], l2 => by rw [List.nil_append]; show _ = 0 + _; omega
  | x :: xs, l2 => by rw [List.cons_append]; show x + sl (xs ++ l2) = x + sl xs + sl l2; rw [sl_append xs]; omega
theorem sm_sl (F : Nat → Int) : ∀ n, sm n F = sl ((List.range n).map F)
  | 0 => rfl
  | n + 1 => by
    rw [List.range_succ, List.map_append, sl_append, ← sm_sl F n]
    show sm n F + F n = sm n F + (F n + 0)
    omega
theorem sm_perm {n : Nat} {F : Nat → Int} {σ : Nat → Nat} (h1 : ∀ j, j < n → σ j < n) (h2 : ∀ i j, i < n → j < n → σ i = σ j → i = j) : sm n F = sm n fun j => F (σ j) := by
  rw [sm_sl, sm_sl]
  have hP : List.Perm ((List.range n).map σ) (List.range n) := by
    refine perm_of _ _ ?_ ?_ (by simp)
    · rw [List.nodup_iff_pairwise_ne, List.pairwise_map]
      have := List.nodup_range (n := n)
      rw [List.nodup_iff_pairwise_ne] at this
      refine List.Pairwise.imp_of_mem ?_ this
      intro x y hx hy hne e
      exact hne (h2 x y (List.mem_range.1 hx) (List.mem_range.1 hy) e)
    · intro y hy
      obtain ⟨x, hx, rfl⟩ := List.mem_map.1 hy
      exact List.mem_range.2 (h1 x (List.mem_range.1 hx))
  have := sl_perm (hP.map F)
  rw [List.map_map] at this
  exact this.symm

/-- Where a coefficient comes to lie by a turn. -/
def at2 (n k j : Nat) : Nat := j * (k % (2 * n)) % (2 * n)
theorem turnF_two (n q k : Nat) : ∀ (l : Nat) (xs : List Nat), xs.length = l → (turnF n q k xs).2 = at2 n k l := by
  intro l
  induction l with
  | zero =>
    intro xs hl
    obtain rfl : xs = [] := List.eq_nil_of_length_eq_zero hl
    show 0 = _
    unfold at2
    rw [Nat.zero_mul, Nat.zero_mod]
  | succ l ih =>
    intro xs hl
    obtain ⟨ys, x, rfl⟩ : ∃ ys x, xs = ys ++ [x] := ⟨xs.dropLast, xs.getLast (by intro e; subst e; cases hl), (List.dropLast_concat_getLast _).symm⟩
    have hyl : ys.length = l := by simpa using hl
    rw [turnF_snoc]
    unfold turnStep
    dsimp only
    rw [ih ys hyl]
    unfold at2
    rw [Nat.mod_add_mod, Nat.add_mul, Nat.one_mul]
def Inj2 (n k : Nat) : Prop := ∀ i j, i < n → j < n → at2 n k i % n = at2 n k j % n → i = j
theorem turn_at {n q k : Nat} (hn : 0 < n) (J : Inj2 n k) : ∀ (l : Nat) (xs : List Nat), xs.length = l → l ≤ n → ∀ j, j < l →
    (turnL n q k xs).getD (at2 n k j % n) 0 = if at2 n k j < n then xs.getD j 0 else subm 0 (xs.getD j 0) q := by
  intro l
  induction l with
  | zero => intro xs hl _ j hj; omega
  | succ l ih =>
    intro xs hl hle j hj
    obtain ⟨ys, x, rfl⟩ : ∃ ys x, xs = ys ++ [x] := ⟨xs.dropLast, xs.getLast (by intro e; subst e; cases hl), (List.dropLast_concat_getLast _).symm⟩
    have hyl : ys.length = l := by simpa using hl
    have hok := turnF_ok hn q k ys
    have h2 := turnF_two n q k l ys hyl
    have hst : turnL n q k (ys ++ [x]) = (turnL n q k ys).set (at2 n k l % n) (if at2 n k l < n then x else subm 0 x q) := by
      unfold turnL
      rw [turnF_snoc]
      unfold turnStep
      dsimp only
      rw [h2]
      rw [h2] at hok
      by_cases hc : at2 n k l < n
      · rw [if_pos hc, if_pos hc, Nat.mod_eq_of_lt hc]
      · have e : at2 n k l % n = at2 n k l - n := by rw [Nat.mod_eq_sub_mod (by omega), Nat.mod_eq_of_lt (by omega)]
        rw [if_neg hc, if_neg hc, e]
    rw [hst, getD_set (by unfold turnL; rw [hok.1]; exact Nat.mod_lt _ hn)]
    by_cases hjl : j = l
    · subst hjl
      have e : (ys ++ [x]).getD j 0 = x := by rw [List.getD_eq_getElem?_getD, ← hyl]; simp
      rw [if_pos rfl, e]
    · rw [if_neg fun e => hjl (J j l (by omega) (by omega) e)]
      have e : (ys ++ [x]).getD j 0 = ys.getD j 0 := by rw [List.getD_eq_getElem?_getD, List.getD_eq_getElem?_getD, List.getElem?_append_left (by omega)]
      rw [e]
      exact ih ys hyl (by omega) j (by omega)
theorem odd_inj {L k : Nat} (hk : k % 2 = 1) : Inj2 (2 ^ L) k := by
  have hpos : 0 < 2 ^ L := Nat.pow_pos (by decide)
  have hm : ∀ j, at2 (2 ^ L) k j % 2 ^ L = j * k % 2 ^ L := fun j => by
    unfold at2
    rw [Nat.mod_mod_of_dvd _ (⟨2, by rw [Nat.mul_comm]⟩ : 2 ^ L ∣ 2 * 2 ^ L), Nat.mul_mod, Nat.mod_mod_of_dvd _ (⟨2, by rw [Nat.mul_comm]⟩ : 2 ^ L ∣ 2 * 2 ^ L), ← Nat.mul_mod]
  have key : ∀ i j, i < 2 ^ L → j ≤ i → i * k % 2 ^ L = j * k % 2 ^ L → i = j := fun i j hi hji e => by
    have hd : 2 ^ L ∣ (i - j) * k := by rw [Nat.sub_mul]; exact dvd_sub_of_mod e (Nat.mul_le_mul_right _ hji)
    have hc : Nat.Coprime (2 ^ L) k := Nat.Coprime.pow_left L (by
      unfold Nat.Coprime
      rw [Nat.gcd_rec, hk, Nat.gcd_one_left])
    have hd2 := hc.dvd_of_dvd_mul_right hd
    rcases Nat.eq_zero_or_pos (i - j) with h0 | h0
    · omega
    · have := Nat.le_of_dvd h0 hd2; omega
  intro i j hi hj e
  rw [hm, hm] at e
  rcases Nat.le_total j i with h | h
  · exact key i j hi h e
  · exact (key j i hj h e.symm).symm
theorem pow_mod2 {q w : Int} {n : Nat} (hw : Cg q (w ^ n) (-1)) {a b : Nat} (h : a % (2 * n) = b % (2 * n)) : Cg q (w ^ a) (w ^ b) := by
  have h1 : Cg q (w ^ (2 * n)) 1 := by
    rw [Nat.mul_comm, Int.pow_mul]
    exact (hw.pow 2).trans (Cg.of_eq (by decide))
  have h2 : ∀ a, Cg q (w ^ a) (w ^ (a % (2 * n))) := fun a => by
    have e : w ^ a = w ^ (a % (2 * n)) * (w ^ (2 * n)) ^ (a / (2 * n)) := by rw [← Int.pow_mul, ← Int.pow_add, Nat.mod_add_div]
    rw [e]
    refine ((Cg.refl _ _).mul (h1.pow _)).trans (Cg.of_eq ?_)
    rw [Int.one_pow, Int.mul_one]
  exact (h2 a).trans ((Cg.of_eq (by rw [h])).trans (h2 b).symm)
/-- The values of what was turned are the values, moved. -/
theorem turn_dft {q L k m m' : Nat} {w : Int} (hq : 0 < q) (hw : Cg q (w ^ (2 ^ L)) (-1)) (hk : k % 2 = 1) (xs : List Nat) (hl : xs.length = 2 ^ L) (hm : (2 * m' + 1) % (2 * 2 ^ L) = k * (2 * m + 1) % (2 * 2 ^ L)) :
    Cg q (dft (2 ^ L) w (gt (turnL (2 ^ L) q k xs)) m) (dft (2 ^ L) w (gt xs) m') := by
  have J := odd_inj (L := L) hk
  have hpos : 0 < 2 ^ L := Nat.pow_pos (by decide)
  have TA := fun j hj => turn_at (q := q) hpos J _ xs hl (Nat.le_refl _) j hj
  generalize 2 ^ L = n at *
  unfold dft
  rw [sm_perm (σ := fun j => at2 n k j % n) (fun j _ => Nat.mod_lt _ hpos) J]
  refine sm_cg n fun j hj => ?_
  have h2 : at2 n k j < 2 * n := Nat.mod_lt _ (by omega)
  have hexp : at2 n k j * (2 * m + 1) % (2 * n) = j * (2 * m' + 1) % (2 * n) := by
    unfold at2
    rw [Nat.mod_mul_mod, Nat.mul_right_comm j (k % (2 * n)) (2 * m + 1), Nat.mul_mod_mod, ← Nat.mul_mod_mod j (2 * m' + 1), hm, Nat.mul_mod_mod, Nat.mul_assoc, Nat.mul_comm k]
  unfold gt
  rw [TA j hj]
  by_cases hc : at2 n k j < n
  · rw [if_pos hc, Nat.mod_eq_of_lt hc]
    exact (Cg.refl _ _).mul (pow_mod2 hw hexp)
  · have e : at2 n k j % n = at2 n k j - n := by rw [Nat.mod_eq_sub_mod (by omega), Nat.mod_eq_of_lt (by omega)]
    rw [if_neg hc, e]
    have e4 : w ^ (at2 n k j * (2 * m + 1)) = w ^ ((at2 n k j - n) * (2 * m + 1)) * w ^ (n * (2 * m + 1)) := by rw [← Int.pow_add, ← Nat.add_mul, Nat.sub_add_cancel (by omega)]
    refine Cg.trans ?_ ((Cg.refl q ((xs.getD j 0 : Nat) : Int)).mul (pow_mod2 hw hexp))
    rw [e4]
    refine ((cg_subm hq _ _).mul (Cg.refl _ _)).trans (Cg.trans (Cg.of_eq ?_) ((Cg.refl q _).mul ((Cg.refl q _).mul (pow_odd hw m).symm)))
    rw [Int.mul_neg_one, Int.mul_neg]
    generalize ((xs.getD j 0 : Nat) : Int) = X
    generalize w ^ ((at2 n k j - n) * (2 * m + 1)) = Y
    rw [show ((0 : Nat) : Int) - X = -X by omega, Int.neg_mul]
/-- The product of two rows, as it was reckoned; its values. -/
def Cnv (n q : Nat) (xs ys zs : List Nat) : Prop := Fit n q zs ∧ ∀ p, p < n → Cg q (gt zs p) (cnv n (gt xs) (gt ys) p)
theorem Cnv.dft {q n : Nat} {w : Int} {xs ys zs : List Nat} (hw : Cg q (w ^ n) (-1)) (h : Cnv n q xs ys zs) (k : Nat) : Cg q (dft n w (gt zs) k) (dft n w (gt xs) k * dft n w (gt ys) k) :=
  (dft_cg h.2 k).trans (cnv_dft hw _ _ k)
end Go.Proofs.YtfcmdefigldpnaaDoor

/- Products step by step; sums; what stands in the slots of sums, products and turned polynomials: plain laws. No condition, no program. -/
namespace Go.Proofs.YtfcmdefigldpnaaDoor
set_option linter.unusedVariables false
set_option maxRecDepth 8000
open Go Go.Den Go.RowKit Go.Mth Go.Dig

theorem gt_set {xs : List Nat} {r p v : Nat} (h : p < xs.length) : gt (xs.set r v) p = if p = r then (v : Int) else gt xs p := by
  unfold gt; rw [getD_set h]; split <;> rfl
theorem cmul_step {n q : Nat} (hq : 0 < q) {i k : Nat} (hi : i < n) (hk : k < n) {out : List Nat} {S X Y : Nat → Int} {pr : Nat} (hl : out.length = n) (h : ∀ p, p < n → Cg q (gt out p) (S p)) (hp : Cg q (pr : Int) (X i * Y k)) :
    (i + k < n → ∀ p, p < n → Cg q (gt (out.set (i + k) (addm (out.getD (i + k) 0) pr q)) p) (S p + ctr n X Y p i k)) ∧
    (¬ i + k < n → ∀ p, p < n → Cg q (gt (out.set (i + k - n) (subm (out.getD (i + k - n) 0) pr q)) p) (S p + ctr n X Y p i k)) := by
  constructor <;> intro hc p hpn
  · rw [gt_set (by omega)]
    unfold ctr
    by_cases e : p = i + k
    · subst e
      rw [if_pos rfl, if_pos rfl]
      exact (cg_addm hq _ _).trans ((h _ hpn).add hp)
    · rw [if_neg e, if_neg (fun e' => e e'.symm), if_neg (by omega), Int.add_zero]
      exact h p hpn
  · rw [gt_set (by omega)]
    unfold ctr
    rw [if_neg (show ¬ i + k = p by omega)]
    by_cases e : p = i + k - n
    · subst e
      rw [if_pos rfl, if_pos (by omega)]
      exact ((cg_subm hq _ _).trans ((h _ hpn).sub hp)).trans (Cg.of_eq (Int.sub_eq_add_neg))
    · rw [if_neg e, if_neg (by omega), Int.add_zero]
      exact h p hpn

theorem fit_set {n q r v : Nat} {xs : List Nat} (h : Fit n q xs) (hv : v < q) : Fit n q (xs.set r v) := ⟨by rw [List.length_set]; exact h.1, fun x hx => by
  rcases List.mem_or_eq_of_mem_set hx with hx | rfl
  · exact h.2 x hx
  · exact hv⟩

/-- Sum, difference and what is below 0, word by word. -/
def addL (q : Nat) (xs ys : List Nat) : List Nat := List.zipWith (fun a b => addm a b q) xs ys
def subL (q : Nat) (xs ys : List Nat) : List Nat := List.zipWith (fun a b => subm a b q) xs ys
def negL (q : Nat) (xs : List Nat) : List Nat := xs.map fun a => subm 0 a q
theorem addL_len {q : Nat} {xs ys : List Nat} (h : xs.length = ys.length) : (addL q xs ys).length = xs.length := by unfold addL; simp [h]
theorem addL_get {q i a b : Nat} {xs ys : List Nat} (h1 : xs[i]? = some a) (h2 : ys[i]? = some b) : (addL q xs ys)[i]? = some (addm a b q) := by
  unfold addL; rw [List.getElem?_zipWith, h1, h2]
theorem addL_gt {q i : Nat} {xs ys : List Nat} (hq : 0 < q) (h1 : i < xs.length) (h2 : i < ys.length) : Cg q (gt (addL q xs ys) i) (gt xs i + gt ys i) := by
  obtain ⟨a, ha⟩ : ∃ a, xs[i]? = some a := ⟨_, List.getElem?_eq_getElem h1⟩
  obtain ⟨b, hb⟩ : ∃ b, ys[i]? = some b := ⟨_, List.getElem?_eq_getElem h2⟩
  unfold gt
  rw [getD_of (addL_get ha hb), getD_of ha, getD_of hb]
  exact cg_addm hq _ _
theorem addL_fit {n q : Nat} {xs ys : List Nat} (hq : 0 < q) (h1 : xs.length = n) (h2 : ys.length = n) : Fit n q (addL q xs ys) := ⟨by rw [addL_len (by omega), h1], fun x hx => by
  obtain ⟨i, hi⟩ := List.getElem?_of_mem hx
  have hil := (List.getElem?_eq_some_iff.1 hi).1
  rw [addL_len (by omega)] at hil
  rw [addL_get (List.getElem?_eq_getElem hil) (List.getElem?_eq_getElem (show i < ys.length by omega))] at hi
  cases hi
  exact addm_lt hq⟩

/-- Powers of 3. -/
theorem pow3_half : pow3 8 4 = 1 ∧ pow3 16 8 = 1 ∧ pow3 32 16 = 1 ∧ pow3 64 32 = 1 := by decide +kernel
theorem pow3_add (n a b : Nat) : pow3 n (a + b) = pow3 n a * pow3 n b % (2 * n) := by unfold pow3; rw [Nat.pow_add, Nat.mul_mod]
theorem pow3_mod {n : Nat} (hn : 0 < n) (h1 : pow3 n (n / 2) = 1) (a : Nat) : pow3 n a = pow3 n (a % (n / 2)) := by
  have h2 : ∀ c, pow3 n (n / 2 * c) = 1 := by
    intro c
    induction c with
    | zero => unfold pow3; rw [Nat.mul_zero, Nat.pow_zero]; exact Nat.mod_eq_of_lt (by omega)
    | succ c ih => rw [Nat.mul_succ, pow3_add, ih, h1]; exact Nat.mod_eq_of_lt (by omega)
  conv => lhs; rw [← Nat.mod_add_div a (n / 2)]
  rw [pow3_add, h2, Nat.mul_one]
  unfold pow3
  rw [Nat.mod_mod]
theorem place_odd (n i : Nat) : 2 * (place n i).1 + 1 = pow3 n i := by
  have := pow3_odd n i
  unfold place
  dsimp only
  omega
theorem turn_place {n : Nat} (hn : 0 < n) (h1 : pow3 n (n / 2) = 1) (i b : Nat) : (2 * (place n ((i + b) % (n / 2))).1 + 1) % (2 * n) = pow3 n b * (2 * (place n i).1 + 1) % (2 * n) := by
  rw [place_odd, place_odd, ← pow3_mod hn h1, pow3_add, Nat.mod_mod, Nat.mul_comm]

/-- What a packed polynomial has at its places. -/
def Slt (B : BatD) (rs : List Nat) (F : Nat → Int) : Prop := Fit (2 ^ B.L) B.t rs ∧ ∀ m, m < 2 ^ B.L → Cg B.t (dft (2 ^ B.L) B.T.w (gt rs) m) (F m)
theorem BatOk.cw {B : BatD} (K : BatOk B) : Cg B.t ((B.T.w : Int) ^ (2 ^ B.L)) (-1) := by
  have := K.ok.cw
  rwa [K.tl, K.tq] at this
theorem slt_bck {B : BatD} (K : BatOk B) {xs rs : List Nat} (h : Bck B.T xs rs) : Slt B rs (gt xs) := by
  have h1 := h.1
  have h2 : ∀ p, p < 2 ^ B.T.L → Cg B.T.q (dft (2 ^ B.T.L) B.T.w (gt rs) p) (gt xs p) := fun p hp => (dft_cg (fun j hj => h.2 j hj) p).trans (dft_idft K.ok.cw K.ok.cuw K.ok.cp (gt xs) hp)
  rw [K.tl, K.tq] at h1 h2
  exact ⟨h1, h2⟩
theorem slt_val {B : BatD} (K : BatOk B) {rs ys : List Nat} {F : Nat → Int} (h : Slt B rs F) (V : Val B.T rs ys) {m v : Nat} (hm : m < 2 ^ B.L) (hv : v < B.t) (hF : Cg B.t (v : Int) (F m)) : ys.getD m 0 = v := by
  have h1 := V.1
  have h2 := V.2
  rw [K.tl, K.tq] at h1 h2
  obtain ⟨y, hy⟩ : ∃ y, ys[m]? = some y := ⟨_, List.getElem?_eq_getElem (by rw [h1.1]; exact hm)⟩
  have h3 := (h2 m hm).trans ((h.2 m hm).trans hF.symm)
  have hyt := h1.2 y (List.mem_of_getElem? hy)
  unfold gt at h3
  rw [getD_of hy] at h3 ⊢
  exact h3.eqN hyt hv
theorem slt_add {B : BatD} (K : BatOk B) {rs rs' : List Nat} {F G : Nat → Int} (h : Slt B rs F) (k : Slt B rs' G) : Slt B (addL B.t rs rs') (fun m => F m + G m) := by
  have hq : 0 < B.t := by have := K.ok.q1; have := K.tq; omega
  refine ⟨addL_fit hq h.1.1 k.1.1, fun m hm => ?_⟩
  refine (dft_cg (b := fun j => gt rs j + gt rs' j) (fun j hj => addL_gt hq (by rw [h.1.1]; exact hj) (by rw [k.1.1]; exact hj)) m).trans ?_
  refine (Cg.of_eq ?_).trans ((h.2 m hm).add (k.2 m hm))
  unfold dft
  rw [← sm_add]
  exact sm_congr _ fun j _ => Int.add_mul _ _ _
theorem slt_mul {B : BatD} (K : BatOk B) {rs rs' zs : List Nat} {F G : Nat → Int} (h : Slt B rs F) (k : Slt B rs' G) (hz : Cnv (2 ^ B.L) B.t rs rs' zs) : Slt B zs (fun m => F m * G m) :=
  ⟨hz.1, fun m hm => (hz.dft K.cw m).trans ((h.2 m hm).mul (k.2 m hm))⟩
theorem turnL_fit {n q k : Nat} (hn : 0 < n) (hq : 0 < q) {xs : List Nat} (hx : ∀ x ∈ xs, x < q) : Fit n q (turnL n q k xs) := by
  refine ⟨(turnF_ok hn q k xs).1, ?_⟩
  unfold turnL turnF
  suffices H : ∀ (xs : List Nat) (s : List Nat × Nat), (∀ x ∈ xs, x < q) → (∀ x ∈ s.1, x < q) → ∀ x ∈ (xs.foldl (turnStep n q (k % (2 * n))) s).1, x < q from H xs _ hx (fun x h => by have := (List.mem_replicate.1 h).2; omega)
  intro xs
  induction xs with
  | nil => intro s _ h; exact h
  | cons x xs ih =>
    intro s hx hs
    rw [List.foldl_cons]
    refine ih _ (fun y hy => hx y (List.mem_cons_of_mem _ hy)) ?_
    unfold turnStep
    dsimp only
    intro y hy
    split at hy
    · rcases List.mem_or_eq_of_mem_set hy with hy | rfl
      · exact hs y hy
      · exact hx _ (List.mem_cons_self ..)
    · rcases List.mem_or_eq_of_mem_set hy with hy | rfl
      · exact hs y hy
      · exact subm_lt hq
theorem slt_turn {B : BatD} (K : BatOk B) {rs ys : List Nat} {F : Nat → Int} (h : Slt B rs F) {k : Nat} (hk : k % 2 = 1) (V : Val B.T (turnL (2 ^ B.L) B.t k rs) ys) {m m' v : Nat} (hm : m < 2 ^ B.L) (hm' : m' < 2 ^ B.L)
    (e : (2 * m' + 1) % (2 * 2 ^ B.L) = k * (2 * m + 1) % (2 * 2 ^ B.L)) (hv : v < B.t) (hF : Cg B.t (v : Int) (F m')) : ys.getD m 0 = v := by
  have hq : 0 < B.t := by have := K.ok.q1; have := K.tq; omega
  have hpos : 0 < 2 ^ B.L := Nat.pow_pos (by decide)
  have S : Slt B (turnL (2 ^ B.L) B.t k rs) (fun m => dft (2 ^ B.L) B.T.w (gt (turnL (2 ^ B.L) B.t k rs)) m) := ⟨turnL_fit hpos hq h.1.2, fun m _ => Cg.refl _ _⟩
  exact slt_val K S V hm hv (hF.trans ((turn_dft hq K.cw hk rs h.1.1 e).trans (h.2 m' hm')).symm)
theorem lift_center {r t : Nat} (h : r < t) (ht : t ≤ 4611686018427387904) : liftm (centerm r t) t = r := by
  unfold liftm centerm
  rw [if_neg (by omega), if_neg (by omega), Nat.mod_eq_of_lt h]
  split
  · rw [Int.sub_emod_right, Int.emod_eq_of_lt (by omega) (by omega), Int.toNat_natCast]
  · rw [Int.emod_eq_of_lt (by omega) (by omega), Int.toNat_natCast]
end Go.Proofs.YtfcmdefigldpnaaDoor

/- The reference's products, sums and turns of polynomials. No condition. -/
namespace Go.Proofs.YtfcmdefigldpnaaDoor
set_option linter.unusedVariables false
set_option maxRecDepth 8000
open Go Go.Den Go.RowKit Go.Mth Go.Dig

theorem Tryd_ent13 : Ent Tryd.prog 13 := ent_of Tryd.func13 (by kernel_rfl) rfl
set_option maxHeartbeats 4000000 in
theorem refMul4_spec (va vb : Value) (xs ys : List Nat) (q n : Nat) (h : Hp) (sa : SlF h U va xs) (sb : SlF h U vb ys) (hx : xs.length = n) (hy : ys.length = n) (ha : ∀ x ∈ xs, x < 18446744073709551616) (hb : ∀ x ∈ ys, x < 18446744073709551616) (hq1 : 1 < q) (hq : q < 18446744073709551616) (hn : n ≤ 4096) :
    CallsH Tryd.prog 13 [va, vb, U q] h fun v' h' => Ext h h' ∧ ∃ zs, OwnF h' h.size 22 U v' zs ∧ Cnv n q xs ys zs := by
  have hz : ∀ p, p < n → Cg q (gt (List.replicate n 0) p) (sm 0 fun a => sm n fun b => ctr n (gt xs) (gt ys) p a b) := fun p hp => by
    unfold gt
    rw [List.getD_eq_getElem?_getD, List.getElem?_replicate, if_pos hp]
    exact Cg.refl _ _
  have hMS := fun i k (hi : i < n) (hk : k < n) (out : List Nat) (S : Nat → Int) (pr : Nat) (hl : out.length = n) h hp => cmul_step (q := q) (by omega) hi hk (out := out) (S := S) (X := gt xs) (Y := gt ys) (pr := pr) hl h hp
  subst hx
  generalize hxl : xs.length = n at *
  (apply enter Tryd.func13 rfl Tryd.ntmps13 rfl)
  refine runJ ?_
  (apply (s_make (f := U) (bytes := 8) (0)); (first | exact isK_c | exact isK_t rfl); (first | exact isK_c | exact isK_t rfl); exact rfl; exact rfl; exact rfl; exact rfl; exact rfl; exact rfl; omega; omega; omega)
  intro w1 h1 o1 e1 b1
  refine ⟨(by first | exact trivial | exact Ext.refl _ | assumption | exact Ext.trans (by assumption) (by assumption)), ?_⟩
  have s1 := sa.ext e1
  have s2 := sb.ext e1
  refine runJ ?_
  (first | (apply w_seqB; exact rfl; apply w_block; exact rfl) | skip)
  apply (w_loop (σ := Nat × List Nat) rfl (fun j => [(0, va), (1, vb), (2, U q), (7, N xs.length), (8, w1), (17, N xs.length), (18, N j.1)])
    (fun j h' => Ext h h' ∧ OwnF h' h.size 22 U w1 j.2 ∧ j.1 ≤ n ∧ Fit n q j.2 ∧ ∀ p, p < n → Cg q (gt j.2 p) (sm j.1 fun a => sm n fun b => ctr n (gt xs) (gt ys) p a b)) (fun j => n - j.1) (0, List.replicate n 0))
  · exact (Sub.cons rfl (Sub.cons rfl (Sub.cons rfl (Sub.cons rfl (Sub.cons rfl (Sub.cons rfl (Sub.cons rfl (Sub.nil _))))))))
  · refine ⟨e1, ?_, Nat.zero_le _, ⟨by simp, fun x hx => by have := (List.mem_replicate.1 hx).2; omega⟩, hz⟩
    rw [← hxl]; exact o1
  clear o1
  rintro ⟨i, zs⟩ h2 ⟨e2, o2, j1, f2, c2⟩
  dsimp only at e2 o2 j1 f2 c2 ⊢
  have t1 := sa.ext e2
  have t2 := sb.ext e2
  refine runJ ?_
  (apply w_condD; exact rfl; exact rfl) <;> intro hi
  · obtain ⟨x, hxi⟩ := get_lt hi
    have hxb := ha x (List.mem_of_getElem? hxi)
    refine runJ ?_
    (first | (apply w_seqB; exact rfl; apply w_block; exact rfl) | skip)
    apply (w_loop (σ := Nat × List Nat) rfl (fun j => [(0, va), (1, vb), (2, U q), (7, N xs.length), (8, w1), (9, N i), (17, N xs.length), (18, N i), (22, N ys.length), (23, N j.1)])
      (fun j h' => Ext h h' ∧ OwnF h' h.size 22 U w1 j.2 ∧ j.1 ≤ n ∧ Fit n q j.2 ∧ ∀ p, p < n → Cg q (gt j.2 p) ((sm i fun a => sm n fun b => ctr n (gt xs) (gt ys) p a b) + sm j.1 fun b => ctr n (gt xs) (gt ys) p i b)) (fun j => n - j.1) (0, zs))
    · exact (Sub.cons rfl (Sub.cons rfl (Sub.cons rfl (Sub.cons rfl (Sub.cons rfl (Sub.cons rfl (Sub.cons rfl (Sub.cons rfl (Sub.cons rfl (Sub.cons rfl (Sub.nil _)))))))))))
    · exact ⟨e2, o2, Nat.zero_le _, f2, fun p hp => (c2 p hp).trans (Cg.of_eq (by show _ = _ + (0 : Int); omega))⟩
    clear o2 f2 c2
    rintro ⟨k, out⟩ h3 ⟨e3, o3, k1, f3, c3⟩
    dsimp only at e3 o3 k1 f3 c3 ⊢
    have t1 := sa.ext e3
    have t2 := sb.ext e3
    have hol := f3.1
    refine runJ ?_
    (apply w_condD; exact rfl; exact rfl) <;> intro hk
    · obtain ⟨y, hyk⟩ := get_lt hk
      have hyb := hb y (List.mem_of_getElem? hyk)
      obtain ⟨st1, st2⟩ := hMS i k (by omega) (by omega) out _ (mulm x y q) hol c3 (by
        unfold gt; rw [getD_of hxi, getD_of hyk]; exact cg_mulm (by omega) _ _)
      refine runJ ?_
      apply (s_call Tryd_ent18 rfl rfl rfl)
      refine (refMul_spec x y q h3 hxb hyb (by omega)).mono ?_
      rintro _ _ ⟨rfl, rfl⟩
      refine ⟨Ext.refl _, ?_⟩
      have hpr : mulm x y q < q := mulm_lt (by omega)
      generalize mulm x y q = pr at *
      refine runJ ?_
      (apply w_condD; exact rfl; exact rfl) <;> intro hik
      · have hl1 : i + k < out.length := by omega
        obtain ⟨u, hu⟩ := get_lt hl1
        have hub := f3.2 u (List.mem_of_getElem? hu)
        have hgd := getD_of hu
        rw [hgd] at st1
        have o3s := o3.sl
        refine runJ ?_
        apply (s_call Tryd_ent17 rfl rfl rfl)
        refine (refAdd_spec u pr q h3 (by omega) (by omega) (by omega)).mono ?_
        rintro _ _ ⟨rfl, rfl⟩
        refine ⟨(by first | exact trivial | exact Ext.refl _ | assumption | exact Ext.trans (by assumption) (by assumption)), ?_⟩
        refine runJ ?_
        (apply (s_storeF (addm u pr q)); exact rfl; exact rfl; exact rfl; exact rfl; exact rfl; exact o3; exact rfl; (first | assumption | omega))
        intro h4 o4 k4
        refine ⟨(by first | exact trivial | exact Ext.refl _ | assumption | exact Ext.trans (by assumption) (by assumption)), ?_⟩
        refine runJ ?_
        apply again_normal (k + 1, out.set (i + k) (addm u pr q))
        · exact (Sub.cons rfl (Sub.cons rfl (Sub.cons rfl (Sub.cons rfl (Sub.cons rfl (Sub.cons rfl (Sub.cons rfl (Sub.cons rfl (Sub.cons rfl (Sub.cons rfl (Sub.nil _)))))))))))
        · refine ⟨o3.old k4 e3 (Nat.le_refl _), o4, by dsimp only; omega, fit_set f3 (addm_lt (by omega)), fun p hp => ?_⟩
          dsimp only
          refine (st1 (by omega) p hp).trans (Cg.of_eq ?_)
          show _ = _ + ((sm k fun b => ctr n (gt xs) (gt ys) p i b) + ctr n (gt xs) (gt ys) p i k)
          omega
        · dsimp only; omega
      · have hl1 : i + k - n < out.length := by omega
        obtain ⟨u, hu⟩ := get_lt hl1
        have hub := f3.2 u (List.mem_of_getElem? hu)
        have hgd := getD_of hu
        rw [hgd] at st2
        have o3s := o3.sl
        rw [← hxl] at hu hl1
        refine runJ ?_
        apply (s_call Tryd_ent33 rfl rfl rfl)
        refine (refSub_spec u pr q h3 (by omega) (by omega) (by omega)).mono ?_
        rintro _ _ ⟨rfl, rfl⟩
        refine ⟨(by first | exact trivial | exact Ext.refl _ | assumption | exact Ext.trans (by assumption) (by assumption)), ?_⟩
        refine runJ ?_
        (apply (s_storeF (subm u pr q)); exact rfl; exact rfl; exact rfl; exact rfl; exact rfl; exact o3; exact rfl; (first | assumption | omega))
        intro h4 o4 k4
        refine ⟨(by first | exact trivial | exact Ext.refl _ | assumption | exact Ext.trans (by assumption) (by assumption)), ?_⟩
        rw [hxl] at o4
        refine runJ ?_
        apply again_normal (k + 1, out.set (i + k - n) (subm u pr q))
        · exact (Sub.cons rfl (Sub.cons rfl (Sub.cons rfl (Sub.cons rfl (Sub.cons rfl (Sub.cons rfl (Sub.cons rfl (Sub.cons rfl (Sub.cons rfl (Sub.cons rfl (Sub.nil _)))))))))))
        · refine ⟨o3.old k4 e3 (Nat.le_refl _), o4, by dsimp only; omega, fit_set f3 (subm_lt (by omega)), fun p hp => ?_⟩
          dsimp only
          refine (st2 (by omega) p hp).trans (Cg.of_eq ?_)
          show _ = _ + ((sm k fun b => ctr n (gt xs) (gt ys) p i b) + ctr n (gt xs) (gt ys) p i k)
          omega
        · dsimp only; omega
    · obtain rfl : k = n := by omega
      refine runJ ?_
      apply again_normal (i + 1, out)
      · exact (Sub.cons rfl (Sub.cons rfl (Sub.cons rfl (Sub.cons rfl (Sub.cons rfl (Sub.cons rfl (Sub.cons rfl (Sub.nil _))))))))
      · exact ⟨e3, o3, by dsimp only; omega, f3, c3⟩
      · dsimp only; omega
  · obtain rfl : i = n := by omega
    refine runJ ?_
    exact fin1 rfl rfl ⟨e2, zs, o2, f2, c2⟩

theorem r_drawnB {P : Program} {n : Nat} {Q : Post} {l : Fr} {h : Hp} {c : Code} {h0 : Hp} (hC : Ext h0 h) (hc : tagOf c = .region true) (hm : P.follows .mixedOrders = true) (hok : regionOk (opsOf c) (effB (opsOf c)) = true)
    (k : S P n (opsOf c) (Ext h0) (effB (opsOf c)) Q 0 l h) : W P n c Q l h := r_drawn (Ext h0) (effB (opsOf c)) hc hm hok hC k

theorem Tryd_ent9 : Ent Tryd.prog 9 := ent_of Tryd.func9 (by kernel_rfl) rfl
set_option maxHeartbeats 4000000 in
theorem refAdd5_spec (vp va vb : Value) (qs : List Nat) (xs ys : List (Value × List Nat)) (h : Hp) (sp : SlF h U vp qs) (sa : PolAt h va xs) (sb : PolAt h vb ys) (hl : ys.length = xs.length) (hql : xs.length ≤ qs.length) (h24 : xs.length ≤ 24)
    (hr : ∀ (i q : Nat) (x y : Value × List Nat), xs[i]? = some x → ys[i]? = some y → qs[i]? = some q → y.2.length = x.2.length ∧ x.2.length ≤ 4096 ∧ (∀ a ∈ x.2, a < 18446744073709551616) ∧ (∀ a ∈ y.2, a < 18446744073709551616) ∧ q < 18446744073709551616) :
    CallsH Tryd.prog 9 [vp, .agg #[va], .agg #[vb]] h fun v' h' => Ext h h' ∧ ∃ vr rows p, v' = .agg #[vr] ∧ RowsAt h' h.size p vr rows ∧ rows.length = xs.length ∧
      ∀ (i q : Nat) (x y r : Value × List Nat), xs[i]? = some x → ys[i]? = some y → qs[i]? = some q → rows[i]? = some r → r.2 = addL q x.2 y.2 := by
  (apply enter Tryd.func9 rfl Tryd.ntmps9 rfl)
  refine runJ ?_
  (apply s_box; exact rfl; exact rfl; exact rfl; exact rfl)
  intro p4 h1 x1 e1 b1
  (try dsimp only [Value.cells, List.toList_toArray] at x1)
  refine ⟨(by first | exact trivial | exact Ext.refl _ | assumption | exact Ext.trans (by assumption) (by assumption)), ?_⟩
  refine runJ ?_
  (apply s_box; exact rfl; exact rfl; exact rfl; exact rfl)
  intro p5 h2 x2 e2 b2
  (try dsimp only [Value.cells, List.toList_toArray] at x2)
  refine ⟨(by first | exact trivial | exact Ext.refl _ | assumption | exact Ext.trans (by assumption) (by assumption)), ?_⟩
  refine runJ ?_
  (apply s_alloc; exact rfl; exact rfl; exact rfl)
  intro p6 h3 x3 e3 b3
  (try dsimp only [Value.cells, List.toList_toArray] at x3)
  refine ⟨(by first | exact trivial | exact Ext.refl _ | assumption | exact Ext.trans (by assumption) (by assumption)), ?_⟩
  have E3 := (e1.trans e2).trans e3
  have w4 := (x1.ext e2).ext e3
  have w5 := x2.ext e3
  have w6 := x3
  have sp3 := sp.ext E3
  have sa3 := (sa.ext E3).row
  have sb3 := (sb.ext E3).row
  have ela := (sa.ext E3).el
  have elb := (sb.ext E3).el
  refine runJ ?_
  (apply s_alloc; exact rfl; exact rfl; exact rfl)
  intro p7 h4 x4 e4 b4
  (try dsimp only [Value.cells, List.toList_toArray] at x4)
  refine ⟨(by first | exact trivial | exact Ext.refl _ | assumption | exact Ext.trans (by assumption) (by assumption)), ?_⟩
  have hb34 : h3.size < h4.size := by obtain ⟨j, hj, hlj⟩ := x4.blk; rw [b4] at hj; cases hj; exact hlj
  have hk4s := e4.1
  have a4 := w4.ext e4
  have s4 := sa3.ext e4
  refine runJ ?_
  (first | (apply w_seqB; exact rfl; apply w_block; exact rfl) | skip)
  apply (w_loop (σ := Nat × List (Value × List Nat) × Value) rfl (fun j => [(0, vp), (4, p4), (5, p5), (6, p6), (7, p7), (13, N xs.length), (14, N j.1)])
    (fun j h' => Ext h3 h' ∧ h4.size ≤ h'.size ∧ j.1 ≤ xs.length ∧ Var h' p7 37 [j.2.2] ∧ RowsAt h' h3.size (some h3.size) j.2.2 j.2.1 ∧ j.2.1.length = j.1 ∧
      ∀ (i q : Nat) (x y r : Value × List Nat), xs[i]? = some x → ys[i]? = some y → qs[i]? = some q → j.2.1[i]? = some r → r.2 = addL q x.2 y.2) (fun j => xs.length - j.1) (0, [], .slice none 0 0))
  · exact (Sub.cons rfl (Sub.cons rfl (Sub.cons rfl (Sub.cons rfl (Sub.cons rfl (Sub.cons rfl (Sub.cons rfl (Sub.nil _))))))))
  · exact ⟨e4, Nat.le_refl _, Nat.zero_le _, x4, RowsAt.nil _ _ _, rfl, by intro i q x y r _ _ _ hr; cases hr⟩
  clear x4 a4 s4
  rintro ⟨j, rows, vR⟩ h7 ⟨e7, z7, j1, x7, R7, l7, m7⟩
  dsimp only at e7 z7 j1 x7 R7 l7 m7 ⊢
  have u4 := w4.ext e7
  have u5 := w5.ext e7
  have sp7 := sp3.ext e7
  have sa7 := sa3.ext e7
  have sb7 := sb3.ext e7
  have hpv : pblk p7 ≠ vR.ownBlock := by
    rw [b4]; intro e
    rcases R7.vp with h0 | h0
    · rw [h0] at e; cases e
    · exact h0 e.symm
  refine runJ ?_
  (apply w_condD; exact rfl; exact rfl) <;> intro hj
  · obtain ⟨x, hxj⟩ := get_lt hj
    obtain ⟨y, hyj⟩ := get_lt (l := ys) (j := j) (by omega)
    obtain ⟨q, hqj⟩ := get_lt (l := qs) (j := j) (by omega)
    obtain ⟨f1, f2, f3, f4, f5⟩ := hr j q x y hxj hyj hqj
    have sx := (ela x (List.mem_of_getElem? hxj)).ext e7
    have sy := (elb y (List.mem_of_getElem? hyj)).ext e7
    have hMM : ∀ r : Value × List Nat, r.2 = addL q x.2 y.2 → ∀ (i q : Nat) (x y r' : Value × List Nat), xs[i]? = some x → ys[i]? = some y → qs[i]? = some q → (rows ++ [r])[i]? = some r' → r'.2 = addL q x.2 y.2 := by
      intro r hr' i q' x' y' r' hx' hy' hq' hri
      rcases Nat.lt_or_ge i j with hij | hij
      · rw [List.getElem?_append_left (by omega)] at hri
        exact m7 i q' x' y' r' hx' hy' hq' hri
      · have hi := (List.getElem?_eq_some_iff.1 hri).1
        rw [List.length_append] at hi
        simp only [List.length_cons, List.length_nil] at hi
        obtain rfl : i = j := by omega
        rw [List.getElem?_append_right (by omega), l7, Nat.sub_self] at hri
        rw [hxj] at hx'
        rw [hyj] at hy'
        rw [hqj] at hq'
        cases hx'; cases hy'; cases hq'; cases hri
        exact hr'
    obtain ⟨vx, ws⟩ := x
    obtain ⟨vy, zs⟩ := y
    dsimp only at sx sy f1 f2 f3 f4 hMM ⊢
    have hal := addL_len (q := q) f1.symm
    refine runJ ?_
    (first | (apply w_seqB; exact rfl; apply w_block; exact rfl) | skip)
    apply (w_loop (σ := Nat × Value) rfl (fun m => [(0, vp), (4, p4), (5, p5), (6, p6), (7, p7), (8, N j), (9, m.2), (13, N xs.length), (14, N j), (22, N ws.length), (23, N m.1)])
      (fun m h' => Ext h7 h' ∧ m.1 ≤ ws.length ∧ OwnF h' h7.size 22 U m.2 ((addL q ws zs).take m.1)) (fun m => ws.length - m.1) (0, .slice none 0 0))
    · exact (Sub.cons rfl (Sub.cons rfl (Sub.cons rfl (Sub.cons rfl (Sub.cons rfl (Sub.cons rfl (Sub.cons rfl (Sub.cons rfl (Sub.cons rfl (Sub.cons rfl (Sub.cons rfl (Sub.nil _))))))))))))
    · exact ⟨Ext.refl _, Nat.zero_le _, OwnF.nil _ _ _ _⟩
    rintro ⟨m, vl⟩ h9 ⟨e9, m1, o9⟩
    dsimp only at e9 m1 o9 ⊢
    refine runJ ?_
    (apply w_condD; exact rfl; exact rfl) <;> intro hm
    · obtain ⟨a, ha⟩ := get_lt hm
      obtain ⟨b, hb⟩ := get_lt (l := zs) (j := m) (by omega)
      have hab := f3 a (List.mem_of_getElem? ha)
      have hbb := f4 b (List.mem_of_getElem? hb)
      have hadd := addL_get (q := q) ha hb
      have htl : (List.take m (addL q ws zs)).length = m := by rw [List.length_take]; omega
      refine runJN ?_
      (apply (r_drawnB (h0 := h7) e9); exact rfl; exact mixed; kernel_rfl)
      refine runJ ?_
      apply (s_call Tryd_ent17 rfl rfl rfl)
      refine (refAdd_spec a b q h9 hab hbb f5).mono ?_
      rintro _ _ ⟨rfl, rfl⟩
      refine ⟨e9, ?_⟩
      refine runJ ?_
      (refine s_app1 (bytes := 8) (addm a b q) o9 e9 rfl rfl rfl rfl rfl rfl rfl rfl rfl (by first | exact rfl | exact congrArg some (congrArg I (by omega))) (fun _ => rfl) rfl rfl (fun _ k => k) (by omega) (by simp only [maxLen]; omega) ?_)
      intro v10 h10 o10 e10 k10 b10
      rw [← take_snoc hadd] at o10
      refine runJ ?_
      apply again_normal (m + 1, v10)
      · exact (Sub.cons rfl (Sub.cons rfl (Sub.cons rfl (Sub.cons rfl (Sub.cons rfl (Sub.cons rfl (Sub.cons rfl (Sub.cons rfl (Sub.cons rfl (Sub.cons rfl (Sub.cons rfl (Sub.nil _))))))))))))
      · exact ⟨e10, by dsimp only; omega, o10⟩
      · dsimp only; omega
    · obtain rfl : m = ws.length := by omega
      rw [← hal, List.take_length] at o9
      have R9 := R7.ext e9
      have x9 := x7.ext e9
      have e39 := e7.trans e9
      have o9one := o9.sl.one
      have hlen : rows.length + 1 < 1000000 := by omega
      refine runJ ?_
      (refine s_app1V (bytes := 24) ((vl, addL q ws zs)) R9.own e39 rfl rfl rfl rfl rfl rfl rfl rfl rfl (by first | exact rfl | exact congrArg some (congrArg I (by omega))) o9one rfl rfl (fun _ _ => trivial) (by omega) (by simp only [maxLen]; omega) ?_)
      intro v10 h10 o10 e10 k10 b10
      have x10 := x9.only k10 hpv
      refine runJ ?_
      (apply s_storeC; exact rfl; exact rfl; (first | exact rfl | exact SlF.one (by assumption) | exact SlF.one (OwnF.sl (by assumption)) | exact Var.one (by assumption)); exact rfl; exact rfl; exact x10; exact rfl)
      intro h11 x11 k11
      refine ⟨(by first | exact trivial | exact Ext.refl _ | assumption | exact Ext.only (by assumption) _ | exact Only.trans (Ext.only (by assumption) _) (by assumption)), ?_⟩
      have e11 : Ext h3 h11 := k11.oldV e10 b4 (Nat.le_refl _)
      rw [b4] at k11
      have R11 := R9.push (z := h7.size) (o9.base (Nat.le_trans hk4s z7)) (fun k hk => (o9.blk k hk).1) (fun k hk => (R7.own.blk k hk).2) (Nat.lt_of_lt_of_le hb34 z7) e9.1 o10 k10 b10 k11
      refine runJ ?_
      apply again_normal (j + 1, rows ++ [(vl, addL q ws zs)], v10)
      · exact (Sub.cons rfl (Sub.cons rfl (Sub.cons rfl (Sub.cons rfl (Sub.cons rfl (Sub.cons rfl (Sub.cons rfl (Sub.nil _))))))))
      · exact ⟨e11, Nat.le_trans z7 (Nat.le_trans e9.1 (Nat.le_trans k10.1 k11.1)), hj, x11, R11, by dsimp only; rw [List.length_append]; simp [l7], hMM _ rfl⟩
      · dsimp only; omega
  · have hjn : j = xs.length := by omega
    subst hjn
    have w37 := w6.ext e7
    refine runJ ?_
    (apply s_storeV; exact rfl; exact rfl; exact rfl; exact (OneAll.cons R7.own.sl.one OneAll.nil : OneAll [vR]); exact rfl; exact rfl; exact w37; exact rfl)
    intro h8 x8 k8
    refine ⟨trivial, ?_⟩
    have x8 : Var h8 p6 37 [vR] := x8
    have e8 : Ext h h8 := k8.oldV (E3.trans e7) b3 (e1.trans e2).1
    rw [b3] at k8
    have hb23 : h2.size < h3.size := by obtain ⟨b, hb, hlb⟩ := w6.blk; rw [b3] at hb; cases hb; exact hlb
    refine runJ ?_
    exact finC rfl rfl x8 rfl rfl ⟨e8, _, rows, _, rfl, (R7.low k8 hb23).base E3.1, l7, m7⟩

theorem Tryd_ent10 : Ent Tryd.prog 10 := ent_of Tryd.func10 (by kernel_rfl) rfl
set_option maxHeartbeats 4000000 in
theorem refTurn5_spec (vp va : Value) (qs : List Nat) (xs : List (Value × List Nat)) (k n : Nat) (h : Hp) (sp : SlF h U vp qs) (sa : PolAt h va xs) (hql : xs.length ≤ qs.length) (h24 : xs.length ≤ 24) (hn1 : 1 ≤ n) (hn : n ≤ 4096) (hk : k < 4611686018427387904)
    (hr : ∀ (i q : Nat) (x : Value × List Nat), xs[i]? = some x → qs[i]? = some q → x.2.length = n ∧ (∀ a ∈ x.2, a < 18446744073709551616) ∧ 0 < q ∧ q < 18446744073709551616) :
    CallsH Tryd.prog 10 [vp, .agg #[va], N k] h fun v' h' => Ext h h' ∧ ∃ vr rows p, v' = .agg #[vr] ∧ RowsAt h' h.size p vr rows ∧ rows.length = xs.length ∧
      ∀ (i q : Nat) (x r : Value × List Nat), xs[i]? = some x → qs[i]? = some q → rows[i]? = some r → r.2 = turnL n q k x.2 := by
  (apply enter Tryd.func10 rfl Tryd.ntmps10 rfl)
  refine runJ ?_
  (apply s_box; exact rfl; exact rfl; exact rfl; exact rfl)
  intro p4 h1 x1 e1 b1
  (try dsimp only [Value.cells, List.toList_toArray] at x1)
  refine ⟨(by first | exact trivial | exact Ext.refl _ | assumption | exact Ext.trans (by assumption) (by assumption)), ?_⟩
  refine runJ ?_
  (apply s_alloc; exact rfl; exact rfl; exact rfl)
  intro p6 h3 x3 e3 b3
  (try dsimp only [Value.cells, List.toList_toArray] at x3)
  refine ⟨(by first | exact trivial | exact Ext.refl _ | assumption | exact Ext.trans (by assumption) (by assumption)), ?_⟩
  have E3 := e1.trans e3
  have w4 := x1.ext e3
  have w6 := x3
  have sp3 := sp.ext E3
  have sa3 := (sa.ext E3).row
  have ela := (sa.ext E3).el
  refine runJ ?_
  (apply s_alloc; exact rfl; exact rfl; exact rfl)
  intro p7 h4 x4 e4 b4
  (try dsimp only [Value.cells, List.toList_toArray] at x4)
  refine ⟨(by first | exact trivial | exact Ext.refl _ | assumption | exact Ext.trans (by assumption) (by assumption)), ?_⟩
  have hb34 : h3.size < h4.size := by obtain ⟨j, hj, hlj⟩ := x4.blk; rw [b4] at hj; cases hj; exact hlj
  have hk4s := e4.1
  have a4 := w4.ext e4
  have s4 := sa3.ext e4
  have hkkl : k % (2 * n) < 2 * n := Nat.mod_lt _ (by omega)
  refine runJ ?_
  (first | (apply w_seqB; exact rfl; apply w_block; exact rfl) | skip)
  apply (w_loop (σ := (Nat × Nat) × List (Value × List Nat) × Value) rfl (fun j => [(0, vp), (2, N j.1.2), (4, p4), (6, p6), (7, p7), (16, N xs.length), (17, N j.1.1)])
    (fun j h' => Ext h3 h' ∧ h4.size ≤ h'.size ∧ j.1.1 ≤ xs.length ∧ j.1.2 % (2 * n) = k % (2 * n) ∧ j.1.2 < 4611686018427387904 ∧ Var h' p7 37 [j.2.2] ∧ RowsAt h' h3.size (some h3.size) j.2.2 j.2.1 ∧ j.2.1.length = j.1.1 ∧
      ∀ (i q : Nat) (x r : Value × List Nat), xs[i]? = some x → qs[i]? = some q → j.2.1[i]? = some r → r.2 = turnL n q k x.2) (fun j => xs.length - j.1.1) ((0, k), [], .slice none 0 0))
  · exact (Sub.cons rfl (Sub.cons rfl (Sub.cons rfl (Sub.cons rfl (Sub.cons rfl (Sub.cons rfl (Sub.cons rfl (Sub.nil _))))))))
  · exact ⟨e4, Nat.le_refl _, Nat.zero_le _, rfl, hk, x4, RowsAt.nil _ _ _, rfl, by intro i q x r _ _ hr; cases hr⟩
  clear x4 a4 s4
  rintro ⟨⟨j, kc⟩, rows, vR⟩ h7 ⟨e7, z7, j1, c7, c8, x7, R7, l7, m7⟩
  dsimp only at e7 z7 j1 c7 c8 x7 R7 l7 m7 ⊢
  have u4 := w4.ext e7
  have sp7 := sp3.ext e7
  have sa7 := sa3.ext e7
  have hpv : pblk p7 ≠ vR.ownBlock := by
    rw [b4]; intro e
    rcases R7.vp with h0 | h0
    · rw [h0] at e; cases e
    · exact h0 e.symm
  refine runJ ?_
  (apply w_condD; exact rfl; exact rfl) <;> intro hj
  · obtain ⟨x, hxj⟩ := get_lt hj
    obtain ⟨q, hqj⟩ := get_lt (l := qs) (j := j) (by omega)
    obtain ⟨f1, f3, f4, f5⟩ := hr j q x hxj hqj
    have sx := (ela x (List.mem_of_getElem? hxj)).ext e7
    have hMM : ∀ r : Value × List Nat, r.2 = turnL n q k x.2 → ∀ (i q : Nat) (x r' : Value × List Nat), xs[i]? = some x → qs[i]? = some q → (rows ++ [r])[i]? = some r' → r'.2 = turnL n q k x.2 := by
      intro r hr' i q' x' r' hx' hq' hri
      rcases Nat.lt_or_ge i j with hij | hij
      · rw [List.getElem?_append_left (by omega)] at hri
        exact m7 i q' x' r' hx' hq' hri
      · have hi := (List.getElem?_eq_some_iff.1 hri).1
        rw [List.length_append] at hi
        simp only [List.length_cons, List.length_nil] at hi
        obtain rfl : i = j := by omega
        rw [List.getElem?_append_right (by omega), l7, Nat.sub_self] at hri
        rw [hxj] at hx'
        rw [hqj] at hq'
        cases hx'; cases hq'; cases hri
        exact hr'
    obtain ⟨vx, ws⟩ := x
    dsimp only at sx f1 f3 hMM ⊢
    have hkc : (kc % (2 * n) + 2 * n) % (2 * n) = k % (2 * n) := by rw [Nat.add_mod_right, Nat.mod_mod, c7]
    have hTS := fun (m y : Nat) (hym : ws[m]? = some y) => turnF_snoc n q k (ws.take m) y
    have hTO := fun m => turnF_ok (n := n) (by omega) q k (ws.take m)
    have hT2 := fun m (hm : m ≤ ws.length) => turnF_two n q k m (ws.take m) (by rw [List.length_take]; omega)
    have hcm : kc % (2 * n) < 2 * n := Nat.mod_lt _ (by omega)
    refine runJ ?_
    rw [f1]
    refine runJ ?_
    rw [hkc]
    (apply (s_make (f := U) (bytes := 8) (0)); (first | exact isK_c | exact isK_t rfl); (first | exact isK_c | exact isK_t rfl); exact rfl; exact rfl; exact rfl; exact rfl; exact rfl; exact rfl; omega; omega; omega)
    intro w8 h8 o8 e8 b8
    refine ⟨(by first | exact trivial | exact Ext.refl _ | assumption | exact Ext.trans (by assumption) (by assumption)), ?_⟩
    have sx8 := sx.ext e8
    have u8 := u4.ext e8
    have sa8 := sa7.ext e8
    refine runJ ?_
    (first | (apply w_seqB; exact rfl; apply w_block; exact rfl) | skip)
    apply (w_loop (σ := Nat × List Nat) rfl (fun m => [(0, vp), (2, N (k % (2 * n))), (4, p4), (6, p6), (7, p7), (8, N j), (9, N n), (10, w8), (16, N xs.length), (17, N j), (42, vx), (43, N ws.length), (44, N m.1)])
      (fun m h' => Ext h7 h' ∧ m.1 ≤ ws.length ∧ OwnF h' h7.size 22 U w8 m.2 ∧ m.2 = (turnF n q k (ws.take m.1)).1) (fun m => ws.length - m.1) (0, List.replicate n 0))
    · exact (Sub.cons rfl (Sub.cons rfl (Sub.cons rfl (Sub.cons rfl (Sub.cons rfl (Sub.cons rfl (Sub.cons rfl (Sub.cons rfl (Sub.cons rfl (Sub.cons rfl (Sub.cons rfl (Sub.cons rfl (Sub.cons rfl (Sub.nil _))))))))))))))
    · exact ⟨e8, Nat.zero_le _, o8, rfl⟩
    clear o8 sx8 u8 sa8
    rintro ⟨m, ys⟩ h9 ⟨e9, m1, o9, t9⟩
    dsimp only at e9 m1 o9 t9 ⊢
    have sx9 := sx.ext e9
    have sp9 := sp7.ext e9
    obtain ⟨hyl, hyt⟩ := hTO m
    rw [← t9] at hyl
    have hT2m := hT2 m m1
    rw [hT2m] at hyt
    refine runJ ?_
    (apply w_condD; exact rfl; exact rfl) <;> intro hm
    · obtain ⟨y, hym⟩ := get_lt hm
      have hyb := f3 y (List.mem_of_getElem? hym)
      have hmk : m * (k % (2 * n)) ≤ 4096 * 8192 := Nat.mul_le_mul (by omega) (by omega)
      have hst := hTS m y hym
      rw [← take_snoc hym] at hst
      unfold turnStep at hst
      rw [hT2m, ← t9] at hst
      unfold at2 at hst hyt
      refine runJ ?_
      generalize m * (k % (2 * n)) % (2 * n) = at_ at *
      (apply w_condD; exact rfl; exact rfl) <;> intro ha
      · rw [if_pos ha] at hst
        have hal : at_ < ys.length := by omega
        refine runJ ?_
        (apply (s_storeF (y)); exact rfl; exact rfl; exact rfl; exact rfl; exact rfl; exact o9; exact rfl; (first | assumption | omega))
        intro h10 o10 k10
        refine ⟨(by first | exact trivial | exact Ext.refl _ | assumption | exact Ext.trans (by assumption) (by assumption)), ?_⟩
        refine runJ ?_
        apply again_normal (m + 1, ys.set at_ y)
        · exact (Sub.cons rfl (Sub.cons rfl (Sub.cons rfl (Sub.cons rfl (Sub.cons rfl (Sub.cons rfl (Sub.cons rfl (Sub.cons rfl (Sub.cons rfl (Sub.cons rfl (Sub.cons rfl (Sub.cons rfl (Sub.cons rfl (Sub.nil _))))))))))))))
        · exact ⟨o9.old k10 e9 (Nat.le_refl _), by dsimp only; omega, o10, by dsimp only; rw [hst]⟩
        · dsimp only; omega
      · rw [if_neg ha] at hst
        have hal : at_ - n < ys.length := by omega
        refine runJ ?_
        apply (s_call Tryd_ent33 rfl rfl rfl)
        refine (refSub_spec 0 y q h9 (by omega) (by omega) (by omega)).mono ?_
        rintro _ _ ⟨rfl, rfl⟩
        refine ⟨(by first | exact trivial | exact Ext.refl _ | assumption | exact Ext.trans (by assumption) (by assumption)), ?_⟩
        refine runJ ?_
        (apply (s_storeF (subm 0 y q)); exact rfl; exact rfl; exact rfl; exact rfl; exact rfl; exact o9; exact rfl; (first | assumption | omega))
        intro h10 o10 k10
        refine ⟨(by first | exact trivial | exact Ext.refl _ | assumption | exact Ext.trans (by assumption) (by assumption)), ?_⟩
        refine runJ ?_
        apply again_normal (m + 1, ys.set (at_ - n) (subm 0 y q))
        · exact (Sub.cons rfl (Sub.cons rfl (Sub.cons rfl (Sub.cons rfl (Sub.cons rfl (Sub.cons rfl (Sub.cons rfl (Sub.cons rfl (Sub.cons rfl (Sub.cons rfl (Sub.cons rfl (Sub.cons rfl (Sub.cons rfl (Sub.nil _))))))))))))))
        · exact ⟨o9.old k10 e9 (Nat.le_refl _), by dsimp only; omega, o10, by dsimp only; rw [hst]⟩
        · dsimp only; omega
    · obtain rfl : m = ws.length := by omega
      rw [List.take_length] at t9
      have R9 := R7.ext e9
      have x9 := x7.ext e9
      have e39 := e7.trans e9
      have o9one := o9.sl.one
      have hlen : rows.length + 1 < 1000000 := by omega
      refine runJ ?_
      (refine s_app1V (bytes := 24) ((w8, ys)) R9.own e39 rfl rfl rfl rfl rfl rfl rfl rfl rfl (by first | exact rfl | exact congrArg some (congrArg I (by omega))) o9one rfl rfl (fun _ _ => trivial) (by omega) (by simp only [maxLen]; omega) ?_)
      intro v10 h10 o10 e10 k10 b10
      have x10 := x9.only k10 hpv
      refine runJ ?_
      (apply s_storeC; exact rfl; exact rfl; (first | exact rfl | exact SlF.one (by assumption) | exact SlF.one (OwnF.sl (by assumption)) | exact Var.one (by assumption)); exact rfl; exact rfl; exact x10; exact rfl)
      intro h11 x11 k11
      refine ⟨(by first | exact trivial | exact Ext.refl _ | assumption | exact Ext.only (by assumption) _ | exact Only.trans (Ext.only (by assumption) _) (by assumption)), ?_⟩
      have e11 : Ext h3 h11 := k11.oldV e10 b4 (Nat.le_refl _)
      rw [b4] at k11
      have R11 := R9.push (z := h7.size) (o9.base (Nat.le_trans hk4s z7)) (fun k hk => (o9.blk k hk).1) (fun k hk => (R7.own.blk k hk).2) (Nat.lt_of_lt_of_le hb34 z7) e9.1 o10 k10 b10 k11
      refine runJ ?_
      apply again_normal ((j + 1, k % (2 * n)), rows ++ [(w8, ys)], v10)
      · exact (Sub.cons rfl (Sub.cons rfl (Sub.cons rfl (Sub.cons rfl (Sub.cons rfl (Sub.cons rfl (Sub.cons rfl (Sub.nil _))))))))
      · exact ⟨e11, Nat.le_trans z7 (Nat.le_trans e9.1 (Nat.le_trans k10.1 k11.1)), hj, Nat.mod_mod _ _, by dsimp only; omega, x11, R11, by dsimp only; rw [List.length_append]; simp [l7], hMM _ t9⟩
      · dsimp only; omega
  · have hjn : j = xs.length := by omega
    subst hjn
    have w37 := w6.ext e7
    refine runJ ?_
    (apply s_storeV; exact rfl; exact rfl; exact rfl; exact (OneAll.cons R7.own.sl.one OneAll.nil : OneAll [vR]); exact rfl; exact rfl; exact w37; exact rfl)
    intro h8 x8 k8
    refine ⟨trivial, ?_⟩
    have x8 : Var h8 p6 37 [vR] := x8
    have e8 : Ext h h8 := k8.oldV (E3.trans e7) b3 e1.1
    rw [b3] at k8
    have hb23 : h1.size < h3.size := by obtain ⟨b, hb, hlb⟩ := w6.blk; rw [b3] at hb; cases hb; exact hlb
    refine runJ ?_
    exact finC rfl rfl x8 rfl rfl ⟨e8, _, rows, _, rfl, (R7.low k8 hb23).base E3.1, l7, m7⟩
end Go.Proofs.YtfcmdefigldpnaaDoor

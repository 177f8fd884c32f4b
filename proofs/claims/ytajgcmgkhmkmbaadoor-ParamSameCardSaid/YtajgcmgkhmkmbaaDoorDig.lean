/- Digits of natural numbers in any base. No program, no condition. -/
import Derived.Laws.World
namespace Go.Dig

def vl (b : Nat) : List Nat → Nat
  | [] => 0
  | x :: xs => x + b * vl b xs
def nrm : List Nat → List Nat
  | [] => []
  | x :: xs => match nrm xs with
    | [] => if x = 0 then [] else [x]
    | y :: ys => x :: y :: ys
def dgo (b : Nat) : Nat → Nat → List Nat
  | 0, _ => []
  | f + 1, n => if n = 0 then [] else n % b :: dgo b f (n / b)
/-- The digits of n, the lowest first, without noughts at the end. -/
def dg (b n : Nat) : List Nat := dgo b n n
def Al (b : Nat) (xs : List Nat) : Prop := ∀ x ∈ xs, x < b
/-- The value of the lowest k digits. -/
def pv (b : Nat) (xs : List Nat) : Nat → Nat
  | 0 => 0
  | k + 1 => pv b xs k + b ^ k * xs.getD k 0

section
variable {b : Nat}

theorem Al.nil : Al b [] := fun _ h => by cases h
theorem Al.cons {x : Nat} {xs : List Nat} (h : x < b) (k : Al b xs) : Al b (x :: xs) := fun y hy => by
  rcases List.mem_cons.1 hy with rfl | hy
  · exact h
  · exact k y hy
theorem Al.head {x : Nat} {xs : List Nat} (h : Al b (x :: xs)) : x < b := h x (by simp)
theorem Al.tail {x : Nat} {xs : List Nat} (h : Al b (x :: xs)) : Al b xs := fun y hy => h y (by simp [hy])
theorem Al.app {xs ys : List Nat} (h : Al b xs) (k : Al b ys) : Al b (xs ++ ys) := fun y hy => by
  rcases List.mem_append.1 hy with hy | hy
  · exact h y hy
  · exact k y hy
theorem Al.snoc {xs : List Nat} {x : Nat} (h : Al b xs) (k : x < b) : Al b (xs ++ [x]) := h.app (Al.cons k Al.nil)
theorem Al.getD {xs : List Nat} (h : Al b xs) (hb : 0 < b) (i : Nat) : xs.getD i 0 < b := by
  by_cases hi : i < xs.length
  · have : xs.getD i 0 = xs[i] := by simp [hi]
    rw [this]; exact h _ (List.getElem_mem hi)
  · rw [show xs.getD i 0 = 0 by simp [List.getD, List.getElem?_eq_none (Nat.le_of_not_lt hi)]]; exact hb
theorem Al.take {xs : List Nat} (h : Al b xs) (k : Nat) : Al b (xs.take k) := fun y hy => h y (List.mem_of_mem_take hy)
theorem Al.drop {xs : List Nat} (h : Al b xs) (k : Nat) : Al b (xs.drop k) := fun y hy => h y (List.mem_of_mem_drop hy)
theorem Al.set {xs : List Nat} (h : Al b xs) {x : Nat} (k : x < b) (i : Nat) : Al b (xs.set i x) := fun y hy => by
  rcases List.mem_or_eq_of_mem_set hy with hy | rfl
  · exact h y hy
  · exact k
theorem Al.replicate (hb : 0 < b) (k : Nat) : Al b (List.replicate k 0) := fun y hy => by rw [(List.mem_replicate.1 hy).2]; exact hb
theorem getD_none {xs : List Nat} {i : Nat} (h : xs.length ≤ i) : xs.getD i 0 = 0 := by simp [List.getD, List.getElem?_eq_none h]

theorem vl_append (xs ys : List Nat) : vl b (xs ++ ys) = vl b xs + b ^ xs.length * vl b ys := by
  induction xs with
  | nil => simp [vl]
  | cons x xs ih =>
    simp only [List.cons_append, vl, ih, List.length_cons, Nat.pow_succ, Nat.mul_add, ← Nat.add_assoc]
    congr 1
    rw [Nat.mul_comm (b ^ xs.length) b, Nat.mul_assoc]
theorem vl_snoc (xs : List Nat) (x : Nat) : vl b (xs ++ [x]) = vl b xs + b ^ xs.length * x := by simp [vl_append, vl]
theorem vl_lt {xs : List Nat} (h : Al b xs) : vl b xs < b ^ xs.length := by
  induction xs with
  | nil => simp [vl]
  | cons x xs ih =>
    have h1 := ih h.tail
    have h2 := h.head
    simp only [vl, List.length_cons, Nat.pow_succ]
    have : b * (vl b xs + 1) ≤ b * b ^ xs.length := Nat.mul_le_mul_left b h1
    rw [Nat.mul_comm (b ^ xs.length) b]
    rw [Nat.mul_add] at this
    omega
theorem vl_zeros (k : Nat) : vl b (List.replicate k 0) = 0 := by
  induction k with
  | zero => rfl
  | succ k ih => simp [List.replicate_succ, vl, ih]
theorem pv_eq (xs : List Nat) : ∀ k, pv b xs k = vl b (xs.take k)
  | 0 => by simp [pv, vl]
  | k + 1 => by
    simp only [pv, pv_eq xs k]
    by_cases hk : k < xs.length
    · rw [List.take_add_one, List.getElem?_eq_getElem hk, Option.toList_some, vl_snoc, List.length_take, Nat.min_eq_left (Nat.le_of_lt hk)]
      simp [hk]
    · rw [getD_none (Nat.le_of_not_lt hk), List.take_of_length_le (by omega), List.take_of_length_le (by omega)]
      omega
theorem pv_full {xs : List Nat} {k : Nat} (h : xs.length ≤ k) : pv b xs k = vl b xs := by rw [pv_eq, List.take_of_length_le h]
theorem vl_split (xs : List Nat) (k : Nat) : vl b xs = pv b xs k + b ^ k * vl b (xs.drop k) := by
  rw [pv_eq]
  by_cases hk : k ≤ xs.length
  · have := vl_append (b := b) (xs.take k) (xs.drop k)
    rw [List.take_append_drop, List.length_take, Nat.min_eq_left hk] at this
    exact this
  · rw [List.take_of_length_le (by omega), List.drop_of_length_le (by omega)]; simp [vl]
theorem pv_lt {xs : List Nat} (h : Al b xs) (hb : 0 < b) (k : Nat) : pv b xs k < b ^ k := by
  rw [pv_eq]
  refine Nat.lt_of_lt_of_le (vl_lt (h.take k)) (Nat.pow_le_pow_right hb ?_)
  rw [List.length_take]; omega
theorem pv_set {xs : List Nat} {i x k : Nat} (h : k ≤ i) : pv b (xs.set i x) k = pv b xs k := by
  rw [pv_eq, pv_eq, List.take_set, List.set_eq_of_length_le]
  rw [List.length_take]; omega
theorem getD_set_self {xs : List Nat} {i x : Nat} (h : i < xs.length) : (xs.set i x).getD i 0 = x := by simp [h]
theorem getD_set_other {xs : List Nat} {i j x : Nat} (h : i ≠ j) : (xs.set i x).getD j 0 = xs.getD j 0 := by simp [List.getElem?_set_ne h]

theorem nrm_cons (x : Nat) (xs : List Nat) : nrm (x :: xs) = if nrm xs = [] ∧ x = 0 then [] else x :: nrm xs := by
  simp only [nrm]
  cases hn : nrm xs with
  | nil => by_cases hx : x = 0 <;> simp [hx]
  | cons y ys => simp
theorem nrm_snoc0 (xs : List Nat) : nrm (xs ++ [0]) = nrm xs := by
  induction xs with
  | nil => rfl
  | cons x xs ih => rw [List.cons_append, nrm_cons, nrm_cons, ih]
theorem nrm_last : ∀ (xs : List Nat), xs.getD (xs.length - 1) 0 ≠ 0 → nrm xs = xs
  | [], h => by simp at h
  | [x], h => by simp at h; simp [nrm, h]
  | x :: y :: xs, h => by
    have ih := nrm_last (y :: xs) (by simpa using h)
    rw [nrm_cons, ih]; simp
theorem vl_nrm (xs : List Nat) : vl b (nrm xs) = vl b xs := by
  induction xs with
  | nil => rfl
  | cons x xs ih =>
    rw [nrm_cons]
    split
    · rename_i h
      rw [h.1] at ih
      simp only [vl, ← ih, h.2]; simp
    · simp only [vl, ih]
theorem nrm_nil {xs : List Nat} (h : nrm xs = []) : vl b xs = 0 := by rw [← vl_nrm, h]; rfl
theorem nrm_zero (hb : 0 < b) {xs : List Nat} (h : vl b xs = 0) : nrm xs = [] := by
  induction xs with
  | nil => rfl
  | cons x xs ih =>
    simp only [vl] at h
    have h1 : x = 0 := by omega
    have h2 : vl b xs = 0 := by
      have : b * vl b xs = 0 := by omega
      rcases Nat.mul_eq_zero.1 this with h | h
      · omega
      · exact h
    rw [nrm_cons, ih h2, if_pos ⟨rfl, h1⟩]
theorem dgo_eq (hb : 1 < b) : ∀ (f n : Nat), n ≤ f → ∀ xs, Al b xs → vl b xs = n → nrm xs = dgo b f n
  | 0, n, hn, xs, _, hv => by
    have : n = 0 := by omega
    subst this
    rw [nrm_zero (by omega) hv]; rfl
  | f + 1, n, hn, xs, ha, hv => by
    simp only [dgo]
    by_cases h0 : n = 0
    · subst h0; rw [if_pos rfl, nrm_zero (by omega) hv]
    · rw [if_neg h0]
      cases xs with
      | nil => simp [vl] at hv; omega
      | cons x xs =>
        have hx := ha.head
        simp only [vl] at hv
        have hm : n % b = x := by rw [← hv, Nat.add_mul_mod_self_left, Nat.mod_eq_of_lt hx]
        have hd : n / b = vl b xs := by rw [← hv, Nat.add_mul_div_left _ _ (by omega), Nat.div_eq_of_lt hx, Nat.zero_add]
        have hlt : n / b ≤ f := by
          have := Nat.div_lt_self (Nat.pos_of_ne_zero h0) hb
          omega
        rw [hm, ← dgo_eq hb f (n / b) hlt xs ha.tail hd.symm, nrm_cons, if_neg]
        rintro ⟨h1, h2⟩
        have := nrm_nil (b := b) h1
        rw [this, h2] at hv; simp at hv; omega
/-- Digits without noughts at the end are what their value says. -/
theorem nrm_eq (hb : 1 < b) {xs : List Nat} (ha : Al b xs) : nrm xs = dg b (vl b xs) := dgo_eq hb _ _ (Nat.le_refl _) xs ha rfl
theorem vl_dgo (hb : 1 < b) : ∀ (f n : Nat), n ≤ f → vl b (dgo b f n) = n
  | 0, n, hn => by simp [dgo, vl]; omega
  | f + 1, n, hn => by
    simp only [dgo]
    by_cases h0 : n = 0
    · simp [h0, vl]
    · rw [if_neg h0]
      have hlt : n / b ≤ f := by
        have := Nat.div_lt_self (Nat.pos_of_ne_zero h0) hb
        omega
      simp only [vl, vl_dgo hb f (n / b) hlt]
      exact Nat.mod_add_div n b
theorem vl_dg (hb : 1 < b) (n : Nat) : vl b (dg b n) = n := vl_dgo hb n n (Nat.le_refl _)
theorem al_dgo (hb : 0 < b) : ∀ (f n : Nat), Al b (dgo b f n)
  | 0, n => Al.nil
  | f + 1, n => by
    simp only [dgo]
    split
    · exact Al.nil
    · exact Al.cons (Nat.mod_lt _ hb) (al_dgo hb f _)
theorem al_dg (hb : 0 < b) (n : Nat) : Al b (dg b n) := al_dgo hb n n
theorem nrm_dg (hb : 1 < b) (n : Nat) : nrm (dg b n) = dg b n := by rw [nrm_eq hb (al_dg (by omega) n), vl_dg hb]
theorem dg_zero : dg b 0 = [] := rfl
theorem dg_nil (hb : 1 < b) {n : Nat} : dg b n = [] ↔ n = 0 := by
  constructor
  · intro h; have := vl_dg hb n; rw [h] at this; exact this.symm
  · rintro rfl; rfl
theorem dg_len0 (hb : 1 < b) {n : Nat} : (dg b n).length = 0 ↔ n = 0 := by rw [List.length_eq_zero_iff]; exact dg_nil hb
theorem nrm_len (xs : List Nat) : (nrm xs).length ≤ xs.length := by
  induction xs with
  | nil => simp [nrm]
  | cons x xs ih =>
    rw [nrm_cons]
    split
    · simp
    · simpa using ih
theorem nrm_pre (xs : List Nat) : nrm xs = xs.take (nrm xs).length := by
  induction xs with
  | nil => simp [nrm]
  | cons x xs ih =>
    rw [nrm_cons]
    split
    · simp
    · simpa using ih
theorem nrm_nrm (xs : List Nat) : nrm (nrm xs) = nrm xs := by
  induction xs with
  | nil => rfl
  | cons x xs ih =>
    rw [nrm_cons]
    split
    · rfl
    · rename_i hc
      rw [nrm_cons, ih, if_neg hc]
/-- The highest digit is not 0. -/
theorem dg_ge (hb : 1 < b) {n : Nat} (h : n ≠ 0) : b ^ ((dg b n).length - 1) ≤ n := by
  have key : ∀ xs, nrm xs = xs → xs ≠ [] → b ^ (xs.length - 1) ≤ vl b xs := by
    intro xs
    induction xs with
    | nil => intro _ h; exact absurd rfl h
    | cons x xs ih =>
      intro hn _
      rw [nrm_cons] at hn
      split at hn
      · cases hn
      · rename_i hc
        simp only [List.cons.injEq, true_and] at hn
        cases xs with
        | nil =>
          simp only [nrm] at hc
          simp [vl]; simp at hc; omega
        | cons y ys =>
          have := ih hn (by simp)
          simp only [List.length_cons, Nat.add_sub_cancel, vl, Nat.pow_succ] at this ⊢
          have : b * b ^ ys.length ≤ b * (y + b * vl b ys) := Nat.mul_le_mul_left b this
          rw [Nat.mul_comm (b ^ ys.length) b]; omega
  have := key (dg b n) (nrm_dg hb n) (fun h' => h ((dg_nil hb).1 h'))
  rwa [vl_dg hb] at this
theorem dg_lt (hb : 1 < b) (n : Nat) : n < b ^ (dg b n).length := by
  have := vl_lt (al_dg (b := b) (by omega) n)
  rwa [vl_dg hb] at this
theorem dg_len (hb : 1 < b) {n k : Nat} (h : n < b ^ k) : (dg b n).length ≤ k := by
  by_cases h0 : n = 0
  · subst h0; simp [dg_zero]
  · have h1 := dg_ge hb h0
    have := Nat.lt_of_le_of_lt h1 h
    have := (Nat.pow_lt_pow_iff_right hb).1 this
    omega
/-- More digits: a greater number. -/
theorem dg_len_lt (hb : 1 < b) {m n : Nat} (h : (dg b m).length < (dg b n).length) : m < n := by
  have h1 := dg_lt hb m
  have hn : n ≠ 0 := fun e => by subst e; simp [dg_zero] at h
  have h2 := dg_ge hb hn
  have h3 : b ^ (dg b m).length ≤ b ^ ((dg b n).length - 1) := Nat.pow_le_pow_right (by omega) (by omega)
  omega
theorem dg_inj (hb : 1 < b) {m n : Nat} (h : dg b m = dg b n) : m = n := by rw [← vl_dg hb m, h, vl_dg hb]
/-- The highest digit that differs decides. -/
theorem vl_cmp {xs ys : List Nat} (hx : Al b xs) (hb : 0 < b) {i : Nat} (hd : xs.drop (i + 1) = ys.drop (i + 1)) (hlt : xs.getD i 0 < ys.getD i 0) : vl b xs < vl b ys := by
  rw [vl_split xs (i + 1), vl_split ys (i + 1), hd]
  simp only [pv]
  have h1 := pv_lt hx hb i
  have h2 : b ^ i * (xs.getD i 0 + 1) ≤ b ^ i * ys.getD i 0 := Nat.mul_le_mul_left _ hlt
  rw [Nat.mul_add] at h2
  omega
theorem drop_step {xs ys : List Nat} {i : Nat} (hx : i < xs.length) (hy : i < ys.length) (hd : xs.drop (i + 1) = ys.drop (i + 1)) (he : xs.getD i 0 = ys.getD i 0) : xs.drop i = ys.drop i := by
  rw [List.drop_eq_getElem_cons hx, List.drop_eq_getElem_cons hy, hd]
  congr 1
  simpa [hx, hy] using he
end
end Go.Dig

/- Texts Dig to NatK of this work, joined: each says in its own head what it proves, and of which condition. -/
import Derived.Test.YtbhhagdnbkkjpaaDoorMPr11
import Derived.Laws.World
import Derived.Shelf.Spec.BitsCarry
/- Digits of natural numbers in any base. No program, no condition. -/
namespace Go.Dig

def vl (b : Nat) : List Nat → Nat
  | [] => 0
  | x :: xs => x + b * vl b xs
def nrm : List Nat → List Nat
  | [] => []
  | x :: xs => match nrm xs with
    | [] => if x = 0 then [] else [x]
    | y :: ys => x :: y :: ys
def dgo (b : Nat) : Nat → Nat → List Nat
  | 0, _ => []
  | f + 1, n => if n = 0 then [] else n % b :: dgo b f (n / b)
/-- The digits of n, the lowest first, without noughts at the end. -/
def dg (b n : Nat) : List Nat := dgo b n n
def Al (b : Nat) (xs : List Nat) : Prop := ∀ x ∈ xs, x < b
/-- The value of the lowest k digits. -/
def pv (b : Nat) (xs : List Nat) : Nat → Nat
  | 0 => 0
  | k + 1 => pv b xs k + b ^ k * xs.getD k 0

section
variable {b : Nat}

theorem Al.nil : Al b [] := fun _ h => by cases h
theorem Al.cons {x : Nat} {xs : List Nat} (h : x < b) (k : Al b xs) : Al b (x :: xs) := fun y hy => by
  rcases List.mem_cons.1 hy with rfl | hy
  · exact h
  · exact k y hy
theorem Al.head {x : Nat} {xs : List Nat} (h : Al b (x :: xs)) : x < b := h x (by simp)
theorem Al.tail {x : Nat} {xs : List Nat} (h : Al b (x :: xs)) : Al b xs := fun y hy => h y (by simp [hy])
theorem Al.app {xs ys : List Nat} (h : Al b xs) (k : Al b ys) : Al b (xs ++ ys) := fun y hy => by
  rcases List.mem_append.1 hy with hy | hy
  · exact h y hy
  · exact k y hy
theorem Al.snoc {xs : List Nat} {x : Nat} (h : Al b xs) (k : x < b) : Al b (xs ++ [x]) := h.app (Al.cons k Al.nil)
theorem Al.getD {xs : List Nat} (h : Al b xs) (hb : 0 < b) (i : Nat) : xs.getD i 0 < b := by
  by_cases hi : i < xs.length
  · have : xs.getD i 0 = xs[i] := by simp [hi]
    rw [this]; exact h _ (List.getElem_mem hi)
  · rw [show xs.getD i 0 = 0 by simp [List.getD, List.getElem?_eq_none (Nat.le_of_not_lt hi)]]; exact hb
theorem Al.take {xs : List Nat} (h : Al b xs) (k : Nat) : Al b (xs.take k) := fun y hy => h y (List.mem_of_mem_take hy)
theorem Al.drop {xs : List Nat} (h : Al b xs) (k : Nat) : Al b (xs.drop k) := fun y hy => h y (List.mem_of_mem_drop hy)
theorem Al.set {xs : List Nat} (h : Al b xs) {x : Nat} (k : x < b) (i : Nat) : Al b (xs.set i x) := fun y hy => by
  rcases List.mem_or_eq_of_mem_set hy with hy | rfl
  · exact h y hy
  · exact k
theorem Al.replicate (hb : 0 < b) (k : Nat) : Al b (List.replicate k 0) := fun y hy => by rw [(List.mem_replicate.1 hy).2]; exact hb
theorem getD_none {xs : List Nat} {i : Nat} (h : xs.length ≤ i) : xs.getD i 0 = 0 := by simp [List.getD, List.getElem?_eq_none h]

theorem vl_append (xs ys : List Nat) : vl b (xs ++ ys) = vl b xs + b ^ xs.length * vl b ys := by
  induction xs with
  | nil => simp [vl]
  | cons x xs ih =>
    simp only [List.cons_append, vl, ih, List.length_cons, Nat.pow_succ, Nat.mul_add, ← Nat.add_assoc]
    congr 1
    rw [Nat.mul_comm (b ^ xs.length) b, Nat.mul_assoc]
theorem vl_snoc (xs : List Nat) (x : Nat) : vl b (xs ++ [x]) = vl b xs + b ^ xs.length * x := by simp [vl_append, vl]
theorem vl_lt {xs : List Nat} (h : Al b xs) : vl b xs < b ^ xs.length := by
  induction xs with
  | nil => simp [vl]
  | cons x xs ih =>
    have h1 := ih h.tail
    have h2 := h.head
    simp only [vl, List.length_cons, Nat.pow_succ]
    have : b * (vl b xs + 1) ≤ b * b ^ xs.length := Nat.mul_le_mul_left b h1
    rw [Nat.mul_comm (b ^ xs.length) b]
    rw [Nat.mul_add] at this
    omega
theorem vl_zeros (k : Nat) : vl b (List.replicate k 0) = 0 := by
  induction k with
  | zero => rfl
  | succ k ih => simp [List.replicate_succ, vl, ih]
theorem pv_eq (xs : List Nat) : ∀ k, pv b xs k = vl b (xs.take k)
  | 0 => by simp [pv, vl]
  | k + 1 => by
    simp only [pv, pv_eq xs k]
    by_cases hk : k < xs.length
    · rw [List.take_add_one, List.getElem?_eq_getElem hk, Option.toList_some, vl_snoc, List.length_take, Nat.min_eq_left (Nat.le_of_lt hk)]
      simp [hk]
    · rw [getD_none (Nat.le_of_not_lt hk), List.take_of_length_le (by omega), List.take_of_length_le (by omega)]
      omega
theorem pv_full {xs : List Nat} {k : Nat} (h : xs.length ≤ k) : pv b xs k = vl b xs := by rw [pv_eq, List.take_of_length_le h]
theorem vl_split (xs : List Nat) (k : Nat) : vl b xs = pv b xs k + b ^ k * vl b (xs.drop k) := by
  rw [pv_eq]
  by_cases hk : k ≤ xs.length
  · have := vl_append (b := b) (xs.take k) (xs.drop k)
    rw [List.take_append_drop, List.length_take, Nat.min_eq_left hk] at this
    exact this
  · rw [List.take_of_length_le (by omega), List.drop_of_length_le (by omega)]; simp [vl]
theorem pv_lt {xs : List Nat} (h : Al b xs) (hb : 0 < b) (k : Nat) : pv b xs k < b ^ k := by
  rw [pv_eq]
  refine Nat.lt_of_lt_of_le (vl_lt (h.take k)) (Nat.pow_le_pow_right hb ?_)
  rw [List.length_take]; omega
theorem pv_set {xs : List Nat} {i x k : Nat} (h : k ≤ i) : pv b (xs.set i x) k = pv b xs k := by
  rw [pv_eq, pv_eq, List.take_set, List.set_eq_of_length_le]
  rw [List.length_take]; omega
theorem getD_set_self {xs : List Nat} {i x : Nat} (h : i < xs.length) : (xs.set i x).getD i 0 = x := by simp [h]
theorem getD_set_other {xs : List Nat} {i j x : Nat} (h : i ≠ j) : (xs.set i x).getD j 0 = xs.getD j 0 := by simp [List.getElem?_set_ne h]

theorem nrm_cons (x : Nat) (xs : List Nat) : nrm (x :: xs) = if nrm xs = [] ∧ x = 0 then [] else x :: nrm xs := by
  simp only [nrm]
  cases hn : nrm xs with
  | nil => by_cases hx : x = 0 <;> simp [hx]
  | cons y ys => simp
theorem nrm_snoc0 (xs : List Nat) : nrm (xs ++ [0]) = nrm xs := by
  induction xs with
  | nil => rfl
  | cons x xs ih => rw [List.cons_append, nrm_cons, nrm_cons, ih]
theorem nrm_last : ∀ (xs : List Nat), xs.getD (xs.length - 1) 0 ≠ 0 → nrm xs = xs
  | [], h => by simp at h
  | [x], h => by simp at h; simp [nrm, h]
  | x :: y :: xs, h => by
    have ih := nrm_last (y :: xs) (by simpa using h)
    rw [nrm_cons, ih]; simp
theorem vl_nrm (xs : List Nat) : vl b (nrm xs) = vl b xs := by
  induction xs with
  | nil => rfl
  | cons x xs ih =>
    rw [nrm_cons]
    split
    · rename_i h
      rw [h.1] at ih
      simp only [vl, ← ih, h.2]; simp
    · simp only [vl, ih]
theorem nrm_nil {xs : List Nat} (h : nrm xs = []) : vl b xs = 0 := by rw [← vl_nrm, h]; rfl
theorem nrm_zero (hb : 0 < b) {xs : List Nat} (h : vl b xs = 0) : nrm xs = [] := by
  induction xs with
  | nil => rfl
  | cons x xs ih =>
    simp only [vl] at h
    have h1 : x = 0 := by omega
    have h2 : vl b xs = 0 := by
      have : b * vl b xs = 0 := by omega
      rcases Nat.mul_eq_zero.1 this with h | h
      · omega
      · exact h
    rw [nrm_cons, ih h2, if_pos ⟨rfl, h1⟩]
theorem dgo_eq (hb : 1 < b) : ∀ (f n : Nat), n ≤ f → ∀ xs, Al b xs → vl b xs = n → nrm xs = dgo b f n
  | 0, n, hn, xs, _, hv => by
    have : n = 0 := by omega
    subst this
    rw [nrm_zero (by omega) hv]; rfl
  | f + 1, n, hn, xs, ha, hv => by
    simp only [dgo]
    by_cases h0 : n = 0
    · subst h0; rw [if_pos rfl, nrm_zero (by omega) hv]
    · rw [if_neg h0]
      cases xs with
      | nil => simp [vl] at hv; omega
      | cons x xs =>
        have hx := ha.head
        simp only [vl] at hv
        have hm : n % b = x := by rw [← hv, Nat.add_mul_mod_self_left, Nat.mod_eq_of_lt hx]
        have hd : n / b = vl b xs := by rw [← hv, Nat.add_mul_div_left _ _ (by omega), Nat.div_eq_of_lt hx, Nat.zero_add]
        have hlt : n / b ≤ f := by
          have := Nat.div_lt_self (Nat.pos_of_ne_zero h0) hb
          omega
        rw [hm, ← dgo_eq hb f (n / b) hlt xs ha.tail hd.symm, nrm_cons, if_neg]
        rintro ⟨h1, h2⟩
        have := nrm_nil (b := b) h1
        rw [this, h2] at hv; simp at hv; omega
/-- Digits without noughts at the end are what their value says. -/
theorem nrm_eq (hb : 1 < b) {xs : List Nat} (ha : Al b xs) : nrm xs = dg b (vl b xs) := dgo_eq hb _ _ (Nat.le_refl _) xs ha rfl
theorem vl_dgo (hb : 1 < b) : ∀ (f n : Nat), n ≤ f → vl b (dgo b f n) = n
  | 0, n, hn => by simp [dgo, vl]; omega
  | f + 1, n, hn => by
    simp only [dgo]
    by_cases h0 : n = 0
    · simp [h0, vl]
    · rw [if_neg h0]
      have hlt : n / b ≤ f := by
        have := Nat.div_lt_self (Nat.pos_of_ne_zero h0) hb
        omega
      simp only [vl, vl_dgo hb f (n / b) hlt]
      exact Nat.mod_add_div n b
theorem vl_dg (hb : 1 < b) (n : Nat) : vl b (dg b n) = n := vl_dgo hb n n (Nat.le_refl _)
theorem al_dgo (hb : 0 < b) : ∀ (f n : Nat), Al b (dgo b f n)
  | 0, n => Al.nil
  | f + 1, n => by
    simp only [dgo]
    split
    · exact Al.nil
    · exact Al.cons (Nat.mod_lt _ hb) (al_dgo hb f _)
theorem al_dg (hb : 0 < b) (n : Nat) : Al b (dg b n) := al_dgo hb n n
theorem nrm_dg (hb : 1 < b) (n : Nat) : nrm (dg b n) = dg b n := by rw [nrm_eq hb (al_dg (by omega) n), vl_dg hb]
theorem dg_zero : dg b 0 = [] := rfl
theorem dg_nil (hb : 1 < b) {n : Nat} : dg b n = [] ↔ n = 0 := by
  constructor
  · intro h; have := vl_dg hb n; rw [h] at this; exact this.symm
  · rintro rfl; rfl
theorem dg_len0 (hb : 1 < b) {n : Nat} : (dg b n).length = 0 ↔ n = 0 := by rw [List.length_eq_zero_iff]; exact dg_nil hb
theorem nrm_len (xs : List Nat) : (nrm xs).length ≤ xs.length := by
  induction xs with
  | nil => simp [nrm]
  | cons x xs ih =>
    rw [nrm_cons]
    split
    · simp
    · simpa using ih
theorem nrm_pre (xs : List Nat) : nrm xs = xs.take (nrm xs).length := by
  induction xs with
  | nil => simp [nrm]
  | cons x xs ih =>
    rw [nrm_cons]
    split
    · simp
    · simpa using ih
theorem nrm_nrm (xs : List Nat) : nrm (nrm xs) = nrm xs := by
  induction xs with
  | nil => rfl
  | cons x xs ih =>
    rw [nrm_cons]
    split
    · rfl
    · rename_i hc
      rw [nrm_cons, ih, if_neg hc]
/-- The highest digit is not 0. -/
theorem dg_ge (hb : 1 < b) {n : Nat} (h : n ≠ 0) : b ^ ((dg b n).length - 1) ≤ n := by
  have key : ∀ xs, nrm xs = xs → xs ≠ [] → b ^ (xs.length - 1) ≤ vl b xs := by
    intro xs
    induction xs with
    | nil => intro _ h; exact absurd rfl h
    | cons x xs ih =>
      intro hn _
      rw [nrm_cons] at hn
      split at hn
      · cases hn
      · rename_i hc
        simp only [List.cons.injEq, true_and] at hn
        cases xs with
        | nil =>
          simp only [nrm] at hc
          simp [vl]; simp at hc; omega
        | cons y ys =>
          have := ih hn (by simp)
          simp only [List.length_cons, Nat.add_sub_cancel, vl, Nat.pow_succ] at this ⊢
          have : b * b ^ ys.length ≤ b * (y + b * vl b ys) := Nat.mul_le_mul_left b this
          rw [Nat.mul_comm (b ^ ys.length) b]; omega
  have := key (dg b n) (nrm_dg hb n) (fun h' => h ((dg_nil hb).1 h'))
  rwa [vl_dg hb] at this
theorem dg_lt (hb : 1 < b) (n : Nat) : n < b ^ (dg b n).length := by
  have := vl_lt (al_dg (b := b) (by omega) n)
  rwa [vl_dg hb] at this
theorem dg_len (hb : 1 < b) {n k : Nat} (h : n < b ^ k) : (dg b n).length ≤ k := by
  by_cases h0 : n = 0
  · subst h0; simp [dg_zero]
  · have h1 := dg_ge hb h0
    have := Nat.lt_of_le_of_lt h1 h
    have := (Nat.pow_lt_pow_iff_right hb).1 this
    omega
/-- More digits: a greater number. -/
theorem dg_len_lt (hb : 1 < b) {m n : Nat} (h : (dg b m).length < (dg b n).length) : m < n := by
  have h1 := dg_lt hb m
  have hn : n ≠ 0 := fun e => by subst e; simp [dg_zero] at h
  have h2 := dg_ge hb hn
  have h3 : b ^ (dg b m).length ≤ b ^ ((dg b n).length - 1) := Nat.pow_le_pow_right (by omega) (by omega)
  omega
theorem dg_inj (hb : 1 < b) {m n : Nat} (h : dg b m = dg b n) : m = n := by rw [← vl_dg hb m, h, vl_dg hb]
/-- The highest digit that differs decides. -/
theorem vl_cmp {xs ys : List Nat} (hx : Al b xs) (hb : 0 < b) {i : Nat} (hd : xs.drop (i + 1) = ys.drop (i + 1)) (hlt : xs.getD i 0 < ys.getD i 0) : vl b xs < vl b ys := by
  rw [vl_split xs (i + 1), vl_split ys (i + 1), hd]
  simp only [pv]
  have h1 := pv_lt hx hb i
  have h2 : b ^ i * (xs.getD i 0 + 1) ≤ b ^ i * ys.getD i 0 := Nat.mul_le_mul_left _ hlt
  rw [Nat.mul_add] at h2
  omega
theorem drop_step {xs ys : List Nat} {i : Nat} (hx : i < xs.length) (hy : i < ys.length) (hd : xs.drop (i + 1) = ys.drop (i + 1)) (he : xs.getD i 0 = ys.getD i 0) : xs.drop i = ys.drop i := by
  rw [List.drop_eq_getElem_cons hx, List.drop_eq_getElem_cons hy, hd]
  congr 1
  simpa [hx, hy] using he
end
end Go.Dig

/- Naturals as rows of words: norm, trim, Same, few, by contracts. No condition. -/
namespace Go.Proofs.YtbhhagdnbkkjpaaDoor
set_option linter.unusedVariables false
set_option maxRecDepth 8000
open Go Go.Den Go.RowKit Go.Dig

theorem U_one (a : Nat) : (U a).oneCell' = true := rfl
theorem N_one (a : Nat) : (N a).oneCell' = true := rfl

theorem nrm_take {xs : List Nat} (h0 : 0 < xs.length) (hz : xs.getD (xs.length - 1) 0 = 0) : nrm (xs.take (xs.length - 1)) = nrm xs := by
  have : xs = xs.take (xs.length - 1) ++ [0] := by
    have h1 : xs.getLast (by intro e; simp [e] at h0) = 0 := by
      rw [List.getLast_eq_getElem]
      have h2 : xs.length - 1 < xs.length := by omega
      simpa [List.getElem?_eq_getElem h2] using hz
    rw [← h1, ← List.dropLast_eq_take, List.dropLast_concat_getLast]
  conv => rhs; rw [this, nrm_snoc0]

theorem list_eq_getD {xs ys : List Nat} (hl : xs.length = ys.length) (he : ∀ j, j < xs.length → xs.getD j 0 = ys.getD j 0) : xs = ys := by
  apply List.ext_getElem hl
  intro j h1 h2
  simpa [h1, h2] using he j h1

end Go.Proofs.YtbhhagdnbkkjpaaDoor

/- Naturals: comparison, sum and difference of the program and of its reference, by contracts. No condition. -/
namespace Go.Proofs.YtbhhagdnbkkjpaaDoor
set_option linter.unusedVariables false
set_option maxRecDepth 8000
open Go Go.Den Go.RowKit Go.Dig

def cmpI (m n : Nat) : Int := if m < n then -1 else if n < m then 1 else 0
theorem cmpI_lt {m n : Nat} (h : m < n) : cmpI m n = -1 := by simp [cmpI, h]
theorem cmpI_gt {m n : Nat} (h : n < m) : cmpI m n = 1 := by simp [cmpI, h, Nat.lt_asymm h]
theorem cmpI_eq {m n : Nat} (h : m = n) : cmpI m n = 0 := by simp [cmpI, h]

theorem len_cmp {b : Nat} (hb : 1 < b) {xs ys : List Nat} (hx : Al b xs) (hxn : nrm xs = xs) (hy : Al b ys) (hyn : nrm ys = ys) (h : xs.length < ys.length) : vl b xs < vl b ys := by
  have h1 := nrm_eq hb hx
  have h2 := nrm_eq hb hy
  refine dg_len_lt hb ?_
  rw [← h1, ← h2, hxn, hyn]; exact h

end Go.Proofs.YtbhhagdnbkkjpaaDoor

/- Naturals: sum and difference of package nat, by contracts. No condition. -/
namespace Go.Proofs.YtbhhagdnbkkjpaaDoor
set_option linter.unusedVariables false
set_option maxRecDepth 8000
open Go Go.Den Go.RowKit Go.Dig

theorem add_step {b x y c p q v B : Nat} (h : v + B * c = p + q) : v + B * ((x + y + c) % b) + B * b * ((x + y + c) / b) = (p + B * x) + (q + B * y) := by
  have := Nat.mod_add_div (x + y + c) b
  have e : B * ((x + y + c) % b) + B * b * ((x + y + c) / b) = B * (x + y + c) := by rw [Nat.mul_assoc, ← Nat.mul_add, this]
  rw [Nat.mul_add, Nat.mul_add] at e
  omega

end Go.Proofs.YtbhhagdnbkkjpaaDoor

/- Naturals: the difference of package nat, by contract. No condition. -/
namespace Go.Proofs.YtbhhagdnbkkjpaaDoor
set_option linter.unusedVariables false
set_option maxRecDepth 8000
open Go Go.Den Go.RowKit Go.Dig

theorem sub_step {b x y c p q v B : Nat} (hx : x < b) (hy : y < b) (hc : c ≤ 1) (h : p + B * c = q + v) : (p + B * x) + B * b * (if x < y + c then 1 else 0) = (q + B * y) + (v + B * ((x + b - y - c) % b)) := by
  by_cases hlt : x < y + c
  · rw [if_pos hlt]
    have e : (x + b - y - c) % b = x + b - y - c := Nat.mod_eq_of_lt (by omega)
    have e2 : B * (x + b - y - c) + B * (y + c) = B * x + B * b := by rw [← Nat.mul_add, ← Nat.mul_add]; congr 1; omega
    rw [e]
    rw [Nat.mul_add] at e2
    omega
  · rw [if_neg hlt]
    have e : (x + b - y - c) % b = x - y - c := by
      rw [show x + b - y - c = (x - y - c) + b by omega, Nat.add_mod_right, Nat.mod_eq_of_lt (by omega)]
    have e2 : B * (x - y - c) + B * (y + c) = B * x := by rw [← Nat.mul_add]; congr 1; omega
    rw [e]
    rw [Nat.mul_add] at e2
    omega

end Go.Proofs.YtbhhagdnbkkjpaaDoor

/- Naturals: the product of package nat, by contract. No condition. -/
namespace Go.Proofs.YtbhhagdnbkkjpaaDoor
set_option linter.unusedVariables false
set_option maxRecDepth 8000
open Go Go.Den Go.RowKit Go.Dig

theorem mul_word {x y c o : Nat} (hx : x < 18446744073709551616) (hy : y < 18446744073709551616) (hc : c < 18446744073709551616) (ho : o < 18446744073709551616) :
    o + x * y + c < 18446744073709551616 * 18446744073709551616 := by
  have : x * y ≤ 18446744073709551615 * 18446744073709551615 := Nat.mul_le_mul (by omega) (by omega)
  omega
theorem mul_carry {q c o : Nat} (hq : o + q + c < 18446744073709551616 * 18446744073709551616) (hc : c < 18446744073709551616) (ho : o < 18446744073709551616) :
    q / 18446744073709551616 + (q % 18446744073709551616 + c) / 18446744073709551616 < 18446744073709551616 ∧
    q / 18446744073709551616 + (q % 18446744073709551616 + c) / 18446744073709551616 + (o + (q % 18446744073709551616 + c) % 18446744073709551616) / 18446744073709551616 = (o + q + c) / 18446744073709551616 ∧
    (o + (q % 18446744073709551616 + c) % 18446744073709551616) % 18446744073709551616 = (o + q + c) % 18446744073709551616 ∧ (o + q + c) / 18446744073709551616 < 18446744073709551616 := by omega
theorem mul_step {B W x y c o p q v p0 : Nat} (h : v + B * c = p0 + q * (x * p)) (hB : B = q * W) (n : Nat) (hn : n = o + x * y + c) {b : Nat} :
    v + B * (n % b) + B * b * (n / b) = (p0 + B * o) + q * (x * (p + W * y)) := by
  have := Nat.mod_add_div n b
  have e : B * (n % b) + B * b * (n / b) = B * n := by rw [Nat.mul_assoc, ← Nat.mul_add, this]
  have e2 : q * (x * (p + W * y)) = q * (x * p) + B * (x * y) := by
    subst hB
    rw [Nat.mul_add, Nat.mul_add, Nat.mul_assoc q W]
    congr 2
    rw [← Nat.mul_assoc, ← Nat.mul_assoc, Nat.mul_comm x W]
  rw [e2, Nat.add_assoc, e, hn, Nat.mul_add, Nat.mul_add]
  omega

end Go.Proofs.YtbhhagdnbkkjpaaDoor

/- Naturals: the reference's digits, by contract. No condition. -/
namespace Go.Proofs.YtbhhagdnbkkjpaaDoor
set_option linter.unusedVariables false
set_option maxRecDepth 8000
open Go Go.Den Go.RowKit Go.Dig

theorem pow16 (k : Nat) : 2 ^ (16 * k) = 65536 ^ k := by rw [Nat.pow_mul]
theorem pow64 (i : Nat) : 65536 ^ (4 * i) = 18446744073709551616 ^ i := by rw [Nat.pow_mul]
theorem dig_step (p B w k : Nat) : p + B * (w % 65536 ^ k) + B * 65536 ^ k * (w / 2 ^ (16 * k) % 65536) = p + B * (w % 65536 ^ (k + 1)) := by
  rw [pow16, Nat.mod_pow_succ, Nat.mul_add, Nat.mul_assoc, Nat.add_assoc]

end Go.Proofs.YtbhhagdnbkkjpaaDoor

/- Naturals: digits put together again, by contract. No condition. -/
namespace Go.Proofs.YtbhhagdnbkkjpaaDoor
set_option linter.unusedVariables false
set_option maxRecDepth 8000
open Go Go.Den Go.RowKit Go.Dig

/-- Four digits from place i on, the lowest k of them left out. -/
def gv (l : List Nat) (i : Nat) : Nat → Nat
  | 0 => l.getD i 0 + 65536 * (l.getD (i + 1) 0 + 65536 * (l.getD (i + 2) 0 + 65536 * l.getD (i + 3) 0))
  | 1 => l.getD (i + 1) 0 + 65536 * (l.getD (i + 2) 0 + 65536 * l.getD (i + 3) 0)
  | 2 => l.getD (i + 2) 0 + 65536 * l.getD (i + 3) 0
  | 3 => l.getD (i + 3) 0
  | _ => 0
theorem gv_step (l : List Nat) (i k : Nat) (h : k < 4) : gv l i k = gv l i (k + 1) * 65536 + l.getD (i + k) 0 := by
  rcases (by omega : k = 0 ∨ k = 1 ∨ k = 2 ∨ k = 3) with rfl | rfl | rfl | rfl <;> simp only [gv, Nat.add_zero] <;> omega
theorem gv_lt {l : List Nat} (hl : Al 65536 l) (i k : Nat) (h : k ≤ 4) : gv l i k < 65536 ^ (4 - k) := by
  have h0 := hl.getD (by omega) i
  have h1 := hl.getD (by omega) (i + 1)
  have h2 := hl.getD (by omega) (i + 2)
  have h3 := hl.getD (by omega) (i + 3)
  rcases (by omega : k = 0 ∨ k = 1 ∨ k = 2 ∨ k = 3 ∨ k = 4) with rfl | rfl | rfl | rfl | rfl <;> simp only [gv] <;> omega
theorem gv_word {l : List Nat} (hl : Al 65536 l) (i k : Nat) (h : k < 4) : gv l i (k + 1) * 65536 + l.getD (i + k) 0 < 18446744073709551616 ∧ gv l i (k + 1) * 65536 < 18446744073709551616 ∧ l.getD (i + k) 0 < 18446744073709551616 := by
  have h2 := gv_lt hl i k (by omega)
  have h4 : 65536 ^ (4 - k) ≤ 65536 ^ 4 := Nat.pow_le_pow_right (by omega) (by omega)
  have h5 := gv_step l i k h
  have h6 : gv l i k < 18446744073709551616 := Nat.lt_of_lt_of_le h2 h4
  clear h2 h4
  omega
theorem gv_pv (l : List Nat) (i : Nat) : pv 65536 l (4 * (i + 1)) = pv 65536 l (4 * i) + 65536 ^ (4 * i) * gv l (4 * i) 0 := by
  rw [show 4 * (i + 1) = 4 * i + 1 + 1 + 1 + 1 by omega]
  simp only [pv, gv, Nat.pow_succ]
  generalize 65536 ^ (4 * i) = B
  simp only [Nat.mul_add, Nat.mul_assoc]
  omega

end Go.Proofs.YtbhhagdnbkkjpaaDoor

/- Long division, a digit at a time: plain facts about lists of digits. No program, no condition. -/
namespace Go.Dig
set_option linter.unusedVariables false
set_option maxRecDepth 8000

section
variable {b : Nat}

theorem guess_top {X Y p X2 yt : Nat} (hX : X < p * (X2 + 1)) (hY : p * yt ≤ Y) (h0 : 0 < yt) : X / Y ≤ X2 / yt := by
  rw [Nat.le_div_iff_mul_le h0]
  refine Nat.le_of_not_lt fun hlt => ?_
  have h1 : X / Y * Y ≤ X := Nat.div_mul_le_self _ _
  have h2 : X / Y * (p * yt) ≤ X / Y * Y := Nat.mul_le_mul_left _ hY
  have h3 : p * (X2 + 1) ≤ p * (X / Y * yt) := Nat.mul_le_mul_left _ hlt
  have h4 : X / Y * (p * yt) = p * (X / Y * yt) := by rw [← Nat.mul_assoc, ← Nat.mul_assoc, Nat.mul_comm (X / Y) p]
  omega

theorem guess_next {X Y p X2 x2 yt y2 g r : Nat} (hX : X < p * (X2 * b + x2 + 1)) (hY : p * (yt * b + y2) ≤ Y) (h0 : 0 < Y) (hg : g * yt + r = X2) (hlt : r * b + x2 < g * y2) : X / Y < g := by
  rw [Nat.div_lt_iff_lt_mul h0]
  have h1 : g * (p * (yt * b + y2)) ≤ g * Y := Nat.mul_le_mul_left _ hY
  have h2 : g * (p * (yt * b + y2)) = p * (g * (yt * b + y2)) := by rw [← Nat.mul_assoc, ← Nat.mul_assoc, Nat.mul_comm g p]
  have h3 : g * (yt * b + y2) = g * yt * b + g * y2 := by rw [Nat.mul_add, Nat.mul_assoc]
  have h4 : X2 * b = g * yt * b + r * b := by rw [← hg, Nat.add_mul]
  have h5 : p * (X2 * b + x2 + 1) ≤ p * (g * yt * b + g * y2) := Nat.mul_le_mul_left _ (by omega)
  rw [h2, h3] at h1
  omega

/-- The highest digits of a number, and what they leave. -/
theorem vl_top2 {xs : List Nat} {n : Nat} (hl : xs.length = n + 2) : vl b xs = pv b xs n + b ^ n * (xs.getD n 0 + b * xs.getD (n + 1) 0) := by
  rw [← pv_full (k := n + 2) (by omega)]
  simp only [pv, Nat.pow_succ, Nat.mul_add, Nat.mul_assoc]; omega
theorem vl_top3 {xs : List Nat} {n : Nat} (hl : xs.length = n + 3) : vl b xs = pv b xs n + b ^ n * (xs.getD n 0 + b * (xs.getD (n + 1) 0 + b * xs.getD (n + 2) 0)) := by
  rw [← pv_full (k := n + 3) (by omega)]
  simp only [pv, Nat.pow_succ, Nat.mul_add, Nat.mul_assoc]; omega

/-- All that the guess of a digit needs: x has n + 3 digits, y n + 2. -/
theorem guess_facts {xs ys : List Nat} {n : Nat} (hb : 0 < b) (hx : Al b xs) (hxl : xs.length = n + 3) (hyl : ys.length = n + 2) (h0 : 0 < ys.getD (n + 1) 0) :
    vl b xs / vl b ys ≤ (xs.getD (n + 2) 0 * b + xs.getD (n + 1) 0) / ys.getD (n + 1) 0 ∧
    ∀ g r, g * ys.getD (n + 1) 0 + r = xs.getD (n + 2) 0 * b + xs.getD (n + 1) 0 → r * b + xs.getD n 0 < g * ys.getD n 0 → vl b xs / vl b ys < g := by
  have hxt := vl_top3 (b := b) hxl
  have hyt := vl_top2 (b := b) hyl
  have hp := pv_lt hx hb n
  have hp1 := pv_lt hx hb (n + 1)
  have hbn : 0 < b ^ n := Nat.pow_pos hb
  have hY0 : 0 < vl b ys := by
    have h1 : 1 ≤ ys.getD n 0 + b * ys.getD (n + 1) 0 := by
      have := Nat.mul_pos hb h0
      omega
    have := Nat.mul_le_mul hbn h1
    omega
  refine ⟨guess_top (p := b ^ (n + 1)) ?_ ?_ h0, fun g r h1 h2 => guess_next (b := b) (p := b ^ n) (x2 := xs.getD n 0) (y2 := ys.getD n 0) ?_ ?_ hY0 h1 h2⟩
  · have e : vl b xs = pv b xs (n + 1) + b ^ (n + 1) * (xs.getD (n + 2) 0 * b + xs.getD (n + 1) 0) := by
      rw [hxt]; simp only [pv, Nat.pow_succ, Nat.mul_add, Nat.mul_assoc, Nat.mul_comm (xs.getD (n + 2) 0) b]; omega
    rw [e, Nat.mul_add_one]
    omega
  · rw [hyt, Nat.pow_succ, Nat.mul_add, Nat.mul_assoc]; omega
  · rw [hxt, Nat.mul_add _ _ 1, Nat.mul_one]
    have : (xs.getD (n + 2) 0 * b + xs.getD (n + 1) 0) * b + xs.getD n 0 = xs.getD n 0 + b * (xs.getD (n + 1) 0 + b * xs.getD (n + 2) 0) := by
      rw [Nat.mul_comm _ b, Nat.mul_comm (xs.getD (n + 2) 0) b]; simp only [Nat.mul_add]; omega
    rw [this]; omega
  · rw [hyt, Nat.mul_comm (ys.getD (n + 1) 0) b, Nat.add_comm (b * _)]; omega

theorem sub_step {p q B g c bo x x' y c' bo' P : Nat} (h : p + g * q = P + B * (bo + c)) (hw : x' + g * y + c + bo = x + b * bo' + b * c') :
    p + B * x' + g * (q + B * y) = P + B * x + B * b * (bo' + c') := by
  have e1 : g * (q + B * y) = g * q + B * (g * y) := by rw [Nat.mul_add, ← Nat.mul_assoc, ← Nat.mul_assoc, Nat.mul_comm g B]
  have e2 : B * x' + B * (g * y) + B * c + B * bo = B * x + B * (b * bo') + B * (b * c') := by
    have := congrArg (B * ·) hw
    simpa only [Nat.mul_add] using this
  have e3 : B * b * (bo' + c') = B * (b * bo') + B * (b * c') := by rw [Nat.mul_assoc, Nat.mul_add, Nat.mul_add]
  rw [Nat.mul_add] at h
  rw [e1, e3]; omega
theorem sub_last {p q B g c bo x x' bo' P : Nat} (h : p + g * q = P + B * (bo + c)) (hw : x' + c + bo = x + b * bo') :
    p + B * x' + g * q = P + B * x + B * b * bo' := by
  have e2 : B * x' + B * c + B * bo = B * x + B * (b * bo') := by
    have := congrArg (B * ·) hw
    simpa only [Nat.mul_add] using this
  rw [Nat.mul_add] at h
  rw [Nat.mul_assoc]; omega

/-- Where too much was taken the guess was too great. -/
theorem back_lt {Z g Y X B : Nat} (h : Z + g * Y = X + B * 1) (hz : Z < B) (h0 : 0 < Y) : X / Y < g := by
  rw [Nat.div_lt_iff_lt_mul h0]; omega
theorem back_step {Z Z' g Y X B c : Nat} (h : Z + g * Y = X + B * 1) (ha : Z' + B * c = Z + Y) (hc : c ≤ 1) (hg : 1 ≤ g) : Z' + (g - 1) * Y = X + B * (1 - c) := by
  obtain ⟨k, rfl⟩ : ∃ k, g = k + 1 := ⟨g - 1, by omega⟩
  rw [Nat.add_sub_cancel]
  rw [Nat.add_mul, Nat.one_mul] at h
  rcases (by omega : c = 0 ∨ c = 1) with rfl | rfl <;> omega
theorem digit_end {Z g Y X B : Nat} (h : Z + g * Y = X + B * 0) (hge : X / Y ≤ g) (h0 : 0 < Y) : g = X / Y ∧ Z = X % Y := by
  have h1 : g ≤ X / Y := by rw [Nat.le_div_iff_mul_le h0]; omega
  have h2 : g = X / Y := Nat.le_antisymm h1 hge
  refine ⟨h2, ?_⟩
  have h3 := Nat.div_add_mod X Y
  rw [← h2, Nat.mul_comm] at h3
  omega

theorem shl_step {p B o w s b' P : Nat} (h : p + B * o = P * s) (hb : b' = b) (hw : w * s = w * s % b + b * (w * s / b)) : p + B * (o + w * s % b) + B * b' * (w * s / b) = (P + B * w) * s := by
  have e : B * (w * s) = B * (w * s % b) + B * (b * (w * s / b)) := by rw [← Nat.mul_add, ← hw]
  subst hb
  rw [Nat.add_mul, Nat.mul_assoc B w s, e, Nat.mul_add, Nat.mul_assoc]
  omega
theorem shr_step {b p q t0 t t' B x hh s m : Nat} (h : s * p + t0 = q + B * t) (hx : x = hh * s + t) (hsm : s * m = b) : s * (p + B * (hh + t' * m)) + t0 = q + B * x + B * b * t' := by
  have e : s * (B * (hh + t' * m)) = B * (hh * s) + B * b * t' := by
    rw [← hsm, ← Nat.mul_assoc, Nat.mul_comm s B, Nat.mul_assoc, Nat.mul_add, Nat.mul_comm s hh, Nat.mul_add, Nat.mul_assoc, Nat.mul_assoc, Nat.mul_comm m t', ← Nat.mul_assoc s, Nat.mul_comm s t', Nat.mul_assoc]
  rw [Nat.mul_add, e, hx, Nat.mul_add]
  omega

theorem vl_drop_head {xs : List Nat} {i : Nat} (h : i < xs.length) : vl b (xs.drop i) = xs.getD i 0 + b * vl b (xs.drop (i + 1)) := by
  rw [List.drop_eq_getElem_cons h]; simp [vl, h]
/-- What a window holds, where nothing stands above it. -/
theorem win_lt {pre ws post : List Nat} {Y : Nat} (hx : Al b (pre ++ ws ++ post)) (hb : 0 < b) (hw : 0 < ws.length) (h0 : vl b post = 0) (hc : vl b ((pre ++ ws ++ post).drop (pre.length + 1)) < Y) : vl b ws < Y * b := by
  cases ws with
  | nil => simp at hw
  | cons w ws =>
    have hwb : w < b := hx w (by simp)
    have e : (pre ++ (w :: ws) ++ post).drop (pre.length + 1) = ws ++ post := by
      rw [List.append_assoc, List.drop_append]; simp [List.drop_of_length_le]
    rw [e, vl_append, h0, Nat.mul_zero, Nat.add_zero] at hc
    have h1 : b * (vl b ws + 1) ≤ b * Y := Nat.mul_le_mul_left _ hc
    rw [Nat.mul_add, Nat.mul_comm b Y] at h1
    simp only [vl]; omega
theorem div_step {pre ws ws' post qs : List Nat} {m q X Y : Nat} (hb : 0 < b) (hl' : ws'.length = m + 1) (hl : ws.length = m + 1) (ha' : Al b ws') (h0 : vl b post = 0) (hY : Y < b ^ m) (hq : q = vl b ws / Y) (hr : vl b ws' = vl b ws % Y) (hY0 : 0 < Y) (hi : pre.length < qs.length)
    (hd : vl b (pre ++ ws ++ post) + b ^ (pre.length + 1) * vl b (qs.drop (pre.length + 1)) * Y = X) :
    vl b ((pre ++ ws' ++ post).drop (pre.length + m)) = 0 ∧ vl b ((pre ++ ws' ++ post).drop pre.length) < Y ∧
    vl b (pre ++ ws' ++ post) + b ^ pre.length * vl b ((qs.set pre.length q).drop pre.length) * Y = X := by
  have hlt : vl b ws' < Y := by rw [hr]; exact Nat.mod_lt _ hY0
  have hsp := vl_split (b := b) ws' m
  have hd1 : ws'.drop m = [ws'.getD m 0] := by
    rw [List.drop_eq_getElem_cons (by omega), List.drop_of_length_le (by omega)]
    simp [show m < ws'.length by omega]
  have htop : ws'.getD m 0 = 0 := by
    rw [hd1] at hsp
    simp only [vl, Nat.mul_zero, Nat.add_zero] at hsp
    rcases Nat.eq_zero_or_pos (ws'.getD m 0) with h | h
    · exact h
    · have := Nat.mul_le_mul_left (b ^ m) h
      omega
  refine ⟨?_, ?_, ?_⟩
  · rw [List.append_assoc, List.drop_append, List.drop_of_length_le (by omega), List.nil_append, Nat.add_sub_cancel_left, List.drop_append, hd1, htop, hl', show m - (m + 1) = 0 by omega, List.drop_zero, vl_append, h0]
    simp [vl]
  · rw [List.append_assoc, List.drop_append, List.drop_of_length_le (Nat.le_refl _), List.nil_append, Nat.sub_self, List.drop_zero, vl_append, h0]
    simpa using hlt
  · rw [List.append_assoc, vl_append, vl_append, h0, Nat.mul_zero, Nat.add_zero] at hd ⊢
    rw [vl_drop_head (by simpa using hi), show (qs.set pre.length q).getD pre.length 0 = q by simp [hi], List.drop_set_of_lt (by omega)]
    have hdm := Nat.div_add_mod (vl b ws) Y
    rw [← hq, ← hr] at hdm
    rw [← hd, ← hdm, Nat.pow_succ]
    simp only [Nat.mul_add, Nat.add_mul]
    have e1 : b ^ pre.length * (Y * q) = b ^ pre.length * q * Y := by rw [Nat.mul_comm Y q, Nat.mul_assoc]
    have e2 : b ^ pre.length * b * vl b (qs.drop (pre.length + 1)) * Y = b ^ pre.length * (b * vl b (qs.drop (pre.length + 1))) * Y := by simp only [Nat.mul_assoc]
    omega
theorem div_mod_of {X Y q r : Nat} (h : r + q * Y = X) (hr : r < Y) : q = X / Y ∧ r = X % Y := by
  have h0 : 0 < Y := by omega
  constructor
  · rw [← h, Nat.mul_comm, Nat.add_mul_div_left _ _ h0, Nat.div_eq_of_lt hr, Nat.zero_add]
  · rw [← h, Nat.mul_comm, Nat.add_mul_mod_self_left, Nat.mod_eq_of_lt hr]
/-- The divisor, moved up till it fills its words. -/
theorem moved {ys : List Nat} {m s H : Nat} (hb : 1 < b) (hy : Al b ys) (hyl : ys.length = m + 1) (h0 : ys.getD m 0 ≠ 0) (hH : H ≤ ys.getD m 0 * 2 ^ s) (hs : (ys.getD m 0 + 1) * 2 ^ s ≤ b) :
    (dg b (vl b ys * 2 ^ s)).length = m + 1 ∧ H ≤ (dg b (vl b ys * 2 ^ s)).getD m 0 ∧ b ^ m * H ≤ vl b ys * 2 ^ s ∧ vl b ys * 2 ^ s < b ^ (m + 1) := by
  have hsp : vl b ys = pv b ys m + b ^ m * ys.getD m 0 := by rw [← pv_full (k := m + 1) (by omega)]; rfl
  have hp := pv_lt hy (by omega) m
  have hpow : 0 < 2 ^ s := Nat.pow_pos (by omega)
  have hbm : 0 < b ^ m := Nat.pow_pos (by omega)
  have h1 : vl b ys * 2 ^ s < b ^ (m + 1) := by
    have h2 : vl b ys < b ^ m * (ys.getD m 0 + 1) := by rw [hsp, Nat.mul_add_one]; omega
    have h3 : vl b ys * 2 ^ s < b ^ m * (ys.getD m 0 + 1) * 2 ^ s := Nat.mul_lt_mul_of_pos_right h2 hpow
    have h4 : b ^ m * ((ys.getD m 0 + 1) * 2 ^ s) ≤ b ^ m * b := Nat.mul_le_mul_left _ hs
    rw [← Nat.mul_assoc] at h4
    rw [Nat.pow_succ]; omega
  have h2 : b ^ m * H ≤ vl b ys * 2 ^ s := by
    have := Nat.mul_le_mul_left (b ^ m) hH
    rw [← Nat.mul_assoc] at this
    rw [hsp, Nat.add_mul]; omega
  have h3 : b ^ m ≤ vl b ys * 2 ^ s := by
    have h5 : b ^ m * 1 ≤ b ^ m * ys.getD m 0 := Nat.mul_le_mul_left _ (by omega)
    have h6 : vl b ys * 1 ≤ vl b ys * 2 ^ s := Nat.mul_le_mul_left _ hpow
    omega
  have hlen : (dg b (vl b ys * 2 ^ s)).length = m + 1 := by
    have h5 := dg_len hb h1
    have h6 := dg_lt hb (vl b ys * 2 ^ s)
    have h7 := (Nat.pow_lt_pow_iff_right hb).1 (Nat.lt_of_le_of_lt h3 h6)
    omega
  refine ⟨hlen, ?_, h2, h1⟩
  have hv := vl_dg hb (vl b ys * 2 ^ s)
  have ha := al_dg (b := b) (by omega) (vl b ys * 2 ^ s)
  generalize dg b (vl b ys * 2 ^ s) = zs at *
  have hz : vl b zs = pv b zs m + b ^ m * zs.getD m 0 := by rw [← pv_full (k := m + 1) (by omega)]; rfl
  have hzp := pv_lt ha (by omega) m
  refine Nat.le_of_not_lt fun hlt => ?_
  have := Nat.mul_le_mul_left (b ^ m) hlt
  rw [Nat.mul_succ] at this
  omega
/-- The highest words of what is divided are less than the divisor. -/
theorem top_lt {xs : List Nat} {k m H Y : Nat} (hx : Al b xs) (hb : 0 < b) (hl : xs.length = k + m + 1) (hH : xs.getD (k + m) 0 < H) (hY : b ^ m * H ≤ Y) : vl b (xs.drop k) < Y := by
  have e : vl b (xs.drop k) = pv b (xs.drop k) m + b ^ m * xs.getD (k + m) 0 := by
    rw [← pv_full (xs := xs.drop k) (k := m + 1) (by simp; omega)]
    simp [pv]
  have hp := pv_lt (hx.drop k) hb m
  have := Nat.mul_le_mul_left (b ^ m) hH
  rw [Nat.mul_succ] at this
  omega
theorem pv_of_lt {xs : List Nat} {k : Nat} (h : vl b xs < b ^ k) : pv b xs k = vl b xs := by
  have := vl_split (b := b) xs k
  rcases Nat.eq_zero_or_pos (vl b (xs.drop k)) with h0 | h0
  · rw [h0, Nat.mul_zero, Nat.add_zero] at this; exact this.symm
  · have := Nat.mul_le_mul_left (b ^ k) h0
    omega
theorem getD_of_lt {xs : List Nat} {k j : Nat} (hb : 0 < b) (h : vl b xs < b ^ k) (hj : k ≤ j) : xs.getD j 0 = 0 := by
  have h1 := vl_split (b := b) xs (j + 1)
  simp only [pv] at h1
  have h2 : b ^ k ≤ b ^ j := Nat.pow_le_pow_right hb hj
  rcases Nat.eq_zero_or_pos (xs.getD j 0) with h0 | h0
  · exact h0
  · have := Nat.mul_le_mul_left (b ^ j) h0
    omega
theorem vl_set {xs : List Nat} {j v : Nat} (hj : j < xs.length) : vl b (xs.set j v) + b ^ j * xs.getD j 0 = vl b xs + b ^ j * v := by
  have h1 := vl_split (b := b) xs (j + 1)
  have h2 := vl_split (b := b) (xs.set j v) (j + 1)
  simp only [pv] at h1 h2
  rw [pv_set (Nat.le_refl _), getD_set_self hj, List.drop_set_of_lt (by omega)] at h2
  omega
theorem less_step {p q B x y c o c' P : Nat} (h : p + q = P + B * c) (hw : o + y + c = x + b * c') : p + B * o + (q + B * y) = P + B * x + B * b * c' := by
  have e := congrArg (B * ·) hw
  simp only [Nat.mul_add] at e
  rw [Nat.mul_assoc]; omega
theorem times_step {v v' v0 B q W x y c o p n : Nat} (h : v + B * c = v0 + q * (x * p)) (hs : v' + B * o = v + B * (n % b)) (hB : B = q * W) (hn : n = c + o + x * y) : v' + B * b * (n / b) = v0 + q * (x * (p + W * y)) := by
  have e : B * (n % b) + B * b * (n / b) = B * n := by rw [Nat.mul_assoc, ← Nat.mul_add, Nat.mod_add_div]
  have e2 : q * (x * (p + W * y)) = q * (x * p) + B * (x * y) := by
    subst hB
    rw [Nat.mul_add, Nat.mul_add, Nat.mul_assoc q W]
    congr 2
    rw [← Nat.mul_assoc, ← Nat.mul_assoc, Nat.mul_comm x W]
  have e3 : B * n = B * c + B * o + B * (x * y) := by rw [hn, Nat.mul_add, Nat.mul_add]
  rw [e2]
  omega
/-- How many bits a number has. -/
def nb (n : Nat) : Nat := if n = 0 then 0 else n.log2 + 1
theorem nb_of {n k : Nat} (h1 : 2 ^ k ≤ n) (h2 : n < 2 ^ (k + 1)) : nb n = k + 1 := by
  have h0 : n ≠ 0 := by have := Nat.pow_pos (n := k) (show 0 < 2 by omega); omega
  have h3 := (Nat.le_log2 h0).2 h1
  have h4 := (Nat.log2_lt h0).2 h2
  rw [nb, if_neg h0]; omega
theorem nb_top {xs : List Nat} {m k : Nat} (hb : b = 2 ^ k) (hx : Al b xs) (hl : xs.length = m + 1) {j : Nat} (h1 : 2 ^ j ≤ xs.getD m 0) (h2 : xs.getD m 0 < 2 ^ (j + 1)) : nb (vl b xs) = k * m + j + 1 := by
  have hsp : vl b xs = pv b xs m + b ^ m * xs.getD m 0 := by rw [← pv_full (k := m + 1) (by omega)]; rfl
  have hb0 : 0 < b := by rw [hb]; exact Nat.pow_pos (by omega)
  have hp := pv_lt hx hb0 m
  have e : b ^ m = 2 ^ (k * m) := by rw [hb, ← Nat.pow_mul]
  apply nb_of
  · have := Nat.mul_le_mul_left (b ^ m) h1
    rw [Nat.pow_add, ← e]; omega
  · have := Nat.mul_le_mul_left (b ^ m) h2
    rw [Nat.mul_succ] at this
    rw [Nat.add_assoc, Nat.pow_add, ← e]; omega
end
end Go.Dig

/- Naturals: long division of package nat, by contracts: shifted, byWord, digit. No condition. -/
namespace Go.Proofs.YtbhhagdnbkkjpaaDoor
set_option linter.unusedVariables false
set_option maxRecDepth 8000
open Go Go.Den Go.RowKit Go.Dig

theorem shl_word {w s : Nat} (hw : w < 18446744073709551616) (hs : s ≤ 64) : w * 2 ^ s / 18446744073709551616 = w / 2 ^ (64 - s) := by
  have e : (18446744073709551616 : Nat) = 2 ^ (64 - s) * 2 ^ s := by rw [← Nat.pow_add, show 64 - s + s = 64 by omega]
  rw [e, Nat.mul_div_mul_right _ _ (Nat.pow_pos (by omega))]
theorem shl_low {w s : Nat} (hs : s ≤ 64) : w * 2 ^ s % 18446744073709551616 = w % 2 ^ (64 - s) * 2 ^ s := by
  have e : (18446744073709551616 : Nat) = 2 ^ (64 - s) * 2 ^ s := by rw [← Nat.pow_add, show 64 - s + s = 64 by omega]
  rw [e, Nat.mul_mod_mul_right]
theorem shl_or {w s o : Nat} (hs : s ≤ 64) (ho : o < 2 ^ s) : o ||| w * 2 ^ s % 18446744073709551616 = o + w * 2 ^ s % 18446744073709551616 := by
  rw [shl_low hs, Nat.or_comm, Num.or_add ho, Nat.add_comm]
theorem shl_hi {w s : Nat} (hw : w < 18446744073709551616) (hs : s ≤ 64) : w / 2 ^ (64 - s) < 2 ^ s := by
  rw [Nat.div_lt_iff_lt_mul (Nat.pow_pos (by omega)), ← Nat.pow_add, show s + (64 - s) = 64 by omega]; exact hw
theorem shl_sum {w s o : Nat} (hs : s ≤ 64) (ho : o < 2 ^ s) : o + w * 2 ^ s % 18446744073709551616 < 18446744073709551616 := by
  have e : (18446744073709551616 : Nat) = 2 ^ (64 - s) * 2 ^ s := by rw [← Nat.pow_add, show 64 - s + s = 64 by omega]
  have h1 : w % 2 ^ (64 - s) < 2 ^ (64 - s) := Nat.mod_lt _ (Nat.pow_pos (by omega))
  have h2 : (w % 2 ^ (64 - s) + 1) * 2 ^ s ≤ 2 ^ (64 - s) * 2 ^ s := Nat.mul_le_mul_right _ h1
  rw [shl_low hs]
  rw [← e, Nat.add_mul, Nat.one_mul] at h2
  omega
theorem shr_or {x y s : Nat} (hx : x < 18446744073709551616) (hs : s ≤ 64) : x / 2 ^ s ||| y * 2 ^ (64 - s) % 18446744073709551616 = x / 2 ^ s + y % 2 ^ s * 2 ^ (64 - s) ∧ x / 2 ^ s + y % 2 ^ s * 2 ^ (64 - s) < 18446744073709551616 := by
  have h1 : x / 2 ^ s < 2 ^ (64 - s) := by
    rw [Nat.div_lt_iff_lt_mul (Nat.pow_pos (by omega)), ← Nat.pow_add, show 64 - s + s = 64 by omega]; exact hx
  have h2 := shl_or (w := y) (s := 64 - s) (by omega) h1
  have h3 := shl_sum (w := y) (s := 64 - s) (by omega) h1
  have h4 := shl_low (w := y) (s := 64 - s) (by omega)
  rw [show 64 - (64 - s) = s by omega] at h4
  rw [h4] at h2 h3 ⊢
  exact ⟨h2, h3⟩

end Go.Proofs.YtbhhagdnbkkjpaaDoor

/- Naturals: a digit of long division of package nat, by contract. No condition. -/
namespace Go.Proofs.YtbhhagdnbkkjpaaDoor
set_option linter.unusedVariables false
set_option maxRecDepth 8000
open Go Go.Den Go.RowKit Go.Dig

section
variable {P : Program} {n : Nat} {Q : Post} {l : Fr} {h : Hp} {ops : List Oper} {Ch : Hp → Prop} {E : Nat → Bool} {i : Nat} {t : TypeId} {x y : Operand}
/-- A window of a row of the call's own. -/
theorem win_sl {α : Type} {f : α → Value} {B : Nat} {e : TypeId} {v vx : Value} {pre ws post : List α} (ho : OwnF h B e f v (pre ++ ws ++ post)) (hv : vx = cutV 1 v pre.length (pre.length + ws.length)) : SlF h f vx ws := by
  have := ho.sl.cut (lo := pre.length) (hi := pre.length + ws.length) (by omega) (by simp)
  rw [hv]
  simpa using this
theorem win_ptr {α : Type} {f : α → Value} {B : Nat} {e : TypeId} {v vx : Value} {pre ws post : List α} (ho : OwnF h B e f v (pre ++ ws ++ post)) (hv : vx = cutV 1 v pre.length (pre.length + ws.length)) {j : Nat} (hj : j < ws.length) : ptrAt vx j = ptrAt v (pre.length + j) := by
  obtain ⟨hl, ⟨rfl, hn⟩ | ⟨g, cap, cur, rfl, hB, hg, hc, hm, hs, ht⟩⟩ := ho
  · simp only [List.length_append] at hn; omega
  · subst hv
    simp only [List.length_append] at hc
    simp [cutV, show cap ≠ pre.length by omega, ptrAt, Addr.add_lit]
theorem s_storeW {α : Type} {f : α → Value} {v vx u : Value} {j B : Nat} {pre ws post : List α} {e : TypeId} (u' : α) (ho : OwnF h B e f v (pre ++ ws ++ post)) (hv : vx = cutV 1 v pre.length (pre.length + ws.length)) (hx : ev l x = some (ptrAt vx j)) (hy : ev l y = some u) (hu : f u' = u) (ht : (P.info? t).map (·.size) = some 1) (hE : E i = true) (h1 : u.oneCell' = true) (hj : j < ws.length)
    (k : ∀ h', OwnF h' B e f v (pre ++ ws.set j u' ++ post) → Only v.ownBlock h h' → Ch h' ∧ S P n ops Ch E Q (i + 1) l h') : O0 P n ops Ch E Q i (.store t x y) l h :=
  s_storeF u' (by rw [hx, win_ptr ho hv hj]) hy hu ht hE ho h1 (by simp; omega) fun h' g1 g2 => k h' (by
    rw [List.append_assoc, List.set_append_right _ _ (by omega), Nat.add_sub_cancel_left, List.set_append_left _ _ hj, ← List.append_assoc] at g1
    exact g1) g2
end

/-- One word of what is taken away. -/
theorem sub_word {g y c x bo : Nat} (hg : g < 18446744073709551616) (hy : y < 18446744073709551616) (hc : c < 18446744073709551616) (hx : x < 18446744073709551616) (hb : bo ≤ 1) :
    g * y / 18446744073709551616 + (g * y % 18446744073709551616 + c) / 18446744073709551616 < 18446744073709551616 ∧
    (x + 18446744073709551616 - (g * y % 18446744073709551616 + c) % 18446744073709551616 - bo) % 18446744073709551616 < 18446744073709551616 ∧
    (if x < (g * y % 18446744073709551616 + c) % 18446744073709551616 + bo then 1 else 0) ≤ 1 ∧
    (x + 18446744073709551616 - (g * y % 18446744073709551616 + c) % 18446744073709551616 - bo) % 18446744073709551616 + g * y + c + bo =
      x + 18446744073709551616 * (if x < (g * y % 18446744073709551616 + c) % 18446744073709551616 + bo then 1 else 0) + 18446744073709551616 * (g * y / 18446744073709551616 + (g * y % 18446744073709551616 + c) / 18446744073709551616) := by
  have hgy : g * y ≤ 18446744073709551615 * 18446744073709551615 := Nat.mul_le_mul (by omega) (by omega)
  generalize g * y = p at *
  refine ⟨by omega, by omega, by split <;> omega, ?_⟩
  split <;> omega
theorem sub_word2 {c x bo : Nat} (hc : c < 18446744073709551616) (hx : x < 18446744073709551616) (hb : bo ≤ 1) :
    (x + 18446744073709551616 - c - bo) % 18446744073709551616 < 18446744073709551616 ∧ (if x < c + bo then 1 else 0) ≤ 1 ∧
    (x + 18446744073709551616 - c - bo) % 18446744073709551616 + c + bo = x + 18446744073709551616 * (if x < c + bo then 1 else 0) := by
  refine ⟨by omega, by split <;> omega, ?_⟩
  split <;> omega

end Go.Proofs.YtbhhagdnbkkjpaaDoor

/- Naturals: a word, a number of bits, long division and the rest by a word of package nat, by contracts. No condition. -/
namespace Go.Proofs.YtbhhagdnbkkjpaaDoor
set_option linter.unusedVariables false
set_option maxRecDepth 8000
open Go Go.Den Go.RowKit Go.Dig

theorem Tryd_ent26 : Ent Tryd.prog 26 := ent_of Tryd.func26 (by kernel_rfl) rfl
theorem len64_spec (x : Nat) (h : Hp) (hx : x < 18446744073709551616) :
    CallsH Tryd.prog 26 [U x] h fun v h' => v = N (Lib.bitLen x) ∧ h = h' :=
  callsH_same fun w => Tryd.bits_Len64 x w (by omega) (by omega)

end Go.Proofs.YtbhhagdnbkkjpaaDoor

/- Naturals: long division of package nat, by contract. No condition. -/
namespace Go.Proofs.YtbhhagdnbkkjpaaDoor
set_option linter.unusedVariables false
set_option maxRecDepth 8000
open Go Go.Den Go.RowKit Go.Dig

theorem cmpI_neg {m n : Nat} : cmpI m n < 0 ↔ m < n := by
  unfold cmpI
  by_cases h1 : m < n
  · simp [h1]
  · by_cases h2 : n < m <;> simp [h1, h2]
theorem fill_room {y s : Nat} (hs : s ≤ 64) (h : y * 2 ^ s < 18446744073709551616) : (y + 1) * 2 ^ s ≤ 18446744073709551616 := by
  have e : (18446744073709551616 : Nat) = 2 ^ (64 - s) * 2 ^ s := by rw [← Nat.pow_add, show 64 - s + s = 64 by omega]
  rw [e] at h ⊢
  exact Nat.mul_le_mul_right _ (Nat.lt_of_mul_lt_mul_right h)

theorem OwnF.ne {α β : Type} {f : α → Value} {g : β → Value} {h h' : Hp} {B B' : Nat} {e e' : TypeId} {v v' : Value} {xs : List α} {ys : List β} (o : OwnF h B e f v xs) (o' : OwnF h' B' e' g v' ys) (hB : h.size ≤ B') : v'.ownBlock = none ∨ v'.ownBlock ≠ v.ownBlock := by
  cases hk : v'.ownBlock with
  | none => exact .inl rfl
  | some k =>
    refine .inr fun e => ?_
    have h1 := (OwnF.blk o' k hk).1
    have h2 := (OwnF.blk o k e.symm).2
    omega
theorem OwnF.ne' {α β : Type} {f : α → Value} {g : β → Value} {h h' : Hp} {B B' : Nat} {e e' : TypeId} {v v' : Value} {xs : List α} {ys : List β} (o : OwnF h B e f v xs) (o' : OwnF h' B' e' g v' ys) (hB : h.size ≤ B') : v.ownBlock = none ∨ v.ownBlock ≠ v'.ownBlock := by
  rcases OwnF.ne o o' hB with h | h
  · cases hk : v.ownBlock with
    | none => exact .inl rfl
    | some k => exact .inr (by rw [h]; simp)
  · exact .inr fun e => h e.symm
theorem rest_of {p r t z : Nat} (hp : 0 < p) (h : p * r + t % p = z * p) : r = z := by
  have h1 : (p * r + t % p) % p = t % p := by rw [Nat.mul_add_mod, Nat.mod_mod]
  rw [h, Nat.mul_mod_left] at h1
  rw [← h1, Nat.add_zero, Nat.mul_comm] at h
  exact Nat.eq_of_mul_eq_mul_right hp h
theorem split3 (xs : List Nat) (i n : Nat) (h : i + n ≤ xs.length) : ∃ pre ws post, xs = pre ++ ws ++ post ∧ pre.length = i ∧ ws.length = n :=
  ⟨xs.take i, (xs.drop i).take n, xs.drop (i + n), by rw [← List.drop_drop, List.append_assoc, List.take_append_drop, List.take_append_drop], by simp; omega, by simp; omega⟩
theorem drop_post (pre ws post : List Nat) : (pre ++ ws ++ post).drop (pre.length + ws.length) = post := by
  rw [← List.length_append, List.drop_append_of_le_length (Nat.le_refl _), List.drop_of_length_le (Nat.le_refl _), List.nil_append]

end Go.Proofs.YtbhhagdnbkkjpaaDoor

/- Texts Dig to NatE of this work, joined, without what the law does not lean on. -/
import Derived.Test.YtfcmdefigldpnaaGreatDoorMCb7
import Derived.Laws.World
import Derived.Shelf.Spec.BitsCarry
namespace Go.Dig

def vl (b : Nat) : List Nat → Nat
  | [] => 0
  | x :: xs => x + b * vl b xs
def nrm : List Nat → List Nat
  | [] => []
  | x :: xs => match nrm xs with
    | [] => if x = 0 then [] else [x]
    | y :: ys => x :: y :: ys
def dgo (b : Nat) : Nat → Nat → List Nat
  | 0, _ => []
  | f + 1, n => if n = 0 then [] else n % b :: dgo b f (n / b)
def dg (b n : Nat) : List Nat := dgo b n n
def Al (b : Nat) (xs : List Nat) : Prop := ∀ x ∈ xs, x < b
def pv (b : Nat) (xs : List Nat) : Nat → Nat
  | 0 => 0
  | k + 1 => pv b xs k + b ^ k * xs.getD k 0

section
variable {b : Nat}

theorem Al.nil : Al b [] := fun _ h => by cases h
theorem Al.cons {x : Nat} {xs : List Nat} (h : x < b) (k : Al b xs) : Al b (x :: xs) := fun y hy => by
  rcases List.mem_cons.1 hy with rfl | hy
  · exact h
  · exact k y hy
theorem Al.head {x : Nat} {xs : List Nat} (h : Al b (x :: xs)) : x < b := h x (by simp)
theorem Al.tail {x : Nat} {xs : List Nat} (h : Al b (x :: xs)) : Al b xs := fun y hy => h y (by simp [hy])
theorem Al.app {xs ys : List Nat} (h : Al b xs) (k : Al b ys) : Al b (xs ++ ys) := fun y hy => by
  rcases List.mem_append.1 hy with hy | hy
  · exact h y hy
  · exact k y hy
theorem Al.snoc {xs : List Nat} {x : Nat} (h : Al b xs) (k : x < b) : Al b (xs ++ [x]) := h.app (Al.cons k Al.nil)
theorem Al.getD {xs : List Nat} (h : Al b xs) (hb : 0 < b) (i : Nat) : xs.getD i 0 < b := by
  by_cases hi : i < xs.length
  · have : xs.getD i 0 = xs[i] := by simp [hi]
    rw [this]; exact h _ (List.getElem_mem hi)
  · rw [show xs.getD i 0 = 0 by simp [List.getD, List.getElem?_eq_none (Nat.le_of_not_lt hi)]]; exact hb
theorem Al.take {xs : List Nat} (h : Al b xs) (k : Nat) : Al b (xs.take k) := fun y hy => h y (List.mem_of_mem_take hy)
theorem Al.drop {xs : List Nat} (h : Al b xs) (k : Nat) : Al b (xs.drop k) := fun y hy => h y (List.mem_of_mem_drop hy)
theorem Al.set {xs : List Nat} (h : Al b xs) {x : Nat} (k : x < b) (i : Nat) : Al b (xs.set i x) := fun y hy => by
  rcases List.mem_or_eq_of_mem_set hy with hy | rfl
  · exact h y hy
  · exact k
theorem Al.replicate (hb : 0 < b) (k : Nat) : Al b (List.replicate k 0) := fun y hy => by rw [(List.mem_replicate.1 hy).2]; exact hb
theorem getD_none {xs : List Nat} {i : Nat} (h : xs.length ≤ i) : xs.getD i 0 = 0 := by simp [List.getD, List.getElem?_eq_none h]

theorem vl_append (xs ys : List Nat) : vl b (xs ++ ys) = vl b xs + b ^ xs.length * vl b ys := by
  induction xs with
  | nil => simp [vl]
  | cons x xs ih =>
    simp only [List.cons_append, vl, ih, List.length_cons, Nat.pow_succ, Nat.mul_add, ← Nat.add_assoc]
    congr 1
    rw [Nat.mul_comm (b ^ xs.length) b, Nat.mul_assoc]
theorem vl_snoc (xs : List Nat) (x : Nat) : vl b (xs ++ [x]) = vl b xs + b ^ xs.length * x := by simp [vl_append, vl]
theorem vl_lt {xs : List Nat} (h : Al b xs) : vl b xs < b ^ xs.length := by
  induction xs with
  | nil => simp [vl]
  | cons x xs ih =>
    have h1 := ih h.tail
    have h2 := h.head
    simp only [vl, List.length_cons, Nat.pow_succ]
    have : b * (vl b xs + 1) ≤ b * b ^ xs.length := Nat.mul_le_mul_left b h1
    rw [Nat.mul_comm (b ^ xs.length) b]
    rw [Nat.mul_add] at this
    omega
theorem vl_zeros (k : Nat) : vl b (List.replicate k 0) = 0 := by
  induction k with
  | zero => rfl
  | succ k ih => simp [List.replicate_succ, vl, ih]
theorem pv_eq (xs : List Nat) : ∀ k, pv b xs k = vl b (xs.take k)
  | 0 => by simp [pv, vl]
  | k + 1 => by
    simp only [pv, pv_eq xs k]
    by_cases hk : k < xs.length
    · rw [List.take_add_one, List.getElem?_eq_getElem hk, Option.toList_some, vl_snoc, List.length_take, Nat.min_eq_left (Nat.le_of_lt hk)]
      simp [hk]
    · rw [getD_none (Nat.le_of_not_lt hk), List.take_of_length_le (by omega), List.take_of_length_le (by omega)]
      omega
theorem pv_full {xs : List Nat} {k : Nat} (h : xs.length ≤ k) : pv b xs k = vl b xs := by rw [pv_eq, List.take_of_length_le h]
theorem vl_split (xs : List Nat) (k : Nat) : vl b xs = pv b xs k + b ^ k * vl b (xs.drop k) := by
  rw [pv_eq]
  by_cases hk : k ≤ xs.length
  · have := vl_append (b := b) (xs.take k) (xs.drop k)
    rw [List.take_append_drop, List.length_take, Nat.min_eq_left hk] at this
    exact this
  · rw [List.take_of_length_le (by omega), List.drop_of_length_le (by omega)]; simp [vl]
theorem pv_lt {xs : List Nat} (h : Al b xs) (hb : 0 < b) (k : Nat) : pv b xs k < b ^ k := by
  rw [pv_eq]
  refine Nat.lt_of_lt_of_le (vl_lt (h.take k)) (Nat.pow_le_pow_right hb ?_)
  rw [List.length_take]; omega
theorem pv_set {xs : List Nat} {i x k : Nat} (h : k ≤ i) : pv b (xs.set i x) k = pv b xs k := by
  rw [pv_eq, pv_eq, List.take_set, List.set_eq_of_length_le]
  rw [List.length_take]; omega
theorem getD_set_self {xs : List Nat} {i x : Nat} (h : i < xs.length) : (xs.set i x).getD i 0 = x := by simp [h]
theorem getD_set_other {xs : List Nat} {i j x : Nat} (h : i ≠ j) : (xs.set i x).getD j 0 = xs.getD j 0 := by simp [List.getElem?_set_ne h]

theorem nrm_cons (x : Nat) (xs : List Nat) : nrm (x :: xs) = if nrm xs = [] ∧ x = 0 then [] else x :: nrm xs := by
  simp only [nrm]
  cases hn : nrm xs with
  | nil => by_cases hx : x = 0 <;> simp [hx]
  | cons y ys => simp
theorem nrm_snoc0 (xs : List Nat) : nrm (xs ++ [0]) = nrm xs := by
  induction xs with
  | nil => rfl
  | cons x xs ih => rw [List.cons_append, nrm_cons, nrm_cons, ih]
theorem nrm_last : ∀ (xs : List Nat), xs.getD (xs.length - 1) 0 ≠ 0 → nrm xs = xs
  | [], h => by simp at h
  | [x], h => by simp at h; simp [nrm, h]
  | x :: y :: xs, h => by
    have ih := nrm_last (y :: xs) (by simpa using h)
    rw [nrm_cons, ih]; simp
theorem vl_nrm (xs : List Nat) : vl b (nrm xs) = vl b xs := by
  induction xs with
  | nil => rfl
  | cons x xs ih =>
    rw [nrm_cons]
    split
    · rename_i h
      rw [h.1] at ih
      simp only [vl, ← ih, h.2]; simp
    · simp only [vl, ih]
theorem nrm_nil {xs : List Nat} (h : nrm xs = []) : vl b xs = 0 := by rw [← vl_nrm, h]; rfl
theorem nrm_zero (hb : 0 < b) {xs : List Nat} (h : vl b xs = 0) : nrm xs = [] := by
  induction xs with
  | nil => rfl
  | cons x xs ih =>
    simp only [vl] at h
    have h1 : x = 0 := by omega
    have h2 : vl b xs = 0 := by
      have : b * vl b xs = 0 := by omega
      rcases Nat.mul_eq_zero.1 this with h | h
      · omega
      · exact h
    rw [nrm_cons, ih h2, if_pos ⟨rfl, h1⟩]
theorem dgo_eq (hb : 1 < b) : ∀ (f n : Nat), n ≤ f → ∀ xs, Al b xs → vl b xs = n → nrm xs = dgo b f n
  | 0, n, hn, xs, _, hv => by
    have : n = 0 := by omega
    subst this
    rw [nrm_zero (by omega) hv]; rfl
  | f + 1, n, hn, xs, ha, hv => by
    simp only [dgo]
    by_cases h0 : n = 0
    · subst h0; rw [if_pos rfl, nrm_zero (by omega) hv]
    · rw [if_neg h0]
      cases xs with
      | nil => simp [vl] at hv; omega
      | cons x xs =>
        have hx := ha.head
        simp only [vl] at hv
        have hm : n % b = x := by rw [← hv, Nat.add_mul_mod_self_left, Nat.mod_eq_of_lt hx]
        have hd : n / b = vl b xs := by rw [← hv, Nat.add_mul_div_left _ _ (by omega), Nat.div_eq_of_lt hx, Nat.zero_add]
        have hlt : n / b ≤ f := by
          have := Nat.div_lt_self (Nat.pos_of_ne_zero h0) hb
          omega
        rw [hm, ← dgo_eq hb f (n / b) hlt xs ha.tail hd.symm, nrm_cons, if_neg]
        rintro ⟨h1, h2⟩
        have := nrm_nil (b := b) h1
        rw [this, h2] at hv; simp at hv; omega
theorem nrm_eq (hb : 1 < b) {xs : List Nat} (ha : Al b xs) : nrm xs = dg b (vl b xs) := dgo_eq hb _ _ (Nat.le_refl _) xs ha rfl
theorem vl_dgo (hb : 1 < b) : ∀ (f n : Nat), n ≤ f → vl b (dgo b f n) = n
  | 0, n, hn => by simp [dgo, vl]; omega
  | f + 1, n, hn => by
    simp only [dgo]
    by_cases h0 : n = 0
    · simp [h0, vl]
    · rw [if_neg h0]
      have hlt : n / b ≤ f := by
        have := Nat.div_lt_self (Nat.pos_of_ne_zero h0) hb
        omega
      simp only [vl, vl_dgo hb f (n / b) hlt]
      exact Nat.mod_add_div n b
theorem vl_dg (hb : 1 < b) (n : Nat) : vl b (dg b n) = n := vl_dgo hb n n (Nat.le_refl _)
theorem al_dgo (hb : 0 < b) : ∀ (f n : Nat), Al b (dgo b f n)
  | 0, n => Al.nil
  | f + 1, n => by
    simp only [dgo]
    split
    · exact Al.nil
    · exact Al.cons (Nat.mod_lt _ hb) (al_dgo hb f _)
theorem al_dg (hb : 0 < b) (n : Nat) : Al b (dg b n) := al_dgo hb n n
theorem nrm_dg (hb : 1 < b) (n : Nat) : nrm (dg b n) = dg b n := by rw [nrm_eq hb (al_dg (by omega) n), vl_dg hb]
theorem dg_zero : dg b 0 = [] := rfl
theorem dg_nil (hb : 1 < b) {n : Nat} : dg b n = [] ↔ n = 0 := by
  constructor
  · intro h; have := vl_dg hb n; rw [h] at this; exact this.symm
  · rintro rfl; rfl
theorem dg_len0 (hb : 1 < b) {n : Nat} : (dg b n).length = 0 ↔ n = 0 := by rw [List.length_eq_zero_iff]; exact dg_nil hb
theorem nrm_len (xs : List Nat) : (nrm xs).length ≤ xs.length := by
  induction xs with
  | nil => simp [nrm]
  | cons x xs ih =>
    rw [nrm_cons]
    split
    · simp
    · simpa using ih
theorem nrm_pre (xs : List Nat) : nrm xs = xs.take (nrm xs).length := by
  induction xs with
  | nil => simp [nrm]
  | cons x xs ih =>
    rw [nrm_cons]
    split
    · simp
    · simpa using ih
theorem nrm_nrm (xs : List Nat) : nrm (nrm xs) = nrm xs := by
  induction xs with
  | nil => rfl
  | cons x xs ih =>
    rw [nrm_cons]
    split
    · rfl
    · rename_i hc
      rw [nrm_cons, ih, if_neg hc]
theorem dg_ge (hb : 1 < b) {n : Nat} (h : n ≠ 0) : b ^ ((dg b n).length - 1) ≤ n := by
  have key : ∀ xs, nrm xs = xs → xs ≠ [] → b ^ (xs.length - 1) ≤ vl b xs := by
    intro xs
    induction xs with
    | nil => intro _ h; exact absurd rfl h
    | cons x xs ih =>
      intro hn _
      rw [nrm_cons] at hn
      split at hn
      · cases hn
      · rename_i hc
        simp only [List.cons.injEq, true_and] at hn
        cases xs with
        | nil =>
          simp only [nrm] at hc
          simp [vl]; simp at hc; omega
        | cons y ys =>
          have := ih hn (by simp)
          simp only [List.length_cons, Nat.add_sub_cancel, vl, Nat.pow_succ] at this ⊢
          have : b * b ^ ys.length ≤ b * (y + b * vl b ys) := Nat.mul_le_mul_left b this
          rw [Nat.mul_comm (b ^ ys.length) b]; omega
  have := key (dg b n) (nrm_dg hb n) (fun h' => h ((dg_nil hb).1 h'))
  rwa [vl_dg hb] at this
theorem dg_lt (hb : 1 < b) (n : Nat) : n < b ^ (dg b n).length := by
  have := vl_lt (al_dg (b := b) (by omega) n)
  rwa [vl_dg hb] at this
theorem dg_len (hb : 1 < b) {n k : Nat} (h : n < b ^ k) : (dg b n).length ≤ k := by
  by_cases h0 : n = 0
  · subst h0; simp [dg_zero]
  · have h1 := dg_ge hb h0
    have := Nat.lt_of_le_of_lt h1 h
    have := (Nat.pow_lt_pow_iff_right hb).1 this
    omega
theorem dg_len_lt (hb : 1 < b) {m n : Nat} (h : (dg b m).length < (dg b n).length) : m < n := by
  have h1 := dg_lt hb m
  have hn : n ≠ 0 := fun e => by subst e; simp [dg_zero] at h
  have h2 := dg_ge hb hn
  have h3 : b ^ (dg b m).length ≤ b ^ ((dg b n).length - 1) := Nat.pow_le_pow_right (by omega) (by omega)
  omega
theorem vl_cmp {xs ys : List Nat} (hx : Al b xs) (hb : 0 < b) {i : Nat} (hd : xs.drop (i + 1) = ys.drop (i + 1)) (hlt : xs.getD i 0 < ys.getD i 0) : vl b xs < vl b ys := by
  rw [vl_split xs (i + 1), vl_split ys (i + 1), hd]
  simp only [pv]
  have h1 := pv_lt hx hb i
  have h2 : b ^ i * (xs.getD i 0 + 1) ≤ b ^ i * ys.getD i 0 := Nat.mul_le_mul_left _ hlt
  rw [Nat.mul_add] at h2
  omega
theorem drop_step {xs ys : List Nat} {i : Nat} (hx : i < xs.length) (hy : i < ys.length) (hd : xs.drop (i + 1) = ys.drop (i + 1)) (he : xs.getD i 0 = ys.getD i 0) : xs.drop i = ys.drop i := by
  rw [List.drop_eq_getElem_cons hx, List.drop_eq_getElem_cons hy, hd]
  congr 1
  simpa [hx, hy] using he
end
end Go.Dig


namespace Go.Proofs.YtfcmdefigldpnaaGreatDoor
set_option linter.unusedVariables false
set_option maxRecDepth 8000
open Go Go.Den Go.RowKit Go.Dig

theorem nrm_take {xs : List Nat} (h0 : 0 < xs.length) (hz : xs.getD (xs.length - 1) 0 = 0) : nrm (xs.take (xs.length - 1)) = nrm xs := by
  have : xs = xs.take (xs.length - 1) ++ [0] := by
    have h1 : xs.getLast (by intro e; simp [e] at h0) = 0 := by
      rw [List.getLast_eq_getElem]
      have h2 : xs.length - 1 < xs.length := by omega
      simpa [List.getElem?_eq_getElem h2] using hz
    rw [← h1, ← List.dropLast_eq_take, List.dropLast_concat_getLast]
  conv => rhs; rw [this, nrm_snoc0]

theorem Tryz_ent126 : Ent Tryz.prog 126 := ent_of Tryz.func126 (by kernel_rfl) rfl
theorem norm_spec' (v : Value) (xs : List Nat) (h : Hp) (hs : SlF h U v xs) (hl : xs.length < 4611686018427387904) :
    CallsH Tryz.prog 126 [v] h fun v' h' => h = h' ∧ ∀ h0, (SlF h0 U v xs → SlF h0 U v' (nrm xs)) ∧ ∀ B e, OwnF h0 B e U v xs → OwnF h0 B e U v' (nrm xs) := by
  (apply enter Tryz.func126 rfl Tryz.ntmps126 rfl)
  refine runM ?_
  (first | (apply w_seqB; exact rfl; apply w_block; exact rfl) | skip)
  apply (w_loop (σ := Value × List Nat) rfl (fun p => [(0, p.1)])
    (fun p h' => h = h' ∧ p.2.length ≤ xs.length ∧ nrm p.2 = nrm xs ∧ ∀ h0, (SlF h0 U v xs → SlF h0 U p.1 p.2) ∧ ∀ B e, OwnF h0 B e U v xs → OwnF h0 B e U p.1 p.2) (fun p => p.2.length) (v, xs))
  · exact subs
  · exact ⟨rfl, Nat.le_refl _, rfl, fun _ => ⟨fun s => s, fun _ _ o => o⟩⟩
  · rintro ⟨v', ys⟩ h' ⟨rfl, i2, i3, i4⟩
    dsimp only at i2 i3 i4 ⊢
    have i1 := (i4 h).1 hs
    refine runM ?_
    (apply s_split 6; exact rfl) <;> intro hp
    · refine runM ?_
      (apply w_condD; exact rfl; exact rfl) <;> intro hz
      · refine runM ?_
        apply again_normal (cutV 1 v' 0 (ys.length - 1), ys.take (ys.length - 1))
        · exact subs
        · refine ⟨rfl, by simp only [List.length_take]; omega, by simp only []; rw [nrm_take hp hz, i3], fun h0 => ⟨fun s => ?_, fun B e o => ((i4 h0).2 B e o).front (by omega)⟩⟩
          have := ((i4 h0).1 s).cut (lo := 0) (hi := ys.length - 1) (by omega) (by omega)
          simpa using this
        · simp only [List.length_take]; omega
      · refine runM ?_
        have hn : nrm ys = ys := nrm_last ys hz
        rw [← i3, hn]
        exact fin1 rfl rfl ⟨rfl, i4⟩
    · refine runM ?_
      have he : ys = [] := List.eq_nil_of_length_eq_zero (by omega)
      subst he
      rw [← i3]
      exact fin1 rfl rfl ⟨rfl, i4⟩
theorem norm_spec (v : Value) (xs : List Nat) (h : Hp) (hs : SlF h U v xs) (hl : xs.length < 4611686018427387904) :
    CallsH Tryz.prog 126 [v] h fun v' h' => h = h' ∧ SlF h U v' (nrm xs) ∧ ∀ B e, OwnF h B e U v xs → OwnF h B e U v' (nrm xs) :=
  (norm_spec' v xs h hs hl).mono fun v' h' ⟨g1, g2⟩ => ⟨g1, (g2 h).1 hs, (g2 h).2⟩

theorem Tryz_ent131 : Ent Tryz.prog 131 := ent_of Tryz.func131 (by kernel_rfl) rfl
theorem trim_spec (v : Value) (xs : List Nat) (h : Hp) (hs : SlF h N v xs) (hl : xs.length < 4611686018427387904) :
    CallsH Tryz.prog 131 [v] h fun v' h' => h = h' ∧ SlF h N v' (nrm xs) ∧ ∀ B e, OwnF h B e N v xs → OwnF h B e N v' (nrm xs) := by
  (apply enter Tryz.func131 rfl Tryz.ntmps131 rfl)
  refine runM ?_
  (first | (apply w_seqB; exact rfl; apply w_block; exact rfl) | skip)
  apply (w_loop (σ := Value × List Nat) rfl (fun p => [(0, p.1)])
    (fun p h' => h = h' ∧ SlF h N p.1 p.2 ∧ p.2.length ≤ xs.length ∧ nrm p.2 = nrm xs ∧ ∀ B e, OwnF h B e N v xs → OwnF h B e N p.1 p.2) (fun p => p.2.length) (v, xs))
  · exact subs
  · exact ⟨rfl, hs, Nat.le_refl _, rfl, fun _ _ o => o⟩
  · rintro ⟨v', ys⟩ h' ⟨rfl, i1, i2, i3, i4⟩
    dsimp only at i1 i2 i3 i4 ⊢
    refine runM ?_
    (apply s_split 6; exact rfl) <;> intro hp
    · refine runM ?_
      (apply w_condD; exact rfl; exact rfl) <;> intro hz
      · refine runM ?_
        apply again_normal (cutV 1 v' 0 (ys.length - 1), ys.take (ys.length - 1))
        · exact subs
        · refine ⟨rfl, ?_, by simp only [List.length_take]; omega, by simp only []; rw [nrm_take hp hz, i3], fun B e o => (i4 B e o).front (by omega)⟩
          have := i1.cut (lo := 0) (hi := ys.length - 1) (by omega) (by omega)
          simpa using this
        · simp only [List.length_take]; omega
      · refine runM ?_
        have hn : nrm ys = ys := nrm_last ys hz
        rw [← i3, hn]
        exact fin1 rfl rfl ⟨rfl, i1, i4⟩
    · refine runM ?_
      have he : ys = [] := List.eq_nil_of_length_eq_zero (by omega)
      subst he
      rw [← i3]
      exact fin1 rfl rfl ⟨rfl, i1, i4⟩

theorem list_eq_getD {xs ys : List Nat} (hl : xs.length = ys.length) (he : ∀ j, j < xs.length → xs.getD j 0 = ys.getD j 0) : xs = ys := by
  apply List.ext_getElem hl
  intro j h1 h2
  simpa [h1, h2] using he j h1

theorem Tryz_ent29 : Ent Tryz.prog 29 := ent_of Tryz.func29 (by kernel_rfl) rfl
theorem same_spec (va vb : Value) (xs ys : List Nat) (h : Hp) (ha : SlF h U va xs) (hb : SlF h U vb ys) (hl : xs.length < 4611686018427387904) :
    CallsH Tryz.prog 29 [va, vb] h fun v' h' => v' = .bool (decide (xs = ys)) ∧ h = h' := by
  (apply enter Tryz.func29 rfl Tryz.ntmps29 rfl)
  refine runM ?_
  (apply w_condD; exact rfl; exact rfl) <;> intro hne
  · refine runM ?_
    exact fin1 rfl rfl ⟨by rw [decide_eq_false]; intro e; exact hne (by rw [e]), rfl⟩
  · refine runM ?_
    (first | (apply w_seqB; exact rfl; apply w_block; exact rfl) | skip)
    apply (w_loop (σ := Nat) rfl (fun i => [(0, va), (1, vb), (12, N xs.length), (13, N i)])
      (fun i h' => h = h' ∧ i ≤ xs.length ∧ ∀ j, j < i → xs.getD j 0 = ys.getD j 0) (fun i => xs.length - i) 0)
    · exact subs
    · exact ⟨rfl, Nat.zero_le _, fun j hj => by cases hj⟩
    · rintro i h' ⟨rfl, i1, i2⟩
      refine runM ?_
      (apply w_condD; exact rfl; exact rfl) <;> intro hi
      · refine runM ?_
        (apply w_condD; exact rfl; exact rfl) <;> intro hd
        · refine runM ?_
          exact fin1 rfl rfl ⟨by rw [decide_eq_false]; intro e; exact hd (by rw [e]), rfl⟩
        · refine runM ?_
          apply again_normal (i + 1)
          · exact subs
          · exact ⟨rfl, hi, fun j hj => by
              rcases Nat.lt_succ_iff_lt_or_eq.1 hj with hj | rfl
              · exact i2 j hj
              · omega⟩
          · omega
      · refine runM ?_
        exact fin1 rfl rfl ⟨by rw [decide_eq_true]; exact list_eq_getD (by omega) fun j hj => i2 j (by omega), rfl⟩


def cmpI (m n : Nat) : Int := if m < n then -1 else if n < m then 1 else 0
theorem cmpI_lt {m n : Nat} (h : m < n) : cmpI m n = -1 := by simp [cmpI, h]
theorem cmpI_gt {m n : Nat} (h : n < m) : cmpI m n = 1 := by simp [cmpI, h, Nat.lt_asymm h]
theorem cmpI_eq {m n : Nat} (h : m = n) : cmpI m n = 0 := by simp [cmpI, h]

theorem len_cmp {b : Nat} (hb : 1 < b) {xs ys : List Nat} (hx : Al b xs) (hxn : nrm xs = xs) (hy : Al b ys) (hyn : nrm ys = ys) (h : xs.length < ys.length) : vl b xs < vl b ys := by
  have h1 := nrm_eq hb hx
  have h2 := nrm_eq hb hy
  refine dg_len_lt hb ?_
  rw [← h1, ← h2, hxn, hyn]; exact h

theorem Tryz_ent201 : Ent Tryz.prog 201 := ent_of Tryz.func201 (by kernel_rfl) rfl
theorem at_spec (v : Value) (xs : List Nat) (i : Nat) (h : Hp) (hs : SlF h N v xs) (hl : xs.length < 4611686018427387904) :
    CallsH Tryz.prog 201 [v, N i] h fun v' h' => v' = N (xs.getD i 0) ∧ h = h' := by
  (apply enter Tryz.func201 rfl Tryz.ntmps201 rfl)
  refine runM ?_
  (apply w_condD; exact rfl; exact rfl) <;> intro hi
  · refine runM ?_
    exact fin1 rfl rfl ⟨rfl, rfl⟩
  · refine runM ?_
    exact fin1 rfl rfl ⟨by rw [getD_none (by omega)], rfl⟩

theorem Tryz_ent74 : Ent Tryz.prog 74 := ent_of Tryz.func74 (by kernel_rfl) rfl
theorem compare_spec (va vb : Value) (xs ys : List Nat) (h : Hp) (ha : SlF h N va xs) (hb : SlF h N vb ys) (hx : Al 65536 xs) (hxn : nrm xs = xs) (hy : Al 65536 ys) (hyn : nrm ys = ys) (hl : xs.length < 4611686018427387904) (hl2 : ys.length < 4611686018427387904) :
    CallsH Tryz.prog 74 [va, vb] h fun v' h' => v' = I (cmpI (vl 65536 xs) (vl 65536 ys)) ∧ h = h' := by
  (apply enter Tryz.func74 rfl Tryz.ntmps74 rfl)
  refine runM ?_
  (apply w_condD; exact rfl; exact rfl) <;> intro hne
  · refine runM ?_
    (apply w_condD; exact rfl; exact rfl) <;> intro hlt
    · refine runM ?_
      exact fin1 rfl rfl ⟨by rw [cmpI_lt (len_cmp (by omega) hx hxn hy hyn hlt)], rfl⟩
    · refine runM ?_
      exact fin1 rfl rfl ⟨by rw [cmpI_gt (len_cmp (by omega) hy hyn hx hxn (by omega))]; rfl, rfl⟩
  · refine runM ?_
    (first | (apply w_seqB; exact rfl; apply w_block; exact rfl) | skip)
    apply (w_loop (σ := Nat) rfl (fun k => [(0, va), (1, vb), (5, I ((k : Int) - 1))])
      (fun k h' => h = h' ∧ k ≤ xs.length ∧ xs.drop k = ys.drop k) (fun k => k) xs.length)
    · exact subs
    · exact ⟨rfl, Nat.le_refl _, by rw [List.drop_of_length_le (Nat.le_refl _), List.drop_of_length_le (by omega)]⟩
    · rintro k h' ⟨rfl, i1, i2⟩
      refine runM ?_
      (apply w_condD; exact rfl; exact rfl) <;> intro hk
      · obtain ⟨j, rfl⟩ : ∃ j, k = j + 1 := ⟨k - 1, by omega⟩
        (apply w_know (t := 5) (u := N (j)) rfl (congrArg I (by omega)))
        refine runM ?_
        (apply w_condD; exact rfl; exact rfl) <;> intro hd
        · refine runM ?_
          exact fin1 rfl rfl ⟨by rw [cmpI_lt (vl_cmp hx (by omega) i2 hd)], rfl⟩
        · refine runM ?_
          (apply w_condD; exact rfl; exact rfl) <;> intro hd2
          · refine runM ?_
            exact fin1 rfl rfl ⟨by rw [cmpI_gt (vl_cmp hy (by omega) i2.symm hd2)]; rfl, rfl⟩
          · refine runM ?_
            apply again_normal j
            · exact subs
            · exact ⟨rfl, by omega, drop_step (by omega) (by omega) i2 (by omega)⟩
            · exact Nat.lt_succ_self j
      · have hk0 : k = 0 := by omega
        subst hk0
        simp only [List.drop_zero] at i2
        refine runM ?_
        exact fin1 rfl rfl ⟨by rw [cmpI_eq (by rw [i2])]; rfl, rfl⟩

theorem Tryz_ent70 : Ent Tryz.prog 70 := ent_of Tryz.func70 (by kernel_rfl) rfl
theorem cmp_spec (va vb : Value) (xs0 ys0 : List Nat) (h : Hp) (ha0 : SlF h U va xs0) (hb0 : SlF h U vb ys0) (hx0 : Al 18446744073709551616 xs0) (hy0 : Al 18446744073709551616 ys0) (hl : xs0.length < 4611686018427387904) (hl2 : ys0.length < 4611686018427387904) :
    CallsH Tryz.prog 70 [va, vb] h fun v' h' => v' = I (cmpI (vl 18446744073709551616 xs0) (vl 18446744073709551616 ys0)) ∧ h = h' := by
  (apply enter Tryz.func70 rfl Tryz.ntmps70 rfl)
  refine runM ?_
  apply (s_call Tryz_ent126 rfl rfl rfl)
  refine (norm_spec va xs0 h ha0 hl).mono ?_
  rintro v1 _ ⟨rfl, ha, -⟩
  refine clsI ?_
  refine runM ?_
  apply (s_call Tryz_ent126 rfl rfl rfl)
  refine (norm_spec vb ys0 h hb0 hl2).mono ?_
  rintro v2 _ ⟨rfl, hb, -⟩
  refine clsI ?_
  rw [← vl_nrm xs0, ← vl_nrm ys0]
  have hx : Al 18446744073709551616 (nrm xs0) := by rw [nrm_pre]; exact hx0.take _
  have hy : Al 18446744073709551616 (nrm ys0) := by rw [nrm_pre]; exact hy0.take _
  have hxn := nrm_nrm xs0
  have hyn := nrm_nrm ys0
  have hlx := nrm_len xs0
  have hly := nrm_len ys0
  generalize nrm xs0 = xs at *
  generalize nrm ys0 = ys at *
  refine runM ?_
  (apply w_condD; exact rfl; exact rfl) <;> intro hlt
  · refine runM ?_
    exact fin1 rfl rfl ⟨by rw [cmpI_lt (len_cmp (by omega) hx hxn hy hyn hlt)], rfl⟩
  · refine runM ?_
    (apply w_condD; exact rfl; exact rfl) <;> intro hgt
    · refine runM ?_
      exact fin1 rfl rfl ⟨by rw [cmpI_gt (len_cmp (by omega) hy hyn hx hxn (by omega))]; rfl, rfl⟩
    · refine runM ?_
      (first | (apply w_seqB; exact rfl; apply w_block; exact rfl) | skip)
      apply (w_loop (σ := Nat) rfl (fun k => [(0, v1), (1, v2), (5, I ((k : Int) - 1))])
        (fun k h' => h = h' ∧ k ≤ xs.length ∧ xs.drop k = ys.drop k) (fun k => k) xs.length)
      · exact subs
      · exact ⟨rfl, Nat.le_refl _, by rw [List.drop_of_length_le (Nat.le_refl _), List.drop_of_length_le (by omega)]⟩
      · rintro k h' ⟨rfl, i1, i2⟩
        refine runM ?_
        (apply w_condD; exact rfl; exact rfl) <;> intro hk
        · obtain ⟨j, rfl⟩ : ∃ j, k = j + 1 := ⟨k - 1, by omega⟩
          (apply w_know (t := 5) (u := N (j)) rfl (congrArg I (by omega)))
          refine runM ?_
          (apply w_condD; exact rfl; exact rfl) <;> intro hd
          · refine runM ?_
            exact fin1 rfl rfl ⟨by rw [cmpI_lt (vl_cmp hx (by omega) i2 hd)], rfl⟩
          · refine runM ?_
            (apply w_condD; exact rfl; exact rfl) <;> intro hd2
            · refine runM ?_
              exact fin1 rfl rfl ⟨by rw [cmpI_gt (vl_cmp hy (by omega) i2.symm hd2)]; rfl, rfl⟩
            · refine runM ?_
              apply again_normal j
              · exact subs
              · exact ⟨rfl, by omega, drop_step (by omega) (by omega) i2 (by omega)⟩
              · exact Nat.lt_succ_self j
        · have hk0 : k = 0 := by omega
          subst hk0
          simp only [List.drop_zero] at i2
          refine runM ?_
          exact fin1 rfl rfl ⟨by rw [cmpI_eq (by rw [i2])]; rfl, rfl⟩

theorem sub64_run (x y c : Nat) (hc : c ≤ 1) (w : World) :
    (callFunc 193 #[U x, U y, U c]).run Tryz.prog w =
      .ok (.value (.tuple [U ((x + 18446744073709551616 - y - c) % 18446744073709551616), U (if x < y + c then 1 else 0)].toArray)) w := by
  rw [run_callFunc_extern Tryz.func193 (by kernel_rfl) (by kernel_rfl) (by kernel_rfl) (e := Go.Proofs.sub64Entry) (by kernel_rfl), Go.Proofs.run_sub64 x y c hc]
  rfl

theorem add_step {b x y c p q v B : Nat} (h : v + B * c = p + q) : v + B * ((x + y + c) % b) + B * b * ((x + y + c) / b) = (p + B * x) + (q + B * y) := by
  have := Nat.mod_add_div (x + y + c) b
  have e : B * ((x + y + c) % b) + B * b * ((x + y + c) / b) = B * (x + y + c) := by rw [Nat.mul_assoc, ← Nat.mul_add, this]
  rw [Nat.mul_add, Nat.mul_add] at e
  omega

theorem Tryz_ent124 : Ent Tryz.prog 124 := ent_of Tryz.func124 (by kernel_rfl) rfl
set_option maxHeartbeats 400000 in
theorem nadd_spec (va vb : Value) (xs0 ys0 : List Nat) (h : Hp) (ha0 : SlF h U va xs0) (hb0 : SlF h U vb ys0) (hx0 : Al 18446744073709551616 xs0) (hy0 : Al 18446744073709551616 ys0) (hl : xs0.length < 1099511627776) (hl2 : ys0.length < 1099511627776) :
    CallsH Tryz.prog 124 [va, vb] h fun v' h' => Ext h h' ∧ OwnF h' h.size 26 U v' (dg 18446744073709551616 (vl 18446744073709551616 xs0 + vl 18446744073709551616 ys0)) := by
  (apply enter Tryz.func124 rfl Tryz.ntmps124 rfl)
  refine runM ?_
  apply (w_tcut (σ := Value × List Nat × Value × List Nat) (fun p => [(0, p.1), (1, p.2.2.1)])
    (fun p h' => h = h' ∧ SlF h U p.1 p.2.1 ∧ SlF h U p.2.2.1 p.2.2.2 ∧ Al 18446744073709551616 p.2.1 ∧ Al 18446744073709551616 p.2.2.2 ∧ p.2.1.length < 1099511627776 ∧ p.2.2.2.length ≤ p.2.1.length ∧ vl 18446744073709551616 p.2.1 + vl 18446744073709551616 p.2.2.2 = vl 18446744073709551616 xs0 + vl 18446744073709551616 ys0))
  · (apply w_condD; exact rfl; exact rfl) <;> intro hlt
    · refine runM ?_
      apply cut_normal (vb, ys0, va, xs0)
      · exact subs
      · exact ⟨rfl, hb0, ha0, hy0, hx0, hl2, by simp only []; omega, by simp only []; rw [Nat.add_comm]⟩
    · refine runM ?_
      apply cut_normal (va, xs0, vb, ys0)
      · exact subs
      · exact ⟨rfl, ha0, hb0, hx0, hy0, hl, by simp only []; omega, rfl⟩
  · rintro ⟨va, xs, vb, ys⟩ h' ⟨rfl, ha, hb, hx, hy, hl, hle, hv⟩
    dsimp only at ha hb hx hy hl hle hv ⊢
    rw [← hv]
    clear hv hl2 ha0 hb0 hx0 hy0
    refine runM ?_
    (apply (s_make (f := U) (bytes := 8) (0)); (first | exact isK_c | exact isK_t rfl); (first | exact isK_c | exact isK_t rfl); exact rfl; exact rfl; exact rfl; exact rfl; exact rfl; exact rfl; omega; omega; omega)
    intro v1 h1 o1 e1 b1
    refine clsI ?_
    refine runM ?_
    (first | (apply w_seqB; exact rfl; apply w_block; exact rfl) | skip)
    apply (w_loop (σ := Nat × Value × Nat × List Nat) rfl (fun p => [(1, vb), (21, va), (22, N xs.length), (23, N p.1), (5, p.2.1), (6, U p.2.2.1)])
      (fun p h' => Ext h h' ∧ OwnF h' h.size 26 U p.2.1 p.2.2.2 ∧ p.2.2.2.length = p.1 ∧ p.1 ≤ xs.length ∧ Al 18446744073709551616 p.2.2.2 ∧ p.2.2.1 ≤ 1 ∧
        vl 18446744073709551616 p.2.2.2 + 18446744073709551616 ^ p.1 * p.2.2.1 = pv 18446744073709551616 xs p.1 + pv 18446744073709551616 ys p.1) (fun p => xs.length - p.1) (0, v1, 0, []))
    · exact subs
    · exact ⟨e1, o1, rfl, Nat.zero_le _, Al.nil, Nat.zero_le _, rfl⟩
    · rintro ⟨i, out, c, os⟩ h' ⟨e, o, i1, i2, i3, i4, i5⟩
      dsimp only at e o i1 i2 i3 i4 i5 ⊢
      have ha' := ha.ext e
      have hb' := hb.ext e
      refine runM ?_
      (apply w_condD; exact rfl; exact rfl) <;> intro hi
      · refine runM ?_
        apply (w_tcut (σ := Unit) (fun _ => [(1, vb), (21, va), (22, N xs.length), (23, N i), (5, out), (6, U c), (8, U (xs.getD i 0)), (9, U (ys.getD i 0))]) (fun _ h2 => h' = h2))
        · (apply w_condD; exact rfl; exact rfl) <;> intro hj
          · refine runM ?_
            apply cut_normal ()
            · exact subs
            · rfl
          · refine runM ?_
            apply cut_normal ()
            · rw [getD_none (by omega : ys.length ≤ i)]
              exact subs
            · rfl
        · rintro ⟨⟩ _ rfl
          have hxi := hx.getD (by omega) i
          have hyi := hy.getD (by omega) i
          have hst := add_step (b := 18446744073709551616) (x := xs.getD i 0) (y := ys.getD i 0) i5
          have hc2 : (xs.getD i 0 + ys.getD i 0 + c) / 18446744073709551616 ≤ 1 := by omega
          have hm2 : (xs.getD i 0 + ys.getD i 0 + c) % 18446744073709551616 < 18446744073709551616 := Nat.mod_lt _ (by omega)
          refine runM ?_
          apply (s_extern (add64_run _ _ c i4 hxi hyi) rfl rfl)
          generalize (xs.getD i 0 + ys.getD i 0 + c) % 18446744073709551616 = w1 at *
          generalize (xs.getD i 0 + ys.getD i 0 + c) / 18446744073709551616 = c1 at *
          refine runM ?_
          (refine s_app1 (bytes := 8) (w1) o e rfl rfl rfl rfl rfl rfl rfl rfl rfl (by first | exact rfl | exact congrArg some (congrArg I (by omega))) (fun _ => rfl) rfl rfl (fun _ _ => trivial) (by omega) (by simp only [maxLen]; omega) ?_)
          intro v2 h2 o2 e2 k2 b2
          refine runM ?_
          apply again_normal (i + 1, v2, c1, os ++ [w1])
          · exact subs
          · exact ⟨e2, o2, by simp [i1], hi, i3.snoc hm2, hc2, by simp only [pv, vl_snoc, i1, Nat.pow_succ]; exact hst⟩
          · simp only []; omega
      · refine runM ?_
        have hie : i = xs.length := by omega
        subst hie
        rw [pv_full (Nat.le_refl _), pv_full hle] at i5
        refine runM ?_
        (refine s_app1 (bytes := 8) (c) o e rfl rfl rfl rfl rfl rfl rfl rfl rfl (by first | exact rfl | exact congrArg some (congrArg I (by omega))) (fun _ => rfl) rfl rfl (fun _ _ => trivial) (by omega) (by simp only [maxLen]; omega) ?_)
        intro v2 h2 o2 e2 k2 b2
        refine runM ?_
        apply (s_call Tryz_ent126 rfl rfl rfl)
        refine (norm_spec v2 _ h2 o2.sl (by simp; omega)).mono ?_
        rintro v3 _ ⟨rfl, s3, o3⟩
        refine clsI ?_
        refine runM ?_
        refine fin1 rfl rfl ⟨e2, ?_⟩
        have := o3 _ _ o2
        rw [nrm_eq (by omega) (i3.snoc (by omega)), vl_snoc, i1, i5] at this
        exact this

theorem sub_step {b x y c p q v B : Nat} (hx : x < b) (hy : y < b) (hc : c ≤ 1) (h : p + B * c = q + v) : (p + B * x) + B * b * (if x < y + c then 1 else 0) = (q + B * y) + (v + B * ((x + b - y - c) % b)) := by
  by_cases hlt : x < y + c
  · rw [if_pos hlt]
    have e : (x + b - y - c) % b = x + b - y - c := Nat.mod_eq_of_lt (by omega)
    have e2 : B * (x + b - y - c) + B * (y + c) = B * x + B * b := by rw [← Nat.mul_add, ← Nat.mul_add]; congr 1; omega
    rw [e]
    rw [Nat.mul_add] at e2
    omega
  · rw [if_neg hlt]
    have e : (x + b - y - c) % b = x - y - c := by
      rw [show x + b - y - c = (x - y - c) + b by omega, Nat.add_mod_right, Nat.mod_eq_of_lt (by omega)]
    have e2 : B * (x - y - c) + B * (y + c) = B * x := by rw [← Nat.mul_add]; congr 1; omega
    rw [e]
    rw [Nat.mul_add] at e2
    omega

theorem Tryz_ent192 : Ent Tryz.prog 192 := ent_of Tryz.func192 (by kernel_rfl) rfl
set_option maxHeartbeats 400000 in
theorem nsub_spec (va vb : Value) (xs ys0 : List Nat) (h : Hp) (ha : SlF h U va xs) (hb0 : SlF h U vb ys0) (hx : Al 18446744073709551616 xs) (hy0 : Al 18446744073709551616 ys0) (hl : xs.length < 1099511627776) (hl2 : ys0.length < 1099511627776) :
    CallsH Tryz.prog 192 [va, vb] h fun v' h' => Ext h h' ∧
      (vl 18446744073709551616 xs < vl 18446744073709551616 ys0 → v' = .tuple [.slice none 0 0, N 5].toArray) ∧
      (vl 18446744073709551616 ys0 ≤ vl 18446744073709551616 xs → ∃ v1, v' = .tuple [v1, N 0].toArray ∧ OwnF h' h.size 26 U v1 (dg 18446744073709551616 (vl 18446744073709551616 xs - vl 18446744073709551616 ys0))) := by
  (apply enter Tryz.func192 rfl Tryz.ntmps192 rfl)
  refine runM ?_
  apply (s_call Tryz_ent70 rfl rfl rfl)
  refine (cmp_spec va vb xs ys0 h ha hb0 hx hy0 (by omega) (by omega)).mono ?_
  rintro _ _ ⟨rfl, rfl⟩
  refine clsI ?_
  refine runM ?_
  (apply w_condD; exact rfl; exact rfl) <;> intro hlt
  · refine runM ?_
    have hlt' : vl 18446744073709551616 xs < vl 18446744073709551616 ys0 := by
      simp only [cmpI] at hlt
      split at hlt
      · assumption
      · split at hlt <;> omega
    exact fin2 rfl rfl rfl ⟨Ext.refl _, fun _ => rfl, fun hge => by omega⟩
  · have hge : vl 18446744073709551616 ys0 ≤ vl 18446744073709551616 xs := by
      simp only [cmpI] at hlt
      split at hlt
      · omega
      · omega
    refine runM ?_
    apply (s_call Tryz_ent126 rfl rfl rfl)
    refine (norm_spec vb ys0 h hb0 (by omega)).mono ?_
    rintro v1 _ ⟨rfl, hb, -⟩
    refine clsI ?_
    rw [← vl_nrm ys0] at hge ⊢
    have hy : Al 18446744073709551616 (nrm ys0) := by rw [nrm_pre]; exact hy0.take _
    have hyn := nrm_nrm ys0
    have hly := nrm_len ys0
    clear hlt
    generalize nrm ys0 = ys at *
    have hle : ys.length ≤ xs.length := by
      have h1 := nrm_eq (by omega) hy
      rw [hyn] at h1
      rw [h1]
      exact dg_len (by omega) (Nat.lt_of_le_of_lt hge (vl_lt hx))
    refine runM ?_
    (apply (s_make (f := U) (bytes := 8) (0)); (first | exact isK_c | exact isK_t rfl); (first | exact isK_c | exact isK_t rfl); exact rfl; exact rfl; exact rfl; exact rfl; exact rfl; exact rfl; omega; omega; omega)
    intro v2 h1 o1 e1 b1
    refine clsI ?_
    refine runM ?_
    (first | (apply w_seqB; exact rfl; apply w_block; exact rfl) | skip)
    apply (w_loop (σ := Nat × Value × Nat × List Nat) rfl (fun p => [(1, v1), (20, va), (21, N xs.length), (22, N p.1), (6, p.2.1), (7, U p.2.2.1)])
      (fun p h' => Ext h h' ∧ OwnF h' h.size 26 U p.2.1 p.2.2.2 ∧ p.2.2.2.length = p.1 ∧ p.1 ≤ xs.length ∧ Al 18446744073709551616 p.2.2.2 ∧ p.2.2.1 ≤ 1 ∧
        pv 18446744073709551616 xs p.1 + 18446744073709551616 ^ p.1 * p.2.2.1 = pv 18446744073709551616 ys p.1 + vl 18446744073709551616 p.2.2.2) (fun p => xs.length - p.1) (0, v2, 0, []))
    · exact subs
    · exact ⟨e1, o1, rfl, Nat.zero_le _, Al.nil, Nat.zero_le _, rfl⟩
    · rintro ⟨i, out, c, os⟩ h' ⟨e, o, i1, i2, i3, i4, i5⟩
      dsimp only at e o i1 i2 i3 i4 i5 ⊢
      have ha' := ha.ext e
      have hb' := hb.ext e
      refine runM ?_
      (apply w_condD; exact rfl; exact rfl) <;> intro hi
      · refine runM ?_
        apply (w_tcut (σ := Unit) (fun _ => [(1, v1), (20, va), (21, N xs.length), (22, N i), (6, out), (7, U c), (9, U (xs.getD i 0)), (10, U (ys.getD i 0))]) (fun _ h2 => h' = h2))
        · (apply w_condD; exact rfl; exact rfl) <;> intro hj
          · refine runM ?_
            apply cut_normal ()
            · exact subs
            · rfl
          · refine runM ?_
            apply cut_normal ()
            · rw [getD_none (by omega : ys.length ≤ i)]
              exact subs
            · rfl
        · rintro ⟨⟩ _ rfl
          have hxi := hx.getD (by omega) i
          have hyi := hy.getD (by omega) i
          have hst := sub_step hxi hyi i4 i5
          have hc2 : (if xs.getD i 0 < ys.getD i 0 + c then 1 else 0 : Nat) ≤ 1 := by split <;> omega
          have hm2 : (xs.getD i 0 + 18446744073709551616 - ys.getD i 0 - c) % 18446744073709551616 < 18446744073709551616 := Nat.mod_lt _ (by omega)
          refine runM ?_
          apply (s_extern (sub64_run _ _ c i4) rfl rfl)
          generalize (xs.getD i 0 + 18446744073709551616 - ys.getD i 0 - c) % 18446744073709551616 = w1 at *
          generalize (if xs.getD i 0 < ys.getD i 0 + c then 1 else 0 : Nat) = c1 at *
          refine runM ?_
          (refine s_app1 (bytes := 8) (w1) o e rfl rfl rfl rfl rfl rfl rfl rfl rfl (by first | exact rfl | exact congrArg some (congrArg I (by omega))) (fun _ => rfl) rfl rfl (fun _ _ => trivial) (by omega) (by simp only [maxLen]; omega) ?_)
          intro v3 h2 o2 e2 k2 b2
          refine runM ?_
          apply again_normal (i + 1, v3, c1, os ++ [w1])
          · exact subs
          · exact ⟨e2, o2, by simp [i1], hi, i3.snoc hm2, hc2, by simp only [pv, vl_snoc, i1, Nat.pow_succ]; exact hst⟩
          · simp only []; omega
      · refine runM ?_
        have hie : i = xs.length := by omega
        subst hie
        rw [pv_full (Nat.le_refl _), pv_full hle] at i5
        have hc0 : c = 0 := by
          rcases (by omega : c = 0 ∨ c = 1) with hc | hc
          · exact hc
          · subst hc
            have := vl_lt i3
            rw [i1] at this
            omega
        subst hc0
        apply (s_call Tryz_ent126 rfl rfl rfl)
        refine (norm_spec out _ h' o.sl (by omega)).mono ?_
        rintro v3 _ ⟨rfl, s3, o3⟩
        refine clsI ?_
        refine runM ?_
        refine fin2 rfl rfl rfl ⟨e, fun hlt => by omega, fun _ => ⟨v3, rfl, ?_⟩⟩
        have := o3 _ _ o
        rw [nrm_eq (by omega) i3, show vl 18446744073709551616 os = vl 18446744073709551616 xs - vl 18446744073709551616 ys by omega] at this
        exact this

theorem mul_word {x y c o : Nat} (hx : x < 18446744073709551616) (hy : y < 18446744073709551616) (hc : c < 18446744073709551616) (ho : o < 18446744073709551616) :
    o + x * y + c < 18446744073709551616 * 18446744073709551616 := by
  have : x * y ≤ 18446744073709551615 * 18446744073709551615 := Nat.mul_le_mul (by omega) (by omega)
  omega
theorem mul_carry {q c o : Nat} (hq : o + q + c < 18446744073709551616 * 18446744073709551616) (hc : c < 18446744073709551616) (ho : o < 18446744073709551616) :
    q / 18446744073709551616 + (q % 18446744073709551616 + c) / 18446744073709551616 < 18446744073709551616 ∧
    q / 18446744073709551616 + (q % 18446744073709551616 + c) / 18446744073709551616 + (o + (q % 18446744073709551616 + c) % 18446744073709551616) / 18446744073709551616 = (o + q + c) / 18446744073709551616 ∧
    (o + (q % 18446744073709551616 + c) % 18446744073709551616) % 18446744073709551616 = (o + q + c) % 18446744073709551616 ∧ (o + q + c) / 18446744073709551616 < 18446744073709551616 := by omega
theorem mul_step {B W x y c o p q v p0 : Nat} (h : v + B * c = p0 + q * (x * p)) (hB : B = q * W) (n : Nat) (hn : n = o + x * y + c) {b : Nat} :
    v + B * (n % b) + B * b * (n / b) = (p0 + B * o) + q * (x * (p + W * y)) := by
  have := Nat.mod_add_div n b
  have e : B * (n % b) + B * b * (n / b) = B * n := by rw [Nat.mul_assoc, ← Nat.mul_add, this]
  have e2 : q * (x * (p + W * y)) = q * (x * p) + B * (x * y) := by
    subst hB
    rw [Nat.mul_add, Nat.mul_add, Nat.mul_assoc q W]
    congr 2
    rw [← Nat.mul_assoc, ← Nat.mul_assoc, Nat.mul_comm x W]
  rw [e2, Nat.add_assoc, e, hn, Nat.mul_add, Nat.mul_add]
  omega

theorem Tryz_ent122 : Ent Tryz.prog 122 := ent_of Tryz.func122 (by kernel_rfl) rfl
set_option maxHeartbeats 800000 in
theorem nmul_spec (va vb : Value) (xs ys : List Nat) (h : Hp) (ha : SlF h U va xs) (hb : SlF h U vb ys) (hx : Al 18446744073709551616 xs) (hy : Al 18446744073709551616 ys) (hl : xs.length < 1099511627776) (hl2 : ys.length < 1099511627776) :
    CallsH Tryz.prog 122 [va, vb] h fun v' h' => Ext h h' ∧ OwnF h' h.size 26 U v' (dg 18446744073709551616 (vl 18446744073709551616 xs * vl 18446744073709551616 ys)) := by
  (apply enter Tryz.func122 rfl Tryz.ntmps122 rfl)
  refine runM ?_
  (apply (s_make (f := U) (bytes := 8) (0)); (first | exact isK_c | exact isK_t rfl); (first | exact isK_c | exact isK_t rfl); exact rfl; exact rfl; exact rfl; exact rfl; exact rfl; exact rfl; omega; omega; omega)
  intro out h1 o1 e1 b1
  refine clsI ?_
  refine runM ?_
  (first | (apply w_seqB; exact rfl; apply w_block; exact rfl) | skip)
  apply (w_loop (σ := Nat × List Nat) rfl (fun p => [(1, vb), (20, va), (21, N xs.length), (22, N p.1), (5, out)])
    (fun p h' => Ext h h' ∧ OwnF h' h.size 26 U out p.2 ∧ p.2.length = xs.length + ys.length ∧ p.1 ≤ xs.length ∧ Al 18446744073709551616 p.2 ∧
      pv 18446744073709551616 p.2 (p.1 + ys.length) = pv 18446744073709551616 xs p.1 * vl 18446744073709551616 ys) (fun p => xs.length - p.1) (0, List.replicate (xs.length + ys.length) 0))
  · exact subs
  · refine ⟨e1, o1, by simp, Nat.zero_le _, Al.replicate (by omega) _, ?_⟩
    simp only [pv_eq, List.take_replicate, vl_zeros, List.take_zero, vl, Nat.zero_mul]
  · rintro ⟨i, os0⟩ h' ⟨e, o, i1, i2, i3, i4⟩
    dsimp only at e o i1 i2 i3 i4 ⊢
    have ha' := ha.ext e
    have hb' := hb.ext e
    refine runM ?_
    (apply w_condD; exact rfl; exact rfl) <;> intro hi
    · refine runM ?_
      have hxi := hx.getD (by omega) i
      generalize hxd : xs.getD i 0 = x at *
      (first | (apply w_seqB; exact rfl; apply w_block; exact rfl) | skip)
      apply (w_loop (σ := Nat × Nat × List Nat) rfl (fun p => [(1, vb), (20, va), (21, N xs.length), (22, N i), (5, out), (6, N i), (7, U x), (27, vb), (28, N ys.length), (29, N p.1), (8, U p.2.1)])
        (fun p h' => Ext h h' ∧ OwnF h' h.size 26 U out p.2.2 ∧ p.2.2.length = xs.length + ys.length ∧ p.1 ≤ ys.length ∧ Al 18446744073709551616 p.2.2 ∧ p.2.1 < 18446744073709551616 ∧
          pv 18446744073709551616 p.2.2 (i + p.1) + 18446744073709551616 ^ (i + p.1) * p.2.1 = pv 18446744073709551616 os0 (i + p.1) + 18446744073709551616 ^ i * (x * pv 18446744073709551616 ys p.1) ∧
          ∀ j, i + p.1 ≤ j → p.2.2.getD j 0 = os0.getD j 0) (fun p => ys.length - p.1) (0, 0, os0))
      · exact subs
      · exact ⟨e, o, i1, Nat.zero_le _, i3, by simp only []; omega, by simp [pv], fun _ _ => rfl⟩
      · rintro ⟨k, c, os⟩ h2 ⟨e', o', j1, j2, j3, j4, j5, j6⟩
        dsimp only at e' o' j1 j2 j3 j4 j5 j6 ⊢
        have hb2 := hb.ext e'
        refine runM ?_
        (apply w_condD; exact rfl; exact rfl) <;> intro hk
        · refine runM ?_
          have hyk := hy.getD (by omega) k
          have hok := j3.getD (by omega) (i + k)
          have hoe := j6 (i + k) (Nat.le_refl _)
          have hst := mul_step (b := 18446744073709551616) (y := ys.getD k 0) (o := os.getD (i + k) 0) j5 (Nat.pow_add _ _ _) _ rfl
          generalize hyd : ys.getD k 0 = y at *
          have hw := mul_word hxi hyk j4 hok
          apply (s_call Tryz_ent164 rfl rfl rfl)
          refine (mul64_spec x y h2 hxi hyk).mono ?_
          rintro _ _ ⟨rfl, rfl⟩
          refine clsI ?_
          generalize hq : x * y = q at *
          have hcar := mul_carry hw j4 hok
          refine runM ?_
          apply (s_extern (add64_run _ _ 0 (by omega) (Nat.mod_lt _ (by omega)) j4) rfl rfl)
          simp only [Nat.add_zero]
          obtain ⟨hc1, hc2, hc3, hc4⟩ := hcar
          have hc5 : q / 18446744073709551616 + (q % 18446744073709551616 + c) / 18446744073709551616 + (os.getD (i + k) 0 + (q % 18446744073709551616 + c) % 18446744073709551616) / 18446744073709551616 < 18446744073709551616 := by rw [hc2]; exact hc4
          refine runM ?_
          apply (s_extern (add64_run _ _ 0 (by omega) hok (Nat.mod_lt _ (by omega))) rfl rfl)
          simp only [Nat.add_zero]
          rw [hc3]
          have hm : (os.getD (i + k) 0 + q + c) % 18446744073709551616 < 18446744073709551616 := Nat.mod_lt _ (by omega)
          generalize hw1 : (os.getD (i + k) 0 + q + c) % 18446744073709551616 = w1 at *
          refine runM ?_
          (apply (s_storeF (w1)); exact rfl; exact rfl; exact rfl; exact rfl; exact rfl; exact o'; exact rfl; (first | assumption | omega))
          intro h3 o3 k3
          refine clsI ?_
          have e3 := o'.old k3 e' (Nat.le_refl _)
          refine runM ?_
          rw [hc2]
          apply again_normal (k + 1, (os.getD (i + k) 0 + q + c) / 18446744073709551616, os.set (i + k) w1)
          · exact subs
          · refine ⟨e3, o3, by simp [j1], hk, j3.set hm _, hc4, ?_, fun j hj => ?_⟩
            · simp only []
              rw [← Nat.add_assoc, pv, pv_set (Nat.le_refl _), getD_set_self (by omega), Nat.pow_succ]
              simp only [pv]
              rw [hyd, ← hoe]
              exact hst
            · simp only [] at hj ⊢
              rw [getD_set_other (by omega)]; exact j6 j (by omega)
          · simp only []; omega
        · have hke : k = ys.length := by omega
          subst hke
          rw [pv_full (Nat.le_refl _), i4] at j5
          refine runM ?_
          (apply (s_storeF (c)); exact rfl; exact rfl; exact rfl; exact rfl; exact rfl; exact o'; exact rfl; (first | assumption | omega))
          intro h3 o3 k3
          refine clsI ?_
          have e3 := o'.old k3 e' (Nat.le_refl _)
          refine runM ?_
          apply again_normal (i + 1, os.set (i + ys.length) c)
          · exact subs
          · refine ⟨e3, o3, by simp [j1], hi, j3.set j4 _, ?_⟩
            simp only []
            rw [show i + 1 + ys.length = i + ys.length + 1 by omega, pv, pv_set (Nat.le_refl _), getD_set_self (by omega), j5, pv, hxd, Nat.add_mul, Nat.mul_assoc]
          · simp only []; omega
    · refine runM ?_
      have hie : i = xs.length := by omega
      subst hie
      apply (s_call Tryz_ent126 rfl rfl rfl)
      refine (norm_spec out _ h' o.sl (by omega)).mono ?_
      rintro v3 _ ⟨rfl, s3, o3⟩
      refine clsI ?_
      refine runM ?_
      refine fin1 rfl rfl ⟨e, ?_⟩
      have := o3 _ _ o
      rw [pv_full (by omega), pv_full (Nat.le_refl _)] at i4
      rw [nrm_eq (by omega) i3, i4] at this
      exact this
end Go.Proofs.YtfcmdefigldpnaaGreatDoor


/- Texts Dig to NatK of this work, joined, without what the law does not lean on. -/
import Derived.Test.YtfcmdefigldpnaaGreatDoorMKa7
import Derived.Laws.World
import Derived.Shelf.Spec.BitsCarry
namespace Go.Dig

def vl (b : Nat) : List Nat → Nat
  | [] => 0
  | x :: xs => x + b * vl b xs
def nrm : List Nat → List Nat
  | [] => []
  | x :: xs => match nrm xs with
    | [] => if x = 0 then [] else [x]
    | y :: ys => x :: y :: ys
def dgo (b : Nat) : Nat → Nat → List Nat
  | 0, _ => []
  | f + 1, n => if n = 0 then [] else n % b :: dgo b f (n / b)
/-- The digits of n, the lowest first, without noughts at the end. -/
def dg (b n : Nat) : List Nat := dgo b n n
def Al (b : Nat) (xs : List Nat) : Prop := ∀ x ∈ xs, x < b
/-- The value of the lowest k digits. -/
def pv (b : Nat) (xs : List Nat) : Nat → Nat
  | 0 => 0
  | k + 1 => pv b xs k + b ^ k * xs.getD k 0

section
variable {b : Nat}

theorem Al.nil : Al b [] := fun _ h => by cases h
theorem Al.cons {x : Nat} {xs : List Nat} (h : x < b) (k : Al b xs) : Al b (x :: xs) := fun y hy => by
  rcases List.mem_cons.1 hy with rfl | hy
  · exact h
  · exact k y hy
theorem Al.head {x : Nat} {xs : List Nat} (h : Al b (x :: xs)) : x < b := h x (by simp)
theorem Al.tail {x : Nat} {xs : List Nat} (h : Al b (x :: xs)) : Al b xs := fun y hy => h y (by simp [hy])
theorem Al.app {xs ys : List Nat} (h : Al b xs) (k : Al b ys) : Al b (xs ++ ys) := fun y hy => by
  rcases List.mem_append.1 hy with hy | hy
  · exact h y hy
  · exact k y hy
theorem Al.snoc {xs : List Nat} {x : Nat} (h : Al b xs) (k : x < b) : Al b (xs ++ [x]) := h.app (Al.cons k Al.nil)
theorem Al.getD {xs : List Nat} (h : Al b xs) (hb : 0 < b) (i : Nat) : xs.getD i 0 < b := by
  by_cases hi : i < xs.length
  · have : xs.getD i 0 = xs[i] := by simp [hi]
    rw [this]; exact h _ (List.getElem_mem hi)
  · rw [show xs.getD i 0 = 0 by simp [List.getD, List.getElem?_eq_none (Nat.le_of_not_lt hi)]]; exact hb
theorem Al.take {xs : List Nat} (h : Al b xs) (k : Nat) : Al b (xs.take k) := fun y hy => h y (List.mem_of_mem_take hy)
theorem Al.drop {xs : List Nat} (h : Al b xs) (k : Nat) : Al b (xs.drop k) := fun y hy => h y (List.mem_of_mem_drop hy)
theorem Al.set {xs : List Nat} (h : Al b xs) {x : Nat} (k : x < b) (i : Nat) : Al b (xs.set i x) := fun y hy => by
  rcases List.mem_or_eq_of_mem_set hy with hy | rfl
  · exact h y hy
  · exact k
theorem Al.replicate (hb : 0 < b) (k : Nat) : Al b (List.replicate k 0) := fun y hy => by rw [(List.mem_replicate.1 hy).2]; exact hb
theorem getD_none {xs : List Nat} {i : Nat} (h : xs.length ≤ i) : xs.getD i 0 = 0 := by simp [List.getD, List.getElem?_eq_none h]

theorem vl_append (xs ys : List Nat) : vl b (xs ++ ys) = vl b xs + b ^ xs.length * vl b ys := by
  induction xs with
  | nil => simp [vl]
  | cons x xs ih =>
    simp only [List.cons_append, vl, ih, List.length_cons, Nat.pow_succ, Nat.mul_add, ← Nat.add_assoc]
    congr 1
    rw [Nat.mul_comm (b ^ xs.length) b, Nat.mul_assoc]
theorem vl_snoc (xs : List Nat) (x : Nat) : vl b (xs ++ [x]) = vl b xs + b ^ xs.length * x := by simp [vl_append, vl]
theorem vl_lt {xs : List Nat} (h : Al b xs) : vl b xs < b ^ xs.length := by
  induction xs with
  | nil => simp [vl]
  | cons x xs ih =>
    have h1 := ih h.tail
    have h2 := h.head
    simp only [vl, List.length_cons, Nat.pow_succ]
    have : b * (vl b xs + 1) ≤ b * b ^ xs.length := Nat.mul_le_mul_left b h1
    rw [Nat.mul_comm (b ^ xs.length) b]
    rw [Nat.mul_add] at this
    omega
theorem vl_zeros (k : Nat) : vl b (List.replicate k 0) = 0 := by
  induction k with
  | zero => rfl
  | succ k ih => simp [List.replicate_succ, vl, ih]
theorem pv_eq (xs : List Nat) : ∀ k, pv b xs k = vl b (xs.take k)
  | 0 => by simp [pv, vl]
  | k + 1 => by
    simp only [pv, pv_eq xs k]
    by_cases hk : k < xs.length
    · rw [List.take_add_one, List.getElem?_eq_getElem hk, Option.toList_some, vl_snoc, List.length_take, Nat.min_eq_left (Nat.le_of_lt hk)]
      simp [hk]
    · rw [getD_none (Nat.le_of_not_lt hk), List.take_of_length_le (by omega), List.take_of_length_le (by omega)]
      omega
theorem pv_full {xs : List Nat} {k : Nat} (h : xs.length ≤ k) : pv b xs k = vl b xs := by rw [pv_eq, List.take_of_length_le h]
theorem vl_split (xs : List Nat) (k : Nat) : vl b xs = pv b xs k + b ^ k * vl b (xs.drop k) := by
  rw [pv_eq]
  by_cases hk : k ≤ xs.length
  · have := vl_append (b := b) (xs.take k) (xs.drop k)
    rw [List.take_append_drop, List.length_take, Nat.min_eq_left hk] at this
    exact this
  · rw [List.take_of_length_le (by omega), List.drop_of_length_le (by omega)]; simp [vl]
theorem pv_lt {xs : List Nat} (h : Al b xs) (hb : 0 < b) (k : Nat) : pv b xs k < b ^ k := by
  rw [pv_eq]
  refine Nat.lt_of_lt_of_le (vl_lt (h.take k)) (Nat.pow_le_pow_right hb ?_)
  rw [List.length_take]; omega
theorem pv_set {xs : List Nat} {i x k : Nat} (h : k ≤ i) : pv b (xs.set i x) k = pv b xs k := by
  rw [pv_eq, pv_eq, List.take_set, List.set_eq_of_length_le]
  rw [List.length_take]; omega
theorem getD_set_self {xs : List Nat} {i x : Nat} (h : i < xs.length) : (xs.set i x).getD i 0 = x := by simp [h]
theorem getD_set_other {xs : List Nat} {i j x : Nat} (h : i ≠ j) : (xs.set i x).getD j 0 = xs.getD j 0 := by simp [List.getElem?_set_ne h]

theorem nrm_cons (x : Nat) (xs : List Nat) : nrm (x :: xs) = if nrm xs = [] ∧ x = 0 then [] else x :: nrm xs := by
  simp only [nrm]
  cases hn : nrm xs with
  | nil => by_cases hx : x = 0 <;> simp [hx]
  | cons y ys => simp
theorem nrm_snoc0 (xs : List Nat) : nrm (xs ++ [0]) = nrm xs := by
  induction xs with
  | nil => rfl
  | cons x xs ih => rw [List.cons_append, nrm_cons, nrm_cons, ih]
theorem nrm_last : ∀ (xs : List Nat), xs.getD (xs.length - 1) 0 ≠ 0 → nrm xs = xs
  | [], h => by simp at h
  | [x], h => by simp at h; simp [nrm, h]
  | x :: y :: xs, h => by
    have ih := nrm_last (y :: xs) (by simpa using h)
    rw [nrm_cons, ih]; simp
theorem vl_nrm (xs : List Nat) : vl b (nrm xs) = vl b xs := by
  induction xs with
  | nil => rfl
  | cons x xs ih =>
    rw [nrm_cons]
    split
    · rename_i h
      rw [h.1] at ih
      simp only [vl, ← ih, h.2]; simp
    · simp only [vl, ih]
theorem nrm_nil {xs : List Nat} (h : nrm xs = []) : vl b xs = 0 := by rw [← vl_nrm, h]; rfl
theorem nrm_zero (hb : 0 < b) {xs : List Nat} (h : vl b xs = 0) : nrm xs = [] := by
  induction xs with
  | nil => rfl
  | cons x xs ih =>
    simp only [vl] at h
    have h1 : x = 0 := by omega
    have h2 : vl b xs = 0 := by
      have : b * vl b xs = 0 := by omega
      rcases Nat.mul_eq_zero.1 this with h | h
      · omega
      · exact h
    rw [nrm_cons, ih h2, if_pos ⟨rfl, h1⟩]
theorem dgo_eq (hb : 1 < b) : ∀ (f n : Nat), n ≤ f → ∀ xs, Al b xs → vl b xs = n → nrm xs = dgo b f n
  | 0, n, hn, xs, _, hv => by
    have : n = 0 := by omega
    subst this
    rw [nrm_zero (by omega) hv]; rfl
  | f + 1, n, hn, xs, ha, hv => by
    simp only [dgo]
    by_cases h0 : n = 0
    · subst h0; rw [if_pos rfl, nrm_zero (by omega) hv]
    · rw [if_neg h0]
      cases xs with
      | nil => simp [vl] at hv; omega
      | cons x xs =>
        have hx := ha.head
        simp only [vl] at hv
        have hm : n % b = x := by rw [← hv, Nat.add_mul_mod_self_left, Nat.mod_eq_of_lt hx]
        have hd : n / b = vl b xs := by rw [← hv, Nat.add_mul_div_left _ _ (by omega), Nat.div_eq_of_lt hx, Nat.zero_add]
        have hlt : n / b ≤ f := by
          have := Nat.div_lt_self (Nat.pos_of_ne_zero h0) hb
          omega
        rw [hm, ← dgo_eq hb f (n / b) hlt xs ha.tail hd.symm, nrm_cons, if_neg]
        rintro ⟨h1, h2⟩
        have := nrm_nil (b := b) h1
        rw [this, h2] at hv; simp at hv; omega
/-- Digits without noughts at the end are what their value says. -/
theorem nrm_eq (hb : 1 < b) {xs : List Nat} (ha : Al b xs) : nrm xs = dg b (vl b xs) := dgo_eq hb _ _ (Nat.le_refl _) xs ha rfl
theorem vl_dgo (hb : 1 < b) : ∀ (f n : Nat), n ≤ f → vl b (dgo b f n) = n
  | 0, n, hn => by simp [dgo, vl]; omega
  | f + 1, n, hn => by
    simp only [dgo]
    by_cases h0 : n = 0
    · simp [h0, vl]
    · rw [if_neg h0]
      have hlt : n / b ≤ f := by
        have := Nat.div_lt_self (Nat.pos_of_ne_zero h0) hb
        omega
      simp only [vl, vl_dgo hb f (n / b) hlt]
      exact Nat.mod_add_div n b
theorem vl_dg (hb : 1 < b) (n : Nat) : vl b (dg b n) = n := vl_dgo hb n n (Nat.le_refl _)
theorem al_dgo (hb : 0 < b) : ∀ (f n : Nat), Al b (dgo b f n)
  | 0, n => Al.nil
  | f + 1, n => by
    simp only [dgo]
    split
    · exact Al.nil
    · exact Al.cons (Nat.mod_lt _ hb) (al_dgo hb f _)
theorem al_dg (hb : 0 < b) (n : Nat) : Al b (dg b n) := al_dgo hb n n
theorem nrm_dg (hb : 1 < b) (n : Nat) : nrm (dg b n) = dg b n := by rw [nrm_eq hb (al_dg (by omega) n), vl_dg hb]
theorem dg_zero : dg b 0 = [] := rfl
theorem dg_nil (hb : 1 < b) {n : Nat} : dg b n = [] ↔ n = 0 := by
  constructor
  · intro h; have := vl_dg hb n; rw [h] at this; exact this.symm
  · rintro rfl; rfl
theorem dg_len0 (hb : 1 < b) {n : Nat} : (dg b n).length = 0 ↔ n = 0 := by rw [List.length_eq_zero_iff]; exact dg_nil hb
theorem nrm_len (xs : List Nat) : (nrm xs).length ≤ xs.length := by
  induction xs with
  | nil => simp [nrm]
  | cons x xs ih =>
    rw [nrm_cons]
    split
    · simp
    · simpa using ih
theorem nrm_pre (xs : List Nat) : nrm xs = xs.take (nrm xs).length := by
  induction xs with
  | nil => simp [nrm]
  | cons x xs ih =>
    rw [nrm_cons]
    split
    · simp
    · simpa using ih
theorem nrm_nrm (xs : List Nat) : nrm (nrm xs) = nrm xs := by
  induction xs with
  | nil => rfl
  | cons x xs ih =>
    rw [nrm_cons]
    split
    · rfl
    · rename_i hc
      rw [nrm_cons, ih, if_neg hc]
/-- The highest digit is not 0. -/
theorem dg_ge (hb : 1 < b) {n : Nat} (h : n ≠ 0) : b ^ ((dg b n).length - 1) ≤ n := by
  have key : ∀ xs, nrm xs = xs → xs ≠ [] → b ^ (xs.length - 1) ≤ vl b xs := by
    intro xs
    induction xs with
    | nil => intro _ h; exact absurd rfl h
    | cons x xs ih =>
      intro hn _
      rw [nrm_cons] at hn
      split at hn
      · cases hn
      · rename_i hc
        simp only [List.cons.injEq, true_and] at hn
        cases xs with
        | nil =>
          simp only [nrm] at hc
          simp [vl]; simp at hc; omega
        | cons y ys =>
          have := ih hn (by simp)
          simp only [List.length_cons, Nat.add_sub_cancel, vl, Nat.pow_succ] at this ⊢
          have : b * b ^ ys.length ≤ b * (y + b * vl b ys) := Nat.mul_le_mul_left b this
          rw [Nat.mul_comm (b ^ ys.length) b]; omega
  have := key (dg b n) (nrm_dg hb n) (fun h' => h ((dg_nil hb).1 h'))
  rwa [vl_dg hb] at this
theorem dg_lt (hb : 1 < b) (n : Nat) : n < b ^ (dg b n).length := by
  have := vl_lt (al_dg (b := b) (by omega) n)
  rwa [vl_dg hb] at this
theorem dg_len (hb : 1 < b) {n k : Nat} (h : n < b ^ k) : (dg b n).length ≤ k := by
  by_cases h0 : n = 0
  · subst h0; simp [dg_zero]
  · have h1 := dg_ge hb h0
    have := Nat.lt_of_le_of_lt h1 h
    have := (Nat.pow_lt_pow_iff_right hb).1 this
    omega
end
end Go.Dig


namespace Go.Proofs.YtfcmdefigldpnaaGreatDoor
set_option linter.unusedVariables false
set_option maxRecDepth 8000
open Go Go.Den Go.RowKit Go.Dig

theorem nrm_take {xs : List Nat} (h0 : 0 < xs.length) (hz : xs.getD (xs.length - 1) 0 = 0) : nrm (xs.take (xs.length - 1)) = nrm xs := by
  have : xs = xs.take (xs.length - 1) ++ [0] := by
    have h1 : xs.getLast (by intro e; simp [e] at h0) = 0 := by
      rw [List.getLast_eq_getElem]
      have h2 : xs.length - 1 < xs.length := by omega
      simpa [List.getElem?_eq_getElem h2] using hz
    rw [← h1, ← List.dropLast_eq_take, List.dropLast_concat_getLast]
  conv => rhs; rw [this, nrm_snoc0]

theorem Tryz_ent126 : Ent Tryz.prog 126 := ent_of Tryz.func126 (by kernel_rfl) rfl
theorem norm_spec' (v : Value) (xs : List Nat) (h : Hp) (hs : SlF h U v xs) (hl : xs.length < 4611686018427387904) :
    CallsH Tryz.prog 126 [v] h fun v' h' => h = h' ∧ ∀ h0, (SlF h0 U v xs → SlF h0 U v' (nrm xs)) ∧ ∀ B e, OwnF h0 B e U v xs → OwnF h0 B e U v' (nrm xs) := by
  (apply enter Tryz.func126 rfl Tryz.ntmps126 rfl)
  refine runM ?_
  (first | (apply w_seqB; exact rfl; apply w_block; exact rfl) | skip)
  apply (w_loop (σ := Value × List Nat) rfl (fun p => [(0, p.1)])
    (fun p h' => h = h' ∧ p.2.length ≤ xs.length ∧ nrm p.2 = nrm xs ∧ ∀ h0, (SlF h0 U v xs → SlF h0 U p.1 p.2) ∧ ∀ B e, OwnF h0 B e U v xs → OwnF h0 B e U p.1 p.2) (fun p => p.2.length) (v, xs))
  · exact (Sub.cons rfl (Sub.nil _))
  · exact ⟨rfl, Nat.le_refl _, rfl, fun _ => ⟨fun s => s, fun _ _ o => o⟩⟩
  · rintro ⟨v', ys⟩ h' ⟨rfl, i2, i3, i4⟩
    dsimp only at i2 i3 i4 ⊢
    have i1 := (i4 h).1 hs
    refine runM ?_
    (apply s_split 6; exact rfl) <;> intro hp
    · refine runM ?_
      (apply w_condD; exact rfl; exact rfl) <;> intro hz
      · refine runM ?_
        apply again_normal (cutV 1 v' 0 (ys.length - 1), ys.take (ys.length - 1))
        · exact (Sub.cons rfl (Sub.nil _))
        · refine ⟨rfl, by simp only [List.length_take]; omega, by simp only []; rw [nrm_take hp hz, i3], fun h0 => ⟨fun s => ?_, fun B e o => ((i4 h0).2 B e o).front (by omega)⟩⟩
          have := ((i4 h0).1 s).cut (lo := 0) (hi := ys.length - 1) (by omega) (by omega)
          simpa using this
        · simp only [List.length_take]; omega
      · refine runM ?_
        have hn : nrm ys = ys := nrm_last ys hz
        rw [← i3, hn]
        exact fin1 rfl rfl ⟨rfl, i4⟩
    · refine runM ?_
      have he : ys = [] := List.eq_nil_of_length_eq_zero (by omega)
      subst he
      rw [← i3]
      exact fin1 rfl rfl ⟨rfl, i4⟩
theorem norm_spec (v : Value) (xs : List Nat) (h : Hp) (hs : SlF h U v xs) (hl : xs.length < 4611686018427387904) :
    CallsH Tryz.prog 126 [v] h fun v' h' => h = h' ∧ SlF h U v' (nrm xs) ∧ ∀ B e, OwnF h B e U v xs → OwnF h B e U v' (nrm xs) :=
  (norm_spec' v xs h hs hl).mono fun v' h' ⟨g1, g2⟩ => ⟨g1, (g2 h).1 hs, (g2 h).2⟩

theorem Tryz_ent131 : Ent Tryz.prog 131 := ent_of Tryz.func131 (by kernel_rfl) rfl
theorem trim_spec (v : Value) (xs : List Nat) (h : Hp) (hs : SlF h N v xs) (hl : xs.length < 4611686018427387904) :
    CallsH Tryz.prog 131 [v] h fun v' h' => h = h' ∧ SlF h N v' (nrm xs) ∧ ∀ B e, OwnF h B e N v xs → OwnF h B e N v' (nrm xs) := by
  (apply enter Tryz.func131 rfl Tryz.ntmps131 rfl)
  refine runM ?_
  (first | (apply w_seqB; exact rfl; apply w_block; exact rfl) | skip)
  apply (w_loop (σ := Value × List Nat) rfl (fun p => [(0, p.1)])
    (fun p h' => h = h' ∧ SlF h N p.1 p.2 ∧ p.2.length ≤ xs.length ∧ nrm p.2 = nrm xs ∧ ∀ B e, OwnF h B e N v xs → OwnF h B e N p.1 p.2) (fun p => p.2.length) (v, xs))
  · exact (Sub.cons rfl (Sub.nil _))
  · exact ⟨rfl, hs, Nat.le_refl _, rfl, fun _ _ o => o⟩
  · rintro ⟨v', ys⟩ h' ⟨rfl, i1, i2, i3, i4⟩
    dsimp only at i1 i2 i3 i4 ⊢
    refine runM ?_
    (apply s_split 6; exact rfl) <;> intro hp
    · refine runM ?_
      (apply w_condD; exact rfl; exact rfl) <;> intro hz
      · refine runM ?_
        apply again_normal (cutV 1 v' 0 (ys.length - 1), ys.take (ys.length - 1))
        · exact (Sub.cons rfl (Sub.nil _))
        · refine ⟨rfl, ?_, by simp only [List.length_take]; omega, by simp only []; rw [nrm_take hp hz, i3], fun B e o => (i4 B e o).front (by omega)⟩
          have := i1.cut (lo := 0) (hi := ys.length - 1) (by omega) (by omega)
          simpa using this
        · simp only [List.length_take]; omega
      · refine runM ?_
        have hn : nrm ys = ys := nrm_last ys hz
        rw [← i3, hn]
        exact fin1 rfl rfl ⟨rfl, i1, i4⟩
    · refine runM ?_
      have he : ys = [] := List.eq_nil_of_length_eq_zero (by omega)
      subst he
      rw [← i3]
      exact fin1 rfl rfl ⟨rfl, i1, i4⟩

end Go.Proofs.YtfcmdefigldpnaaGreatDoor


namespace Go.Proofs.YtfcmdefigldpnaaGreatDoor
set_option linter.unusedVariables false
set_option maxRecDepth 8000
open Go Go.Den Go.RowKit Go.Dig

theorem Tryz_ent201 : Ent Tryz.prog 201 := ent_of Tryz.func201 (by kernel_rfl) rfl
theorem at_spec (v : Value) (xs : List Nat) (i : Nat) (h : Hp) (hs : SlF h N v xs) (hl : xs.length < 4611686018427387904) :
    CallsH Tryz.prog 201 [v, N i] h fun v' h' => v' = N (xs.getD i 0) ∧ h = h' := by
  (apply enter Tryz.func201 rfl Tryz.ntmps201 rfl)
  refine runM ?_
  (apply w_condD; exact rfl; exact rfl) <;> intro hi
  · refine runM ?_
    exact fin1 rfl rfl ⟨rfl, rfl⟩
  · refine runM ?_
    exact fin1 rfl rfl ⟨by rw [getD_none (by omega)], rfl⟩

end Go.Proofs.YtfcmdefigldpnaaGreatDoor


namespace Go.Proofs.YtfcmdefigldpnaaGreatDoor
set_option linter.unusedVariables false
set_option maxRecDepth 8000
open Go Go.Den Go.RowKit Go.Dig

end Go.Proofs.YtfcmdefigldpnaaGreatDoor


namespace Go.Proofs.YtfcmdefigldpnaaGreatDoor
set_option linter.unusedVariables false
set_option maxRecDepth 8000
open Go Go.Den Go.RowKit Go.Dig

theorem mul_word {x y c o : Nat} (hx : x < 18446744073709551616) (hy : y < 18446744073709551616) (hc : c < 18446744073709551616) (ho : o < 18446744073709551616) :
    o + x * y + c < 18446744073709551616 * 18446744073709551616 := by
  have : x * y ≤ 18446744073709551615 * 18446744073709551615 := Nat.mul_le_mul (by omega) (by omega)
  omega
theorem mul_carry {q c o : Nat} (hq : o + q + c < 18446744073709551616 * 18446744073709551616) (hc : c < 18446744073709551616) (ho : o < 18446744073709551616) :
    q / 18446744073709551616 + (q % 18446744073709551616 + c) / 18446744073709551616 < 18446744073709551616 ∧
    q / 18446744073709551616 + (q % 18446744073709551616 + c) / 18446744073709551616 + (o + (q % 18446744073709551616 + c) % 18446744073709551616) / 18446744073709551616 = (o + q + c) / 18446744073709551616 ∧
    (o + (q % 18446744073709551616 + c) % 18446744073709551616) % 18446744073709551616 = (o + q + c) % 18446744073709551616 ∧ (o + q + c) / 18446744073709551616 < 18446744073709551616 := by omega
theorem mul_step {B W x y c o p q v p0 : Nat} (h : v + B * c = p0 + q * (x * p)) (hB : B = q * W) (n : Nat) (hn : n = o + x * y + c) {b : Nat} :
    v + B * (n % b) + B * b * (n / b) = (p0 + B * o) + q * (x * (p + W * y)) := by
  have := Nat.mod_add_div n b
  have e : B * (n % b) + B * b * (n / b) = B * n := by rw [Nat.mul_assoc, ← Nat.mul_add, this]
  have e2 : q * (x * (p + W * y)) = q * (x * p) + B * (x * y) := by
    subst hB
    rw [Nat.mul_add, Nat.mul_add, Nat.mul_assoc q W]
    congr 2
    rw [← Nat.mul_assoc, ← Nat.mul_assoc, Nat.mul_comm x W]
  rw [e2, Nat.add_assoc, e, hn, Nat.mul_add, Nat.mul_add]
  omega

theorem Tryz_ent122 : Ent Tryz.prog 122 := ent_of Tryz.func122 (by kernel_rfl) rfl
set_option maxHeartbeats 800000 in
theorem nmul_spec (va vb : Value) (xs ys : List Nat) (h : Hp) (ha : SlF h U va xs) (hb : SlF h U vb ys) (hx : Al 18446744073709551616 xs) (hy : Al 18446744073709551616 ys) (hl : xs.length < 1099511627776) (hl2 : ys.length < 1099511627776) :
    CallsH Tryz.prog 122 [va, vb] h fun v' h' => Ext h h' ∧ OwnF h' h.size 26 U v' (dg 18446744073709551616 (vl 18446744073709551616 xs * vl 18446744073709551616 ys)) := by
  (apply enter Tryz.func122 rfl Tryz.ntmps122 rfl)
  refine runM ?_
  (apply (s_make (f := U) (bytes := 8) (0)); (first | exact isK_c | exact isK_t rfl); (first | exact isK_c | exact isK_t rfl); exact rfl; exact rfl; exact rfl; exact rfl; exact rfl; exact rfl; omega; omega; omega)
  intro out h1 o1 e1 b1
  refine ⟨(by first | exact trivial | exact Ext.refl _ | assumption | exact Ext.trans (by assumption) (by assumption)), ?_⟩
  refine runM ?_
  (first | (apply w_seqB; exact rfl; apply w_block; exact rfl) | skip)
  apply (w_loop (σ := Nat × List Nat) rfl (fun p => [(1, vb), (20, va), (21, N xs.length), (22, N p.1), (5, out)])
    (fun p h' => Ext h h' ∧ OwnF h' h.size 26 U out p.2 ∧ p.2.length = xs.length + ys.length ∧ p.1 ≤ xs.length ∧ Al 18446744073709551616 p.2 ∧
      pv 18446744073709551616 p.2 (p.1 + ys.length) = pv 18446744073709551616 xs p.1 * vl 18446744073709551616 ys) (fun p => xs.length - p.1) (0, List.replicate (xs.length + ys.length) 0))
  · exact (Sub.cons rfl (Sub.cons rfl (Sub.cons rfl (Sub.cons rfl (Sub.cons rfl (Sub.nil _))))))
  · refine ⟨e1, o1, by simp, Nat.zero_le _, Al.replicate (by omega) _, ?_⟩
    simp only [pv_eq, List.take_replicate, vl_zeros, List.take_zero, vl, Nat.zero_mul]
  · rintro ⟨i, os0⟩ h' ⟨e, o, i1, i2, i3, i4⟩
    dsimp only at e o i1 i2 i3 i4 ⊢
    have ha' := ha.ext e
    have hb' := hb.ext e
    refine runM ?_
    (apply w_condD; exact rfl; exact rfl) <;> intro hi
    · refine runM ?_
      have hxi := hx.getD (by omega) i
      generalize hxd : xs.getD i 0 = x at *
      (first | (apply w_seqB; exact rfl; apply w_block; exact rfl) | skip)
      apply (w_loop (σ := Nat × Nat × List Nat) rfl (fun p => [(1, vb), (20, va), (21, N xs.length), (22, N i), (5, out), (6, N i), (7, U x), (27, vb), (28, N ys.length), (29, N p.1), (8, U p.2.1)])
        (fun p h' => Ext h h' ∧ OwnF h' h.size 26 U out p.2.2 ∧ p.2.2.length = xs.length + ys.length ∧ p.1 ≤ ys.length ∧ Al 18446744073709551616 p.2.2 ∧ p.2.1 < 18446744073709551616 ∧
          pv 18446744073709551616 p.2.2 (i + p.1) + 18446744073709551616 ^ (i + p.1) * p.2.1 = pv 18446744073709551616 os0 (i + p.1) + 18446744073709551616 ^ i * (x * pv 18446744073709551616 ys p.1) ∧
          ∀ j, i + p.1 ≤ j → p.2.2.getD j 0 = os0.getD j 0) (fun p => ys.length - p.1) (0, 0, os0))
      · exact (Sub.cons rfl (Sub.cons rfl (Sub.cons rfl (Sub.cons rfl (Sub.cons rfl (Sub.cons rfl (Sub.cons rfl (Sub.cons rfl (Sub.cons rfl (Sub.cons rfl (Sub.cons rfl (Sub.nil _))))))))))))
      · exact ⟨e, o, i1, Nat.zero_le _, i3, by simp only []; omega, by simp [pv], fun _ _ => rfl⟩
      · rintro ⟨k, c, os⟩ h2 ⟨e', o', j1, j2, j3, j4, j5, j6⟩
        dsimp only at e' o' j1 j2 j3 j4 j5 j6 ⊢
        have hb2 := hb.ext e'
        refine runM ?_
        (apply w_condD; exact rfl; exact rfl) <;> intro hk
        · refine runM ?_
          have hyk := hy.getD (by omega) k
          have hok := j3.getD (by omega) (i + k)
          have hoe := j6 (i + k) (Nat.le_refl _)
          have hst := mul_step (b := 18446744073709551616) (y := ys.getD k 0) (o := os.getD (i + k) 0) j5 (Nat.pow_add _ _ _) _ rfl
          generalize hyd : ys.getD k 0 = y at *
          have hw := mul_word hxi hyk j4 hok
          apply (s_call Tryz_ent164 rfl rfl rfl)
          refine (mul64_spec x y h2 hxi hyk).mono ?_
          rintro _ _ ⟨rfl, rfl⟩
          refine ⟨(by first | exact trivial | exact Ext.refl _ | assumption | exact Ext.trans (by assumption) (by assumption)), ?_⟩
          generalize hq : x * y = q at *
          have hcar := mul_carry hw j4 hok
          refine runM ?_
          apply (s_extern (add64_run _ _ 0 (by omega) (Nat.mod_lt _ (by omega)) j4) rfl rfl)
          simp only [Nat.add_zero]
          obtain ⟨hc1, hc2, hc3, hc4⟩ := hcar
          have hc5 : q / 18446744073709551616 + (q % 18446744073709551616 + c) / 18446744073709551616 + (os.getD (i + k) 0 + (q % 18446744073709551616 + c) % 18446744073709551616) / 18446744073709551616 < 18446744073709551616 := by rw [hc2]; exact hc4
          refine runM ?_
          apply (s_extern (add64_run _ _ 0 (by omega) hok (Nat.mod_lt _ (by omega))) rfl rfl)
          simp only [Nat.add_zero]
          rw [hc3]
          have hm : (os.getD (i + k) 0 + q + c) % 18446744073709551616 < 18446744073709551616 := Nat.mod_lt _ (by omega)
          generalize hw1 : (os.getD (i + k) 0 + q + c) % 18446744073709551616 = w1 at *
          refine runM ?_
          (apply (s_storeF (w1)); exact rfl; exact rfl; exact rfl; exact rfl; exact rfl; exact o'; exact rfl; (first | assumption | omega))
          intro h3 o3 k3
          refine ⟨(by first | exact trivial | exact Ext.refl _ | assumption | exact Ext.trans (by assumption) (by assumption)), ?_⟩
          have e3 := o'.old k3 e' (Nat.le_refl _)
          refine runM ?_
          rw [hc2]
          apply again_normal (k + 1, (os.getD (i + k) 0 + q + c) / 18446744073709551616, os.set (i + k) w1)
          · exact (Sub.cons rfl (Sub.cons rfl (Sub.cons rfl (Sub.cons rfl (Sub.cons rfl (Sub.cons rfl (Sub.cons rfl (Sub.cons rfl (Sub.cons rfl (Sub.cons rfl (Sub.cons rfl (Sub.nil _))))))))))))
          · refine ⟨e3, o3, by simp [j1], hk, j3.set hm _, hc4, ?_, fun j hj => ?_⟩
            · simp only []
              rw [← Nat.add_assoc, pv, pv_set (Nat.le_refl _), getD_set_self (by omega), Nat.pow_succ]
              simp only [pv]
              rw [hyd, ← hoe]
              exact hst
            · simp only [] at hj ⊢
              rw [getD_set_other (by omega)]; exact j6 j (by omega)
          · simp only []; omega
        · have hke : k = ys.length := by omega
          subst hke
          rw [pv_full (Nat.le_refl _), i4] at j5
          refine runM ?_
          (apply (s_storeF (c)); exact rfl; exact rfl; exact rfl; exact rfl; exact rfl; exact o'; exact rfl; (first | assumption | omega))
          intro h3 o3 k3
          refine ⟨(by first | exact trivial | exact Ext.refl _ | assumption | exact Ext.trans (by assumption) (by assumption)), ?_⟩
          have e3 := o'.old k3 e' (Nat.le_refl _)
          refine runM ?_
          apply again_normal (i + 1, os.set (i + ys.length) c)
          · exact (Sub.cons rfl (Sub.cons rfl (Sub.cons rfl (Sub.cons rfl (Sub.cons rfl (Sub.nil _))))))
          · refine ⟨e3, o3, by simp [j1], hi, j3.set j4 _, ?_⟩
            simp only []
            rw [show i + 1 + ys.length = i + ys.length + 1 by omega, pv, pv_set (Nat.le_refl _), getD_set_self (by omega), j5, pv, hxd, Nat.add_mul, Nat.mul_assoc]
          · simp only []; omega
    · refine runM ?_
      have hie : i = xs.length := by omega
      subst hie
      apply (s_call Tryz_ent126 rfl rfl rfl)
      refine (norm_spec out _ h' o.sl (by omega)).mono ?_
      rintro v3 _ ⟨rfl, s3, o3⟩
      refine ⟨(by first | exact trivial | exact Ext.refl _ | assumption | exact Ext.trans (by assumption) (by assumption)), ?_⟩
      refine runM ?_
      refine fin1 rfl rfl ⟨e, ?_⟩
      have := o3 _ _ o
      rw [pv_full (by omega), pv_full (Nat.le_refl _)] at i4
      rw [nrm_eq (by omega) i3, i4] at this
      exact this
end Go.Proofs.YtfcmdefigldpnaaGreatDoor


namespace Go.Proofs.YtfcmdefigldpnaaGreatDoor
set_option linter.unusedVariables false
set_option maxRecDepth 8000
open Go Go.Den Go.RowKit Go.Dig

theorem pow16 (k : Nat) : 2 ^ (16 * k) = 65536 ^ k := by rw [Nat.pow_mul]
theorem pow64 (i : Nat) : 65536 ^ (4 * i) = 18446744073709551616 ^ i := by rw [Nat.pow_mul]
theorem dig_step (p B w k : Nat) : p + B * (w % 65536 ^ k) + B * 65536 ^ k * (w / 2 ^ (16 * k) % 65536) = p + B * (w % 65536 ^ (k + 1)) := by
  rw [pow16, Nat.mod_pow_succ, Nat.mul_add, Nat.mul_assoc, Nat.add_assoc]

theorem Tryz_ent73 : Ent Tryz.prog 73 := ent_of Tryz.func73 (by kernel_rfl) rfl
set_option maxHeartbeats 800000 in
theorem digits_spec (va : Value) (xs : List Nat) (h : Hp) (ha : SlF h U va xs) (hx : Al 18446744073709551616 xs) (hl : xs.length < 1099511627776) :
    CallsH Tryz.prog 73 [va] h fun v' h' => Ext h h' ∧ OwnF h' h.size 3 N v' (dg 65536 (vl 18446744073709551616 xs)) := by
  (apply enter Tryz.func73 rfl Tryz.ntmps73 rfl)
  refine runM ?_
  (first | (apply w_seqB; exact rfl; apply w_block; exact rfl) | skip)
  apply (w_loop (σ := Nat × Value × List Nat) rfl (fun p => [(7, va), (8, N xs.length), (9, N p.1), (3, p.2.1)])
    (fun p h' => Ext h h' ∧ OwnF h' h.size 3 N p.2.1 p.2.2 ∧ p.2.2.length = 4 * p.1 ∧ p.1 ≤ xs.length ∧ Al 65536 p.2.2 ∧ vl 65536 p.2.2 = pv 18446744073709551616 xs p.1) (fun p => xs.length - p.1) (0, .slice none 0 0, []))
  · exact (Sub.cons rfl (Sub.cons rfl (Sub.cons rfl (Sub.cons rfl (Sub.nil _)))))
  · exact ⟨Ext.refl h, OwnF.nil _ _ _ _, rfl, Nat.zero_le _, Al.nil, rfl⟩
  · rintro ⟨i, out, os0⟩ h' ⟨e, o, i1, i2, i3, i4⟩
    dsimp only at e o i1 i2 i3 i4 ⊢
    have ha' := ha.ext e
    refine runM ?_
    (apply w_condD; exact rfl; exact rfl) <;> intro hi
    · refine runM ?_
      have hw := hx.getD (by omega) i
      generalize hwd : xs.getD i 0 = w at *
      (first | (apply w_seqB; exact rfl; apply w_block; exact rfl) | skip)
      apply (w_loop (σ := Nat × Value × List Nat) rfl (fun p => [(7, va), (8, N xs.length), (9, N i), (5, U w), (6, N p.1), (3, p.2.1)])
        (fun p h' => Ext h h' ∧ OwnF h' h.size 3 N p.2.1 p.2.2 ∧ p.2.2.length = 4 * i + p.1 ∧ p.1 ≤ 4 ∧ Al 65536 p.2.2 ∧ vl 65536 p.2.2 = pv 18446744073709551616 xs i + 65536 ^ (4 * i) * (w % 65536 ^ p.1)) (fun p => 4 - p.1) (0, out, os0))
      · exact (Sub.cons rfl (Sub.cons rfl (Sub.cons rfl (Sub.cons rfl (Sub.cons rfl (Sub.cons rfl (Sub.nil _)))))))
      · exact ⟨e, o, i1, by simp only []; omega, i3, by simp [i4, Nat.mod_one]⟩
      · rintro ⟨k, out, os⟩ h2 ⟨e', o', j1, j2, j3, j4⟩
        dsimp only at e' o' j1 j2 j3 j4 ⊢
        refine runM ?_
        (apply w_condD; exact rfl; exact rfl) <;> intro hk
        · have hm : w / 2 ^ (16 * k) % 65536 < 65536 := Nat.mod_lt _ (by omega)
          have hd : w / 2 ^ (16 * k) < 18446744073709551616 := Nat.lt_of_le_of_lt (Nat.div_le_self _ _) hw
          have hst := dig_step (pv 18446744073709551616 xs i) (65536 ^ (4 * i)) w k
          refine runM ?_
          generalize hdd : w / 2 ^ (16 * k) % 65536 = d at *
          (refine s_app1 (bytes := 8) (d) o' e' rfl rfl rfl rfl rfl rfl rfl rfl rfl (by first | exact rfl | exact congrArg some (congrArg I (by omega))) (fun _ => rfl) rfl rfl (fun _ _ => trivial) (by omega) (by simp only [maxLen]; omega) ?_)
          intro v3 h3 o3 e3 k3 b3
          refine runM ?_
          apply again_normal (k + 1, v3, os ++ [d])
          · exact (Sub.cons rfl (Sub.cons rfl (Sub.cons rfl (Sub.cons rfl (Sub.cons rfl (Sub.cons rfl (Sub.nil _)))))))
          · refine ⟨e3, o3, by simp [j1]; omega, hk, j3.snoc hm, ?_⟩
            simp only []
            rw [vl_snoc, j4, j1, Nat.pow_add]
            exact hst
          · simp only []; omega
        · have hke : k = 4 := by omega
          subst hke
          refine runM ?_
          apply again_normal (i + 1, out, os)
          · exact (Sub.cons rfl (Sub.cons rfl (Sub.cons rfl (Sub.cons rfl (Sub.nil _)))))
          · refine ⟨e', o', by simp only []; omega, hi, j3, ?_⟩
            simp only []
            rw [j4, pow64, pv, hwd, Nat.mod_eq_of_lt (by omega : w < 65536 ^ 4)]
          · simp only []; omega
    · refine runM ?_
      have hie : i = xs.length := by omega
      subst hie
      rw [pv_full (Nat.le_refl _)] at i4
      apply (s_call Tryz_ent131 rfl rfl rfl)
      refine (trim_spec out _ h' o.sl (by omega)).mono ?_
      rintro v3 _ ⟨rfl, s3, o3⟩
      refine ⟨(by first | exact trivial | exact Ext.refl _ | assumption | exact Ext.trans (by assumption) (by assumption)), ?_⟩
      refine runM ?_
      refine fin1 rfl rfl ⟨e, ?_⟩
      have := o3 _ _ o
      rw [nrm_eq (by omega) i3, i4] at this
      exact this
end Go.Proofs.YtfcmdefigldpnaaGreatDoor


namespace Go.Proofs.YtfcmdefigldpnaaGreatDoor
set_option linter.unusedVariables false
set_option maxRecDepth 8000
open Go Go.Den Go.RowKit Go.Dig

/-- Four digits from place i on, the lowest k of them left out. -/
def gv (l : List Nat) (i : Nat) : Nat → Nat
  | 0 => l.getD i 0 + 65536 * (l.getD (i + 1) 0 + 65536 * (l.getD (i + 2) 0 + 65536 * l.getD (i + 3) 0))
  | 1 => l.getD (i + 1) 0 + 65536 * (l.getD (i + 2) 0 + 65536 * l.getD (i + 3) 0)
  | 2 => l.getD (i + 2) 0 + 65536 * l.getD (i + 3) 0
  | 3 => l.getD (i + 3) 0
  | _ => 0
theorem gv_step (l : List Nat) (i k : Nat) (h : k < 4) : gv l i k = gv l i (k + 1) * 65536 + l.getD (i + k) 0 := by
  rcases (by omega : k = 0 ∨ k = 1 ∨ k = 2 ∨ k = 3) with rfl | rfl | rfl | rfl <;> simp only [gv, Nat.add_zero] <;> omega
theorem gv_lt {l : List Nat} (hl : Al 65536 l) (i k : Nat) (h : k ≤ 4) : gv l i k < 65536 ^ (4 - k) := by
  have h0 := hl.getD (by omega) i
  have h1 := hl.getD (by omega) (i + 1)
  have h2 := hl.getD (by omega) (i + 2)
  have h3 := hl.getD (by omega) (i + 3)
  rcases (by omega : k = 0 ∨ k = 1 ∨ k = 2 ∨ k = 3 ∨ k = 4) with rfl | rfl | rfl | rfl | rfl <;> simp only [gv] <;> omega
theorem gv_word {l : List Nat} (hl : Al 65536 l) (i k : Nat) (h : k < 4) : gv l i (k + 1) * 65536 + l.getD (i + k) 0 < 18446744073709551616 ∧ gv l i (k + 1) * 65536 < 18446744073709551616 ∧ l.getD (i + k) 0 < 18446744073709551616 := by
  have h2 := gv_lt hl i k (by omega)
  have h4 : 65536 ^ (4 - k) ≤ 65536 ^ 4 := Nat.pow_le_pow_right (by omega) (by omega)
  have h5 := gv_step l i k h
  have h6 : gv l i k < 18446744073709551616 := Nat.lt_of_lt_of_le h2 h4
  clear h2 h4
  omega
theorem gv_pv (l : List Nat) (i : Nat) : pv 65536 l (4 * (i + 1)) = pv 65536 l (4 * i) + 65536 ^ (4 * i) * gv l (4 * i) 0 := by
  rw [show 4 * (i + 1) = 4 * i + 1 + 1 + 1 + 1 by omega]
  simp only [pv, gv, Nat.pow_succ]
  generalize 65536 ^ (4 * i) = B
  simp only [Nat.mul_add, Nat.mul_assoc]
  omega

theorem Tryz_ent72 : Ent Tryz.prog 72 := ent_of Tryz.func72 (by kernel_rfl) rfl
set_option maxHeartbeats 800000 in
theorem from_spec (va : Value) (xs0 : List Nat) (h : Hp) (ha0 : SlF h N va xs0) (hx0 : Al 65536 xs0) (hl0 : xs0.length < 1099511627776) :
    CallsH Tryz.prog 72 [va] h fun v' h' => Ext h h' ∧ OwnF h' h.size 26 U v' (dg 18446744073709551616 (vl 65536 xs0)) := by
  (apply enter Tryz.func72 rfl Tryz.ntmps72 rfl)
  refine runM ?_
  apply (s_call Tryz_ent131 rfl rfl rfl)
  refine (trim_spec va _ h ha0 (by omega)).mono ?_
  rintro v1 _ ⟨rfl, ha, -⟩
  refine ⟨(by first | exact trivial | exact Ext.refl _ | assumption | exact Ext.trans (by assumption) (by assumption)), ?_⟩
  rw [← vl_nrm xs0]
  have hx : Al 65536 (nrm xs0) := by rw [nrm_pre]; exact hx0.take _
  have hxn := nrm_nrm xs0
  have hlx := nrm_len xs0
  have hl : (nrm xs0).length < 1099511627776 := by omega
  clear hlx hl0 hx0 ha0
  generalize nrm xs0 = xs at *
  refine runM ?_
  (first | (apply w_seqB; exact rfl; apply w_block; exact rfl) | skip)
  apply (w_loop (σ := Nat × Value × List Nat) rfl (fun p => [(0, v1), (4, N (4 * p.1)), (3, p.2.1)])
    (fun p h' => Ext h h' ∧ OwnF h' h.size 26 U p.2.1 p.2.2 ∧ p.2.2.length = p.1 ∧ 4 * p.1 < xs.length + 4 ∧ Al 18446744073709551616 p.2.2 ∧ vl 18446744073709551616 p.2.2 = pv 65536 xs (4 * p.1) ∧
      ∀ j, p.1 = j + 1 → p.2.2.getD j 0 = gv xs (4 * j) 0) (fun p => xs.length - 4 * p.1) (0, .slice none 0 0, []))
  · exact (Sub.cons rfl (Sub.cons rfl (Sub.cons rfl (Sub.nil _))))
  · exact ⟨Ext.refl h, OwnF.nil _ _ _ _, rfl, by simp only []; omega, Al.nil, rfl, fun j hj => by cases hj⟩
  · rintro ⟨g, out, os⟩ h' ⟨e, o, i1, i2, i3, i4, i5⟩
    dsimp only at e o i1 i2 i3 i4 i5 ⊢
    have ha' := ha.ext e
    refine runM ?_
    (apply w_condD; exact rfl; exact rfl) <;> intro hg
    · refine runM ?_
      (first | (apply w_seqB; exact rfl; apply w_block; exact rfl) | skip)
      apply (w_loop (σ := Nat) rfl (fun k => [(0, v1), (4, N (4 * g)), (3, out), (5, U (gv xs (4 * g) k)), (6, I ((k : Int) - 1))]) (fun k h2 => h' = h2 ∧ k ≤ 4) (fun k => k) 4)
      · exact (Sub.cons rfl (Sub.cons rfl (Sub.cons rfl (Sub.cons rfl (Sub.cons rfl (Sub.nil _))))))
      · exact ⟨rfl, Nat.le_refl _⟩
      · rintro k _ ⟨rfl, hk4⟩
        refine runM ?_
        (apply w_condD; exact rfl; exact rfl) <;> intro hk
        · obtain ⟨j, rfl⟩ : ∃ j, k = j + 1 := ⟨k - 1, by omega⟩
          (apply w_know (t := 6) (u := N (j)) rfl (congrArg I (by omega)))
          have hst := gv_step xs (4 * g) j (by omega)
          obtain ⟨hsum0, hm, hd64⟩ := gv_word hx (4 * g) j (by omega)
          have ha := ha'
          refine runM ?_
          (apply w_condD; exact rfl; exact rfl) <;> intro hb
          · generalize gv xs (4 * g) (j + 1) * 65536 = p at *
            refine runM ?_
            rw [← hst]
            apply again_normal j
            · exact (Sub.cons rfl (Sub.cons rfl (Sub.cons rfl (Sub.cons rfl (Sub.cons rfl (Sub.nil _))))))
            · exact ⟨rfl, by omega⟩
            · exact Nat.lt_succ_self j
          · rw [getD_none (by omega), Nat.add_zero] at hst
            rw [← hst]
            refine runM ?_
            apply again_normal j
            · exact (Sub.cons rfl (Sub.cons rfl (Sub.cons rfl (Sub.cons rfl (Sub.consE rfl (congrArg I (show ((j - 1 : Nat) : Int) = (j : Int) - 1 by omega)) (Sub.nil _))))))
            · exact ⟨rfl, by omega⟩
            · exact Nat.lt_succ_self j
        · have hk0 : k = 0 := by omega
          subst hk0
          have hw : gv xs (4 * g) 0 < 18446744073709551616 := gv_lt hx (4 * g) 0 (by omega)
          have hgp := gv_pv xs g
          have hgl : os.length = g := i1
          generalize hwd : gv xs (4 * g) 0 = w at *
          refine runM ?_
          (refine s_app1 (bytes := 8) (w) o e rfl rfl rfl rfl rfl rfl rfl rfl rfl (by first | exact rfl | exact congrArg some (congrArg I (by omega))) (fun _ => rfl) rfl rfl (fun _ _ => trivial) (by omega) (by simp only [maxLen]; omega) ?_)
          intro v3 h3 o3 e3 k3 b3
          refine runM ?_
          apply again_normal (g + 1, v3, os ++ [w])
          · exact (Sub.cons rfl (Sub.consE rfl (by congr 1) (Sub.cons rfl (Sub.nil _))))
          · refine ⟨e3, o3, by simp [i1], by simp only []; omega, i3.snoc hw, ?_, fun j hj => ?_⟩
            · simp only []
              rw [vl_snoc, i4, hgp, hgl, pow64]
            · simp only [] at hj ⊢
              obtain rfl : g = j := by omega
              rw [hwd, ← hgl]; simp
          · simp only []; omega
    · have hfull : vl 18446744073709551616 os = vl 65536 xs := by rw [i4, pv_full (by omega)]
      have hos : nrm os = os := by
        cases g with
        | zero => rw [List.eq_nil_of_length_eq_zero i1]; rfl
        | succ j =>
          apply nrm_last
          rw [i1, Nat.add_sub_cancel, i5 j rfl]
          intro h0
          have hgp := gv_pv xs j
          rw [h0, Nat.mul_zero, pv_full (by omega)] at hgp
          have hlt := pv_lt hx (by omega) (4 * j)
          rw [Nat.add_zero] at hgp
          rw [← hgp] at hlt
          have hle := dg_len (b := 65536) (by omega) hlt
          rw [← nrm_eq (by omega) hx, hxn] at hle
          omega
      rw [← hfull, ← nrm_eq (by omega) i3, hos]
      refine runM ?_
      exact fin1 rfl rfl ⟨e, o⟩
end Go.Proofs.YtfcmdefigldpnaaGreatDoor


namespace Go.Dig
set_option linter.unusedVariables false
set_option maxRecDepth 8000

section
variable {b : Nat}

/-- The divisor, moved up till it fills its words. -/
theorem moved {ys : List Nat} {m s H : Nat} (hb : 1 < b) (hy : Al b ys) (hyl : ys.length = m + 1) (h0 : ys.getD m 0 ≠ 0) (hH : H ≤ ys.getD m 0 * 2 ^ s) (hs : (ys.getD m 0 + 1) * 2 ^ s ≤ b) :
    (dg b (vl b ys * 2 ^ s)).length = m + 1 ∧ H ≤ (dg b (vl b ys * 2 ^ s)).getD m 0 ∧ b ^ m * H ≤ vl b ys * 2 ^ s ∧ vl b ys * 2 ^ s < b ^ (m + 1) := by
  have hsp : vl b ys = pv b ys m + b ^ m * ys.getD m 0 := by rw [← pv_full (k := m + 1) (by omega)]; rfl
  have hp := pv_lt hy (by omega) m
  have hpow : 0 < 2 ^ s := Nat.pow_pos (by omega)
  have hbm : 0 < b ^ m := Nat.pow_pos (by omega)
  have h1 : vl b ys * 2 ^ s < b ^ (m + 1) := by
    have h2 : vl b ys < b ^ m * (ys.getD m 0 + 1) := by rw [hsp, Nat.mul_add_one]; omega
    have h3 : vl b ys * 2 ^ s < b ^ m * (ys.getD m 0 + 1) * 2 ^ s := Nat.mul_lt_mul_of_pos_right h2 hpow
    have h4 : b ^ m * ((ys.getD m 0 + 1) * 2 ^ s) ≤ b ^ m * b := Nat.mul_le_mul_left _ hs
    rw [← Nat.mul_assoc] at h4
    rw [Nat.pow_succ]; omega
  have h2 : b ^ m * H ≤ vl b ys * 2 ^ s := by
    have := Nat.mul_le_mul_left (b ^ m) hH
    rw [← Nat.mul_assoc] at this
    rw [hsp, Nat.add_mul]; omega
  have h3 : b ^ m ≤ vl b ys * 2 ^ s := by
    have h5 : b ^ m * 1 ≤ b ^ m * ys.getD m 0 := Nat.mul_le_mul_left _ (by omega)
    have h6 : vl b ys * 1 ≤ vl b ys * 2 ^ s := Nat.mul_le_mul_left _ hpow
    omega
  have hlen : (dg b (vl b ys * 2 ^ s)).length = m + 1 := by
    have h5 := dg_len hb h1
    have h6 := dg_lt hb (vl b ys * 2 ^ s)
    have h7 := (Nat.pow_lt_pow_iff_right hb).1 (Nat.lt_of_le_of_lt h3 h6)
    omega
  refine ⟨hlen, ?_, h2, h1⟩
  have hv := vl_dg hb (vl b ys * 2 ^ s)
  have ha := al_dg (b := b) (by omega) (vl b ys * 2 ^ s)
  generalize dg b (vl b ys * 2 ^ s) = zs at *
  have hz : vl b zs = pv b zs m + b ^ m * zs.getD m 0 := by rw [← pv_full (k := m + 1) (by omega)]; rfl
  have hzp := pv_lt ha (by omega) m
  refine Nat.le_of_not_lt fun hlt => ?_
  have := Nat.mul_le_mul_left (b ^ m) hlt
  rw [Nat.mul_succ] at this
  omega
theorem getD_of_lt {xs : List Nat} {k j : Nat} (hb : 0 < b) (h : vl b xs < b ^ k) (hj : k ≤ j) : xs.getD j 0 = 0 := by
  have h1 := vl_split (b := b) xs (j + 1)
  simp only [pv] at h1
  have h2 : b ^ k ≤ b ^ j := Nat.pow_le_pow_right hb hj
  rcases Nat.eq_zero_or_pos (xs.getD j 0) with h0 | h0
  · exact h0
  · have := Nat.mul_le_mul_left (b ^ j) h0
    omega
theorem vl_set {xs : List Nat} {j v : Nat} (hj : j < xs.length) : vl b (xs.set j v) + b ^ j * xs.getD j 0 = vl b xs + b ^ j * v := by
  have h1 := vl_split (b := b) xs (j + 1)
  have h2 := vl_split (b := b) (xs.set j v) (j + 1)
  simp only [pv] at h1 h2
  rw [pv_set (Nat.le_refl _), getD_set_self hj, List.drop_set_of_lt (by omega)] at h2
  omega
theorem times_step {v v' v0 B q W x y c o p n : Nat} (h : v + B * c = v0 + q * (x * p)) (hs : v' + B * o = v + B * (n % b)) (hB : B = q * W) (hn : n = c + o + x * y) : v' + B * b * (n / b) = v0 + q * (x * (p + W * y)) := by
  have e : B * (n % b) + B * b * (n / b) = B * n := by rw [Nat.mul_assoc, ← Nat.mul_add, Nat.mod_add_div]
  have e2 : q * (x * (p + W * y)) = q * (x * p) + B * (x * y) := by
    subst hB
    rw [Nat.mul_add, Nat.mul_add, Nat.mul_assoc q W]
    congr 2
    rw [← Nat.mul_assoc, ← Nat.mul_assoc, Nat.mul_comm x W]
  have e3 : B * n = B * c + B * o + B * (x * y) := by rw [hn, Nat.mul_add, Nat.mul_add]
  rw [e2]
  omega
/-- How many bits a number has. -/
def nb (n : Nat) : Nat := if n = 0 then 0 else n.log2 + 1
theorem nb_of {n k : Nat} (h1 : 2 ^ k ≤ n) (h2 : n < 2 ^ (k + 1)) : nb n = k + 1 := by
  have h0 : n ≠ 0 := by have := Nat.pow_pos (n := k) (show 0 < 2 by omega); omega
  have h3 := (Nat.le_log2 h0).2 h1
  have h4 := (Nat.log2_lt h0).2 h2
  rw [nb, if_neg h0]; omega
theorem nb_top {xs : List Nat} {m k : Nat} (hb : b = 2 ^ k) (hx : Al b xs) (hl : xs.length = m + 1) {j : Nat} (h1 : 2 ^ j ≤ xs.getD m 0) (h2 : xs.getD m 0 < 2 ^ (j + 1)) : nb (vl b xs) = k * m + j + 1 := by
  have hsp : vl b xs = pv b xs m + b ^ m * xs.getD m 0 := by rw [← pv_full (k := m + 1) (by omega)]; rfl
  have hb0 : 0 < b := by rw [hb]; exact Nat.pow_pos (by omega)
  have hp := pv_lt hx hb0 m
  have e : b ^ m = 2 ^ (k * m) := by rw [hb, ← Nat.pow_mul]
  apply nb_of
  · have := Nat.mul_le_mul_left (b ^ m) h1
    rw [Nat.pow_add, ← e]; omega
  · have := Nat.mul_le_mul_left (b ^ m) h2
    rw [Nat.mul_succ] at this
    rw [Nat.add_assoc, Nat.pow_add, ← e]; omega
end
end Go.Dig


namespace Go.Proofs.YtfcmdefigldpnaaGreatDoor
set_option linter.unusedVariables false
set_option maxRecDepth 8000
open Go Go.Den Go.RowKit Go.Dig

theorem Tryz_ent186 : Ent Tryz.prog 186 := ent_of Tryz.func186 (by kernel_rfl) rfl
theorem len64_spec (x : Nat) (h : Hp) (hx : x < 18446744073709551616) :
    CallsH Tryz.prog 186 [U x] h fun v h' => v = N (Lib.bitLen x) ∧ h = h' :=
  callsH_same fun w => Tryz.bits_Len64 x w (by omega) (by omega)

theorem Tryz_ent149 : Ent Tryz.prog 149 := ent_of Tryz.func149 (by kernel_rfl) rfl
theorem bits_spec (va : Value) (xs0 : List Nat) (h : Hp) (ha0 : SlF h U va xs0) (hx0 : Al 18446744073709551616 xs0) (hl0 : xs0.length < 1099511627776) :
    CallsH Tryz.prog 149 [va] h fun v' h' => v' = N (nb (vl 18446744073709551616 xs0)) ∧ h = h' := by
  (apply enter Tryz.func149 rfl Tryz.ntmps149 rfl)
  refine runM ?_
  apply (s_call Tryz_ent126 rfl rfl rfl)
  refine (norm_spec va xs0 h ha0 (by omega)).mono ?_
  rintro v1 _ ⟨rfl, ha, -⟩
  refine ⟨(by first | exact trivial | exact Ext.refl _ | assumption | exact Ext.trans (by assumption) (by assumption)), ?_⟩
  rw [← vl_nrm xs0]
  have hx : Al 18446744073709551616 (nrm xs0) := by rw [nrm_pre]; exact hx0.take _
  have hxn := nrm_nrm xs0
  have hlx := nrm_len xs0
  have hl : (nrm xs0).length < 1099511627776 := by omega
  clear hlx
  generalize nrm xs0 = xs at *
  refine runM ?_
  (apply w_condD; exact rfl; exact rfl) <;> intro h0
  · refine runM ?_
    have : xs = [] := List.eq_nil_of_length_eq_zero h0
    subst this
    exact fin1 rfl rfl ⟨rfl, rfl⟩
  · obtain ⟨m, hm⟩ : ∃ m, xs.length = m + 1 := ⟨xs.length - 1, by omega⟩
    have htop : xs.getD m 0 ≠ 0 := by
      have h1 := nrm_eq (b := 18446744073709551616) (by omega) hx
      rw [hxn] at h1
      intro hz
      have h2 : vl 18446744073709551616 xs = pv 18446744073709551616 xs m := by
        rw [← pv_full (k := m + 1) (xs := xs) (by omega), pv, hz, Nat.mul_zero, Nat.add_zero]
      have h3 := pv_lt hx (by omega) m
      rw [← h2] at h3
      have h4 := dg_len (b := 18446744073709551616) (by omega) h3
      rw [← h1] at h4
      omega
    have htw := hx.getD (by omega) m
    obtain ⟨g1, g2, g3, g4⟩ := bitLen_spec 64 _ htw (by omega) htop
    have hnb := nb_top (k := 64) (by rfl) hx hm (j := Lib.bitLen (xs.getD m 0) - 1) g3 (by rw [Nat.sub_add_cancel g1]; exact g4)
    rw [hnb]
    refine runM ?_
    rw [hm, Nat.add_sub_cancel]
    apply (s_call Tryz_ent186 rfl rfl rfl)
    refine (len64_spec (xs.getD m 0) h htw).mono ?_
    rintro _ _ ⟨rfl, rfl⟩
    refine ⟨(by first | exact trivial | exact Ext.refl _ | assumption | exact Ext.trans (by assumption) (by assumption)), ?_⟩
    generalize Lib.bitLen (xs.getD m 0) = bl at *
    refine runM ?_
    exact fin1 rfl rfl ⟨congrArg I (by omega), rfl⟩
end Go.Proofs.YtfcmdefigldpnaaGreatDoor


namespace Go.Proofs.YtfcmdefigldpnaaGreatDoor
set_option linter.unusedVariables false
set_option maxRecDepth 8000
open Go Go.Den Go.RowKit Go.Dig

theorem OwnF.ne {α β : Type} {f : α → Value} {g : β → Value} {h h' : Hp} {B B' : Nat} {e e' : TypeId} {v v' : Value} {xs : List α} {ys : List β} (o : OwnF h B e f v xs) (o' : OwnF h' B' e' g v' ys) (hB : h.size ≤ B') : v'.ownBlock = none ∨ v'.ownBlock ≠ v.ownBlock := by
  cases hk : v'.ownBlock with
  | none => exact .inl rfl
  | some k =>
    refine .inr fun e => ?_
    have h1 := (OwnF.blk o' k hk).1
    have h2 := (OwnF.blk o k e.symm).2
    omega
end Go.Proofs.YtfcmdefigldpnaaGreatDoor


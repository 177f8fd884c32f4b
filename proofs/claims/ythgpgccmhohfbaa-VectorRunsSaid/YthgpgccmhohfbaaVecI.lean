/- Vector programs: what is compared and asked about; the fixed call. No condition. -/
import Derived.Test.YthgpgccmhohfbaaVecH
import Derived.Test.YthgpgccmhohfbaaDenK
namespace Go.Proofs.Ythgpgccmhohfbaa
set_option linter.unusedVariables false
open Go Go.Den Go.RowKit

theorem list_eq {α : Type} {xs ys : List α} (hl : xs.length = ys.length) (h : ∀ (j : Nat) (x y : α), xs[j]? = some x → ys[j]? = some y → x = y) : xs = ys := by
  apply List.ext_getElem hl
  intro j h1 h2
  exact h j _ _ (List.getElem?_eq_getElem h1) (List.getElem?_eq_getElem h2)
theorem list_ne {α : Type} {xs ys : List α} {j : Nat} {x y : α} (h1 : xs[j]? = some x) (h2 : ys[j]? = some y) (hne : x ≠ y) : xs ≠ ys := fun e => by
  rw [e, h2] at h1; cases h1; exact hne rfl

theorem Try_ent14 : Ent Try.prog 14 := ent_of Try.func14 (by kernel_rfl) rfl
theorem same16_spec (va vb : Value) (xs ys : List Int) (h : Hp) (ha : SlF h I va xs) (hb : SlF h I vb ys) (hl : xs.length < 4611686018427387904) (hl2 : ys.length < 4611686018427387904) :
    CallsH Try.prog 14 [va, vb] h fun v' h' => v' = .bool (decide (xs = ys)) ∧ h = h' := by
  (apply enter Try.func14 rfl Try.ntmps14 rfl)
  refine runJ ?_
  (apply w_condD; exact rfl; exact rfl) <;> intro hne
  · refine runJ ?_
    exact fin1 rfl rfl ⟨dec_f (fun e => hne (by rw [e])), rfl⟩
  have hle : xs.length = ys.length := by omega
  refine runJ ?_
  (first | (apply w_seqB; exact rfl; apply w_block; exact rfl) | skip)
  apply (w_loop (σ := Nat) rfl (fun j => [(0, va), (1, vb), (12, N xs.length), (13, N j)])
    (fun j h' => h = h' ∧ j ≤ xs.length ∧ ∀ (i : Nat) (x y : Int), i < j → xs[i]? = some x → ys[i]? = some y → x = y) (fun j => xs.length - j) 0)
  · exact (Sub.cons rfl (Sub.cons rfl (Sub.cons rfl (Sub.cons rfl (Sub.nil _)))))
  · exact ⟨rfl, Nat.zero_le _, fun i x y hi => by omega⟩
  rintro j h' ⟨rfl, j1, j2⟩
  refine runJ ?_
  (apply w_condD; exact rfl; exact rfl) <;> intro hj
  · obtain ⟨x, hx⟩ := get_lt hj
    obtain ⟨y, hy⟩ := get_lt (l := ys) (j := j) (by omega)
    refine runJ ?_
    (apply w_condD; exact rfl; exact rfl) <;> intro hd
    · refine runJ ?_
      exact fin1 rfl rfl ⟨dec_f (list_ne hx hy hd), rfl⟩
    · refine runJ ?_
      apply again_normal (j + 1)
      · exact (Sub.cons rfl (Sub.cons rfl (Sub.cons rfl (Sub.cons rfl (Sub.nil _)))))
      · refine ⟨rfl, hj, fun i x' y' hi hx' hy' => ?_⟩
        rcases Nat.lt_succ_iff_lt_or_eq.1 hi with hi | rfl
        · exact j2 i x' y' hi hx' hy'
        · rw [hx] at hx'; rw [hy] at hy'; cases hx'; cases hy'; exact Decidable.of_not_not hd
      · omega
  · refine runJ ?_
    exact fin1 rfl rfl ⟨dec_t (list_eq hle fun i x y hx hy => j2 i x y (by have := (List.getElem?_eq_some_iff.1 hx).1; omega) hx hy), rfl⟩

theorem Try_ent11 : Ent Try.prog 11 := ent_of Try.func11 (by kernel_rfl) rfl
theorem sameRows_spec (va vb : Value) (xs ys : List (Value × List Int)) (h : Hp) (ha : SlF h Prod.fst va xs) (hb : SlF h Prod.fst vb ys) (hra : ∀ x ∈ xs, SlF h I x.1 x.2) (hrb : ∀ x ∈ ys, SlF h I x.1 x.2)
    (hl : xs.length < 4611686018427387904) (hl2 : ys.length < 4611686018427387904) (hrl : ∀ x ∈ xs, x.2.length < 4611686018427387904) :
    CallsH Try.prog 11 [va, vb] h fun v' h' => v' = .bool (decide (xs.map (·.2) = ys.map (·.2))) ∧ h = h' := by
  (apply enter Try.func11 rfl Try.ntmps11 rfl)
  refine runJ ?_
  (apply w_condD; exact rfl; exact rfl) <;> intro hne
  · refine runJ ?_
    exact fin1 rfl rfl ⟨dec_f (fun e => hne (by simpa using congrArg List.length e)), rfl⟩
  have hle : xs.length = ys.length := by omega
  refine runJ ?_
  (first | (apply w_seqB; exact rfl; apply w_block; exact rfl) | skip)
  apply (w_loop (σ := Nat) rfl (fun j => [(0, va), (1, vb), (13, N xs.length), (14, N j)])
    (fun j h' => h = h' ∧ j ≤ xs.length ∧ ∀ (i : Nat) (x y : Value × List Int), i < j → xs[i]? = some x → ys[i]? = some y → x.2 = y.2) (fun j => xs.length - j) 0)
  · exact (Sub.cons rfl (Sub.cons rfl (Sub.cons rfl (Sub.cons rfl (Sub.nil _)))))
  · exact ⟨rfl, Nat.zero_le _, fun i x y hi => by omega⟩
  rintro j h' ⟨rfl, j1, j2⟩
  refine runJ ?_
  (apply w_condD; exact rfl; exact rfl) <;> intro hj
  · obtain ⟨x, hx⟩ := get_lt hj
    obtain ⟨y, hy⟩ := get_lt (l := ys) (j := j) (by omega)
    have sx := hra x (List.mem_of_getElem? hx)
    have sy := hrb y (List.mem_of_getElem? hy)
    have lx := hrl x (List.mem_of_getElem? hx)
    have bad : x.2 ≠ y.2 → xs.map (·.2) ≠ ys.map (·.2) := fun hd => list_ne (j := j) (by simp [hx]) (by simp [hy]) hd
    refine runJ ?_
    (apply w_condD; exact rfl; exact rfl) <;> intro hln
    · refine runJ ?_
      exact fin1 rfl rfl ⟨dec_f (bad fun e => hln (by rw [e])), rfl⟩
    have hxy : x.2.length = y.2.length := by omega
    refine runJ ?_
    (first | (apply w_seqB; exact rfl; apply w_block; exact rfl) | skip)
    apply (w_loop (σ := Nat) rfl (fun i => [(0, va), (1, vb), (5, N j), (13, N xs.length), (14, N j), (32, N x.2.length), (33, N i)])
      (fun i h' => h = h' ∧ i ≤ x.2.length ∧ ∀ (r : Nat) (p q : Int), r < i → x.2[r]? = some p → y.2[r]? = some q → p = q) (fun i => x.2.length - i) 0)
    · exact (Sub.cons rfl (Sub.cons rfl (Sub.cons rfl (Sub.cons rfl (Sub.cons rfl (Sub.cons rfl (Sub.cons rfl (Sub.nil _))))))))
    · exact ⟨rfl, Nat.zero_le _, fun i x y hi => by omega⟩
    rintro i h' ⟨rfl, i1, i2⟩
    refine runJ ?_
    (apply w_condD; exact rfl; exact rfl) <;> intro hi
    · obtain ⟨p, hp⟩ := get_lt hi
      obtain ⟨q, hq⟩ := get_lt (l := y.2) (j := i) (by omega)
      refine runJ ?_
      (apply w_condD; exact rfl; exact rfl) <;> intro hd
      · refine runJ ?_
        exact fin1 rfl rfl ⟨dec_f (bad (list_ne hp hq hd)), rfl⟩
      · refine runJ ?_
        apply again_normal (i + 1)
        · exact (Sub.cons rfl (Sub.cons rfl (Sub.cons rfl (Sub.cons rfl (Sub.cons rfl (Sub.cons rfl (Sub.cons rfl (Sub.nil _))))))))
        · refine ⟨rfl, hi, fun r p' q' hr hp' hq' => ?_⟩
          rcases Nat.lt_succ_iff_lt_or_eq.1 hr with hr | rfl
          · exact i2 r p' q' hr hp' hq'
          · rw [hp] at hp'; rw [hq] at hq'; cases hp'; cases hq'; exact Decidable.of_not_not hd
        · omega
    · have hrow : x.2 = y.2 := list_eq hxy fun r p q hp hq => i2 r p q (by have := (List.getElem?_eq_some_iff.1 hp).1; omega) hp hq
      refine runJ ?_
      apply again_normal (j + 1)
      · exact (Sub.cons rfl (Sub.cons rfl (Sub.cons rfl (Sub.cons rfl (Sub.nil _)))))
      · refine ⟨rfl, hj, fun i x' y' hi hx' hy' => ?_⟩
        rcases Nat.lt_succ_iff_lt_or_eq.1 hi with hi | rfl
        · exact j2 i x' y' hi hx' hy'
        · rw [hx] at hx'; rw [hy] at hy'; cases hx'; cases hy'; exact hrow
      · omega
  · refine runJ ?_
    refine fin1 rfl rfl ⟨dec_t (list_eq (by simpa using hle) fun i p q hp hq => ?_), rfl⟩
    rw [List.getElem?_map, Option.map_eq_some_iff] at hp hq
    obtain ⟨x, hx, rfl⟩ := hp
    obtain ⟨y, hy, rfl⟩ := hq
    exact j2 i x y (by have := (List.getElem?_eq_some_iff.1 hx).1; omega) hx hy
end Go.Proofs.Ythgpgccmhohfbaa

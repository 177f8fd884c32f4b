/- Small plain laws that every package's walks use. No condition. -/
import Derived.Test.YtajgcmgkhmkmbaaDoorDenL
namespace Go.Den
set_option linter.unusedVariables false
set_option maxRecDepth 8000
open Go Go.RowKit
theorem take_snoc {α : Type} {l : List α} {j : Nat} {x : α} (h : l[j]? = some x) : l.take (j + 1) = l.take j ++ [x] := by
  rw [List.take_add_one, h]; rfl
theorem get_lt {α : Type} {l : List α} {j : Nat} (h : j < l.length) : ∃ x, l[j]? = some x := ⟨l[j], by simp [h]⟩
theorem nodup_snoc {α : Type} {l : List α} {x : α} (h : l.Nodup) (hx : x ∉ l) : (l ++ [x]).Nodup := by
  rw [List.nodup_append]
  refine ⟨h, by simp, fun a ha b hb => ?_⟩
  simp only [List.mem_singleton] at hb
  subst hb
  intro e; subst e; exact hx ha
theorem not_nodup_at {α : Type} {l : List α} {j : Nat} {x : α} (h : l[j]? = some x) (hx : x ∈ l.take j) : ¬ l.Nodup := fun hn => by
  have h1 := hn.sublist (List.take_sublist (j + 1) l)
  rw [take_snoc h, List.nodup_append] at h1
  exact h1.2.2 x hx x (by simp) rfl
theorem dec_t {p : Prop} [Decidable p] (h : p) : Value.bool true = .bool (decide p) := by rw [decide_eq_true h]
theorem dec_f {p : Prop} [Decidable p] (h : ¬ p) : Value.bool false = .bool (decide p) := by rw [decide_eq_false h]
theorem dec_i {p q : Prop} [Decidable p] [Decidable q] (h : p ↔ q) : Value.bool (decide p) = .bool (decide q) := by
  congr 1; exact decide_eq_decide.2 h
theorem list_eq {α : Type} {xs ys : List α} (hl : xs.length = ys.length) (h : ∀ (j : Nat) (x y : α), xs[j]? = some x → ys[j]? = some y → x = y) : xs = ys := by
  apply List.ext_getElem hl
  intro j h1 h2
  exact h j _ _ (List.getElem?_eq_getElem h1) (List.getElem?_eq_getElem h2)
theorem list_ne {α : Type} {xs ys : List α} {j : Nat} {x y : α} (h1 : xs[j]? = some x) (h2 : ys[j]? = some y) (hne : x ≠ y) : xs ≠ ys := fun e => by
  rw [e, h2] at h1; cases h1; exact hne rfl
theorem ne_of_some {v : Value} {r : Option Nat} (h : ∀ k, v.ownBlock = some k → some k ≠ r) : v.ownBlock = none ∨ v.ownBlock ≠ r := by
  cases hv : v.ownBlock with
  | none => exact .inl rfl
  | some k => exact .inr (h k hv)
end Go.Den

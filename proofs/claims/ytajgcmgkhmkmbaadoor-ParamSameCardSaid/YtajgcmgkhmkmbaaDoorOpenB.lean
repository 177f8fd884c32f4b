/- What an argument that came in reads as: rows of ints, rows of rows, rows of structs. No condition. -/
import Derived.Test.YtajgcmgkhmkmbaaDoorOpen
import Derived.Test.YtajgcmgkhmkmbaaDoorDenI
namespace Go.Den
set_option linter.unusedVariables false
set_option maxRecDepth 8000
open Go Go.RowKit Go.ChangeShapes Go.WideShapes

theorem chunks {α : Type} {f : α → List Value} {R : α → Prop} {s : Nat} : ∀ (n : Nat) (es : List Value), es.length = n * s → (∀ i, i < n → ∃ x, (es.drop (i * s)).take s = f x ∧ R x) → ∃ xs : List α, xs.length = n ∧ es = xs.flatMap f ∧ ∀ x ∈ xs, R x
  | 0, es, hl, _ => ⟨[], rfl, by simpa using hl, by simp⟩
  | n + 1, es, hl, h => by
    obtain ⟨x, hx, hr⟩ := h 0 (by omega)
    rw [Nat.zero_mul, List.drop_zero] at hx
    have hl' : (es.drop s).length = n * s := by rw [List.length_drop, hl, Nat.succ_mul]; omega
    obtain ⟨xs, h1, h2, h3⟩ := chunks (f := f) (R := R) n (es.drop s) hl' (fun i hi => by
      obtain ⟨y, hy, hr⟩ := h (i + 1) (by omega)
      refine ⟨y, ?_, hr⟩
      rw [List.drop_drop, show s + i * s = (i + 1) * s by rw [Nat.succ_mul]; omega]
      exact hy)
    refine ⟨x :: xs, by simp [h1], ?_, ?_⟩
    · rw [List.flatMap_cons, ← h2, ← hx, List.take_append_drop]
    · intro y hy
      rcases List.mem_cons.1 hy with rfl | hy
      · exact hr
      · exact h3 y hy

def ib64 (z : Int) : Prop := -9223372036854775808 ≤ z ∧ z < 9223372036854775808
section
variable {P : Program} {w : World} {t e : TypeId} {cs : List Value}
theorem Opn.i64 (ht : P.underlying t = some (.int .i64)) (h : Opn P w t cs) : ∃ n, cs = [I n] ∧ ib64 n := by
  obtain ⟨n, h1, h2⟩ := h.int ht
  exact ⟨n, h1, by have := bounds_i64 h2; unfold ib64; omega⟩
theorem Opn.rowA {α : Type} {f : α → List Value} {R : α → Prop} {s : Nat} (ht : P.underlying t = some (.slice e)) (hs : P.cellsOf e = s) (hs0 : 0 < s) (hf : ∀ x, (f x).length = s) (h : Opn P w t cs) (he : ∀ c, Opn P w e c → ∃ x, c = f x ∧ R x) :
    ∃ v xs, cs = [v] ∧ SlA w.heap f s v xs ∧ (∀ x ∈ xs, R x) ∧ xs.length ≤ maxLen := by
  obtain ⟨v, n, es, h1, h2, h3, h4, h5⟩ := h.slice ht hs hs0
  obtain ⟨xs, g1, g2, g3⟩ := chunks (f := f) (R := R) n es h3 (fun i hi => he _ (h5 i hi))
  subst g1
  exact ⟨v, xs, h1, ⟨hf, by rw [← g2]; exact h2⟩, g3, h4⟩
theorem flat_one {α : Type} (f : α → Value) (xs : List α) : xs.flatMap (fun x => [f x]) = xs.map f := by
  induction xs with
  | nil => rfl
  | cons x xs ih => rw [List.flatMap_cons, ih]; rfl
theorem SlA.one' {α : Type} {f : α → Value} {h : Hp} {v : Value} {xs : List α} (s : SlA h (fun x => [f x]) 1 v xs) : SlF h f v xs := by
  have := s.2
  rw [flat_one] at this
  exact this
theorem Opn.ints (ht : P.underlying t = some (.slice e)) (he : P.underlying e = some (.int .i64)) (hc : P.cellsOf e = 1) (h : Opn P w t cs) :
    ∃ v xs, cs = [v] ∧ SlF w.heap I v xs ∧ (∀ x ∈ xs, ib64 x) ∧ xs.length ≤ maxLen := by
  obtain ⟨v, xs, h1, h2, h3, h4⟩ := h.rowA (f := fun x => [I x]) (R := ib64) ht hc Nat.zero_lt_one (fun _ => rfl) (fun c hc => Opn.i64 he hc)
  exact ⟨v, xs, h1, h2.one', h3, h4⟩
/-- A row of int, told with its front. -/
def RowI (h : Hp) (x : Value × List Int) : Prop := SlF h I x.1 x.2 ∧ (∀ z ∈ x.2, ib64 z) ∧ x.2.length ≤ maxLen
theorem Opn.introws {e2 : TypeId} (ht : P.underlying t = some (.slice e)) (he : P.underlying e = some (.slice e2)) (he2 : P.underlying e2 = some (.int .i64)) (hc : P.cellsOf e = 1) (hc2 : P.cellsOf e2 = 1) (h : Opn P w t cs) :
    ∃ v xs, cs = [v] ∧ SlF w.heap Prod.fst v xs ∧ (∀ x ∈ xs, RowI w.heap x) ∧ xs.length ≤ maxLen := by
  obtain ⟨v, xs, h1, h2, h3, h4⟩ := h.rowA (f := fun x : Value × List Int => [x.1]) (R := RowI w.heap) ht hc Nat.zero_lt_one (fun _ => rfl) (fun c hc => by
    obtain ⟨v, xs, g1, g2, g3, g4⟩ := Opn.ints he he2 hc2 hc
    exact ⟨(v, xs), g1, g2, g3, g4⟩)
  exact ⟨v, xs, h1, h2.one', h3, h4⟩
theorem arg_ints {v : Value} (ht : P.underlying t = some (.slice e)) (he : P.underlying e = some (.int .i64)) (hc : P.cellsOf e = 1) (hv : ∃ a len cap, v = .slice a len cap) (h : Opn P w t v.cells.toList) :
    ∃ xs, SlF w.heap I v xs ∧ (∀ x ∈ xs, ib64 x) ∧ xs.length ≤ maxLen := by
  obtain ⟨a, len, cap, rfl⟩ := hv
  obtain ⟨v, xs, e1, h2⟩ := h.ints ht he hc
  simp [Value.cells] at e1
  subst e1
  exact ⟨xs, h2⟩
theorem arg_introws {e2 : TypeId} {v : Value} (ht : P.underlying t = some (.slice e)) (he : P.underlying e = some (.slice e2)) (he2 : P.underlying e2 = some (.int .i64)) (hc : P.cellsOf e = 1) (hc2 : P.cellsOf e2 = 1) (hv : ∃ a len cap, v = .slice a len cap) (h : Opn P w t v.cells.toList) :
    ∃ xs, SlF w.heap Prod.fst v xs ∧ (∀ x ∈ xs, RowI w.heap x) ∧ xs.length ≤ maxLen := by
  obtain ⟨a, len, cap, rfl⟩ := hv
  obtain ⟨v, xs, e1, h2⟩ := h.introws ht he he2 hc hc2
  simp [Value.cells] at e1
  subst e1
  exact ⟨xs, h2⟩
/-- A part of a struct. -/
theorem Opn.part {fs : Array Field} {tt : TypeId} {off s : Nat} (ht : P.underlying t = some (.struct fs)) (i : Nat) (hi : (fs[i]?).map (fun f => (f.type, f.offset, P.cellsOf f.type)) = some (tt, off, s)) (h : Opn P w t cs) : Opn P w tt ((cs.drop off).take s) := by
  obtain ⟨-, g2⟩ := h.struct ht
  cases hf : fs[i]? with
  | none => rw [hf] at hi; cases hi
  | some f =>
    rw [hf] at hi
    simp only [Option.map_some, Option.some.injEq, Prod.mk.injEq] at hi
    obtain ⟨rfl, rfl, rfl⟩ := hi
    exact g2 i f hf
theorem Opn.width {fs : Array Field} {s : Nat} (ht : P.underlying t = some (.struct fs)) (hc : P.cellsOf t = s) (h : Opn P w t cs) : cs.length = s := by
  obtain ⟨g1, -⟩ := h.struct ht
  rw [g1, hc]
end
end Go.Den

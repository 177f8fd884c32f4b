/- Texts OpenQ to OpenQ of this work, joined: each says in its own head what it proves, and of which condition. -/
import Derived.Test.YtfgfmempmkjlnaaDoorMBb24
/- What parameters that came in read as, with the bounds of their ints. No condition. -/
namespace Go.Proofs.YtfgfmempmkjlnaaDoor
set_option linter.unusedVariables false
set_option maxRecDepth 8000
open Go Go.Den Go.RowKit Go.ChangeShapes Go.WideShapes

theorem opn_parQ {w : World} {v : Value} (hv : ∃ cs, v = .agg cs) (h : Opn Tryd.prog w 40 v.cells.toList) : ∃ p : ParD, v = .agg p.cells.toArray ∧ ParA0 w.heap p ∧ ib64 p.n ∧ ib64 p.w := by
  obtain ⟨cs, rfl⟩ := hv
  have hl := h.width (P := Tryd.prog) Tryd.underlying40 (s := 4) (by kernel_rfl)
  obtain ⟨a0, h0, i0⟩ := (h.part (P := Tryd.prog) Tryd.underlying40 0 (tt := 3) (off := 0) (s := 1) (by kernel_rfl)).i64 (by kernel_rfl)
  obtain ⟨z1, h1, w1⟩ := (h.part (P := Tryd.prog) Tryd.underlying40 1 (tt := 24) (off := 1) (s := 1) (by kernel_rfl)).int (k := .u64) (by kernel_rfl)
  obtain ⟨v2, x2, h2, s2, b2, l2⟩ := opn_words (e := 24) (by kernel_rfl) (by kernel_rfl) (by kernel_rfl) (h.part (P := Tryd.prog) Tryd.underlying40 2 (tt := 22) (off := 2) (s := 1) (by kernel_rfl))
  obtain ⟨a3, h3, i3⟩ := (h.part (P := Tryd.prog) Tryd.underlying40 3 (tt := 3) (off := 3) (s := 1) (by kernel_rfl)).i64 (by kernel_rfl)
  obtain ⟨n1, rfl, b1⟩ := nat_of_lit w1
  simp only [Value.cells] at hl h0 h1 h2 h3
  obtain ⟨cs, rfl⟩ : ∃ l : List Value, cs = l.toArray := ⟨cs.toList, by simp⟩
  simp only [] at hl h0 h1 h2 h3
  match cs, hl with
  | [c0, c1, c2, c3], _ =>
    simp at h0 h1 h2 h3
    subst h0 h1 h2 h3
    have hl2 : x2.length < 9223372036854775808 := Nat.lt_of_le_of_lt l2 (by decide)
    exact ⟨⟨a0, n1, c2, x2, a3⟩, rfl, ⟨s2, b2, b1, hl2⟩, i0, i3⟩
end Go.Proofs.YtfgfmempmkjlnaaDoor

/- What a vector program that came in reads as. No condition. -/
import Derived.Test.YthgpgccmhohfbaaOpenB
import Derived.Test.YthgpgccmhohfbaaVecH
namespace Go.Proofs.Ythgpgccmhohfbaa
set_option linter.unusedVariables false
open Go Go.Den Go.RowKit Go.ChangeShapes Go.WideShapes

theorem opn_ins {w : World} {cs : List Value} (h : Opn Try.prog w 41 cs) : ∃ x : Ins, cs = x.cells ∧ True := by
  have hl := h.width (P := Try.prog) Try.underlying41 (s := 5) (by kernel_rfl)
  obtain ⟨a0, h0, -⟩ := (h.part (P := Try.prog) Try.underlying41 0 (tt := 3) (off := 0) (s := 1) (by kernel_rfl)).i64 (by kernel_rfl)
  obtain ⟨a1, h1, -⟩ := (h.part (P := Try.prog) Try.underlying41 1 (tt := 3) (off := 1) (s := 1) (by kernel_rfl)).i64 (by kernel_rfl)
  obtain ⟨a2, h2, -⟩ := (h.part (P := Try.prog) Try.underlying41 2 (tt := 3) (off := 2) (s := 1) (by kernel_rfl)).i64 (by kernel_rfl)
  obtain ⟨a3, h3, -⟩ := (h.part (P := Try.prog) Try.underlying41 3 (tt := 3) (off := 3) (s := 1) (by kernel_rfl)).i64 (by kernel_rfl)
  obtain ⟨a4, h4, -⟩ := (h.part (P := Try.prog) Try.underlying41 4 (tt := 3) (off := 4) (s := 1) (by kernel_rfl)).i64 (by kernel_rfl)
  match cs, hl with
  | [c0, c1, c2, c3, c4], _ =>
    simp at h0 h1 h2 h3 h4
    subst h0 h1 h2 h3 h4
    exact ⟨⟨a0, a1, a2, a3, a4⟩, rfl, trivial⟩
theorem opn_ind {w : World} {cs : List Value} (h : Opn Try.prog w 45 cs) : ∃ x : InD, cs = x.cells ∧ SlF w.heap I x.v x.sl := by
  have hl := h.width (P := Try.prog) Try.underlying45 (s := 3) (by kernel_rfl)
  obtain ⟨a0, h0, -⟩ := (h.part (P := Try.prog) Try.underlying45 0 (tt := 3) (off := 0) (s := 1) (by kernel_rfl)).i64 (by kernel_rfl)
  obtain ⟨a1, h1, -⟩ := (h.part (P := Try.prog) Try.underlying45 1 (tt := 3) (off := 1) (s := 1) (by kernel_rfl)).i64 (by kernel_rfl)
  obtain ⟨v2, x2, h2, s2, -, -⟩ := (h.part (P := Try.prog) Try.underlying45 2 (tt := 25) (off := 2) (s := 1) (by kernel_rfl)).ints (e := 3) (by kernel_rfl) (by kernel_rfl) (by kernel_rfl)
  match cs, hl with
  | [c0, c1, c2], _ =>
    simp at h0 h1 h2
    subst h0 h1 h2
    exact ⟨⟨a0, a1, c2, x2⟩, rfl, s2⟩
theorem opn_vec {w : World} {v : Value} (hv : ∃ cs, v = .agg cs) (h : Opn Try.prog w 27 v.cells.toList) : ∃ V : VecD, v = .agg V.cells.toArray ∧ VecAt w.heap V ∧ (∀ x ∈ V.pls, ∀ z ∈ x.2, ib z) := by
  obtain ⟨cs, rfl⟩ := hv
  have hl := h.width (P := Try.prog) Try.underlying27 (s := 6) (by kernel_rfl)
  obtain ⟨a0, h0, -⟩ := (h.part (P := Try.prog) Try.underlying27 0 (tt := 3) (off := 0) (s := 1) (by kernel_rfl)).i64 (by kernel_rfl)
  obtain ⟨v1, x1, h1, s1, r1, -⟩ := (h.part (P := Try.prog) Try.underlying27 1 (tt := 22) (off := 1) (s := 1) (by kernel_rfl)).rowA (f := InD.cells) (R := fun x => SlF w.heap I x.v x.sl) (e := 45) (s := 3) (by kernel_rfl) (by kernel_rfl) (by decide) (fun _ => rfl) (fun c hc => opn_ind hc)
  obtain ⟨v2, x2, h2, s2, r2, -⟩ := (h.part (P := Try.prog) Try.underlying27 2 (tt := 23) (off := 2) (s := 1) (by kernel_rfl)).introws (e := 25) (e2 := 3) (by kernel_rfl) (by kernel_rfl) (by kernel_rfl) (by kernel_rfl) (by kernel_rfl)
  obtain ⟨v3, x3, h3, s3, -, -⟩ := (h.part (P := Try.prog) Try.underlying27 3 (tt := 24) (off := 3) (s := 1) (by kernel_rfl)).rowA (f := Ins.cells) (R := fun _ => True) (e := 41) (s := 5) (by kernel_rfl) (by kernel_rfl) (by decide) (fun _ => rfl) (fun c hc => opn_ins hc)
  obtain ⟨a4, h4, -⟩ := (h.part (P := Try.prog) Try.underlying27 4 (tt := 3) (off := 4) (s := 1) (by kernel_rfl)).i64 (by kernel_rfl)
  obtain ⟨v5, x5, h5, s5, -, -⟩ := (h.part (P := Try.prog) Try.underlying27 5 (tt := 25) (off := 5) (s := 1) (by kernel_rfl)).ints (e := 3) (by kernel_rfl) (by kernel_rfl) (by kernel_rfl)
  simp only [Value.cells] at hl h0 h1 h2 h3 h4 h5
  obtain ⟨cs, rfl⟩ : ∃ l : List Value, cs = l.toArray := ⟨cs.toList, by simp⟩
  simp only [] at hl h0 h1 h2 h3 h4 h5
  match cs, hl with
  | [c0, c1, c2, c3, c4, c5], _ =>
    simp at h0 h1 h2 h3 h4 h5
    subst h0 h1 h2 h3 h4 h5
    exact ⟨⟨a0, c1, x1, c2, x2, c3, x3, a4, c5, x5⟩, rfl, ⟨s1, r1, s2, fun x hx => (r2 x hx).1, s3, s5⟩, fun x hx => (r2 x hx).2.1⟩
end Go.Proofs.Ythgpgccmhohfbaa

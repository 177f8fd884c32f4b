/- The tape: rows compared; what a nil tape says. No condition. -/
import Derived.Test.YtlaijoebocfelaaTapD
namespace Go.Proofs.Ytlaijoebocfelaa
set_option linter.unusedVariables false
open Go Go.Den Go.RowKit Go.Dig

theorem ints_eq {xs ys : List Int} (hl : xs.length = ys.length) (h : ∀ j, j < xs.length → xs.getD j 0 = ys.getD j 0) : xs = ys := by
  apply List.ext_getElem hl
  intro j h1 h2
  simpa [h1, h2] using h j h1

theorem Try_ent13 : Ent Try.prog 13 := ent_of Try.func13 (by kernel_rfl) rfl
theorem sameInts_spec (va vb : Value) (xs ys : List Int) (h : Hp) (ha : SlF h I va xs) (hb : SlF h I vb ys) (hl : xs.length < 4611686018427387904) (hl2 : ys.length < 4611686018427387904) :
    CallsH Try.prog 13 [va, vb] h fun v' h' => v' = .bool (decide (xs = ys)) ∧ h = h' := by
  (apply enter Try.func13 rfl Try.ntmps13 rfl)
  refine runH ?_
  (apply w_condD; exact rfl; exact rfl) <;> intro hne
  · refine runH ?_
    exact fin1 rfl rfl ⟨by rw [decide_eq_false]; intro e; exact hne (by rw [e]), rfl⟩
  · refine runH ?_
    (first | (apply w_seqB; exact rfl; apply w_block; exact rfl) | skip)
    apply (w_loop (σ := Nat) rfl (fun i => [(0, va), (1, vb), (12, N xs.length), (13, N i)])
      (fun i h' => h = h' ∧ i ≤ xs.length ∧ ∀ j, j < i → xs.getD j 0 = ys.getD j 0) (fun i => xs.length - i) 0)
    · exact (Sub.cons rfl (Sub.cons rfl (Sub.cons rfl (Sub.cons rfl (Sub.nil _)))))
    · exact ⟨rfl, Nat.zero_le _, fun j hj => by cases hj⟩
    · rintro i h' ⟨rfl, i1, i2⟩
      refine runH ?_
      (apply w_condD; exact rfl; exact rfl) <;> intro hi
      · refine runH ?_
        (apply s_loadF (0 : Int); exact rfl; exact rfl; (first | exact rd_plain (by assumption) | exact rd_extF (by assumption) | exact rd_plain (OwnF.sl (by assumption)) | exact rd_extF (OwnF.sl (by assumption)) | exact rd_onlyF (by assumption) (by assumption)); exact rfl; (first | assumption | omega))
        refine runH ?_
        (apply s_loadF (0 : Int); exact rfl; exact rfl; (first | exact rd_plain (by assumption) | exact rd_extF (by assumption) | exact rd_plain (OwnF.sl (by assumption)) | exact rd_extF (OwnF.sl (by assumption)) | exact rd_onlyF (by assumption) (by assumption)); exact rfl; (first | assumption | omega))
        refine runH ?_
        (apply w_condD; exact rfl; exact rfl) <;> intro hd
        · refine runH ?_
          exact fin1 rfl rfl ⟨by rw [decide_eq_false]; intro e; exact hd (by rw [e]), rfl⟩
        · refine runH ?_
          apply again_normal (i + 1)
          · exact (Sub.cons rfl (Sub.cons rfl (Sub.cons rfl (Sub.cons rfl (Sub.nil _)))))
          · exact ⟨rfl, hi, fun j hj => by
              rcases Nat.lt_succ_iff_lt_or_eq.1 hj with hj | rfl
              · exact i2 j hj
              · omega⟩
          · omega
      · refine runH ?_
        exact fin1 rfl rfl ⟨by rw [decide_eq_true]; exact ints_eq (by omega) fun j hj => i2 j (by omega), rfl⟩
end Go.Proofs.Ytlaijoebocfelaa

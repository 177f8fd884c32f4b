/- The tape: an error, rows of threes. No condition. -/
import Derived.Test.YtlaijoebocfelaaTapB
namespace Go.Proofs.Ytlaijoebocfelaa
set_option linter.unusedVariables false
open Go Go.Den Go.RowKit Go.Dig

theorem Try_ent10 : Ent Try.prog 10 := ent_of Try.func10 (by kernel_rfl) rfl
theorem error_spec (t : Value) (B : Option Nat) (w : Nat) (ds : List Nat) (o : Bool) (h : Hp) (s : TapeAt h t B ds o) (hw : 1 ≤ w) (hw2 : w ≤ 16) :
    CallsH Try.prog 10 [t, N w] h fun v' h' => Only (pblk t) h h' ∧
      ((v' = .tuple #[N 0, N 11] ∧ (∃ ds', TapeAt h' t B ds' true) ∧ (o = false ∨ ds = [] → TapeAt h' t B [] true) ∧ (o = true ∨ ds = [])) ∨ (∃ r : Int, ∃ ds', v' = .tuple #[I r, N 0] ∧ -(w : Int) ≤ r ∧ r ≤ w ∧ o = false ∧ (∃ d, ds = d :: ds' ∧ r = ((ones (d &&& 1 * 2 ^ w - 1) : Nat) : Int) - ((ones (d / 2 ^ w &&& 1 * 2 ^ w - 1) : Nat) : Int)) ∧ TapeAt h' t B ds' false ∧ ds'.length ≤ ds.length)) := by
  have s0 := s
  obtain ⟨v, s1, s2, s3, s4, s5⟩ := s
  (apply enter Try.func10 rfl Try.ntmps10 rfl)
  refine runH ?_
  (apply s_splitG; exact rfl; exact rfl; exact rfl; exact rfl) <;> intro hg
  · omega
  refine runH ?_
  (apply w_condF; exact rfl; exact rfl; exact (by omega))
  refine runH ?_
  apply (s_call Try_ent18 rfl rfl rfl)
  refine (draw_spec t B ds o h s0).mono ?_
  rintro r h2 ⟨k2, D⟩
  refine ⟨(by first | exact trivial | exact trivial), ?_⟩
  cases ds with
  | nil =>
    obtain ⟨rfl, D⟩ := D
    refine runH ?_
    exact fin2 rfl rfl rfl ⟨k2, .inl ⟨rfl, ⟨_, D⟩, fun _ => D, .inr rfl⟩⟩
  | cons d ds' =>
    obtain ⟨rfl, D⟩ := D
    have D0 := D
    obtain ⟨v2, u1, u2, u3, u4, u5⟩ := D
    have hd64 : d < 18446744073709551616 := s4 d (by simp)
    refine runH ?_
    (apply w_cond; exact rfl; exact rfl) <;> intro ho
    · subst ho
      refine runH ?_
      refine fin2 rfl rfl rfl ⟨k2, .inl ⟨rfl, ⟨_, D0⟩, (fun h => by rcases h with h | h <;> cases h), .inl rfl⟩⟩
    · subst ho
      have p1 : 2 ^ w ≤ 65536 := by
        have := Nat.pow_le_pow_right (n := 2) (by omega) hw2
        simpa using this
      have p0 : 0 < 2 ^ w := Nat.two_pow_pos w
      have ma : ∀ x, (x &&& 1 * 2 ^ w - 1) < 2 ^ w := fun x => by
        rw [Nat.one_mul, Nat.and_two_pow_sub_one_eq_mod]; exact Nat.mod_lt _ p0
      have ma1 := ma d
      have ma2 := ma (d / 2 ^ w)
      have l1 := ones_le hw2 ma1
      have hdw : d / 2 ^ w < 18446744073709551616 ∧ 1 * 2 ^ w - 1 < 18446744073709551616 := ⟨Nat.lt_of_le_of_lt (Nat.div_le_self _ _) hd64, by omega⟩
      have l2 := ones_le hw2 ma2
      refine runH ?_
      apply (s_call Try_ent19 rfl rfl rfl)
      refine (ones_spec _ _ (Nat.lt_of_lt_of_le ma1 (by omega))).mono ?_
      rintro _ _ ⟨rfl, rfl⟩
      refine ⟨(by first | exact trivial | exact Ext.refl _ | assumption | exact Ext.trans (by assumption) (by assumption)), ?_⟩
      refine runH ?_
      apply (s_call Try_ent19 rfl rfl rfl)
      refine (ones_spec _ _ (Nat.lt_of_lt_of_le ma2 (by omega))).mono ?_
      rintro _ _ ⟨rfl, rfl⟩
      refine ⟨(by first | exact trivial | exact Ext.refl _ | assumption | exact Ext.trans (by assumption) (by assumption)), ?_⟩
      refine runH ?_
      refine fin2 rfl rfl rfl ⟨k2, .inr ⟨_, ds', rfl, ?_, ?_, rfl, ⟨d, rfl, rfl⟩, D0, by simp only [List.length_cons]; omega⟩⟩
      · omega
      · omega
end Go.Proofs.Ytlaijoebocfelaa

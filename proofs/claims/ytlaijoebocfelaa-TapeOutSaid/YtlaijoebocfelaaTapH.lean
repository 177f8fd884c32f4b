/- The laws of a tape that has run out, and of bounds. No condition. -/
import Derived.Test.YtlaijoebocfelaaTapG
namespace Go.Proofs.Ytlaijoebocfelaa
set_option linter.unusedVariables false
open Go Go.Den Go.RowKit Go.Dig

theorem firstT_less : ∀ (ds : List Nat) (r : Int) (ds' : List Nat), firstT ds = some (r, ds') → ds'.length < ds.length
  | [], _, _, h => by cases h
  | d :: ds, r, ds', h => by
    unfold firstT at h
    split at h
    · have := firstT_less ds r ds' h; simp only [List.length_cons]; omega
    · cases h; simp
theorem rowT_none : ∀ (n : Nat) (ds : List Nat), ds.length < n → rowT n ds = none
  | 0, ds, h => by omega
  | n + 1, ds, h => by
    unfold rowT
    cases hf : firstT ds with
    | none => rfl
    | some q =>
      obtain ⟨r, ds1⟩ := q
      have h1 := firstT_less ds r ds1 hf
      simp only [rowT_none n ds1 (by omega)]

theorem below_out (t : Value) (B : Option Nat) (q : Nat) (ds : List Nat) (h : Hp) (s : TapeAt h t B ds true) (hq : 0 < q) (hq2 : q < 18446744073709551616) :
    CallsH Try.prog 8 [t, U q] h fun v' h' => v' = .tuple #[U 0, N 11] ∧ h = h' := by
  obtain ⟨v, s1, s2, s3, s4, s5⟩ := s
  (apply enter Try.func8 rfl Try.ntmps8 rfl)
  refine runH ?_
  (apply w_condF; exact rfl; exact rfl; exact (by omega))
  refine runH ?_
  have h1q : Nat.mod 1 q < q := Nat.mod_lt _ hq
  apply (s_call Try_ent17 rfl rfl rfl)
  refine (div64_spec _ _ _ _ h1q (by decide) hq2).mono ?_
  rintro _ _ ⟨rfl, rfl⟩
  refine ⟨(by first | exact trivial | exact Ext.refl _ | assumption | exact Ext.trans (by assumption) (by assumption)), ?_⟩
  refine runH ?_
  (first | (apply w_seqB; exact rfl; apply w_block; exact rfl) | skip)
  apply (w_loop (σ := Unit) rfl (fun p => [(0, t)]) (fun p h' => h' = h) (fun p => 0) ())
  · exact (Sub.cons rfl (Sub.nil _))
  · exact rfl
  · rintro u h1 rfl
    refine runH ?_
    exact fin2 rfl rfl rfl ⟨rfl, rfl⟩
theorem ternary_out (t : Value) (B : Option Nat) (ds : List Nat) (h : Hp) (s : TapeAt h t B ds true) :
    CallsH Try.prog 9 [t] h fun v' h' => v' = .tuple #[N 0, N 11] ∧ h = h' := by
  obtain ⟨v, s1, s2, s3, s4, s5⟩ := s
  (apply enter Try.func9 rfl Try.ntmps9 rfl)
  refine runH ?_
  (first | (apply w_seqB; exact rfl; apply w_block; exact rfl) | skip)
  apply (w_loop (σ := Unit) rfl (fun p => [(0, t)]) (fun p h' => h' = h) (fun p => 0) ())
  · exact (Sub.cons rfl (Sub.nil _))
  · exact rfl
  · rintro u h1 rfl
    refine runH ?_
    exact fin2 rfl rfl rfl ⟨rfl, rfl⟩

theorem Try_ent4 : Ent Try.prog 4 := ent_of Try.func4 (by kernel_rfl) rfl
theorem tapeOut_law (v : Value) (ds : List Nat) (q : Nat) (h : Hp) (s : SlF h U v ds) (hal : Al 18446744073709551616 ds) (hq : q < 18446744073709551616) :
    CallsH Try.prog 4 [v, U q] h fun v' h' => v' = .bool true ∧ Ext h h' := by
  (apply enter Try.func4 rfl Try.ntmps4 rfl)
  refine runH ?_
  apply (s_call Try_ent6 rfl rfl rfl)
  refine (fixed_spec h).mono ?_
  rintro _ h1 ⟨rfl, e1⟩
  refine ⟨(by first | exact trivial | exact e1), ?_⟩
  have s1 := s.ext e1
  refine runH ?_
  (apply s_splitG; exact rfl; exact rfl; exact rfl; exact rfl) <;> intro hbig
  · refine runH ?_
    exact fin1 rfl rfl ⟨rfl, e1⟩
  · refine runH ?_
    (apply w_condD; exact rfl; exact rfl) <;> intro hq0
    · refine runH ?_
      exact fin1 rfl rfl ⟨rfl, e1⟩
    · refine runH ?_
      apply (s_call Try_ent7 rfl rfl rfl)
      refine (new_spec v ds h1 s1 hal (by omega)).mono ?_
      rintro t h2 ⟨e2, k2, B, q2, l2, T⟩
      refine ⟨(by first | exact trivial | exact trivial), ?_⟩
      have E2 := e1.trans e2
      have hs1 : h.size ≤ k2 := Nat.le_trans e1.1 l2
      refine runH ?_
      apply (s_call Try_ent12 rfl rfl rfl)
      refine (ternaries_spec t B (ds.length + 1) ds h2 T (by omega) (by omega)).mono ?_
      rintro r h3 ⟨k3, T3⟩
      refine ⟨(by first | exact trivial | exact trivial), ?_⟩
      rw [rowT_none _ _ (Nat.lt_succ_self _)] at T3
      obtain ⟨rfl, T3⟩ := T3
      have E3 := k3.oldV E2 q2 hs1
      refine runH ?_
      (apply s_splitG; exact rfl; exact rfl; exact rfl; exact rfl) <;> intro hlt
      rotate_left
      · omega
      refine runH ?_
      (apply w_condF; exact rfl; exact rfl; exact (by omega))
      refine runH ?_
      apply (s_call Try_ent8 rfl rfl rfl)
      refine (below_out t B q [] h3 T3 (by omega) hq).mono ?_
      rintro _ _ ⟨rfl, rfl⟩
      refine ⟨(by first | exact trivial | exact Ext.refl _ | assumption | exact Ext.trans (by assumption) (by assumption)), ?_⟩
      refine runH ?_
      apply (s_call Try_ent9 rfl rfl rfl)
      refine (ternary_out t B [] h3 T3).mono ?_
      rintro _ _ ⟨rfl, rfl⟩
      refine ⟨(by first | exact trivial | exact Ext.refl _ | assumption | exact Ext.trans (by assumption) (by assumption)), ?_⟩
      refine runH ?_
      apply (s_call Try_ent10 rfl rfl rfl)
      refine (error_spec t B 1 [] true h3 T3 (by omega) (by omega)).mono ?_
      rintro r h4 ⟨k4, T4⟩
      refine ⟨(by first | exact trivial | exact trivial), ?_⟩
      have T5 : r = .tuple #[N 0, N 11] ∧ TapeAt h4 t B [] true := by
        rcases T4 with ⟨rfl, -, e, -⟩ | ⟨r, ds', -, -, -, e, -⟩
        · exact ⟨rfl, e (.inr rfl)⟩
        · cases e
      obtain ⟨rfl, T5⟩ := T5
      have E4 := k4.oldV E3 q2 hs1
      refine runH ?_
      apply (s_call Try_ent11 rfl rfl rfl)
      refine (left_spec t B [] true h4 T5).mono ?_
      rintro _ _ ⟨rfl, rfl⟩
      refine ⟨(by first | exact trivial | exact Ext.refl _ | assumption | exact Ext.trans (by assumption) (by assumption)), ?_⟩
      refine runH ?_
      exact fin1 rfl rfl ⟨rfl, E4⟩
end Go.Proofs.Ytlaijoebocfelaa

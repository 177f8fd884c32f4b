/- The tape: what a nil tape says; the calls whose answers are fixed. No condition. -/
import Derived.Test.YtlaijoebocfelaaTapE
namespace Go.Proofs.Ytlaijoebocfelaa
set_option linter.unusedVariables false
open Go Go.Den Go.RowKit Go.Dig

theorem below_nil (q : Nat) (h : Hp) : CallsH Try.prog 8 [.pointer none, U q] h fun v' h' => v' = .tuple #[U 0, N 1] ∧ h = h' := by
  (apply enter Try.func8 rfl Try.ntmps8 rfl)
  refine runH ?_
  exact fin2 rfl rfl rfl ⟨rfl, rfl⟩
theorem below_zero (t : Value) (B : Option Nat) (ds : List Nat) (o : Bool) (h : Hp) (s : TapeAt h t B ds o) : CallsH Try.prog 8 [t, U 0] h fun v' h' => v' = .tuple #[U 0, N 1] ∧ h = h' := by
  obtain ⟨v, s1, s2, s3, s4, s5⟩ := s
  (apply enter Try.func8 rfl Try.ntmps8 rfl)
  refine runH ?_
  exact fin2 rfl rfl rfl ⟨rfl, rfl⟩
theorem ternary_nil (h : Hp) : CallsH Try.prog 9 [.pointer none] h fun v' h' => v' = .tuple #[N 0, N 1] ∧ h = h' := by
  (apply enter Try.func9 rfl Try.ntmps9 rfl)
  refine runH ?_
  exact fin2 rfl rfl rfl ⟨rfl, rfl⟩
theorem error_nil (n : Int) (h : Hp) : CallsH Try.prog 10 [.pointer none, I n] h fun v' h' => v' = .tuple #[N 0, N 1] ∧ h = h' := by
  (apply enter Try.func10 rfl Try.ntmps10 rfl)
  refine runH ?_
  exact fin2 rfl rfl rfl ⟨rfl, rfl⟩
theorem left_nil (h : Hp) : CallsH Try.prog 11 [.pointer none] h fun v' h' => v' = N 0 ∧ h = h' := by
  (apply enter Try.func11 rfl Try.ntmps11 rfl)
  refine runH ?_
  exact fin1 rfl rfl ⟨rfl, rfl⟩
theorem ternaries_nil (n : Int) (h : Hp) : CallsH Try.prog 12 [.pointer none, I n] h fun v' h' => (∃ u, v' = .tuple #[u, N 1]) ∧ h = h' := by
  (apply enter Try.func12 rfl Try.ntmps12 rfl)
  refine runH ?_
  exact fin2 rfl rfl rfl ⟨⟨_, rfl⟩, rfl⟩
theorem Try_ent15 : Ent Try.prog 15 := ent_of Try.func15 (by kernel_rfl) rfl
theorem errors_nil (n m : Int) (h : Hp) : CallsH Try.prog 15 [.pointer none, I n, I m] h fun v' h' => (∃ u, v' = .tuple #[u, N 1]) ∧ Ext h h' := by
  (apply enter Try.func15 rfl Try.ntmps15 rfl)
  refine runH ?_
  (apply s_box; exact rfl; exact rfl; exact rfl; exact rfl)
  intro p g1 p1 f1 c1
  (try dsimp only [Value.cells, List.toList_toArray] at p1)
  refine ⟨(by first | exact trivial | exact Ext.refl _ | assumption | exact Ext.trans (by assumption) (by assumption)), ?_⟩
  refine runH ?_
  (apply s_box; exact rfl; exact rfl; exact rfl; exact rfl)
  intro q g2 q2 f2 c2
  (try dsimp only [Value.cells, List.toList_toArray] at q2)
  refine ⟨(by first | exact trivial | exact Ext.refl _ | assumption | exact Ext.trans (by assumption) (by assumption)), ?_⟩
  have p2 := p1.ext f2
  refine runH ?_
  exact fin2 rfl rfl rfl ⟨⟨_, rfl⟩, f1.trans f2⟩
theorem Try_ent14 : Ent Try.prog 14 := ent_of Try.func14 (by kernel_rfl) rfl
theorem uniform_nil (n : Int) (w : Value) (h : Hp) : CallsH Try.prog 14 [.pointer none, I n, w] h fun v' h' => v' = .tuple #[.agg #[.slice none 0 0], N 1] ∧ Ext h h' := by
  (apply enter Try.func14 rfl Try.ntmps14 rfl)
  refine runH ?_
  (apply s_alloc; exact rfl; exact rfl; exact rfl)
  intro p g1 p1 f1 c1
  (try dsimp only [Value.cells, List.toList_toArray] at p1)
  refine ⟨(by first | exact trivial | exact Ext.refl _ | assumption | exact Ext.trans (by assumption) (by assumption)), ?_⟩
  refine runH ?_
  (apply (s_build ([.slice none 0 0])); exact rfl; exact rfl; exact rfl; (repeat (first | exact CellsAll.nil | (apply CellsAll.cons; (first | exact oneL (SlF.one (by assumption)) | exact oneL (SlF.one (OwnF.sl (by assumption))) | exact oneL (Var.one (by assumption)) | exact rfl)))); exact rfl; exact rfl)
  refine runH ?_
  (apply s_storeV; exact rfl; exact rfl; exact rfl; (repeat (first | exact OneAll.nil | (apply OneAll.cons; (first | exact rfl | exact SlF.one (by assumption) | exact SlF.one (OwnF.sl (by assumption)) | exact Var.one (by assumption))))); exact rfl; exact rfl; exact p1; exact rfl)
  intro g2 p2 k2
  (try dsimp only [Value.cells, List.toList_toArray] at p2)
  refine ⟨(by first | exact trivial | exact Ext.refl _ | assumption | exact Ext.only (by assumption) _ | exact Only.trans (Ext.only (by assumption) _) (by assumption)), ?_⟩
  refine runH ?_
  exact finCT rfl rfl rfl p2 rfl rfl ⟨rfl, k2.oldV f1 c1 (Nat.le_refl _)⟩

theorem var_lt' {h : Hp} {p : Value} {e : TypeId} {cs : List Value} {k : Nat} (s : Var h p e cs) (hk : pblk p = some k) : k < h.size := by
  obtain ⟨g, rfl, hg⟩ := s
  cases hk
  exact (Array.getElem?_eq_some_iff.1 hg).1
theorem TapeAt.ext {h h' : Hp} {t : Value} {B : Option Nat} {ds : List Nat} {o : Bool} (s : TapeAt h t B ds o) (k : Ext h h') : TapeAt h' t B ds o := by
  obtain ⟨v, s1, s2, s3, s4, s5⟩ := s
  exact ⟨v, s1.ext k, s2.ext k, s3.mono k.1, s4, s5⟩

theorem Try_ent6 : Ent Try.prog 6 := ent_of Try.func6 (by kernel_rfl) rfl
theorem fixed_spec (h : Hp) : CallsH Try.prog 6 [] h fun v' h' => v' = .bool true ∧ Ext h h' := by
  (apply enter Try.func6 rfl Try.ntmps6 rfl)
  refine runH ?_
  (apply (s_litF (f := U) [3, 7, 2] (fun _ => rfl)); exact rfl; exact rfl; exact rfl; exact rfl; exact rfl; exact rfl; exact rfl; exact rfl; omega)
  intro w h1 o1 e1 b1
  refine ⟨(by first | exact trivial | exact Ext.refl _ | assumption | exact Ext.trans (by assumption) (by assumption)), ?_⟩
  refine runH ?_
  apply (s_call Try_ent7 rfl rfl rfl)
  refine (new_spec w [3, 7, 2] h1 o1.sl (by intro x hx; simp at hx; omega) (by decide)).mono ?_
  rintro t h2 ⟨e2, k2, B, q2, l2, T⟩
  refine ⟨(by first | exact trivial | exact trivial), ?_⟩
  have E2 := e1.trans e2
  have hs1 : h.size ≤ k2 := Nat.le_trans e1.1 l2
  refine runH ?_
  apply (s_call Try_ent9 rfl rfl rfl)
  refine (ternary_spec t B [3, 7, 2] false h2 T).mono ?_
  rintro r h3 ⟨k3, T3⟩
  refine ⟨(by first | exact trivial | exact trivial), ?_⟩
  have hf : firstT [3, 7, 2] = some (-1, []) := by decide
  simp only [Bool.false_eq_true, if_false, hf] at T3
  obtain ⟨rfl, -, -, T3, -⟩ := T3
  have E3 := k3.oldV E2 q2 hs1
  have k2lt : k2 < h3.size := by
    obtain ⟨v, s1, -⟩ := T3
    exact var_lt' s1 q2
  refine runH ?_
  (apply (s_litF (f := U) [5] (fun _ => rfl)); exact rfl; exact rfl; exact rfl; exact rfl; exact rfl; exact rfl; exact rfl; exact rfl; omega)
  intro w4 h4 o4 e4 b4
  refine ⟨(by first | exact trivial | exact Ext.refl _ | assumption | exact Ext.trans (by assumption) (by assumption)), ?_⟩
  refine runH ?_
  apply (s_call Try_ent7 rfl rfl rfl)
  refine (new_spec w4 [5] h4 o4.sl (by intro x hx; simp at hx; omega) (by decide)).mono ?_
  rintro t5 h5 ⟨e5, k5, B5, q5, l5, T5⟩
  refine ⟨(by first | exact trivial | exact trivial), ?_⟩
  have E5 := (E3.trans e4).trans e5
  have T3' := (T3.ext e4).ext e5
  have hs5 : h3.size ≤ k5 := Nat.le_trans e4.1 l5
  refine runH ?_
  apply (s_call Try_ent10 rfl rfl rfl)
  refine (error_spec t5 B5 2 [5] false h5 T5 (by decide) (by decide)).mono ?_
  rintro r6 h6 ⟨k6, T6⟩
  refine ⟨(by first | exact trivial | exact trivial), ?_⟩
  have T6' : r6 = .tuple #[N 0, N 0] := by
    rcases T6 with ⟨-, -, -, e⟩ | ⟨r, ds', rfl, -, -, -, ⟨d, e1, e2⟩, -, -⟩
    · rcases e with e | e <;> cases e
    · cases e1
      rw [e2]; rfl
  subst T6'
  have E6 := k6.oldV E5 q5 (Nat.le_trans E3.1 hs5)
  have hn5 : pblk t ≠ pblk t5 := by rw [q2, q5]; intro e; cases e; omega
  have hB3 : ∀ b, B = some b → b < h3.size := by
    obtain ⟨v, -, -, s3, -⟩ := T3
    exact s3.lt
  have T6' := T3'.only k6 hn5 (by rw [q5]; intro e; have := hB3 _ e; omega)
  refine runH ?_
  (apply (s_litF (f := U) [7] (fun _ => rfl)); exact rfl; exact rfl; exact rfl; exact rfl; exact rfl; exact rfl; exact rfl; exact rfl; omega)
  intro w7 h7 o7 e7 b7
  refine ⟨(by first | exact trivial | exact Ext.refl _ | assumption | exact Ext.trans (by assumption) (by assumption)), ?_⟩
  refine runH ?_
  apply (s_call Try_ent7 rfl rfl rfl)
  refine (new_spec w7 [7] h7 o7.sl (by intro x hx; simp at hx; omega) (by decide)).mono ?_
  rintro t8 h8 ⟨e8, k8, B8, q8, l8, T8⟩
  refine ⟨(by first | exact trivial | exact trivial), ?_⟩
  have E8 := (E6.trans e7).trans e8
  have T8' := (T6'.ext e7).ext e8
  have h36 : h3.size ≤ h6.size := Nat.le_trans (Nat.le_trans e4.1 e5.1) k6.1
  have hs8 : h6.size ≤ k8 := Nat.le_trans e7.1 l8
  refine runH ?_
  apply (s_call Try_ent8 rfl rfl rfl)
  refine (below_first t8 B8 4 7 [] h8 T8 (by decide) (by decide) (by decide)).mono ?_
  rintro r9 h9 ⟨k9, rfl, T9⟩
  refine ⟨(by first | exact trivial | exact trivial), ?_⟩
  have E9 := k9.oldV E8 q8 (Nat.le_trans E6.1 hs8)
  have hn8 : pblk t ≠ pblk t8 := by rw [q2, q8]; intro e; cases e; omega
  have T9' := T8'.only k9 hn8 (by rw [q8]; intro e; have := hB3 _ e; omega)
  refine runH ?_
  apply (s_call Try_ent9 rfl rfl rfl)
  refine (ternary_spec t B [] false h9 T9').mono ?_
  rintro r10 h10 ⟨k10, T10⟩
  refine ⟨(by first | exact trivial | exact trivial), ?_⟩
  simp only [Bool.false_eq_true, if_false, firstT] at T10
  obtain ⟨rfl, -, T10⟩ := T10
  have T10 := T10 trivial
  have E10 := k10.oldV E9 q2 hs1
  refine runH ?_
  apply (s_call Try_ent11 rfl rfl rfl)
  refine (left_spec t B [] true h10 T10).mono ?_
  rintro _ _ ⟨rfl, rfl⟩
  refine ⟨(by first | exact trivial | exact Ext.refl _ | assumption | exact Ext.trans (by assumption) (by assumption)), ?_⟩
  refine runH ?_
  exact fin1 rfl rfl ⟨rfl, E10⟩

end Go.Proofs.Ytlaijoebocfelaa

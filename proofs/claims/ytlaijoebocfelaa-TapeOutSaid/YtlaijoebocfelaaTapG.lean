/- The law of the nil tape. No condition. -/
import Derived.Test.YtlaijoebocfelaaTapF
namespace Go.Proofs.Ytlaijoebocfelaa
set_option linter.unusedVariables false
open Go Go.Den Go.RowKit Go.Dig

theorem Try_ent5 : Ent Try.prog 5 := ent_of Try.func5 (by kernel_rfl) rfl
theorem tapeNil_law (q : Nat) (n : Int) (h : Hp) (hq : q < 18446744073709551616) : CallsH Try.prog 5 [U q, I n] h fun v' h' => v' = .bool true ∧ Ext h h' := by
  (apply enter Try.func5 rfl Try.ntmps5 rfl)
  refine runH ?_
  apply (s_call Try_ent6 rfl rfl rfl)
  refine (fixed_spec h).mono ?_
  rintro _ h1 ⟨rfl, e1⟩
  refine ⟨(by first | exact trivial | exact e1), ?_⟩
  refine runH ?_
  apply (s_call Try_ent8 rfl rfl rfl)
  refine (below_nil q h1).mono ?_
  rintro _ _ ⟨rfl, rfl⟩
  refine ⟨(by first | exact trivial | exact Ext.refl _ | assumption | exact Ext.trans (by assumption) (by assumption)), ?_⟩
  refine runH ?_
  apply (s_call Try_ent9 rfl rfl rfl)
  refine (ternary_nil h1).mono ?_
  rintro _ _ ⟨rfl, rfl⟩
  refine ⟨(by first | exact trivial | exact Ext.refl _ | assumption | exact Ext.trans (by assumption) (by assumption)), ?_⟩
  refine runH ?_
  apply (s_call Try_ent10 rfl rfl rfl)
  refine (error_nil n h1).mono ?_
  rintro _ _ ⟨rfl, rfl⟩
  refine ⟨(by first | exact trivial | exact Ext.refl _ | assumption | exact Ext.trans (by assumption) (by assumption)), ?_⟩
  refine runH ?_
  (apply (s_litF (f := U) [q] (fun _ => rfl)); exact rfl; exact rfl; exact rfl; exact rfl; exact rfl; exact rfl; exact rfl; exact rfl; omega)
  intro w h2 o2 e2 b2
  refine ⟨(by first | exact trivial | exact Ext.refl _ | assumption | exact Ext.trans (by assumption) (by assumption)), ?_⟩
  refine runH ?_
  apply (s_call Try_ent14 rfl rfl rfl)
  refine (uniform_nil n w h2).mono ?_
  rintro _ h3 ⟨rfl, e3⟩
  refine ⟨(by first | exact trivial | exact (e2.trans e3)), ?_⟩
  refine runH ?_
  (apply s_alloc; exact rfl; exact rfl; exact rfl)
  intro p g4 p4 f4 c4
  (try dsimp only [Value.cells, List.toList_toArray] at p4)
  refine ⟨(by first | exact trivial | exact Ext.refl _ | assumption | exact Ext.trans (by assumption) (by assumption)), ?_⟩
  refine runH ?_
  (apply s_storeV; exact rfl; exact rfl; exact rfl; (repeat (first | exact OneAll.nil | (apply OneAll.cons; (first | exact rfl | exact SlF.one (by assumption) | exact SlF.one (OwnF.sl (by assumption)) | exact Var.one (by assumption))))); exact rfl; exact rfl; exact p4; exact rfl)
  intro g5 p5 k5
  (try dsimp only [Value.cells, List.toList_toArray] at p5)
  refine ⟨(by first | exact trivial | exact Ext.refl _ | assumption | exact Ext.only (by assumption) _ | exact Only.trans (Ext.only (by assumption) _) (by assumption)), ?_⟩
  have f5 := k5.oldV f4 c4 (Nat.le_refl _)
  refine runH ?_
  apply (s_call Try_ent12 rfl rfl rfl)
  refine (ternaries_nil n g5).mono ?_
  rintro _ h4 ⟨⟨u4, rfl⟩, rfl⟩
  refine ⟨(by first | exact trivial | exact trivial), ?_⟩
  refine runH ?_
  apply (s_call Try_ent15 rfl rfl rfl)
  refine (errors_nil n n _).mono ?_
  rintro _ h5 ⟨⟨u5, rfl⟩, e5⟩
  refine ⟨(by first | exact trivial | exact e5), ?_⟩
  refine runH ?_
  apply (s_call Try_ent11 rfl rfl rfl)
  refine (left_nil h5).mono ?_
  rintro _ _ ⟨rfl, rfl⟩
  refine ⟨(by first | exact trivial | exact Ext.refl _ | assumption | exact Ext.trans (by assumption) (by assumption)), ?_⟩
  refine runH ?_
  exact fin1 rfl rfl ⟨rfl, (((e1.trans e2).trans e3).trans f5).trans e5⟩
end Go.Proofs.Ytlaijoebocfelaa

/- Vector programs: what they are in memory; an instruction's form. No condition. -/
import Derived.Test.YthgpgccmhohfbaaVecA
namespace Go.Proofs.Ythgpgccmhohfbaa
set_option linter.unusedVariables false
open Go Go.Den Go.RowKit

structure Ins where
  (op to a b k : Int)
def Ins.cells (x : Ins) : List Value := [I x.op, I x.to, I x.a, I x.b, I x.k]
structure InD where
  lo : Int
  hi : Int
  v : Value
  sl : List Int
def InD.cells (x : InD) : List Value := [I x.lo, I x.hi, x.v]
structure VecD where
  slots : Int
  vI : Value
  ins : List InD
  vP : Value
  pls : List (Value × List Int)
  vC : Value
  code : List Ins
  last : Int
  vO : Value
  out : List Int
abbrev VecD.cells (V : VecD) : List Value := [I V.slots, V.vI, V.vP, V.vC, I V.last, V.vO]
/-- The rows that a vector program has in memory. -/
structure VecAt (h : Hp) (V : VecD) : Prop where mk ::
  ins : SlA h InD.cells 3 V.vI V.ins
  inr : ∀ x ∈ V.ins, SlF h I x.v x.sl
  pls : SlF h Prod.fst V.vP V.pls
  plr : ∀ x ∈ V.pls, SlF h I x.1 x.2
  code : SlA h Ins.cells 5 V.vC V.code
  out : SlF h I V.vO V.out
theorem VecAt.ext {h h' : Hp} {V : VecD} (s : VecAt h V) (e : Ext h h') : VecAt h' V :=
  ⟨s.ins.ext e, fun x hx => (s.inr x hx).ext e, s.pls.ext e, fun x hx => (s.plr x hx).ext e, s.code.ext e, s.out.ext e⟩
/-- Its lists are no longer than any machine's. -/
structure VecL (V : VecD) : Prop where mk ::
  ins : V.ins.length < 4611686018427387904
  inr : ∀ x ∈ V.ins, x.sl.length < 4611686018427387904
  pls : V.pls.length < 4611686018427387904
  plr : ∀ x ∈ V.pls, x.2.length < 4611686018427387904
  code : V.code.length < 4611686018427387904
  out : V.out.length < 4611686018427387904

def formP (x : Ins) (i : Nat) (V : VecD) : Prop :=
  x.to = i ∧ ((x.op = 1 ∧ x.a = 0 ∧ x.b = 0 ∧ 0 ≤ x.k ∧ x.k < V.ins.length) ∨ (x.op = 2 ∧ x.a = 0 ∧ x.b = 0 ∧ 0 ≤ x.k ∧ x.k < V.pls.length) ∨
    ((x.op = 3 ∨ x.op = 6) ∧ (0 ≤ x.a ∧ x.a < i) ∧ (0 ≤ x.b ∧ x.b < i) ∧ x.k = 0) ∨ ((x.op = 4 ∨ x.op = 5) ∧ (0 ≤ x.a ∧ x.a < i) ∧ x.b = 0 ∧ 0 ≤ x.k ∧ x.k < V.pls.length) ∨
    (x.op = 8 ∧ (0 ≤ x.a ∧ x.a < i) ∧ x.b = 0 ∧ 0 < x.k ∧ x.k < V.slots))
instance (x : Ins) (i : Nat) (V : VecD) : Decidable (formP x i V) := by unfold formP; exact inferInstance

theorem dec_t {p : Prop} [Decidable p] (h : p) : Value.bool true = .bool (decide p) := by rw [decide_eq_true h]
theorem dec_f {p : Prop} [Decidable p] (h : ¬ p) : Value.bool false = .bool (decide p) := by rw [decide_eq_false h]
theorem dec_i {p q : Prop} [Decidable p] [Decidable q] (h : p ↔ q) : Value.bool (decide p) = .bool (decide q) := by
  congr 1; exact decide_eq_decide.2 h

theorem Try_ent34 : Ent Try.prog 34 := ent_of Try.func34 (by kernel_rfl) rfl
theorem form1_spec (k : Int) (p : Value) (i : Nat) (h : Hp) (s : Var h p 3 [N i]) :
    CallsH Try.prog 34 [I k, p] h fun v' h' => v' = .bool (decide (0 ≤ k ∧ k < (i : Int))) ∧ h = h' := by
  (apply enter Try.func34 rfl Try.ntmps34 rfl)
  refine runJ ?_
  (apply s_splitG; exact rfl; exact rfl; exact rfl; exact rfl) <;> intro h0
  · refine runJ ?_
    exact fin1 rfl rfl ⟨dec_i (by omega), rfl⟩
  · refine runJ ?_
    exact fin1 rfl rfl ⟨dec_f (by omega), rfl⟩
theorem Try_ent35 : Ent Try.prog 35 := ent_of Try.func35 (by kernel_rfl) rfl
theorem form2_spec (k n : Int) (h : Hp) :
    CallsH Try.prog 35 [I k, I n] h fun v' h' => v' = .bool (decide (0 ≤ k ∧ k < n)) ∧ h = h' := by
  (apply enter Try.func35 rfl Try.ntmps35 rfl)
  refine runJ ?_
  (apply s_splitG; exact rfl; exact rfl; exact rfl; exact rfl) <;> intro h0
  · refine runJ ?_
    exact fin1 rfl rfl ⟨dec_i (by omega), rfl⟩
  · refine runJ ?_
    exact fin1 rfl rfl ⟨dec_f (by omega), rfl⟩

theorem Try_ent22 : Ent Try.prog 22 := ent_of Try.func22 (by kernel_rfl) rfl
set_option maxHeartbeats 2000000 in
theorem form_spec (x : Ins) (i : Nat) (V : VecD) (h : Hp) (s : VecAt h V) :
    CallsH Try.prog 22 [.agg x.cells.toArray, N i, .agg V.cells.toArray] h fun v' h' => v' = .bool (decide (formP x i V)) ∧ Ext h h' := by
  unfold Ins.cells VecD.cells
  (apply enter Try.func22 rfl Try.ntmps22 rfl)
  refine runJ ?_
  (apply s_box; exact rfl; exact rfl; exact rfl; exact rfl)
  intro p1 h1 x1 e1 b1
  (try dsimp only [Value.cells, List.toList_toArray] at x1)
  refine ⟨(by first | exact trivial | exact Ext.refl _ | assumption | exact Ext.trans (by assumption) (by assumption)), ?_⟩
  refine runJ ?_
  (apply s_box; exact rfl; exact rfl; exact rfl; exact rfl)
  intro p2 h2 x2 e2 b2
  (try dsimp only [Value.cells, List.toList_toArray] at x2)
  refine ⟨(by first | exact trivial | exact Ext.refl _ | assumption | exact Ext.trans (by assumption) (by assumption)), ?_⟩
  refine runJ ?_
  (apply s_box; exact rfl; exact rfl; exact rfl; exact rfl)
  intro p3 h3 x3 e3 b3
  (try dsimp only [Value.cells, List.toList_toArray] at x3)
  refine ⟨(by first | exact trivial | exact Ext.refl _ | assumption | exact Ext.trans (by assumption) (by assumption)), ?_⟩
  have e13 := (e1.trans e2).trans e3
  have y1 := (x1.ext e2).ext e3
  have y2 := x2.ext e3
  have s3 := s.ext e13
  have l1 := s3.ins
  have l2 := s3.pls
  refine runJ ?_
  (apply w_condD; exact rfl; exact rfl) <;> intro hto
  · refine runJ ?_
    exact fin1 rfl rfl ⟨dec_f (by unfold formP; omega), e13⟩
  have hto : x.to = i := by omega
  refine runJ ?_
  (apply w_condD; exact rfl; exact rfl) <;> intro o1
  · refine runJ ?_
    (apply s_splitG; exact rfl; exact rfl; exact rfl; exact rfl) <;> intro g1
    · refine runJ ?_
      (apply s_splitG; exact rfl; exact rfl; exact rfl; exact rfl) <;> intro g2
      · refine runJ ?_
        refine s_callV rfl Try_ent35 rfl rfl rfl ?_
        refine (form2_spec x.k V.ins.length h3).mono ?_
        rintro _ _ ⟨rfl, rfl⟩
        refine ⟨(by first | exact trivial | exact trivial), ?_⟩
        refine runJ ?_
        exact fin1 rfl rfl ⟨dec_i (by unfold formP; omega), e13⟩
      · refine runJ ?_
        exact fin1 rfl rfl ⟨dec_f (by unfold formP; omega), e13⟩
    · refine runJ ?_
      exact fin1 rfl rfl ⟨dec_f (by unfold formP; omega), e13⟩
  · refine runJ ?_
    (apply w_condD; exact rfl; exact rfl) <;> intro o2
    · refine runJ ?_
      (apply s_splitG; exact rfl; exact rfl; exact rfl; exact rfl) <;> intro g4
      · refine runJ ?_
        (apply s_splitG; exact rfl; exact rfl; exact rfl; exact rfl) <;> intro g5
        · refine runJ ?_
          refine s_callV rfl Try_ent35 rfl rfl rfl ?_
          refine (form2_spec x.k V.pls.length h3).mono ?_
          rintro _ _ ⟨rfl, rfl⟩
          refine ⟨(by first | exact trivial | exact trivial), ?_⟩
          refine runJ ?_
          exact fin1 rfl rfl ⟨dec_i (by unfold formP; omega), e13⟩
        · refine runJ ?_
          exact fin1 rfl rfl ⟨dec_f (by unfold formP; omega), e13⟩
      · refine runJ ?_
        exact fin1 rfl rfl ⟨dec_f (by unfold formP; omega), e13⟩
    · refine runJ ?_
      (apply w_condD; exact rfl; exact rfl) <;> intro o3
      · refine runJ ?_
        (apply w_condT; exact rfl; exact rfl; exact o3)
        refine runJ ?_
        refine s_callV rfl Try_ent34 rfl rfl rfl ?_
        refine (form1_spec x.a p2 i h3 y2).mono ?_
        rintro _ _ ⟨rfl, rfl⟩
        refine ⟨(by first | exact trivial | exact trivial), ?_⟩
        refine runJ ?_
        (apply s_splitG; exact rfl; exact rfl; exact rfl; exact rfl) <;> intro g8
        · refine runJ ?_
          refine s_callV rfl Try_ent34 rfl rfl rfl ?_
          refine (form1_spec x.b p2 i h3 y2).mono ?_
          rintro _ _ ⟨rfl, rfl⟩
          refine ⟨(by first | exact trivial | exact trivial), ?_⟩
          refine runJ ?_
          (apply s_splitG; exact rfl; exact rfl; exact rfl; exact rfl) <;> intro g10
          · refine runJ ?_
            exact fin1 rfl rfl ⟨dec_i (by unfold formP; omega), e13⟩
          · refine runJ ?_
            exact fin1 rfl rfl ⟨dec_f (by unfold formP; omega), e13⟩
        · refine runJ ?_
          exact fin1 rfl rfl ⟨dec_f (by unfold formP; omega), e13⟩
      · refine runJ ?_
        (apply w_condD; exact rfl; exact rfl) <;> intro o6
        · refine runJ ?_
          refine s_callV rfl Try_ent34 rfl rfl rfl ?_
          refine (form1_spec x.a p2 i h3 y2).mono ?_
          rintro _ _ ⟨rfl, rfl⟩
          refine ⟨(by first | exact trivial | exact trivial), ?_⟩
          refine runJ ?_
          (apply s_splitG; exact rfl; exact rfl; exact rfl; exact rfl) <;> intro g8
          · refine runJ ?_
            refine s_callV rfl Try_ent34 rfl rfl rfl ?_
            refine (form1_spec x.b p2 i h3 y2).mono ?_
            rintro _ _ ⟨rfl, rfl⟩
            refine ⟨(by first | exact trivial | exact trivial), ?_⟩
            refine runJ ?_
            (apply s_splitG; exact rfl; exact rfl; exact rfl; exact rfl) <;> intro g10
            · refine runJ ?_
              exact fin1 rfl rfl ⟨dec_i (by unfold formP; omega), e13⟩
            · refine runJ ?_
              exact fin1 rfl rfl ⟨dec_f (by unfold formP; omega), e13⟩
          · refine runJ ?_
            exact fin1 rfl rfl ⟨dec_f (by unfold formP; omega), e13⟩
        · refine runJ ?_
          (apply w_condD; exact rfl; exact rfl) <;> intro o4
          · refine runJ ?_
            (apply w_condT; exact rfl; exact rfl; exact o4)
            refine runJ ?_
            refine s_callV rfl Try_ent34 rfl rfl rfl ?_
            refine (form1_spec x.a p2 i h3 y2).mono ?_
            rintro _ _ ⟨rfl, rfl⟩
            refine ⟨(by first | exact trivial | exact trivial), ?_⟩
            refine runJ ?_
            (apply s_splitG; exact rfl; exact rfl; exact rfl; exact rfl) <;> intro g12
            · refine runJ ?_
              (apply s_splitG; exact rfl; exact rfl; exact rfl; exact rfl) <;> intro g13
              · refine runJ ?_
                refine s_callV rfl Try_ent35 rfl rfl rfl ?_
                refine (form2_spec x.k V.pls.length h3).mono ?_
                rintro _ _ ⟨rfl, rfl⟩
                refine ⟨(by first | exact trivial | exact trivial), ?_⟩
                refine runJ ?_
                exact fin1 rfl rfl ⟨dec_i (by unfold formP; omega), e13⟩
              · refine runJ ?_
                exact fin1 rfl rfl ⟨dec_f (by unfold formP; omega), e13⟩
            · refine runJ ?_
              exact fin1 rfl rfl ⟨dec_f (by unfold formP; omega), e13⟩
          · refine runJ ?_
            (apply w_condD; exact rfl; exact rfl) <;> intro o5
            · refine runJ ?_
              refine s_callV rfl Try_ent34 rfl rfl rfl ?_
              refine (form1_spec x.a p2 i h3 y2).mono ?_
              rintro _ _ ⟨rfl, rfl⟩
              refine ⟨(by first | exact trivial | exact trivial), ?_⟩
              refine runJ ?_
              (apply s_splitG; exact rfl; exact rfl; exact rfl; exact rfl) <;> intro g12
              · refine runJ ?_
                (apply s_splitG; exact rfl; exact rfl; exact rfl; exact rfl) <;> intro g13
                · refine runJ ?_
                  refine s_callV rfl Try_ent35 rfl rfl rfl ?_
                  refine (form2_spec x.k V.pls.length h3).mono ?_
                  rintro _ _ ⟨rfl, rfl⟩
                  refine ⟨(by first | exact trivial | exact trivial), ?_⟩
                  refine runJ ?_
                  exact fin1 rfl rfl ⟨dec_i (by unfold formP; omega), e13⟩
                · refine runJ ?_
                  exact fin1 rfl rfl ⟨dec_f (by unfold formP; omega), e13⟩
              · refine runJ ?_
                exact fin1 rfl rfl ⟨dec_f (by unfold formP; omega), e13⟩
            · refine runJ ?_
              (apply w_condD; exact rfl; exact rfl) <;> intro o8
              · refine runJ ?_
                refine s_callV rfl Try_ent34 rfl rfl rfl ?_
                refine (form1_spec x.a p2 i h3 y2).mono ?_
                rintro _ _ ⟨rfl, rfl⟩
                refine ⟨(by first | exact trivial | exact trivial), ?_⟩
                refine runJ ?_
                (apply s_splitG; exact rfl; exact rfl; exact rfl; exact rfl) <;> intro g16
                · refine runJ ?_
                  (apply s_splitG; exact rfl; exact rfl; exact rfl; exact rfl) <;> intro g17
                  · refine runJ ?_
                    (apply s_splitG; exact rfl; exact rfl; exact rfl; exact rfl) <;> intro g18
                    · refine runJ ?_
                      exact fin1 rfl rfl ⟨dec_i (by unfold formP; omega), e13⟩
                    · refine runJ ?_
                      exact fin1 rfl rfl ⟨dec_f (by unfold formP; omega), e13⟩
                  · refine runJ ?_
                    exact fin1 rfl rfl ⟨dec_f (by unfold formP; omega), e13⟩
                · refine runJ ?_
                  exact fin1 rfl rfl ⟨dec_f (by unfold formP; omega), e13⟩
              · refine runJ ?_
                refine runJ ?_
                exact fin1 rfl rfl ⟨dec_f (by unfold formP; omega), e13⟩
end Go.Proofs.Ythgpgccmhohfbaa

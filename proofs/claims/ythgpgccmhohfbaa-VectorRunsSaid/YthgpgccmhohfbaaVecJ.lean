/- Vector programs: what is not too great; the fixed call. No condition. -/
import Derived.Test.YthgpgccmhohfbaaVecI
namespace Go.Proofs.Ythgpgccmhohfbaa
set_option linter.unusedVariables false
open Go Go.Den Go.RowKit

structure FewP (V : VecD) : Prop where mk ::
  slots : V.slots ≤ 64
  code : V.code.length ≤ 200
  pls : V.pls.length ≤ 100
  ins : V.ins.length ≤ 20
  out : V.out.length ≤ 100
  plr : ∀ x ∈ V.pls, x.2.length ≤ 100
  inr : ∀ x ∈ V.ins, x.sl.length ≤ 100
theorem FewP.l {V : VecD} (f : FewP V) : VecL V :=
  ⟨by have := f.ins; omega, fun x hx => by have := f.inr x hx; omega, by have := f.pls; omega, fun x hx => by have := f.plr x hx; omega, by have := f.code; omega, by have := f.out; omega⟩

theorem Try_ent7 : Ent Try.prog 7 := ent_of Try.func7 (by kernel_rfl) rfl
set_option maxHeartbeats 1000000 in
theorem few_spec (V : VecD) (h : Hp) (s : VecAt h V) :
    CallsH Try.prog 7 [.agg V.cells.toArray] h fun v' h' => (∃ b, v' = .bool b ∧ (b = true → FewP V)) ∧ Ext h h' := by
  unfold VecD.cells
  (apply enter Try.func7 rfl Try.ntmps7 rfl)
  refine runJ ?_
  (apply s_box; exact rfl; exact rfl; exact rfl; exact rfl)
  intro p1 h1 x1 e1 b1
  (try dsimp only [Value.cells, List.toList_toArray] at x1)
  refine ⟨(by first | exact trivial | exact Ext.refl _ | assumption | exact Ext.trans (by assumption) (by assumption)), ?_⟩
  have s1 := s.ext e1
  have l1 := s1.ins
  have l2 := s1.pls
  have l3 := s1.code
  have l4 := s1.out
  refine runJ ?_
  (apply s_splitG; exact rfl; exact rfl; exact rfl; exact rfl) <;> intro g1
  · refine runJ ?_
    exact fin1 rfl rfl ⟨⟨_, rfl, fun e => by cases e⟩, e1⟩
  refine runJ ?_
  (apply s_splitG; exact rfl; exact rfl; exact rfl; exact rfl) <;> intro g2
  · refine runJ ?_
    exact fin1 rfl rfl ⟨⟨_, rfl, fun e => by cases e⟩, e1⟩
  refine runJ ?_
  (apply s_splitG; exact rfl; exact rfl; exact rfl; exact rfl) <;> intro g3
  · refine runJ ?_
    exact fin1 rfl rfl ⟨⟨_, rfl, fun e => by cases e⟩, e1⟩
  refine runJ ?_
  (apply s_splitG; exact rfl; exact rfl; exact rfl; exact rfl) <;> intro g4
  · refine runJ ?_
    exact fin1 rfl rfl ⟨⟨_, rfl, fun e => by cases e⟩, e1⟩
  refine runJ ?_
  (apply w_condD; exact rfl; exact rfl) <;> intro g5
  · refine runJ ?_
    exact fin1 rfl rfl ⟨⟨_, rfl, fun e => by cases e⟩, e1⟩
  refine runJ ?_
  (first | (apply w_seqB; exact rfl; apply w_block; exact rfl) | skip)
  apply (w_loop (σ := Nat) rfl (fun j => [(1, p1), (35, V.vP), (36, N V.pls.length), (37, N j)])
    (fun j h' => h1 = h' ∧ j ≤ V.pls.length ∧ ∀ x ∈ V.pls.take j, x.2.length ≤ 100) (fun j => V.pls.length - j) 0)
  · exact (Sub.cons rfl (Sub.cons rfl (Sub.cons rfl (Sub.cons rfl (Sub.nil _)))))
  · exact ⟨rfl, Nat.zero_le _, by simp⟩
  rintro j h' ⟨rfl, j1, j2⟩
  refine runJ ?_
  (apply w_condD; exact rfl; exact rfl) <;> intro hj
  · obtain ⟨x, hx⟩ := get_lt hj
    have lx := s1.plr x (List.mem_of_getElem? hx)
    refine runJ ?_
    (apply w_condD; exact rfl; exact rfl) <;> intro hl
    · refine runJ ?_
      exact fin1 rfl rfl ⟨⟨_, rfl, fun e => by cases e⟩, e1⟩
    · refine runJ ?_
      apply again_normal (j + 1)
      · exact (Sub.cons rfl (Sub.cons rfl (Sub.cons rfl (Sub.cons rfl (Sub.nil _)))))
      · refine ⟨rfl, hj, fun y hy => ?_⟩
        rw [take_snoc hx] at hy
        rcases List.mem_append.1 hy with hy | hy
        · exact j2 y hy
        · simp only [List.mem_singleton] at hy; subst hy; omega
      · omega
  have h12 : ∀ x ∈ V.pls, x.2.length ≤ 100 := by rwa [List.take_of_length_le (by omega)] at j2
  refine runJ ?_
  (first | (apply w_seqB; exact rfl; apply w_block; exact rfl) | skip)
  apply (w_loop (σ := Nat) rfl (fun j => [(1, p1), (46, V.vI), (47, N V.ins.length), (48, N j)])
    (fun j h' => Ext h1 h' ∧ j ≤ V.ins.length ∧ ∀ x ∈ V.ins.take j, x.sl.length ≤ 100) (fun j => V.ins.length - j) 0)
  · exact (Sub.cons rfl (Sub.cons rfl (Sub.cons rfl (Sub.cons rfl (Sub.nil _)))))
  · exact ⟨Ext.refl _, Nat.zero_le _, by simp⟩
  rintro k1 h3 ⟨e3, i1, i2⟩
  have x3 := x1.ext e3
  have s3 := s1.ext e3
  have l7 := s3.ins
  refine runJ ?_
  (apply w_condD; exact rfl; exact rfl) <;> intro hk
  · obtain ⟨x, hx⟩ := get_lt hk
    have lx := s3.inr x (List.mem_of_getElem? hx)
    refine runJ ?_
    (apply s_alloc; exact rfl; exact rfl; exact rfl)
    intro p4 h4 x4 e4 b4
    (try dsimp only [Value.cells, List.toList_toArray] at x4)
    refine ⟨(by first | exact trivial | exact Ext.refl _ | assumption | exact Ext.trans (by assumption) (by assumption)), ?_⟩
    refine runJ ?_
    apply s_storeV (us := x.cells) rfl rfl rfl (OneAll.cons rfl (OneAll.cons rfl (OneAll.cons lx.one OneAll.nil))) rfl rfl x4 rfl
    intro h5 x5 k5
    have e5 := k5.oldV e4 b4 (Nat.le_refl _)
    have lx5 := lx.ext e5
    refine ⟨trivial, ?_⟩
    unfold InD.cells at x5
    refine runJ ?_
    (apply w_condD; exact rfl; exact rfl) <;> intro hl
    · refine runJ ?_
      exact fin1 rfl rfl ⟨⟨_, rfl, fun e => by cases e⟩, (e1.trans e3).trans e5⟩
    · refine runJ ?_
      apply again_normal (k1 + 1)
      · exact (Sub.cons rfl (Sub.cons rfl (Sub.cons rfl (Sub.cons rfl (Sub.nil _)))))
      · refine ⟨e3.trans e5, hk, fun y hy => ?_⟩
        rw [take_snoc hx] at hy
        rcases List.mem_append.1 hy with hy | hy
        · exact i2 y hy
        · simp only [List.mem_singleton] at hy; subst hy; omega
      · omega
  · have h13 : ∀ x ∈ V.ins, x.sl.length ≤ 100 := by rwa [List.take_of_length_le (by omega)] at i2
    refine runJ ?_
    exact fin1 rfl rfl ⟨⟨_, rfl, fun _ => ⟨by omega, by omega, by omega, by omega, by omega, h12, h13⟩⟩, e1.trans e3⟩

theorem Try_ent8 : Ent Try.prog 8 := ent_of Try.func8 (by kernel_rfl) rfl
theorem fewI_spec (v : Value) (ir : List (Value × List Int)) (h : Hp) (s : SlF h Prod.fst v ir) (sr : ∀ x ∈ ir, SlF h I x.1 x.2) :
    CallsH Try.prog 8 [v] h fun v' h' => (∃ b, v' = .bool b ∧ (b = true → ir.length ≤ 30 ∧ ∀ x ∈ ir, x.2.length ≤ 200)) ∧ h = h' := by
  (apply enter Try.func8 rfl Try.ntmps8 rfl)
  refine runJ ?_
  (apply w_condD; exact rfl; exact rfl) <;> intro g1
  · refine runJ ?_
    exact fin1 rfl rfl ⟨⟨_, rfl, fun e => by cases e⟩, rfl⟩
  refine runJ ?_
  (first | (apply w_seqB; exact rfl; apply w_block; exact rfl) | skip)
  apply (w_loop (σ := Nat) rfl (fun j => [(8, v), (9, N ir.length), (10, N j)])
    (fun j h' => h = h' ∧ j ≤ ir.length ∧ ∀ x ∈ ir.take j, x.2.length ≤ 200) (fun j => ir.length - j) 0)
  · exact (Sub.cons rfl (Sub.cons rfl (Sub.cons rfl (Sub.nil _))))
  · exact ⟨rfl, Nat.zero_le _, by simp⟩
  rintro j h' ⟨rfl, j1, j2⟩
  refine runJ ?_
  (apply w_condD; exact rfl; exact rfl) <;> intro hj
  · obtain ⟨x, hx⟩ := get_lt hj
    have lx := sr x (List.mem_of_getElem? hx)
    refine runJ ?_
    (apply w_condD; exact rfl; exact rfl) <;> intro hl
    · refine runJ ?_
      exact fin1 rfl rfl ⟨⟨_, rfl, fun e => by cases e⟩, rfl⟩
    · refine runJ ?_
      apply again_normal (j + 1)
      · exact (Sub.cons rfl (Sub.cons rfl (Sub.cons rfl (Sub.nil _))))
      · refine ⟨rfl, hj, fun y hy => ?_⟩
        rw [take_snoc hx] at hy
        rcases List.mem_append.1 hy with hy | hy
        · exact j2 y hy
        · simp only [List.mem_singleton] at hy; subst hy; omega
      · omega
  · have h12 : ∀ x ∈ ir, x.2.length ≤ 200 := by rwa [List.take_of_length_le (by omega)] at j2
    refine runJ ?_
    exact fin1 rfl rfl ⟨⟨_, rfl, fun _ => ⟨by omega, h12⟩⟩, rfl⟩

def V0 (w1 w2 w3 : Value) : VecD := ⟨4, w2, [⟨0, 0, w1, [0, 1]⟩], .slice none 0 0, [], w3, [⟨1, 0, 0, 0, 0⟩, ⟨8, 1, 0, 0, 1⟩, ⟨3, 2, 0, 1, 0⟩], 2, .slice none 0 0, []⟩
def VZ : VecD := ⟨0, .slice none 0 0, [], .slice none 0 0, [], .slice none 0 0, [], 0, .slice none 0 0, []⟩
theorem V0_run (w1 w2 w3 : Value) : told 97 (runF (V0 w1 w2 w3) [[5, 7]] 4 97 (V0 w1 w2 w3).code) = [[5, 7, 0, 0], [7, 0, 0, 5], [12, 7, 0, 5]] := by rfl
theorem V0_ok (w1 w2 w3 : Value) : checkP (V0 w1 w2 w3) := by
  refine ⟨.inl rfl, of_decide_eq_true rfl, of_decide_eq_true rfl, of_decide_eq_true rfl, of_decide_eq_true rfl, by simp [V0], ?_, ?_⟩
  · intro x hx
    simp only [V0, List.mem_singleton] at hx
    subst hx
    show placesP [0, 1] 4
    decide
  · intro i x hx
    match i, hx with
    | 0, hx => cases hx; exact of_decide_eq_true rfl
    | 1, hx => cases hx; exact of_decide_eq_true rfl
    | 2, hx => cases hx; exact of_decide_eq_true rfl
theorem V0_at {h : Hp} {w1 w2 w3 : Value} (o1 : SlF h I w1 [0, 1]) (o2 : Sl h w2 1 [I 0, I 0, w1]) (o3 : Sl h w3 3 [I 1, I 0, I 0, I 0, I 0, I 8, I 1, I 0, I 0, I 1, I 3, I 2, I 0, I 1, I 0]) : VecAt h (V0 w1 w2 w3) :=
  ⟨⟨fun _ => rfl, o2⟩, fun x hx => by simp only [V0, List.mem_singleton] at hx; subst hx; exact o1, SlF.nil _ _, by simp [V0], ⟨fun _ => rfl, o3⟩, SlF.nil _ _⟩
theorem V0_few (w1 w2 w3 : Value) : FewP (V0 w1 w2 w3) := ⟨of_decide_eq_true rfl, of_decide_eq_true rfl, of_decide_eq_true rfl, of_decide_eq_true rfl, of_decide_eq_true rfl, by simp [V0], by simp [V0]⟩
theorem VZ_at (h : Hp) : VecAt h VZ := ⟨⟨fun _ => rfl, Sl.nil _⟩, by simp [VZ], SlF.nil _ _, by simp [VZ], ⟨fun _ => rfl, Sl.nil _⟩, SlF.nil _ _⟩
theorem VZ_few : FewP VZ := ⟨by decide, by decide, by decide, by decide, by decide, by simp [VZ], by simp [VZ]⟩

theorem Try_ent6 : Ent Try.prog 6 := ent_of Try.func6 (by kernel_rfl) rfl
set_option maxHeartbeats 1000000 in
theorem fixed_spec (h : Hp) : CallsH Try.prog 6 [] h fun v' h' => v' = .bool true ∧ Ext h h' := by
  (apply enter Try.func6 rfl Try.ntmps6 rfl)
  refine runJ ?_
  (apply (s_litF (f := I) [0, 1] (fun _ => rfl)); exact rfl; exact rfl; exact rfl; exact rfl; exact rfl; exact rfl; exact rfl; exact rfl; omega)
  intro w1 h1 o1 e1 b1
  refine ⟨(by first | exact trivial | exact Ext.refl _ | assumption | exact Ext.trans (by assumption) (by assumption)), ?_⟩
  have u1 : w1.oneCell' = true := o1.sl.one
  refine runJ ?_
  (apply (s_build ([I 0, I 0, w1])); exact rfl; exact rfl; exact rfl; (repeat (first | exact CellsAll.nil | (apply CellsAll.cons; (first | exact oneL (by assumption) | exact oneL (SlF.one (by assumption)) | exact oneL (SlF.one (OwnF.sl (by assumption))) | exact oneL (Var.one (by assumption)) | exact rfl)))); exact rfl; exact rfl)
  refine runJ ?_
  (apply (s_litC (s := 3) ([I 0, I 0, w1])); exact rfl; (repeat (first | exact CellsAll.nil | (apply CellsAll.cons; (first | exact oneL (by assumption) | exact oneL (SlF.one (by assumption)) | exact oneL (SlF.one (OwnF.sl (by assumption))) | exact oneL (Var.one (by assumption)) | exact rfl)))); exact rfl; exact rfl; exact rfl; exact rfl; exact rfl; exact rfl; exact rfl; exact rfl; exact rfl; exact rfl)
  intro w2 h2 o2 e2 b2
  refine ⟨(by first | exact trivial | exact Ext.refl _ | assumption | exact Ext.trans (by assumption) (by assumption)), ?_⟩
  have u2 : w2.oneCell' = true := o2.sl.one
  refine runJ ?_
  (apply (s_build ([I 1, I 0, I 0, I 0, I 0])); exact rfl; exact rfl; exact rfl; (repeat (first | exact CellsAll.nil | (apply CellsAll.cons; (first | exact oneL (by assumption) | exact oneL (SlF.one (by assumption)) | exact oneL (SlF.one (OwnF.sl (by assumption))) | exact oneL (Var.one (by assumption)) | exact rfl)))); exact rfl; exact rfl)
  refine runJ ?_
  (apply (s_build ([I 8, I 1, I 0, I 0, I 1])); exact rfl; exact rfl; exact rfl; (repeat (first | exact CellsAll.nil | (apply CellsAll.cons; (first | exact oneL (by assumption) | exact oneL (SlF.one (by assumption)) | exact oneL (SlF.one (OwnF.sl (by assumption))) | exact oneL (Var.one (by assumption)) | exact rfl)))); exact rfl; exact rfl)
  refine runJ ?_
  (apply (s_build ([I 3, I 2, I 0, I 1, I 0])); exact rfl; exact rfl; exact rfl; (repeat (first | exact CellsAll.nil | (apply CellsAll.cons; (first | exact oneL (by assumption) | exact oneL (SlF.one (by assumption)) | exact oneL (SlF.one (OwnF.sl (by assumption))) | exact oneL (Var.one (by assumption)) | exact rfl)))); exact rfl; exact rfl)
  refine runJ ?_
  (apply (s_litC (s := 5) ([I 1, I 0, I 0, I 0, I 0, I 8, I 1, I 0, I 0, I 1, I 3, I 2, I 0, I 1, I 0])); exact rfl; (repeat (first | exact CellsAll.nil | (apply CellsAll.cons; (first | exact oneL (by assumption) | exact oneL (SlF.one (by assumption)) | exact oneL (SlF.one (OwnF.sl (by assumption))) | exact oneL (Var.one (by assumption)) | exact rfl)))); exact rfl; exact rfl; exact rfl; exact rfl; exact rfl; exact rfl; exact rfl; exact rfl; exact rfl; exact rfl)
  intro w3 h3 o3 e3 b3
  refine ⟨(by first | exact trivial | exact Ext.refl _ | assumption | exact Ext.trans (by assumption) (by assumption)), ?_⟩
  have u3 : w3.oneCell' = true := o3.sl.one
  refine runJ ?_
  (apply (s_build ([I 4, w2, .slice none 0 0, w3, I 2, .slice none 0 0])); exact rfl; exact rfl; exact rfl; (repeat (first | exact CellsAll.nil | (apply CellsAll.cons; (first | exact oneL (by assumption) | exact oneL (SlF.one (by assumption)) | exact oneL (SlF.one (OwnF.sl (by assumption))) | exact oneL (Var.one (by assumption)) | exact rfl)))); exact rfl; exact rfl)
  refine runJ ?_
  (apply s_alloc; exact rfl; exact rfl; exact rfl)
  intro p4 h4 x4 e4 b4
  (try dsimp only [Value.cells, List.toList_toArray] at x4)
  refine ⟨(by first | exact trivial | exact Ext.refl _ | assumption | exact Ext.trans (by assumption) (by assumption)), ?_⟩
  refine runJ ?_
  apply s_storeV (us := [I 4, w2, .slice none 0 0, w3, I 2, .slice none 0 0]) rfl rfl rfl (OneAll.cons rfl (OneAll.cons u2 (OneAll.cons rfl (OneAll.cons u3 (OneAll.cons rfl (OneAll.cons rfl OneAll.nil)))))) rfl rfl x4 rfl
  intro h5 x5 k5
  have e5 := k5.oldV e4 b4 (Nat.le_refl _)
  refine ⟨trivial, ?_⟩
  have e13 := (e1.trans e2).trans e3
  have e35 := e13.trans e5
  refine runJ ?_
  (apply (s_litF (f := I) [5, 7] (fun _ => rfl)); exact rfl; exact rfl; exact rfl; exact rfl; exact rfl; exact rfl; exact rfl; exact rfl; omega)
  intro w6 h6 o6 e6 b6
  refine ⟨(by first | exact trivial | exact Ext.refl _ | assumption | exact Ext.trans (by assumption) (by assumption)), ?_⟩
  have u6 : w6.oneCell' = true := o6.sl.one
  refine runJ ?_
  (apply (s_litC (s := 1) ([w6])); exact rfl; (repeat (first | exact CellsAll.nil | (apply CellsAll.cons; (first | exact oneL (by assumption) | exact oneL (SlF.one (by assumption)) | exact oneL (SlF.one (OwnF.sl (by assumption))) | exact oneL (Var.one (by assumption)) | exact rfl)))); exact rfl; exact rfl; exact rfl; exact rfl; exact rfl; exact rfl; exact rfl; exact rfl; exact rfl; exact rfl)
  intro w7 h7 o7 e7 b7
  refine ⟨(by first | exact trivial | exact Ext.refl _ | assumption | exact Ext.trans (by assumption) (by assumption)), ?_⟩
  have o7' : SlF h7 Prod.fst w7 [(w6, [5, 7])] := o7.sl
  have E57 := e6.trans e7
  have E37 := e5.trans E57
  have at7 := V0_at (h := h7) ((((o1.sl.ext e2).ext e3)).ext E37) ((o2.sl.ext e3).ext E37) (o3.sl.ext E37)
  have F := run_spec (V0 w1 w2 w3) w7 [(w6, [5, 7])] 97 h7 at7 (V0_few w1 w2 w3).l ⟨of_decide_eq_true rfl, by simp [V0], by simp [ib], by simp, by simp, by simp [V0], by decide⟩ o7' (by simp; exact o6.sl.ext e7)
  refine runJ ?_
  apply (s_call Try_ent9 rfl rfl rfl)
  refine (F).mono ?_
  rintro _ h8 ⟨e8, e, u, hE, rfl, -, hO⟩
  refine ⟨(by first | exact trivial | exact trivial), ?_⟩
  have hE0 : RunE (V0 w1 w2 w3) [[5, 7]] 97 0 := .inr (.inr (.inr ⟨rfl, V0_ok w1 w2 w3, by omega, rfl⟩))
  obtain rfl := hE.same hE0
  obtain ⟨out, q1, q2, q3, -⟩ := hO rfl
  have q4 : out.map (·.2) = [[5, 7, 0, 0], [7, 0, 0, 5], [12, 7, 0, 5]] := q3.trans (V0_run w1 w2 w3)
  have q5 : out.length = 3 := by simpa using congrArg List.length q4
  obtain ⟨x, hx⟩ := get_lt (l := out) (j := 2) (by omega)
  have hx2 : x.2 = [12, 7, 0, 5] := by have := congrArg (fun l => l[2]?) q4; simpa [hx] using this
  have sx := q2 x (List.mem_of_getElem? hx)
  rw [hx2] at sx
  refine runJ ?_
  (apply s_splitG; exact rfl; exact rfl; exact rfl; exact rfl)
  rotate_left
  · intro hn; exact absurd q5 hn
  intro _
  refine runJ ?_
  (apply (s_litF (f := I) [12, 7, 0, 5] (fun _ => rfl)); exact rfl; exact rfl; exact rfl; exact rfl; exact rfl; exact rfl; exact rfl; exact rfl; omega)
  intro w9 h9 o9 e9 b9
  refine ⟨(by first | exact trivial | exact Ext.refl _ | assumption | exact Ext.trans (by assumption) (by assumption)), ?_⟩
  have sx9 := sx.ext e9
  have so9 := o9.sl
  refine runJ ?_
  apply (s_call Try_ent14 rfl rfl rfl)
  refine (same16_spec x.1 w9 [12, 7, 0, 5] [12, 7, 0, 5] h9 sx9 so9 (by decide) (by decide)).mono ?_
  rintro _ _ ⟨rfl, rfl⟩
  refine ⟨(by first | exact trivial | exact Ext.refl _ | assumption | exact Ext.trans (by assumption) (by assumption)), ?_⟩
  refine runJ ?_
  (apply (s_build ([I 0, .slice none 0 0, .slice none 0 0, .slice none 0 0, I 0, .slice none 0 0])); exact rfl; exact rfl; exact rfl; (repeat (first | exact CellsAll.nil | (apply CellsAll.cons; (first | exact oneL (by assumption) | exact oneL (SlF.one (by assumption)) | exact oneL (SlF.one (OwnF.sl (by assumption))) | exact oneL (Var.one (by assumption)) | exact rfl)))); exact rfl; exact rfl)
  refine runJ ?_
  apply (s_call Try_ent15 rfl rfl rfl)
  refine (check_spec VZ h9 (VZ_at h9) VZ_few.l (by decide)).mono ?_
  rintro _ h10 ⟨hr, e10⟩
  refine ⟨(by first | exact trivial | exact trivial), ?_⟩
  obtain rfl : _ = N 3 := by
    rcases hr with ⟨-, hc⟩ | ⟨hr, -⟩
    · exact absurd hc.slots (by unfold slotsP VZ; decide)
    · exact hr
  refine runJ ?_
  exact fin1 rfl rfl ⟨rfl, (((e35.trans E57).trans e8).trans e9).trans e10⟩
end Go.Proofs.Ythgpgccmhohfbaa

/- Vector programs: the law of turns. No condition. -/
import Derived.Test.YthgpgccmhohfbaaVecJ
namespace Go.Proofs.Ythgpgccmhohfbaa
set_option linter.unusedVariables false
open Go Go.Den Go.RowKit

theorem s_remU8 {P : Program} {n : Nat} {Q : Post} {l : Fr} {h : Hp} {ops : List Oper} {Ch : Hp → Prop} {E : Nat → Bool} {i d : Nat} {t yt : TypeId} {x y : Operand} {a b : Nat} (hx : IsK (ev l x) .u8 a) (hy : IsK (ev l y) .u8 b) (hb : Nat.blt d n = true) (hn : 0 < b)
    (k : S P n ops Ch E Q (i + 1) ((d, .int .u8 ((a % b : Nat) : Int)) :: l) h) : O P n ops Ch E Q i d (.binOp .rem t x y yt) l h :=
  s_bin hx.h hy.h hb (fun w' => by
    show (Op.intDiv .rem .u8 (a : Int) (b : Int)).run P w' = _
    unfold Op.intDiv
    rw [if_neg (by omega)]
    show Result.ok (Value.int .u8 ((a : Int).tmod b)) w' = _
    rw [← Int.ofNat_tmod]) k

def VT (v w2 w3 : Value) (l : List Int) (a : Nat) : VecD := ⟨16, .slice none 0 0, [], w2, [(v, l)], w3, [⟨2, 0, 0, 0, 0⟩, ⟨8, 1, 0, 0, a⟩, ⟨8, 2, 1, 0, ((16 - a : Nat) : Int)⟩], 2, .slice none 0 0, []⟩
def turnL {α : Type} (r : List α) (a : Nat) : List α := r.drop a ++ r.take a
theorem VT_run (v w2 w3 : Value) (l : List Int) (a t : Nat) : runF (VT v w2 w3 l a) [] 16 t (VT v w2 w3 l a).code = [rowN l 16 t, turnL (rowN l 16 t) a, turnL (turnL (rowN l 16 t) a) (16 - a)] := by rfl
theorem turn_back {α : Type} (r : List α) (a n : Nat) (h : r.length = n) (ha : a ≤ n) : turnL (turnL r a) (n - a) = r := by
  unfold turnL
  rw [List.drop_left' (by simp; omega), List.take_left' (by simp; omega), List.take_append_drop]
theorem VT_ok (v w2 w3 : Value) (l : List Int) (a : Nat) (hl : l.length ≤ 16) (ha : 1 ≤ a) (ha2 : a ≤ 15) : checkP (VT v w2 w3 l a) := by
  refine ⟨by unfold slotsP VT; simp, of_decide_eq_true rfl, of_decide_eq_true rfl, of_decide_eq_true rfl, of_decide_eq_true rfl, ?_, by simp [VT], ?_⟩
  · intro x hx
    simp only [VT, List.mem_singleton] at hx
    subst hx
    simp only [VT]; omega
  · intro i x hx
    match i, hx with
    | 0, hx => cases hx; unfold formP VT; simp
    | 1, hx => cases hx; unfold formP VT; simp; omega
    | 2, hx => cases hx; unfold formP VT; simp; omega
theorem VT_at {h : Hp} {v w2 w3 : Value} {l : List Int} {a : Nat} (o1 : SlF h I v l) (o2 : Sl h w2 1 [v]) (o3 : Sl h w3 3 [I 2, I 0, I 0, I 0, I 0, I 8, I 1, I 0, I 0, N a, I 8, I 2, I 1, I 0, N (16 - a)]) : VecAt h (VT v w2 w3 l a) :=
  ⟨⟨fun _ => rfl, Sl.nil _⟩, by simp [VT], o2, fun x hx => by simp only [VT, List.mem_singleton] at hx; subst hx; exact o1, ⟨fun _ => rfl, o3⟩, SlF.nil _ _⟩
theorem VT_few (v w2 w3 : Value) (l : List Int) (a : Nat) (hl : l.length ≤ 16) : FewP (VT v w2 w3 l a) :=
  ⟨of_decide_eq_true rfl, of_decide_eq_true rfl, of_decide_eq_true rfl, of_decide_eq_true rfl, of_decide_eq_true rfl, fun x hx => by simp only [VT, List.mem_singleton] at hx; subst hx; simp only []; omega, by simp [VT]⟩

theorem Try_ent5 : Ent Try.prog 5 := ent_of Try.func5 (by kernel_rfl) rfl
set_option maxHeartbeats 1000000 in
theorem vectorTurns_law (k : Nat) (v : Value) (l : List Int) (t : Nat) (h : Hp) (s : SlF h I v l) (hb : ∀ z ∈ l, ib z) (ht : t < 4294967296) :
    CallsH Try.prog 5 [.int .u8 (k : Int), v, .int .u32 (t : Int)] h fun v' h' => v' = .bool true ∧ Ext h h' := by
  (apply enter Try.func5 rfl Try.ntmps5 rfl)
  refine runJ ?_
  apply (s_call Try_ent6 rfl rfl rfl)
  refine (fixed_spec h).mono ?_
  rintro _ h1 ⟨rfl, e1⟩
  refine ⟨(by first | exact trivial | exact e1), ?_⟩
  have s1 := s.ext e1
  refine runJ ?_
  (apply w_condD; exact rfl; exact rfl) <;> intro hbig
  · refine runJ ?_
    exact fin1 rfl rfl ⟨rfl, e1⟩
  refine runJ ?_
  apply s_remU8 (isK_t rfl) isK_c rfl (by decide)
  obtain ⟨w, hw⟩ : ∃ w : Nat, w = Nat.mod k 15 := ⟨_, rfl⟩
  have hw2 : w < 15 := by rw [hw]; exact Nat.mod_lt _ (by decide)
  refine s_know (t := 17) (u := .int .u8 (w : Int)) rfl (by rw [hw]; rfl) ?_
  refine runJ ?_
  (apply (s_litC (s := 1) ([v])); exact rfl; (repeat (first | exact CellsAll.nil | (apply CellsAll.cons; (first | exact oneL (by assumption) | exact oneL (SlF.one (by assumption)) | exact oneL (SlF.one (OwnF.sl (by assumption))) | exact oneL (Var.one (by assumption)) | exact rfl)))); exact rfl; exact rfl; exact rfl; exact rfl; exact rfl; exact rfl; exact rfl; exact rfl; exact rfl; exact rfl)
  intro w2 h2 o2 e2 b2
  refine ⟨(by first | exact trivial | exact Ext.refl _ | assumption | exact Ext.trans (by assumption) (by assumption)), ?_⟩
  have u2 : w2.oneCell' = true := o2.sl.one
  refine runJ ?_
  (apply (s_build ([I 2, I 0, I 0, I 0, I 0])); exact rfl; exact rfl; exact rfl; (repeat (first | exact CellsAll.nil | (apply CellsAll.cons; (first | exact oneL (by assumption) | exact oneL (SlF.one (by assumption)) | exact oneL (SlF.one (OwnF.sl (by assumption))) | exact oneL (Var.one (by assumption)) | exact rfl)))); exact rfl; exact rfl)
  refine runJ ?_
  (apply (s_build ([I 8, I 1, I 0, I 0, N (1 + w)])); exact rfl; exact rfl; exact rfl; (repeat (first | exact CellsAll.nil | (apply CellsAll.cons; (first | exact oneL (by assumption) | exact oneL (SlF.one (by assumption)) | exact oneL (SlF.one (OwnF.sl (by assumption))) | exact oneL (Var.one (by assumption)) | exact rfl)))); exact rfl; exact rfl)
  refine runJ ?_
  (apply (s_build ([I 8, I 2, I 1, I 0, N (16 - (1 + w))])); exact rfl; exact rfl; exact rfl; (repeat (first | exact CellsAll.nil | (apply CellsAll.cons; (first | exact oneL (by assumption) | exact oneL (SlF.one (by assumption)) | exact oneL (SlF.one (OwnF.sl (by assumption))) | exact oneL (Var.one (by assumption)) | exact rfl)))); exact rfl; exact rfl)
  refine runJ ?_
  (apply (s_litC (s := 5) ([I 2, I 0, I 0, I 0, I 0, I 8, I 1, I 0, I 0, N (1 + w), I 8, I 2, I 1, I 0, N (16 - (1 + w))])); exact rfl; (repeat (first | exact CellsAll.nil | (apply CellsAll.cons; (first | exact oneL (by assumption) | exact oneL (SlF.one (by assumption)) | exact oneL (SlF.one (OwnF.sl (by assumption))) | exact oneL (Var.one (by assumption)) | exact rfl)))); exact rfl; exact rfl; exact rfl; exact rfl; exact rfl; exact rfl; exact rfl; exact rfl; exact rfl; exact rfl)
  intro w3 h3 o3 e3 b3
  refine ⟨(by first | exact trivial | exact Ext.refl _ | assumption | exact Ext.trans (by assumption) (by assumption)), ?_⟩
  have u3 : w3.oneCell' = true := o3.sl.one
  refine runJ ?_
  (apply (s_build ([I 16, .slice none 0 0, w2, w3, I 2, .slice none 0 0])); exact rfl; exact rfl; exact rfl; (repeat (first | exact CellsAll.nil | (apply CellsAll.cons; (first | exact oneL (by assumption) | exact oneL (SlF.one (by assumption)) | exact oneL (SlF.one (OwnF.sl (by assumption))) | exact oneL (Var.one (by assumption)) | exact rfl)))); exact rfl; exact rfl)
  refine runJ ?_
  (apply s_alloc; exact rfl; exact rfl; exact rfl)
  intro p4 h4 x4 e4 b4
  (try dsimp only [Value.cells, List.toList_toArray] at x4)
  refine ⟨(by first | exact trivial | exact Ext.refl _ | assumption | exact Ext.trans (by assumption) (by assumption)), ?_⟩
  refine runJ ?_
  apply s_storeV (us := [I 16, .slice none 0 0, w2, w3, I 2, .slice none 0 0]) rfl rfl rfl (OneAll.cons rfl (OneAll.cons rfl (OneAll.cons u2 (OneAll.cons u3 (OneAll.cons rfl (OneAll.cons rfl OneAll.nil)))))) rfl rfl x4 rfl
  intro h5 x5 k5
  have e5 := k5.oldV e4 b4 (Nat.le_refl _)
  refine ⟨trivial, ?_⟩
  have e15 := (e2.trans e3).trans e5
  have at5 := VT_at (h := h5) (l := l) (a := 1 + w) (s1.ext e15) ((o2.sl.ext e3).ext e5) (o3.sl.ext e5)
  have hml : Nat.mod t 1073741822 < 1073741822 := Nat.mod_lt _ (by decide)
  refine runJ ?_
  have F := run_spec (VT v w2 w3 l (1 + w)) (.slice none 0 0) [] (2 + Nat.mod t 1073741822) h5 at5 (VT_few v w2 w3 l (1 + w) (by omega)).l ⟨of_decide_eq_true rfl, by simp [VT], by simp, by simp, by simp, by simp only [VT, List.mem_singleton]; rintro x rfl; exact hb, by omega⟩ (SlF.nil _ _) (by simp)
  apply (s_call Try_ent9 rfl rfl rfl)
  refine (F).mono ?_
  rintro _ h8 ⟨e8, e, u, hE, rfl, -, hO⟩
  refine ⟨(by first | exact trivial | exact trivial), ?_⟩
  have hE0 : RunE (VT v w2 w3 l (1 + w)) [] (2 + Nat.mod t 1073741822) 0 := .inr (.inr (.inr ⟨rfl, VT_ok v w2 w3 l _ (by omega) (by omega) (by omega), by omega, rfl⟩))
  obtain rfl := hE.same hE0
  obtain ⟨out, q1, q2, q3, -⟩ := hO rfl
  generalize 2 + Nat.mod t 1073741822 = tt at q3
  have q4 : out.map (·.2) = told tt [rowN l 16 tt, turnL (rowN l 16 tt) (1 + w), turnL (turnL (rowN l 16 tt) (1 + w)) (16 - (1 + w))] := q3
  rw [turn_back _ (1 + w) 16 (rowN_len (by omega)) (by omega)] at q4
  have q5 : out.length = 3 := by simpa [told] using congrArg List.length q4
  obtain ⟨x, hx⟩ := get_lt (l := out) (j := 0) (by omega)
  obtain ⟨y, hy⟩ := get_lt (l := out) (j := 2) (by omega)
  have hx2 : x.2 = (rowN l 16 tt).map fun y => centerm y tt := by have := congrArg (fun l => l[0]?) q4; simpa [hx, told] using this
  have hy2 : y.2 = (rowN l 16 tt).map fun y => centerm y tt := by have := congrArg (fun l => l[2]?) q4; simpa [hy, told] using this
  have hrl : (rowN l 16 tt).length = 16 := rowN_len (by omega)
  have sx := q2 x (List.mem_of_getElem? hx)
  have sy := q2 y (List.mem_of_getElem? hy)
  have E8 := (e1.trans e15).trans e8
  refine runJ ?_
  (apply s_splitG; exact rfl; exact rfl; exact rfl; exact rfl)
  rotate_left
  · intro hn; exact absurd q5 hn
  intro _
  refine runJ ?_
  apply (s_call Try_ent14 rfl rfl rfl)
  refine (same16_spec x.1 y.1 x.2 y.2 h8 sx sy (by rw [hx2]; simp; omega) (by rw [hy2]; simp; omega)).mono ?_
  rintro _ _ ⟨rfl, rfl⟩
  refine ⟨(by first | exact trivial | exact Ext.refl _), ?_⟩
  refine runJ ?_
  exact fin1 rfl rfl ⟨by rw [hx2, hy2]; simp, E8⟩
end Go.Proofs.Ythgpgccmhohfbaa

/- Vector programs: which may be. No condition. -/
import Derived.Test.YthgpgccmhohfbaaVecB
namespace Go.Proofs.Ythgpgccmhohfbaa
set_option linter.unusedVariables false
open Go Go.Den Go.RowKit

def slotsP (s : Int) : Prop := s = 4 ∨ s = 8 ∨ s = 16 ∨ s = 32 ∨ s = 64
theorem slots_and (m : Nat) (h : m ≤ 64) (h4 : 4 ≤ m) : (m &&& (m - 1) = 0) ↔ slotsP m := by
  have : ∀ k : Fin 65, 4 ≤ k.val → ((k.val &&& (k.val - 1) = 0) ↔ (k.val = 4 ∨ k.val = 8 ∨ k.val = 16 ∨ k.val = 32 ∨ k.val = 64)) := by decide
  have h1 := this ⟨m, by omega⟩ h4
  simp only at h1
  rw [h1]; unfold slotsP; omega

/-- May a vector program be? -/
structure checkP (V : VecD) : Prop where mk ::
  slots : slotsP V.slots
  some1 : 1 ≤ V.code.length
  few : V.code.length ≤ 2048
  last : 0 ≤ V.last ∧ V.last < V.code.length
  out : placesP V.out V.slots
  pls : ∀ x ∈ V.pls, (x.2.length : Int) ≤ V.slots
  ins : ∀ x ∈ V.ins, placesP x.sl V.slots
  code : ∀ i x, V.code[i]? = some x → formP x i V

theorem Try_ent15 : Ent Try.prog 15 := ent_of Try.func15 (by kernel_rfl) rfl
set_option maxHeartbeats 2000000 in
theorem check_spec (V : VecD) (h : Hp) (s : VecAt h V) (sl : VecL V) (hs : V.slots ≤ 64) :
    CallsH Try.prog 15 [.agg V.cells.toArray] h fun v' h' => ((v' = N 0 ∧ checkP V) ∨ (v' = N 3 ∧ ¬ checkP V)) ∧ Ext h h' := by
  unfold VecD.cells
  rcases Int.lt_or_le V.slots 0 with hneg | hpos
  · (apply enter Try.func15 rfl Try.ntmps15 rfl)
    refine runJ ?_
    (apply s_box; exact rfl; exact rfl; exact rfl; exact rfl)
    intro p1 h1 x1 e1 b1
    (try dsimp only [Value.cells, List.toList_toArray] at x1)
    refine ⟨(by first | exact trivial | exact Ext.refl _ | assumption | exact Ext.trans (by assumption) (by assumption)), ?_⟩
    refine runJ ?_
    (apply s_splitG; exact rfl; exact rfl; exact rfl; exact rfl) <;> intro h4
    rotate_left
    · omega
    refine runJ ?_
    exact fin1 rfl rfl ⟨.inr ⟨rfl, fun k => by have := k.slots; unfold slotsP at this; omega⟩, e1⟩
  · obtain ⟨m, hm⟩ : ∃ m : Nat, V.slots = m := ⟨V.slots.toNat, by omega⟩
    have c1 : ∀ k : checkP V, slotsP m := fun k => by have := k.slots; rwa [hm] at this
    have hs' : m ≤ 64 := by omega
    have l5 := s.out
    have l4 := s.code
    have sl1 := sl.out
    rw [hm]
    (apply enter Try.func15 rfl Try.ntmps15 rfl)
    refine runJ ?_
    (apply s_box; exact rfl; exact rfl; exact rfl; exact rfl)
    intro p1 h1 x1 e1 b1
    (try dsimp only [Value.cells, List.toList_toArray] at x1)
    refine ⟨(by first | exact trivial | exact Ext.refl _ | assumption | exact Ext.trans (by assumption) (by assumption)), ?_⟩
    have l5 := l5.ext e1
    have l4 := l4.ext e1
    refine runJ ?_
    (apply s_splitG; exact rfl; exact rfl; exact rfl; exact rfl) <;> intro h4
    · refine runJ ?_
      exact fin1 rfl rfl ⟨.inr ⟨rfl, fun k => by have := c1 k; unfold slotsP at this; omega⟩, e1⟩
    refine runJ ?_
    (apply s_splitG; exact rfl; exact rfl; exact rfl; exact rfl) <;> intro h5
    · omega
    refine runJ ?_
    (apply s_splitG; exact rfl; exact rfl; exact rfl; exact rfl) <;> intro h6
    · refine runJ ?_
      exact fin1 rfl rfl ⟨.inr ⟨rfl, fun k => h6 ((slots_and m hs' (by omega)).2 (c1 k))⟩, e1⟩
    have hsl : slotsP m := (slots_and m hs' (by omega)).1 (by omega)
    refine runJ ?_
    (apply s_splitG; exact rfl; exact rfl; exact rfl; exact rfl) <;> intro h7
    · refine runJ ?_
      exact fin1 rfl rfl ⟨.inr ⟨rfl, fun k => by have := k.some1; omega⟩, e1⟩
    refine runJ ?_
    (apply s_splitG; exact rfl; exact rfl; exact rfl; exact rfl) <;> intro h8
    · refine runJ ?_
      exact fin1 rfl rfl ⟨.inr ⟨rfl, fun k => by have := k.few; omega⟩, e1⟩
    refine runJ ?_
    (apply s_splitG; exact rfl; exact rfl; exact rfl; exact rfl) <;> intro h9
    · refine runJ ?_
      exact fin1 rfl rfl ⟨.inr ⟨rfl, fun k => by have := k.last; omega⟩, e1⟩
    refine runJ ?_
    (apply s_splitG; exact rfl; exact rfl; exact rfl; exact rfl) <;> intro h10
    · refine runJ ?_
      exact fin1 rfl rfl ⟨.inr ⟨rfl, fun k => by have := k.last; omega⟩, e1⟩
    refine runJ ?_
    apply (s_call Try_ent21 rfl rfl rfl)
    refine (places_spec V.vO V.out m h1 l5 sl1).mono ?_
    rintro _ h2 ⟨rfl, e2⟩
    refine ⟨(by first | exact trivial | exact trivial), ?_⟩
    have x2 := x1.ext e2
    have e12 := e1.trans e2
    have s2 := s.ext e12
    have l3 := s2.pls
    refine runJ ?_
    refine w_sub (l' := [(1, p1), (58, .bool (decide (¬ placesP V.out m)))]) (Sub.cons rfl (Sub.consE rfl (congrArg Value.bool (by simp)) (Sub.nil _))) ?_
    (apply w_condD; exact rfl; exact rfl) <;> intro h11
    · refine runJ ?_
      exact fin1 rfl rfl ⟨.inr ⟨rfl, fun k => h11 (by have := k.out; rwa [hm] at this)⟩, e12⟩
    have h11 : placesP V.out m := Decidable.of_not_not h11
    refine runJ ?_
    (first | (apply w_seqB; exact rfl; apply w_block; exact rfl) | skip)
    apply (w_loop (σ := Nat) rfl (fun j => [(1, p1), (60, V.vP), (61, N V.pls.length), (62, N j)])
      (fun j h' => h2 = h' ∧ j ≤ V.pls.length ∧ ∀ x ∈ V.pls.take j, (x.2.length : Int) ≤ m) (fun j => V.pls.length - j) 0)
    · exact (Sub.cons rfl (Sub.cons rfl (Sub.cons rfl (Sub.cons rfl (Sub.nil _)))))
    · exact ⟨rfl, Nat.zero_le _, by simp⟩
    rintro j h' ⟨rfl, j1, j2⟩
    refine runJ ?_
    (apply w_condD; exact rfl; exact rfl) <;> intro hj
    · obtain ⟨x, hx⟩ := get_lt hj
      have hmem : x ∈ V.pls := List.mem_of_getElem? hx
      have lx := s2.plr x hmem
      have sx := sl.plr x hmem
      have hpl := sl.pls
      refine runJ ?_
      (apply w_condD; exact rfl; exact rfl) <;> intro hlong
      · refine runJ ?_
        exact fin1 rfl rfl ⟨.inr ⟨rfl, fun k => by have := k.pls x hmem; omega⟩, e12⟩
      · refine runJ ?_
        apply again_normal (j + 1)
        · exact (Sub.cons rfl (Sub.cons rfl (Sub.cons rfl (Sub.cons rfl (Sub.nil _)))))
        · refine ⟨rfl, hj, fun y hy => ?_⟩
          rw [take_snoc hx] at hy
          rcases List.mem_append.1 hy with hy | hy
          · exact j2 y hy
          · simp only [List.mem_singleton] at hy; subst hy; omega
        · omega
    have h12 : ∀ x ∈ V.pls, (x.2.length : Int) ≤ m := by rwa [List.take_of_length_le (by omega)] at j2
    have l6 := s2.ins
    refine runJ ?_
    (first | (apply w_seqB; exact rfl; apply w_block; exact rfl) | skip)
    apply (w_loop (σ := Nat) rfl (fun j => [(1, p1), (73, V.vI), (74, N V.ins.length), (75, N j)])
      (fun j h' => Ext h2 h' ∧ j ≤ V.ins.length ∧ ∀ x ∈ V.ins.take j, placesP x.sl m) (fun j => V.ins.length - j) 0)
    · exact (Sub.cons rfl (Sub.cons rfl (Sub.cons rfl (Sub.cons rfl (Sub.nil _)))))
    · exact ⟨Ext.refl _, Nat.zero_le _, by simp⟩
    rintro k1 h3 ⟨e3, i1, i2⟩
    have x3 := x2.ext e3
    have s3 := s2.ext e3
    have l7 := s3.ins
    have hil := sl.ins
    refine runJ ?_
    (apply w_condD; exact rfl; exact rfl) <;> intro hk
    · obtain ⟨x, hx⟩ := get_lt hk
      have hmem : x ∈ V.ins := List.mem_of_getElem? hx
      have lx := s3.inr x hmem
      have sx := sl.inr x hmem
      refine runJ ?_
      (apply s_alloc; exact rfl; exact rfl; exact rfl)
      intro p4 h4 x4 e4 b4
      (try dsimp only [Value.cells, List.toList_toArray] at x4)
      refine ⟨(by first | exact trivial | exact Ext.refl _ | assumption | exact Ext.trans (by assumption) (by assumption)), ?_⟩
      refine runJ ?_
      apply s_storeV (us := x.cells) rfl rfl rfl (OneAll.cons rfl (OneAll.cons rfl (OneAll.cons lx.one OneAll.nil))) rfl rfl x4 rfl
      intro h5 x5 k5
      have e5 := k5.oldV e4 b4 (Nat.le_refl _)
      have x35 := x3.ext e5
      have lx5 := lx.ext e5
      refine ⟨trivial, ?_⟩
      unfold InD.cells at x5
      refine runJ ?_
      apply (s_call Try_ent21 rfl rfl rfl)
      refine (places_spec x.v x.sl m h5 lx5 sx).mono ?_
      rintro _ h6 ⟨rfl, e6⟩
      refine ⟨(by first | exact trivial | exact trivial), ?_⟩
      have e26 := (e3.trans e5).trans e6
      refine runJ ?_
      refine w_sub (l' := [(1, p1), (73, V.vI), (74, N V.ins.length), (75, N k1), (84, .bool (decide (¬ placesP x.sl m)))]) (Sub.cons rfl (Sub.cons rfl (Sub.cons rfl (Sub.cons rfl (Sub.consE rfl (congrArg Value.bool (by simp)) (Sub.nil _)))))) ?_
      (apply w_condD; exact rfl; exact rfl) <;> intro hbad
      · refine runJ ?_
        exact fin1 rfl rfl ⟨.inr ⟨rfl, fun k => hbad (by have := k.ins x hmem; rwa [hm] at this)⟩, e12.trans e26⟩
      · refine runJ ?_
        apply again_normal (k1 + 1)
        · exact (Sub.cons rfl (Sub.cons rfl (Sub.cons rfl (Sub.cons rfl (Sub.nil _)))))
        · refine ⟨e26, hk, fun y hy => ?_⟩
          rw [take_snoc hx] at hy
          rcases List.mem_append.1 hy with hy | hy
          · exact i2 y hy
          · simp only [List.mem_singleton] at hy; subst hy; exact Decidable.of_not_not hbad
        · omega
    have h13 : ∀ x ∈ V.ins, placesP x.sl m := by rwa [List.take_of_length_le (by omega)] at i2
    have l8 := s3.code
    refine runJ ?_
    (first | (apply w_seqB; exact rfl; apply w_block; exact rfl) | skip)
    apply (w_loop (σ := Nat) rfl (fun j => [(1, p1), (87, V.vC), (88, N V.code.length), (89, N j)])
      (fun j h' => Ext h2 h' ∧ j ≤ V.code.length ∧ ∀ i x, i < j → V.code[i]? = some x → formP x i V) (fun j => V.code.length - j) 0)
    · exact (Sub.cons rfl (Sub.cons rfl (Sub.cons rfl (Sub.cons rfl (Sub.nil _)))))
    · exact ⟨e3, Nat.zero_le _, fun i x hi => by omega⟩
    rintro k2 h7 ⟨e7, q1, q2⟩
    have x7 := x2.ext e7
    have s7 := s2.ext e7
    have l9 := s7.code
    have hcl := sl.code
    refine runJ ?_
    (apply w_condD; exact rfl; exact rfl) <;> intro hc
    · obtain ⟨x, hx⟩ := get_lt hc
      refine runJ ?_
      (apply s_alloc; exact rfl; exact rfl; exact rfl)
      intro p4 h4 x4 e4 b4
      (try dsimp only [Value.cells, List.toList_toArray] at x4)
      refine ⟨(by first | exact trivial | exact Ext.refl _ | assumption | exact Ext.trans (by assumption) (by assumption)), ?_⟩
      refine runJ ?_
      apply s_storeV (us := x.cells) rfl rfl rfl (OneAll.cons rfl (OneAll.cons rfl (OneAll.cons rfl (OneAll.cons rfl (OneAll.cons rfl OneAll.nil))))) rfl rfl x4 rfl
      intro h5 x5 k5
      have e5 := k5.oldV e4 b4 (Nat.le_refl _)
      have x75 := x7.ext e5
      have s5 := s7.ext e5
      refine ⟨trivial, ?_⟩
      refine runJ ?_
      have F := form_spec x k2 V h5 s5
      unfold VecD.cells at F
      rw [hm] at F
      apply (s_call Try_ent22 rfl rfl rfl)
      refine (F).mono ?_
      rintro _ h6 ⟨rfl, e6⟩
      refine ⟨(by first | exact trivial | exact trivial), ?_⟩
      have e26 := (e7.trans e5).trans e6
      refine runJ ?_
      refine w_sub (l' := [(1, p1), (87, V.vC), (88, N V.code.length), (89, N k2), (98, .bool (decide (¬ formP x k2 V)))]) (Sub.cons rfl (Sub.cons rfl (Sub.cons rfl (Sub.cons rfl (Sub.consE rfl (congrArg Value.bool (by simp)) (Sub.nil _)))))) ?_
      (apply w_condD; exact rfl; exact rfl) <;> intro hbad
      · refine runJ ?_
        exact fin1 rfl rfl ⟨.inr ⟨rfl, fun k => hbad (k.code k2 x hx)⟩, e12.trans e26⟩
      · refine runJ ?_
        apply again_normal (k2 + 1)
        · exact (Sub.cons rfl (Sub.cons rfl (Sub.cons rfl (Sub.cons rfl (Sub.nil _)))))
        · refine ⟨e26, hc, fun i y hi hy => ?_⟩
          rcases Nat.lt_succ_iff_lt_or_eq.1 hi with hi | rfl
          · exact q2 i y hi hy
          · rw [hx] at hy; cases hy; exact Decidable.of_not_not hbad
        · omega
    · refine runJ ?_
      refine fin1 rfl rfl ⟨.inl ⟨rfl, ?_⟩, e12.trans e7⟩
      exact ⟨by rw [hm]; exact hsl, by omega, by omega, by omega, by rw [hm]; exact h11, by rw [hm]; exact h12, by rw [hm]; exact h13, fun i x hx => q2 i x (by have := (List.getElem?_eq_some_iff.1 hx).1; omega) hx⟩
end Go.Proofs.Ythgpgccmhohfbaa

/- Vector programs: the reference's check. No condition. -/
import Derived.Test.YthgpgccmhohfbaaVecO
namespace Go.Proofs.Ythgpgccmhohfbaa
set_option linter.unusedVariables false
open Go Go.Den Go.RowKit

def pwN (s : Nat) : Prop := s = 4 ∨ s = 8 ∨ s = 16 ∨ s = 32 ∨ s = 64 ∨ s = 128 ∨ s = 256 ∨ s = 512 ∨ s = 1024 ∨ s = 2048 ∨ s = 4096
instance (s : Int) : Decidable (slotsP s) := by unfold slotsP; exact inferInstance
theorem right_step {x : Int} {s : Nat} (hx : x ≤ 64) (hs : pwN s) : (slotsP x ∧ x < (s : Int)) ∨ x = (s : Int) ↔ slotsP x ∧ x < ((2 * s : Nat) : Int) := by
  unfold pwN at hs
  unfold slotsP
  rcases hs with rfl | rfl | rfl | rfl | rfl | rfl | rfl | rfl | rfl | rfl | rfl <;> omega
theorem pw_step {s : Nat} (hs : pwN s) (h : s ≤ 2048) : pwN (2 * s) := by unfold pwN at *; omega

theorem Try_ent18 : Ent Try.prog 18 := ent_of Try.func18 (by kernel_rfl) rfl
set_option maxHeartbeats 4000000 in
theorem refCheck_spec (V : VecD) (h : Hp) (s : VecAt h V) (sl : VecL V) (hs : V.slots ≤ 64) :
    CallsH Try.prog 18 [.agg V.cells.toArray] h fun v' h' => ((v' = N 0 ∧ checkP V) ∨ (v' = N 3 ∧ ¬ checkP V)) ∧ Ext h h' := by
  unfold VecD.cells
  (apply enter Try.func18 rfl Try.ntmps18 rfl)
  refine runJ ?_
  (apply s_box; exact rfl; exact rfl; exact rfl; exact rfl)
  intro p1 h1 x1 e1 b1
  (try dsimp only [Value.cells, List.toList_toArray] at x1)
  refine ⟨(by first | exact trivial | exact Ext.refl _ | assumption | exact Ext.trans (by assumption) (by assumption)), ?_⟩
  have e12 := e1
  have s2 := s.ext e1
  refine runJ ?_
  (first | (apply w_seqB; exact rfl; apply w_block; exact rfl) | skip)
  apply (w_loop (σ := Nat) rfl (fun j => [(1, p1), (3, .bool (decide (slotsP V.slots ∧ V.slots < (j : Int)))), (4, N j)])
    (fun j h' => h1 = h' ∧ pwN j) (fun j => 4096 - j) 4)
  · exact Sub.cons rfl (Sub.consE rfl (dec_f (by unfold slotsP; omega)) (Sub.cons rfl (Sub.nil _)))
  · exact ⟨rfl, .inl rfl⟩
  rintro j h' ⟨rfl, j1⟩
  refine runJ ?_
  (apply w_condD; exact rfl; exact rfl) <;> intro hj
  · have hj4 : 4 ≤ j := by unfold pwN at j1; omega
    refine runJ ?_
    (apply s_splitG; exact rfl; exact rfl; exact rfl; exact rfl) <;> intro hr
    · refine runJ ?_
      apply again_normal (2 * j)
      · exact Sub.cons rfl (Sub.consE rfl (dec_t ((right_step hs j1).1 (.inl hr))) (Sub.cons rfl (Sub.nil _)))
      · exact ⟨rfl, pw_step j1 hj⟩
      · omega
    · refine runJ ?_
      apply again_normal (2 * j)
      · exact Sub.cons rfl (Sub.consE rfl (dec_i ⟨fun e => (right_step hs j1).1 (.inr e), fun e => ((right_step hs j1).2 e).resolve_left hr⟩) (Sub.cons rfl (Sub.nil _)))
      · exact ⟨rfl, pw_step j1 hj⟩
      · omega
  have hsl : (slotsP V.slots ∧ V.slots < (j : Int)) ↔ slotsP V.slots := by unfold slotsP pwN at *; omega
  have l5 := s2.out
  have l4 := s2.code
  have sl1 := sl.out
  refine runJ ?_
  refine s_know (t := 24) (u := .bool (decide (¬ slotsP V.slots))) rfl (by simp [hsl]) ?_
  (apply s_splitG; exact rfl; exact rfl; exact rfl; exact rfl) <;> intro h4
  · refine runJ ?_
    exact fin1 rfl rfl ⟨.inr ⟨rfl, fun k => h4 k.slots⟩, e1⟩
  have hslots : slotsP V.slots := Decidable.of_not_not h4
  refine runJ ?_
  (apply s_splitG; exact rfl; exact rfl; exact rfl; exact rfl) <;> intro h7
  · refine runJ ?_
    exact fin1 rfl rfl ⟨.inr ⟨rfl, fun k => by have := k.some1; omega⟩, e1⟩
  refine runJ ?_
  (apply s_splitG; exact rfl; exact rfl; exact rfl; exact rfl) <;> intro h8
  · refine runJ ?_
    exact fin1 rfl rfl ⟨.inr ⟨rfl, fun k => by have := k.few; omega⟩, e1⟩
  refine runJ ?_
  (apply s_splitG; exact rfl; exact rfl; exact rfl; exact rfl) <;> intro h9
  · refine runJ ?_
    exact fin1 rfl rfl ⟨.inr ⟨rfl, fun k => by have := k.last; omega⟩, e1⟩
  refine runJ ?_
  (apply s_splitG; exact rfl; exact rfl; exact rfl; exact rfl) <;> intro h10
  · refine runJ ?_
    exact fin1 rfl rfl ⟨.inr ⟨rfl, fun k => by have := k.last; omega⟩, e1⟩
  refine runJ ?_
  apply (s_call Try_ent30 rfl rfl rfl)
  refine (refPlaces_spec V.vO V.out V.slots h1 l5 sl1).mono ?_
  rintro _ _ ⟨rfl, rfl⟩
  refine ⟨(by first | exact trivial | exact Ext.refl _ | assumption | exact Ext.trans (by assumption) (by assumption)), ?_⟩
  have x2 := x1
  have l3 := s2.pls
  refine runJ ?_
  refine w_sub (l' := [(1, p1), (56, .bool (decide (¬ placesP V.out V.slots)))]) (Sub.cons rfl (Sub.consE rfl (congrArg Value.bool (by simp)) (Sub.nil _))) ?_
  (apply w_condD; exact rfl; exact rfl) <;> intro h11
  · refine runJ ?_
    exact fin1 rfl rfl ⟨.inr ⟨rfl, fun k => h11 k.out⟩, e12⟩
  have h11 : placesP V.out V.slots := Decidable.of_not_not h11
  refine runJ ?_
  (first | (apply w_seqB; exact rfl; apply w_block; exact rfl) | skip)
  apply (w_loop (σ := Nat) rfl (fun j => [(1, p1), (58, V.vP), (59, N V.pls.length), (60, N j)])
    (fun j h' => h1 = h' ∧ j ≤ V.pls.length ∧ ∀ x ∈ V.pls.take j, (x.2.length : Int) ≤ V.slots) (fun j => V.pls.length - j) 0)
  · exact (Sub.cons rfl (Sub.cons rfl (Sub.cons rfl (Sub.cons rfl (Sub.nil _)))))
  · exact ⟨rfl, Nat.zero_le _, by simp⟩
  rintro j h' ⟨rfl, j1, j2⟩
  refine runJ ?_
  (apply w_condD; exact rfl; exact rfl) <;> intro hj
  · obtain ⟨x, hx⟩ := get_lt hj
    have hmem : x ∈ V.pls := List.mem_of_getElem? hx
    have lx := s2.plr x hmem
    have sx := sl.plr x hmem
    have hpl := sl.pls
    refine runJ ?_
    (apply w_condD; exact rfl; exact rfl) <;> intro hlong
    · refine runJ ?_
      exact fin1 rfl rfl ⟨.inr ⟨rfl, fun k => by have := k.pls x hmem; omega⟩, e12⟩
    · refine runJ ?_
      apply again_normal (j + 1)
      · exact (Sub.cons rfl (Sub.cons rfl (Sub.cons rfl (Sub.cons rfl (Sub.nil _)))))
      · refine ⟨rfl, hj, fun y hy => ?_⟩
        rw [take_snoc hx] at hy
        rcases List.mem_append.1 hy with hy | hy
        · exact j2 y hy
        · simp only [List.mem_singleton] at hy; subst hy; omega
      · omega
  have h12 : ∀ x ∈ V.pls, (x.2.length : Int) ≤ V.slots := by rwa [List.take_of_length_le (by omega)] at j2
  have l6 := s2.ins
  refine runJ ?_
  (first | (apply w_seqB; exact rfl; apply w_block; exact rfl) | skip)
  apply (w_loop (σ := Nat) rfl (fun j => [(1, p1), (71, V.vI), (72, N V.ins.length), (73, N j)])
    (fun j h' => Ext h1 h' ∧ j ≤ V.ins.length ∧ ∀ x ∈ V.ins.take j, placesP x.sl V.slots) (fun j => V.ins.length - j) 0)
  · exact (Sub.cons rfl (Sub.cons rfl (Sub.cons rfl (Sub.cons rfl (Sub.nil _)))))
  · exact ⟨Ext.refl _, Nat.zero_le _, by simp⟩
  rintro k1 h3 ⟨e3, i1, i2⟩
  have x3 := x2.ext e3
  have s3 := s2.ext e3
  have l7 := s3.ins
  have hil := sl.ins
  refine runJ ?_
  (apply w_condD; exact rfl; exact rfl) <;> intro hk
  · obtain ⟨x, hx⟩ := get_lt hk
    have hmem : x ∈ V.ins := List.mem_of_getElem? hx
    have lx := s3.inr x hmem
    have sx := sl.inr x hmem
    refine runJ ?_
    (apply s_alloc; exact rfl; exact rfl; exact rfl)
    intro p4 h4 x4 e4 b4
    (try dsimp only [Value.cells, List.toList_toArray] at x4)
    refine ⟨(by first | exact trivial | exact Ext.refl _ | assumption | exact Ext.trans (by assumption) (by assumption)), ?_⟩
    refine runJ ?_
    apply s_storeV (us := x.cells) rfl rfl rfl (OneAll.cons rfl (OneAll.cons rfl (OneAll.cons lx.one OneAll.nil))) rfl rfl x4 rfl
    intro h5 x5 k5
    have e5 := k5.oldV e4 b4 (Nat.le_refl _)
    have x35 := x3.ext e5
    have lx5 := lx.ext e5
    refine ⟨trivial, ?_⟩
    unfold InD.cells at x5
    refine runJ ?_
    apply (s_call Try_ent30 rfl rfl rfl)
    refine (refPlaces_spec x.v x.sl V.slots h5 lx5 sx).mono ?_
    rintro _ _ ⟨rfl, rfl⟩
    refine ⟨(by first | exact trivial | exact Ext.refl _ | assumption | exact Ext.trans (by assumption) (by assumption)), ?_⟩
    have e26 := e3.trans e5
    refine runJ ?_
    refine w_sub (l' := [(1, p1), (71, V.vI), (72, N V.ins.length), (73, N k1), (82, .bool (decide (¬ placesP x.sl V.slots)))]) (Sub.cons rfl (Sub.cons rfl (Sub.cons rfl (Sub.cons rfl (Sub.consE rfl (congrArg Value.bool (by simp)) (Sub.nil _)))))) ?_
    (apply w_condD; exact rfl; exact rfl) <;> intro hbad
    · refine runJ ?_
      exact fin1 rfl rfl ⟨.inr ⟨rfl, fun k => hbad (k.ins x hmem)⟩, e12.trans e26⟩
    · refine runJ ?_
      apply again_normal (k1 + 1)
      · exact (Sub.cons rfl (Sub.cons rfl (Sub.cons rfl (Sub.cons rfl (Sub.nil _)))))
      · refine ⟨e26, hk, fun y hy => ?_⟩
        rw [take_snoc hx] at hy
        rcases List.mem_append.1 hy with hy | hy
        · exact i2 y hy
        · simp only [List.mem_singleton] at hy; subst hy; exact Decidable.of_not_not hbad
      · omega
  have h13 : ∀ x ∈ V.ins, placesP x.sl V.slots := by rwa [List.take_of_length_le (by omega)] at i2
  have l8 := s3.code
  refine runJ ?_
  (first | (apply w_seqB; exact rfl; apply w_block; exact rfl) | skip)
  apply (w_loop (σ := Nat) rfl (fun j => [(1, p1), (85, V.vC), (86, N V.code.length), (87, N j)])
    (fun j h' => Ext h1 h' ∧ j ≤ V.code.length ∧ ∀ i x, i < j → V.code[i]? = some x → formP x i V) (fun j => V.code.length - j) 0)
  · exact (Sub.cons rfl (Sub.cons rfl (Sub.cons rfl (Sub.cons rfl (Sub.nil _)))))
  · exact ⟨e3, Nat.zero_le _, fun i x hi => by omega⟩
  rintro k2 h7 ⟨e7, q1, q2⟩
  have x7 := x2.ext e7
  have s7 := s2.ext e7
  have l9 := s7.code
  have hcl := sl.code
  refine runJ ?_
  (apply w_condD; exact rfl; exact rfl) <;> intro hc
  · obtain ⟨x, hx⟩ := get_lt hc
    refine runJ ?_
    (apply s_alloc; exact rfl; exact rfl; exact rfl)
    intro p4 h4 x4 e4 b4
    (try dsimp only [Value.cells, List.toList_toArray] at x4)
    refine ⟨(by first | exact trivial | exact Ext.refl _ | assumption | exact Ext.trans (by assumption) (by assumption)), ?_⟩
    refine runJ ?_
    apply s_storeV (us := x.cells) rfl rfl rfl (OneAll.cons rfl (OneAll.cons rfl (OneAll.cons rfl (OneAll.cons rfl (OneAll.cons rfl OneAll.nil))))) rfl rfl x4 rfl
    intro h5 x5 k5
    have e5 := k5.oldV e4 b4 (Nat.le_refl _)
    have x75 := x7.ext e5
    have s5 := s7.ext e5
    refine ⟨trivial, ?_⟩
    refine runJ ?_
    have F := refForm_spec x k2 V h5 s5
    unfold VecD.cells at F
    apply (s_call Try_ent31 rfl rfl rfl)
    refine (F).mono ?_
    rintro _ h6 ⟨rfl, e6⟩
    refine ⟨(by first | exact trivial | exact trivial), ?_⟩
    have e26 := (e7.trans e5).trans e6
    refine runJ ?_
    refine w_sub (l' := [(1, p1), (85, V.vC), (86, N V.code.length), (87, N k2), (96, .bool (decide (¬ formP x k2 V)))]) (Sub.cons rfl (Sub.cons rfl (Sub.cons rfl (Sub.cons rfl (Sub.consE rfl (congrArg Value.bool (by simp)) (Sub.nil _)))))) ?_
    (apply w_condD; exact rfl; exact rfl) <;> intro hbad
    · refine runJ ?_
      exact fin1 rfl rfl ⟨.inr ⟨rfl, fun k => hbad (k.code k2 x hx)⟩, e12.trans e26⟩
    · refine runJ ?_
      apply again_normal (k2 + 1)
      · exact (Sub.cons rfl (Sub.cons rfl (Sub.cons rfl (Sub.cons rfl (Sub.nil _)))))
      · refine ⟨e26, hc, fun i y hi hy => ?_⟩
        rcases Nat.lt_succ_iff_lt_or_eq.1 hi with hi | rfl
        · exact q2 i y hi hy
        · rw [hx] at hy; cases hy; exact Decidable.of_not_not hbad
      · omega
  · refine runJ ?_
    refine fin1 rfl rfl ⟨.inl ⟨rfl, ?_⟩, e12.trans e7⟩
    exact ⟨hslots, by omega, by omega, by omega, h11, h12, h13, fun i x hx => q2 i x (by have := (List.getElem?_eq_some_iff.1 hx).1; omega) hx⟩
end Go.Proofs.Ythgpgccmhohfbaa

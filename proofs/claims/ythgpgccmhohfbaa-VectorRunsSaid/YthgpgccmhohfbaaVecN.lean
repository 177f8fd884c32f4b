/- Vector programs: the reference's places, form and check. No condition. -/
import Derived.Test.YthgpgccmhohfbaaVecM
namespace Go.Proofs.Ythgpgccmhohfbaa
set_option linter.unusedVariables false
open Go Go.Den Go.RowKit

theorem Try_ent30 : Ent Try.prog 30 := ent_of Try.func30 (by kernel_rfl) rfl
theorem refPlaces_spec (v : Value) (l : List Int) (s : Int) (h : Hp) (k : SlF h I v l) (hl : l.length < 4611686018427387904) :
    CallsH Try.prog 30 [v, I s] h fun v' h' => v' = .bool (decide (placesP l s)) ∧ h = h' := by
  (apply enter Try.func30 rfl Try.ntmps30 rfl)
  refine runJ ?_
  (first | (apply w_seqB; exact rfl; apply w_block; exact rfl) | skip)
  apply (w_loop (σ := Nat) rfl (fun j => [(0, v), (1, I s), (9, v), (10, N l.length), (11, N j)])
    (fun j h' => h = h' ∧ j ≤ l.length ∧ placesP (l.take j) s) (fun j => l.length - j) 0)
  · exact (Sub.cons rfl (Sub.cons rfl (Sub.cons rfl (Sub.cons rfl (Sub.cons rfl (Sub.nil _))))))
  · exact ⟨rfl, Nat.zero_le _, by simp [placesP]⟩
  rintro j h2 ⟨rfl, i3, i4⟩
  refine runJ ?_
  (apply w_condD; exact rfl; exact rfl) <;> intro hj
  · obtain ⟨x, hx⟩ := get_lt hj
    have hmem : x ∈ l := List.mem_of_getElem? hx
    have c1 := k.cut (lo := 0) (hi := j) (Nat.zero_le _) i3
    rw [List.drop_zero, Nat.sub_zero] at c1
    refine runJ ?_
    refine s_tcut (σ := Unit) (fun _ => [(0, v), (1, I s), (5, N j), (6, I x), (9, v), (10, N l.length), (11, N j), (22, .bool (decide (x < 0 ∨ s ≤ x)))]) (fun _ h' => h = h') ?_ ?_
    · (apply s_splitG; exact rfl; exact rfl; exact rfl; exact rfl) <;> intro ht2
      · refine runJ ?_
        apply cut_normal ()
        · exact Sub.cons rfl (Sub.cons rfl (Sub.cons rfl (Sub.cons rfl (Sub.cons rfl (Sub.cons rfl (Sub.cons rfl (Sub.consE rfl (dec_t (.inl ht2)) (Sub.nil _))))))))
        · exact rfl
      · refine runJ ?_
        apply cut_normal ()
        · exact Sub.cons rfl (Sub.cons rfl (Sub.cons rfl (Sub.cons rfl (Sub.cons rfl (Sub.cons rfl (Sub.cons rfl (Sub.consE rfl (dec_i (by omega)) (Sub.nil _))))))))
        · exact rfl
    rintro _ _ rfl
    (apply w_condD; exact rfl; exact rfl) <;> intro h0
    · refine runJ ?_
      exact fin1 rfl rfl ⟨dec_f fun hp => by have := hp.1 x hmem; omega, rfl⟩
    refine runJ ?_
    (first | (apply w_seqB; exact rfl; apply w_block; exact rfl) | skip)
    have hlt : (l.take j).length = j := by simp; omega
    apply (w_loop (σ := Nat) rfl (fun i => [(0, v), (1, I s), (6, I x), (9, v), (10, N l.length), (11, N j), (25, cutV 1 v 0 j), (26, N (l.take j).length), (27, N i)])
      (fun i h' => h = h' ∧ i ≤ j ∧ x ∉ (l.take j).take i) (fun i => j - i) 0)
    · exact (Sub.cons rfl (Sub.cons rfl (Sub.cons rfl (Sub.cons rfl (Sub.cons rfl (Sub.cons rfl (Sub.cons rfl (Sub.cons rfl (Sub.cons rfl (Sub.nil _))))))))))
    · exact ⟨rfl, Nat.zero_le _, by simp⟩
    rintro i h3 ⟨rfl, i5, i6⟩
    refine runJ ?_
    (apply w_condD; exact rfl; exact rfl) <;> intro hi
    · obtain ⟨y, hy⟩ := get_lt hi
      refine runJ ?_
      (apply w_condD; exact rfl; exact rfl) <;> intro hxy
      · subst hxy
        refine runJ ?_
        exact fin1 rfl rfl ⟨dec_f fun hp => not_nodup_at hx (List.mem_of_getElem? hy) hp.2, rfl⟩
      · refine runJ ?_
        apply again_normal (i + 1)
        · exact (Sub.cons rfl (Sub.cons rfl (Sub.cons rfl (Sub.cons rfl (Sub.cons rfl (Sub.cons rfl (Sub.cons rfl (Sub.cons rfl (Sub.cons rfl (Sub.nil _))))))))))
        · refine ⟨rfl, by omega, ?_⟩
          rw [take_snoc hy]
          intro hm
          rcases List.mem_append.1 hm with hm | hm
          · exact i6 hm
          · simp only [List.mem_singleton] at hm; exact hxy hm.symm
        · omega
    · have hin : x ∉ l.take j := by rwa [List.take_of_length_le (by omega)] at i6
      refine runJ ?_
      apply again_normal (j + 1)
      · exact (Sub.cons rfl (Sub.cons rfl (Sub.cons rfl (Sub.cons rfl (Sub.cons rfl (Sub.nil _))))))
      · refine ⟨rfl, hj, ?_, ?_⟩
        · rw [take_snoc hx]
          intro y hy
          rcases List.mem_append.1 hy with hy | hy
          · exact i4.1 y hy
          · simp only [List.mem_singleton] at hy; subst hy; omega
        · rw [take_snoc hx]; exact nodup_snoc i4.2 hin
      · omega
  · refine runJ ?_
    refine fin1 rfl rfl ⟨dec_t ?_, rfl⟩
    rwa [List.take_of_length_le (by omega)] at i4

theorem Try_ent31 : Ent Try.prog 31 := ent_of Try.func31 (by kernel_rfl) rfl
set_option maxHeartbeats 4000000 in
theorem refForm_spec (x : Ins) (i : Nat) (V : VecD) (h : Hp) (s : VecAt h V) :
    CallsH Try.prog 31 [.agg x.cells.toArray, N i, .agg V.cells.toArray] h fun v' h' => v' = .bool (decide (formP x i V)) ∧ Ext h h' := by
  unfold Ins.cells VecD.cells
  (apply enter Try.func31 rfl Try.ntmps31 rfl)
  refine runJ ?_
  (apply s_box; exact rfl; exact rfl; exact rfl; exact rfl)
  intro p1 h1 x1 e1 b1
  (try dsimp only [Value.cells, List.toList_toArray] at x1)
  refine ⟨(by first | exact trivial | exact Ext.refl _ | assumption | exact Ext.trans (by assumption) (by assumption)), ?_⟩
  refine runJ ?_
  (apply s_box; exact rfl; exact rfl; exact rfl; exact rfl)
  intro p3 h3 x3 e3 b3
  (try dsimp only [Value.cells, List.toList_toArray] at x3)
  refine ⟨(by first | exact trivial | exact Ext.refl _ | assumption | exact Ext.trans (by assumption) (by assumption)), ?_⟩
  have e13 := e1.trans e3
  have y1 := x1.ext e3
  have s3 := s.ext e13
  have l1 := s3.ins
  have l2 := s3.pls
  refine runJ ?_
  (apply w_condD; exact rfl; exact rfl) <;> intro hto
  · refine runJ ?_
    exact fin1 rfl rfl ⟨dec_f (by unfold formP; omega), e13⟩
  have hto : x.to = i := by omega
  refine runJ ?_
  refine s_tcut (σ := Unit) (fun _ => [(1, N i), (3, p1), (5, p3), (7, .bool (decide (0 ≤ x.a ∧ x.a < (i : Int))))]) (fun _ h' => h3 = h') ?_ ?_
  · (apply s_splitG; exact rfl; exact rfl; exact rfl; exact rfl) <;> intro g
    · refine runJ ?_
      apply cut_normal ()
      · exact Sub.cons rfl (Sub.cons rfl (Sub.cons rfl (Sub.consE rfl (dec_i (by omega)) (Sub.nil _))))
      · exact rfl
    · refine runJ ?_
      apply cut_normal ()
      · exact Sub.cons rfl (Sub.cons rfl (Sub.cons rfl (Sub.consE rfl (dec_f (by omega)) (Sub.nil _))))
      · exact rfl
  rintro _ _ rfl
  refine runJ ?_
  refine s_tcut (σ := Unit) (fun _ => [(1, N i), (3, p1), (5, p3), (7, .bool (decide (0 ≤ x.a ∧ x.a < (i : Int)))), (8, .bool (decide (0 ≤ x.b ∧ x.b < (i : Int))))]) (fun _ h' => h3 = h') ?_ ?_
  · (apply s_splitG; exact rfl; exact rfl; exact rfl; exact rfl) <;> intro g
    · refine runJ ?_
      apply cut_normal ()
      · exact Sub.cons rfl (Sub.cons rfl (Sub.cons rfl (Sub.cons rfl (Sub.consE rfl (dec_i (by omega)) (Sub.nil _)))))
      · exact rfl
    · refine runJ ?_
      apply cut_normal ()
      · exact Sub.cons rfl (Sub.cons rfl (Sub.cons rfl (Sub.cons rfl (Sub.consE rfl (dec_f (by omega)) (Sub.nil _)))))
      · exact rfl
  rintro _ _ rfl
  refine runJ ?_
  refine s_tcut (σ := Unit) (fun _ => [(1, N i), (3, p1), (5, p3), (7, .bool (decide (0 ≤ x.a ∧ x.a < (i : Int)))), (8, .bool (decide (0 ≤ x.b ∧ x.b < (i : Int)))), (9, .bool (decide (0 ≤ x.k ∧ x.k < (V.pls.length : Int))))]) (fun _ h' => h3 = h') ?_ ?_
  · (apply s_splitG; exact rfl; exact rfl; exact rfl; exact rfl) <;> intro g
    · refine runJ ?_
      apply cut_normal ()
      · exact Sub.cons rfl (Sub.cons rfl (Sub.cons rfl (Sub.cons rfl (Sub.cons rfl (Sub.consE rfl (dec_i (by omega)) (Sub.nil _))))))
      · exact rfl
    · refine runJ ?_
      apply cut_normal ()
      · exact Sub.cons rfl (Sub.cons rfl (Sub.cons rfl (Sub.cons rfl (Sub.cons rfl (Sub.consE rfl (dec_f (by omega)) (Sub.nil _))))))
      · exact rfl
  rintro _ _ rfl
  refine runJ ?_
  (apply w_condD; exact rfl; exact rfl) <;> intro o1
  · refine runJ ?_
    (apply s_splitG; exact rfl; exact rfl; exact rfl; exact rfl) <;> intro g1
    · refine runJ ?_
      (apply s_splitG; exact rfl; exact rfl; exact rfl; exact rfl) <;> intro g2
      · refine runJ ?_
        (apply s_splitG; exact rfl; exact rfl; exact rfl; exact rfl) <;> intro g3
        · refine runJ ?_
          exact fin1 rfl rfl ⟨dec_i (by unfold formP; omega), e13⟩
        · refine runJ ?_
          exact fin1 rfl rfl ⟨dec_f (by unfold formP; omega), e13⟩
      · refine runJ ?_
        exact fin1 rfl rfl ⟨dec_f (by unfold formP; omega), e13⟩
    · refine runJ ?_
      exact fin1 rfl rfl ⟨dec_f (by unfold formP; omega), e13⟩
  · refine runJ ?_
    (apply w_condD; exact rfl; exact rfl) <;> intro o2
    · refine runJ ?_
      (apply s_splitG; exact rfl; exact rfl; exact rfl; exact rfl) <;> intro g4
      · refine runJ ?_
        (apply s_splitG; exact rfl; exact rfl; exact rfl; exact rfl) <;> intro g5
        · refine runJ ?_
          exact fin1 rfl rfl ⟨dec_i (by unfold formP; omega), e13⟩
        · refine runJ ?_
          exact fin1 rfl rfl ⟨dec_f (by unfold formP; omega), e13⟩
      · refine runJ ?_
        exact fin1 rfl rfl ⟨dec_f (by unfold formP; omega), e13⟩
    · refine runJ ?_
      (apply w_condD; exact rfl; exact rfl) <;> intro o3
      · refine runJ ?_
        (apply w_condT; exact rfl; exact rfl; exact o3)
        refine runJ ?_
        (apply s_splitG; exact rfl; exact rfl; exact rfl; exact rfl) <;> intro g6
        · refine runJ ?_
          (apply s_splitG; exact rfl; exact rfl; exact rfl; exact rfl) <;> intro g7
          · refine runJ ?_
            exact fin1 rfl rfl ⟨dec_i (by unfold formP; omega), e13⟩
          · refine runJ ?_
            exact fin1 rfl rfl ⟨dec_f (by unfold formP; omega), e13⟩
        · refine runJ ?_
          exact fin1 rfl rfl ⟨dec_f (by unfold formP; omega), e13⟩
      · refine runJ ?_
        (apply w_condD; exact rfl; exact rfl) <;> intro o6
        · refine runJ ?_
          (apply s_splitG; exact rfl; exact rfl; exact rfl; exact rfl) <;> intro g6
          · refine runJ ?_
            (apply s_splitG; exact rfl; exact rfl; exact rfl; exact rfl) <;> intro g7
            · refine runJ ?_
              exact fin1 rfl rfl ⟨dec_i (by unfold formP; omega), e13⟩
            · refine runJ ?_
              exact fin1 rfl rfl ⟨dec_f (by unfold formP; omega), e13⟩
          · refine runJ ?_
            exact fin1 rfl rfl ⟨dec_f (by unfold formP; omega), e13⟩
        · refine runJ ?_
          (apply w_condD; exact rfl; exact rfl) <;> intro o4
          · refine runJ ?_
            (apply w_condT; exact rfl; exact rfl; exact o4)
            refine runJ ?_
            (apply s_splitG; exact rfl; exact rfl; exact rfl; exact rfl) <;> intro g8
            · refine runJ ?_
              (apply s_splitG; exact rfl; exact rfl; exact rfl; exact rfl) <;> intro g9
              · refine runJ ?_
                exact fin1 rfl rfl ⟨dec_i (by unfold formP; omega), e13⟩
              · refine runJ ?_
                exact fin1 rfl rfl ⟨dec_f (by unfold formP; omega), e13⟩
            · refine runJ ?_
              exact fin1 rfl rfl ⟨dec_f (by unfold formP; omega), e13⟩
          · refine runJ ?_
            (apply w_condD; exact rfl; exact rfl) <;> intro o5
            · refine runJ ?_
              (apply s_splitG; exact rfl; exact rfl; exact rfl; exact rfl) <;> intro g8
              · refine runJ ?_
                (apply s_splitG; exact rfl; exact rfl; exact rfl; exact rfl) <;> intro g9
                · refine runJ ?_
                  exact fin1 rfl rfl ⟨dec_i (by unfold formP; omega), e13⟩
                · refine runJ ?_
                  exact fin1 rfl rfl ⟨dec_f (by unfold formP; omega), e13⟩
              · refine runJ ?_
                exact fin1 rfl rfl ⟨dec_f (by unfold formP; omega), e13⟩
            · refine runJ ?_
              (apply w_condD; exact rfl; exact rfl) <;> intro o8
              · refine runJ ?_
                (apply s_splitG; exact rfl; exact rfl; exact rfl; exact rfl) <;> intro g10
                · refine runJ ?_
                  (apply s_splitG; exact rfl; exact rfl; exact rfl; exact rfl) <;> intro g11
                  · refine runJ ?_
                    (apply s_splitG; exact rfl; exact rfl; exact rfl; exact rfl) <;> intro g12
                    · refine runJ ?_
                      exact fin1 rfl rfl ⟨dec_i (by unfold formP; omega), e13⟩
                    · refine runJ ?_
                      exact fin1 rfl rfl ⟨dec_f (by unfold formP; omega), e13⟩
                  · refine runJ ?_
                    exact fin1 rfl rfl ⟨dec_f (by unfold formP; omega), e13⟩
                · refine runJ ?_
                  exact fin1 rfl rfl ⟨dec_f (by unfold formP; omega), e13⟩
              · refine runJ ?_
                refine runJ ?_
                exact fin1 rfl rfl ⟨dec_f (by unfold formP; omega), e13⟩
end Go.Proofs.Ythgpgccmhohfbaa

/- Naturals as rows of words: norm, trim, Same, few, by contracts. No condition. -/
import Derived.Test.YtajgcmgkhmkmbaaDoorBits
import Derived.Test.YtajgcmgkhmkmbaaDoorDenF
import Derived.Test.YtajgcmgkhmkmbaaDoorDig
namespace Go.Proofs.YtajgcmgkhmkmbaaDoor
set_option linter.unusedVariables false
set_option maxRecDepth 8000
open Go Go.Den Go.RowKit Go.Dig

theorem U_one (a : Nat) : (U a).oneCell' = true := rfl
theorem N_one (a : Nat) : (N a).oneCell' = true := rfl

theorem nrm_take {xs : List Nat} (h0 : 0 < xs.length) (hz : xs.getD (xs.length - 1) 0 = 0) : nrm (xs.take (xs.length - 1)) = nrm xs := by
  have : xs = xs.take (xs.length - 1) ++ [0] := by
    have h1 : xs.getLast (by intro e; simp [e] at h0) = 0 := by
      rw [List.getLast_eq_getElem]
      have h2 : xs.length - 1 < xs.length := by omega
      simpa [List.getElem?_eq_getElem h2] using hz
    rw [← h1, ← List.dropLast_eq_take, List.dropLast_concat_getLast]
  conv => rhs; rw [this, nrm_snoc0]

theorem Tryd_ent70 : Ent Tryd.prog 70 := ent_of Tryd.func70 (by kernel_rfl) rfl
theorem norm_spec' (v : Value) (xs : List Nat) (h : Hp) (hs : SlF h U v xs) (hl : xs.length < 4611686018427387904) :
    CallsH Tryd.prog 70 [v] h fun v' h' => h = h' ∧ ∀ h0, (SlF h0 U v xs → SlF h0 U v' (nrm xs)) ∧ ∀ B e, OwnF h0 B e U v xs → OwnF h0 B e U v' (nrm xs) := by
  (apply enter Tryd.func70 rfl Tryd.ntmps70 rfl)
  refine runM ?_
  (first | (apply w_seqB; exact rfl; apply w_block; exact rfl) | skip)
  apply (w_loop (σ := Value × List Nat) rfl (fun p => [(0, p.1)])
    (fun p h' => h = h' ∧ p.2.length ≤ xs.length ∧ nrm p.2 = nrm xs ∧ ∀ h0, (SlF h0 U v xs → SlF h0 U p.1 p.2) ∧ ∀ B e, OwnF h0 B e U v xs → OwnF h0 B e U p.1 p.2) (fun p => p.2.length) (v, xs))
  · exact (Sub.cons rfl (Sub.nil _))
  · exact ⟨rfl, Nat.le_refl _, rfl, fun _ => ⟨fun s => s, fun _ _ o => o⟩⟩
  · rintro ⟨v', ys⟩ h' ⟨rfl, i2, i3, i4⟩
    dsimp only at i2 i3 i4 ⊢
    have i1 := (i4 h).1 hs
    refine runM ?_
    (apply s_split 6; exact rfl) <;> intro hp
    · refine runM ?_
      (apply w_condD; exact rfl; exact rfl) <;> intro hz
      · refine runM ?_
        apply again_normal (cutV 1 v' 0 (ys.length - 1), ys.take (ys.length - 1))
        · exact (Sub.cons rfl (Sub.nil _))
        · refine ⟨rfl, by simp only [List.length_take]; omega, by simp only []; rw [nrm_take hp hz, i3], fun h0 => ⟨fun s => ?_, fun B e o => ((i4 h0).2 B e o).front (by omega)⟩⟩
          have := ((i4 h0).1 s).cut (lo := 0) (hi := ys.length - 1) (by omega) (by omega)
          simpa using this
        · simp only [List.length_take]; omega
      · refine runM ?_
        have hn : nrm ys = ys := nrm_last ys hz
        rw [← i3, hn]
        exact fin1 rfl rfl ⟨rfl, i4⟩
    · refine runM ?_
      have he : ys = [] := List.eq_nil_of_length_eq_zero (by omega)
      subst he
      rw [← i3]
      exact fin1 rfl rfl ⟨rfl, i4⟩
theorem norm_spec (v : Value) (xs : List Nat) (h : Hp) (hs : SlF h U v xs) (hl : xs.length < 4611686018427387904) :
    CallsH Tryd.prog 70 [v] h fun v' h' => h = h' ∧ SlF h U v' (nrm xs) ∧ ∀ B e, OwnF h B e U v xs → OwnF h B e U v' (nrm xs) :=
  (norm_spec' v xs h hs hl).mono fun v' h' ⟨g1, g2⟩ => ⟨g1, (g2 h).1 hs, (g2 h).2⟩

theorem Tryd_ent75 : Ent Tryd.prog 75 := ent_of Tryd.func75 (by kernel_rfl) rfl
theorem trim_spec (v : Value) (xs : List Nat) (h : Hp) (hs : SlF h N v xs) (hl : xs.length < 4611686018427387904) :
    CallsH Tryd.prog 75 [v] h fun v' h' => h = h' ∧ SlF h N v' (nrm xs) ∧ ∀ B e, OwnF h B e N v xs → OwnF h B e N v' (nrm xs) := by
  (apply enter Tryd.func75 rfl Tryd.ntmps75 rfl)
  refine runM ?_
  (first | (apply w_seqB; exact rfl; apply w_block; exact rfl) | skip)
  apply (w_loop (σ := Value × List Nat) rfl (fun p => [(0, p.1)])
    (fun p h' => h = h' ∧ SlF h N p.1 p.2 ∧ p.2.length ≤ xs.length ∧ nrm p.2 = nrm xs ∧ ∀ B e, OwnF h B e N v xs → OwnF h B e N p.1 p.2) (fun p => p.2.length) (v, xs))
  · exact (Sub.cons rfl (Sub.nil _))
  · exact ⟨rfl, hs, Nat.le_refl _, rfl, fun _ _ o => o⟩
  · rintro ⟨v', ys⟩ h' ⟨rfl, i1, i2, i3, i4⟩
    dsimp only at i1 i2 i3 i4 ⊢
    refine runM ?_
    (apply s_split 6; exact rfl) <;> intro hp
    · refine runM ?_
      (apply w_condD; exact rfl; exact rfl) <;> intro hz
      · refine runM ?_
        apply again_normal (cutV 1 v' 0 (ys.length - 1), ys.take (ys.length - 1))
        · exact (Sub.cons rfl (Sub.nil _))
        · refine ⟨rfl, ?_, by simp only [List.length_take]; omega, by simp only []; rw [nrm_take hp hz, i3], fun B e o => (i4 B e o).front (by omega)⟩
          have := i1.cut (lo := 0) (hi := ys.length - 1) (by omega) (by omega)
          simpa using this
        · simp only [List.length_take]; omega
      · refine runM ?_
        have hn : nrm ys = ys := nrm_last ys hz
        rw [← i3, hn]
        exact fin1 rfl rfl ⟨rfl, i1, i4⟩
    · refine runM ?_
      have he : ys = [] := List.eq_nil_of_length_eq_zero (by omega)
      subst he
      rw [← i3]
      exact fin1 rfl rfl ⟨rfl, i1, i4⟩

theorem list_eq_getD {xs ys : List Nat} (hl : xs.length = ys.length) (he : ∀ j, j < xs.length → xs.getD j 0 = ys.getD j 0) : xs = ys := by
  apply List.ext_getElem hl
  intro j h1 h2
  simpa [h1, h2] using he j h1

theorem Tryd_ent17 : Ent Tryd.prog 17 := ent_of Tryd.func17 (by kernel_rfl) rfl
theorem same_spec (va vb : Value) (xs ys : List Nat) (h : Hp) (ha : SlF h U va xs) (hb : SlF h U vb ys) (hl : xs.length < 4611686018427387904) :
    CallsH Tryd.prog 17 [va, vb] h fun v' h' => v' = .bool (decide (xs = ys)) ∧ h = h' := by
  (apply enter Tryd.func17 rfl Tryd.ntmps17 rfl)
  refine runM ?_
  (apply w_condD; exact rfl; exact rfl) <;> intro hne
  · refine runM ?_
    exact fin1 rfl rfl ⟨by rw [decide_eq_false]; intro e; exact hne (by rw [e]), rfl⟩
  · refine runM ?_
    (first | (apply w_seqB; exact rfl; apply w_block; exact rfl) | skip)
    apply (w_loop (σ := Nat) rfl (fun i => [(0, va), (1, vb), (12, N xs.length), (13, N i)])
      (fun i h' => h = h' ∧ i ≤ xs.length ∧ ∀ j, j < i → xs.getD j 0 = ys.getD j 0) (fun i => xs.length - i) 0)
    · exact (Sub.cons rfl (Sub.cons rfl (Sub.cons rfl (Sub.cons rfl (Sub.nil _)))))
    · exact ⟨rfl, Nat.zero_le _, fun j hj => by cases hj⟩
    · rintro i h' ⟨rfl, i1, i2⟩
      refine runM ?_
      (apply w_condD; exact rfl; exact rfl) <;> intro hi
      · refine runM ?_
        (apply w_condD; exact rfl; exact rfl) <;> intro hd
        · refine runM ?_
          exact fin1 rfl rfl ⟨by rw [decide_eq_false]; intro e; exact hd (by rw [e]), rfl⟩
        · refine runM ?_
          apply again_normal (i + 1)
          · exact (Sub.cons rfl (Sub.cons rfl (Sub.cons rfl (Sub.cons rfl (Sub.nil _)))))
          · exact ⟨rfl, hi, fun j hj => by
              rcases Nat.lt_succ_iff_lt_or_eq.1 hj with hj | rfl
              · exact i2 j hj
              · omega⟩
          · omega
      · refine runM ?_
        exact fin1 rfl rfl ⟨by rw [decide_eq_true]; exact list_eq_getD (by omega) fun j hj => i2 j (by omega), rfl⟩

end Go.Proofs.YtajgcmgkhmkmbaaDoor

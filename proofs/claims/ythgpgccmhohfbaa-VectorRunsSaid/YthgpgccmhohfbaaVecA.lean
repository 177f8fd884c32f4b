/- Vector programs: places. No condition. -/
import Derived.Test.YthgpgccmhohfbaaDenI
namespace Go.Proofs.Ythgpgccmhohfbaa
set_option linter.unusedVariables false
open Go Go.Den Go.RowKit

/-- Are they places, each once? -/
def placesP (l : List Int) (s : Int) : Prop := (∀ x ∈ l, 0 ≤ x ∧ x < s) ∧ l.Nodup
instance (l : List Int) (s : Int) : Decidable (placesP l s) := by unfold placesP; exact inferInstance

theorem take_snoc {α : Type} {l : List α} {j : Nat} {x : α} (h : l[j]? = some x) : l.take (j + 1) = l.take j ++ [x] := by
  rw [List.take_add_one, h]; rfl
theorem get_lt {α : Type} {l : List α} {j : Nat} (h : j < l.length) : ∃ x, l[j]? = some x := ⟨l[j], by simp [h]⟩
theorem nodup_snoc {l : List Int} {x : Int} (h : l.Nodup) (hx : x ∉ l) : (l ++ [x]).Nodup := by
  rw [List.nodup_append]
  refine ⟨h, by simp, fun a ha b hb => ?_⟩
  simp only [List.mem_singleton] at hb
  subst hb
  intro e; subst e; exact hx ha
theorem not_nodup_at {l : List Int} {j : Nat} {x : Int} (h : l[j]? = some x) (hx : x ∈ l.take j) : ¬ l.Nodup := fun hn => by
  have h1 := hn.sublist (List.take_sublist (j + 1) l)
  rw [take_snoc h, List.nodup_append] at h1
  exact h1.2.2 x hx x (by simp) rfl

theorem Try_ent21 : Ent Try.prog 21 := ent_of Try.func21 (by kernel_rfl) rfl
theorem places_spec (v : Value) (l : List Int) (s : Int) (h : Hp) (k : SlF h I v l) (hl : l.length < 4611686018427387904) :
    CallsH Try.prog 21 [v, I s] h fun v' h' => v' = .bool (decide (placesP l s)) ∧ Ext h h' := by
  (apply enter Try.func21 rfl Try.ntmps21 rfl)
  refine runJ ?_
  apply s_makeMapI rfl rfl
  intro m h1 m1 e1 b1
  refine ⟨trivial, ?_⟩
  refine runJ ?_
  (first | (apply w_seqB; exact rfl; apply w_block; exact rfl) | skip)
  apply (w_loop (σ := Nat) rfl (fun j => [(1, I s), (5, m), (9, v), (10, N l.length), (11, N j)])
    (fun j h' => Ext h h' ∧ MapI h' m (l.take j) ∧ j ≤ l.length ∧ placesP (l.take j) s) (fun j => l.length - j) 0)
  · exact (Sub.cons rfl (Sub.cons rfl (Sub.cons rfl (Sub.cons rfl (Sub.cons rfl (Sub.nil _))))))
  · exact ⟨e1, by simpa using m1, Nat.zero_le _, by simp [placesP]⟩
  · rintro j h2 ⟨i1, i2, i3, i4⟩
    have k2 := k.ext i1
    refine runJ ?_
    (apply w_condD; exact rfl; exact rfl) <;> intro hj
    · obtain ⟨x, hx⟩ := get_lt hj
      have hmem : x ∈ l := List.mem_of_getElem? hx
      refine runJ ?_
      (apply s_splitG; exact rfl; exact rfl; exact rfl; exact rfl) <;> intro h0
      · refine runJ ?_
        refine fin1 rfl rfl ⟨?_, i1⟩
        rw [decide_eq_false]
        intro hp; have := hp.1 x hmem; omega
      · refine runJ ?_
        (apply s_splitG; exact rfl; exact rfl; exact rfl; exact rfl) <;> intro h0'
        · refine runJ ?_
          refine fin1 rfl rfl ⟨?_, i1⟩
          rw [decide_eq_false]
          intro hp; have := hp.1 x hmem; omega
        · refine runJ ?_
          apply s_lookupI (ks := l.take j) rfl rfl rfl rfl rfl (rd_mapP i2) rfl
          refine runJ ?_
          (apply w_condD; exact rfl; exact rfl) <;> intro hin
          · refine runJ ?_
            refine fin1 rfl rfl ⟨?_, i1⟩
            rw [decide_eq_false]
            intro hp; exact not_nodup_at hx hin hp.2
          · refine runJ ?_
            apply s_mapUpdI (ks := l.take j) rfl rfl rfl rfl rfl rfl i2 hin
            intro h3 m3 k3
            refine ⟨trivial, ?_⟩
            have e3 : Ext h h3 := k3.old i1 (fun r hr => by rw [b1] at hr; cases hr; exact Nat.le_refl _)
            refine runJ ?_
            apply again_normal (j + 1)
            · exact (Sub.cons rfl (Sub.cons rfl (Sub.cons rfl (Sub.cons rfl (Sub.cons rfl (Sub.nil _))))))
            · refine ⟨e3, ?_, hj, ?_, ?_⟩
              · rw [take_snoc hx]; exact m3
              · rw [take_snoc hx]
                intro y hy
                rcases List.mem_append.1 hy with hy | hy
                · exact i4.1 y hy
                · simp only [List.mem_singleton] at hy; subst hy; omega
              · rw [take_snoc hx]; exact nodup_snoc i4.2 hin
            · omega
    · refine runJ ?_
      refine fin1 rfl rfl ⟨?_, i1⟩
      rw [decide_eq_true]
      rwa [List.take_of_length_le (by omega)] at i4
end Go.Proofs.Ythgpgccmhohfbaa

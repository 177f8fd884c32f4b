/- Own calculus, part K: literals of structs. No condition. -/
import Derived.Test.YtajgcmgkhmkmbaaDoorDenJ
import Derived.Great.BuildSlice
namespace Go.Den
set_option linter.unusedVariables false
set_option maxRecDepth 8000
open Go Go.RowKit

def fillP (place : Nat → Option (Nat × Nat)) : List Value → List (Nat × List Value) → Option (List Value)
  | cells, [] => some cells
  | cells, (i, us) :: rest => match place i with
    | none => none
    | some (off, size) => bif Nat.beq us.length size && Nat.ble (off + us.length) cells.length then fillP place (cells.take off ++ us ++ cells.drop (off + us.length)) rest else none

theorem fill_fillP {place : Nat → Option (Nat × Nat)} : ∀ (parts : List (Nat × Value)) (cells cs : List Value), fillP place cells (parts.map fun x => (x.1, x.2.cells.toList)) = some cs → Instr.fill place cells.toArray parts = some cs.toArray
  | [], cells, cs, e => by simp [fillP] at e; simp [Instr.fill, e]
  | (i, v) :: rest, cells, cs, e => by
    simp only [List.map_cons, fillP] at e
    simp only [Instr.fill]
    cases ho : place i with
    | none => rw [ho] at e; cases e
    | some p =>
      obtain ⟨off, size⟩ := p
      rw [ho] at e
      simp only at e
      cases hb : (Nat.beq v.cells.toList.length size && Nat.ble (off + v.cells.toList.length) cells.length) with
      | false => rw [hb] at e; cases e
      | true =>
        rw [hb] at e
        simp only [cond_true] at e
        simp only [Bool.and_eq_true] at hb
        have h1 := Nat.eq_of_beq_eq_true hb.1
        have h2 := Nat.le_of_ble_eq_true hb.2
        simp only [Array.length_toList] at h1 h2
        have h3 : ¬ (v.cells.size ≠ size ∨ off + v.cells.size > cells.toArray.size) := by simp [h1] at h2 ⊢; omega
        simp only [decide_eq_true_eq, Bool.or_eq_true, h3, if_false]
        have hf := fold_set v.cells.toList off 0 cells (by simpa using h2)
        simp only [Nat.add_zero, Array.length_toList] at hf
        have hz : v.cells.zipIdx = (v.cells.toList.zipIdx 0).toArray := by apply Array.ext'; simp
        have hfold : Array.foldl (fun cs x => cs.setIfInBounds (off + x.snd) x.fst) cells.toArray v.cells.zipIdx = (cells.take off ++ v.cells.toList ++ cells.drop (off + v.cells.size)).toArray := by
          apply Array.ext'
          rw [hz, List.foldl_toArray]
          exact hf
        rw [hfold]
        exact fill_fillP rest _ _ (by simpa using e)

section rules
variable {P : Program} {n : Nat} {Q : Post} {l : Fr} {h : Hp} {ops : List Oper} {Ch : Hp → Prop} {E : Nat → Bool} {i : Nat}
variable {d : Nat} {t : TypeId} {x y z : Operand}

/-- []T{..}, T of s cells. -/
theorem s_litC {ln s : Nat} {parts : Array (Nat × Operand)} {vs : List Value} {css : List (List Value)} {e : TypeId} {zc : List Value} (cs : List Value) (he : evs l (parts.toList.map (·.2)) = some vs) (hc : CellsAll vs css)
    (ht : P.underlying t = some (.slice e)) (hi : (P.info? e).map (fun i => (i.size, i.zero.map fun z => z.cells.toList)) = some (s, some zc)) (hs : Nat.beq zc.length s = true) (hs0 : Nat.blt 0 s = true) (h0 : Nat.blt 0 ln = true) (hln : Nat.ble (ln * s) 16777216 = true)
    (hf : fillP (fun i => some (i * s, s)) ((List.range (ln * s)).map fun j => zc.getD (j % s) undef) ((parts.toList.map (·.1)).zip css) = some cs) (hcl : Nat.beq cs.length (ln * s) = true) (hE : E i = true) (hb : Nat.blt d n = true)
    (k : ∀ v h', Own h' h.size e s v ln cs → Ext h h' → v.ownBlock = some h.size → Ch h' ∧ S P n ops Ch E Q (i + 1) ((d, v) :: l) h') : O P n ops Ch E Q i d (.buildSlice t ln parts) l h :=
  O.mk fun hop hg => s_eff hop hE hg fun a w hfit hw => by
    subst hw
    have hs := Nat.eq_of_beq_eq_true hs
    have hcl := Nat.eq_of_beq_eq_true hcl
    have hs0 : 0 < s := Nat.le_of_ble_eq_true hs0
    have h0 : 0 < ln := Nat.le_of_ble_eq_true h0
    have hln := Nat.le_of_ble_eq_true hln
    cases hq : P.info? e with
    | none => rw [hq] at hi; cases hi
    | some inf =>
      rw [hq] at hi
      simp only [Option.map_some, Option.some.injEq, Prod.mk.injEq] at hi
      obtain ⟨i1, i3⟩ := hi
      cases hz : inf.zero with
      | none => rw [hz] at i3; cases i3
      | some z =>
        rw [hz] at i3
        simp only [Option.map_some, Option.some.injEq] at i3
        have hzs : z.cells.size = s := by rw [← hs, ← i3]; simp
        have hpa : (parts.map fun (i, x) => (i, a.eval x)).toList = (parts.toList.map (·.1)).zip vs := by
          rw [← hfit.evs he, Array.toList_map, List.map_map, List.zip_map']; rfl
        have hzip : ((parts.toList.map (·.1)).zip vs).map (fun x => (x.1, x.2.cells.toList)) = (parts.toList.map (·.1)).zip css := by
          rw [← hc.eq, List.zip_map_right]; rfl
        have hmade : ((Array.range (ln * inf.size)).map (z.cells[· % z.cells.size]!)) = ((List.range (ln * s)).map fun j => zc.getD (j % s) undef).toArray := by
          apply Array.ext'
          rw [i1]
          simp only [Array.toList_map, Array.toList_range]
          apply List.map_congr_left
          intro j hj
          have hj1 : j % s < s := Nat.mod_lt _ hs0
          rw [hzs, getElem!_pos z.cells (j % s) (by omega), ← i3, List.getD_eq_getElem?_getD, List.getElem?_eq_getElem (by simp; omega)]
          simp
        have hr := Go.run_buildSlice (P := P) w t e ln (parts.map fun (i, x) => (i, a.eval x)) cs.toArray inf z ht hq hz (by rw [i1]; omega) (by rw [i1]; exact Nat.ne_of_gt (Nat.mul_pos h0 hs0)) (by
          rw [hmade, i1, hpa]
          exact fill_fillP _ _ _ (by rw [hzip]; exact hf))
        have ho : Own (w.alloc (.cells cs.toArray e)).heap w.heap.size e s (.slice (some ⟨w.heap.size, 0, none⟩) ln ln) ln cs :=
          ⟨hcl, .inr ⟨w.heap.size, ln, _, rfl, Nat.le_refl _, heap_alloc_new w _, Nat.le_refl _, by
            have : ln ≤ ln * s := Nat.le_mul_of_pos_right _ hs0
            simp [maxLen]; omega, by simp [hcl], by rw [← hcl]; simp⟩⟩
        have := k _ _ ho (Ext.push _ _) rfl
        unfold Eff
        simp only [execOp, Sem.run_bind, hr]
        exact ⟨⟨rfl, rfl, rfl⟩, this.1, _, hfit.put d _ hb, this.2⟩
end rules
end Go.Den

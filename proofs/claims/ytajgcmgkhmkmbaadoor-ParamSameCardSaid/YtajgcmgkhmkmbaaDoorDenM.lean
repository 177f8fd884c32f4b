/- Own calculus, part M: arrays of ints, built and compared. No condition. -/
import Derived.Test.YtajgcmgkhmkmbaaDoorDenL
import Derived.ChangeKeysEq
import Derived.Laws.StructEq
namespace Go.Den
set_option linter.unusedVariables false
set_option maxRecDepth 8000
open Go Go.RowKit

theorem run_part {P : Program} {e : TypeId} {cs : List Value} {off : Nat} {u : Value} {w : World} (ht : plainTy P e = true) (hj : cs[off]? = some u) : (part e cs.toArray off).run P w = .ok u w := by
  simp [part, run_isAgg_plain ht, hj]
theorem eqItems_ints {P : Program} {w : World} {e : TypeId} {xs ys : List Int} (d : Nat) (he : P.underlying e = some (.int .i64)) (hp : plainTy P e = true) (hl : xs.length = ys.length) : ∀ (k j : Nat), j + k = xs.length →
    (Op.eqItems (d + 1) e 1 (xs.map I).toArray (ys.map I).toArray (List.range' j k)).run P w = .ok (decide (xs.drop j = ys.drop j)) w
  | 0, j, h => by
    rw [List.drop_of_length_le (by omega), List.drop_of_length_le (by omega)]
    simp [Op.eqItems]
  | k + 1, j, h => by
    have hx : xs[j]? = some xs[j] := List.getElem?_eq_getElem (by omega)
    have hy : ys[j]? = some ys[j] := List.getElem?_eq_getElem (by omega)
    have p1 := run_part (P := P) (w := w) hp (show (xs.map I)[j]? = some (I xs[j]) by rw [List.getElem?_map, hx]; rfl)
    have p2 := run_part (P := P) (w := w) hp (show (ys.map I)[j]? = some (I ys[j]) by rw [List.getElem?_map, hy]; rfl)
    have p3 := run_equalIn_int (P := P) w d e .i64 .i64 xs[j] ys[j] he
    have ih := eqItems_ints (w := w) d he hp hl k (j + 1) (by omega)
    rw [List.range'_succ]
    simp only [Op.eqItems, Sem.run_bind, Nat.mul_one, p1, p2, p3, Result.andThen_ok]
    rw [show xs.drop j = xs[j] :: xs.drop (j + 1) from List.drop_eq_getElem_cons (by omega), show ys.drop j = ys[j] :: ys.drop (j + 1) from List.drop_eq_getElem_cons (by omega)]
    by_cases hq : xs[j] = ys[j]
    · rw [hq]
      simp only [beq_self_eq_true, Bool.not_true, Bool.false_eq_true, if_false, ih]
      simp [-List.getElem_cons_drop]
    · have : (xs[j] == ys[j]) = false := by simpa using hq
      have hne : ¬ (xs[j] :: xs.drop (j + 1) = ys[j] :: ys.drop (j + 1)) := fun e => hq (List.cons.inj e).1
      rw [this, decide_eq_false hne]
      simp

section rules
variable {P : Program} {n : Nat} {Q : Post} {l : Fr} {h : Hp} {ops : List Oper} {Ch : Hp → Prop} {E : Nat → Bool} {i : Nat}
variable {d : Nat} {t : TypeId} {x y z : Operand}
/-- Two arrays of ints. -/
theorem s_eqArr {yt e : TypeId} {m : Nat} (xs ys : List Int) (hx : ev l x = some (.agg (xs.map I).toArray)) (hy : ev l y = some (.agg (ys.map I).toArray)) (ht : P.underlying t = some (.array m e)) (he : P.underlying e = some (.int .i64)) (hs : (P.info? e).map (·.size) = some 1) (hp : plainTy P e = true) (hm : P.eqGuardType P.depth t = false) (hlx : xs.length = m) (hly : ys.length = m) (hb : Nat.blt d n = true)
    (k : S P n ops Ch E Q (i + 1) ((d, .bool (decide (xs = ys))) :: l) h) : O P n ops Ch E Q i d (.binOp .eql t x y yt) l h :=
  s_bin hx hy hb (fun w' => by
    cases hi : P.info? e with
    | none => rw [hi] at hs; cases hs
    | some inf =>
      rw [hi] at hs
      simp only [Option.map_some, Option.some.injEq] at hs
      have hc : P.cellsOf e = 1 := by unfold Program.cellsOf; rw [hi]; exact hs
      have h1 := eqItems_ints (P := P) (w := w') 9998 he hp (by rw [hlx, hly]) m 0 (by omega) (xs := xs) (ys := ys)
      rw [Sem.run_bind, run_eqGuard_agg (P := P) w' .eql t x y _ _ hm, Result.andThen_ok, run_eql_struct (P := P) w' t, run_equalIn_array (P := P) w' 9999 _ _ ht hi, hc, List.range_eq_range', h1]
      simp) k
theorem s_buildArr {m s : Nat} {e : TypeId} {parts : Array (Nat × Operand)} {vs : List Value} {css : List (List Value)} (cs : List Value) (he : evs l (parts.toList.map (·.2)) = some vs) (ht : P.underlying t = some (.array m e)) (hs : (P.info? e).map (·.size) = some s) {zs : List Value} (hi : (P.info? t).bind (fun i => i.zero.map fun z => z.cells.toList) = some zs)
    (hc : CellsAll vs css) (hcs : fillP (fun i => some (i * s, s)) zs ((parts.toList.map (·.1)).zip css) = some cs) (hb : Nat.blt d n = true)
    (k : S P n ops Ch E Q (i + 1) ((d, .agg cs.toArray) :: l) h) : O P n ops Ch E Q i d (.build t parts) l h :=
  s_pure hb (fun a w' hf => by
    cases hq : P.info? t with
    | none => rw [hq] at hi; cases hi
    | some inf =>
      rw [hq] at hi
      simp only [Option.bind_some] at hi
      cases hz : inf.zero with
      | none => rw [hz] at hi; cases hi
      | some z =>
        rw [hz] at hi
        simp only [Option.map_some, Option.some.injEq] at hi
        cases hq2 : P.info? e with
        | none => rw [hq2] at hs; cases hs
        | some inf2 =>
          rw [hq2] at hs
          simp only [Option.map_some, Option.some.injEq] at hs
          have hpa : (parts.map fun (i, x) => (i, a.eval x)) = ((parts.toList.map (·.1)).zip vs).toArray := by
            apply Array.ext'
            rw [← hf.evs he, Array.toList_map, List.map_map, List.zip_map']; rfl
          have hzip : ((parts.toList.map (·.1)).zip vs).map (fun x => (x.1, x.2.cells.toList)) = (parts.toList.map (·.1)).zip css := by
            rw [← hc.eq, List.zip_map_right]
            first | done | rfl
          have hfl := fill_fillP (place := fun i => some (i * s, s)) ((parts.toList.map (·.1)).zip vs) zs cs (hzip ▸ hcs)
          have e1 : z.cells = zs.toArray := by rw [← hi]
          have hr : (Instr.build t ((parts.toList.map (·.1)).zip vs).toArray).run P w' = .ok (.agg cs.toArray) w' := by
            simp [Instr.build, zeroValue, typeInfo, hq, hz, run_underlying ht, sizeOf, hq2, hs, e1, hfl]
          simp only [execOp, hpa, Sem.run_bind, hr]; rfl) k
end rules
end Go.Den

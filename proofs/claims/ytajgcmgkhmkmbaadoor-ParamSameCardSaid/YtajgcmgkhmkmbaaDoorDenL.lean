/- Own calculus, part L: arrays in variables. No condition. -/
import Derived.Test.YtajgcmgkhmkmbaaDoorDenK
namespace Go.Den
set_option linter.unusedVariables false
set_option maxRecDepth 8000
open Go Go.RowKit
theorem look_know {l : Fr} {t : Nat} {v : Value} (e : look l t = some v) (j : Nat) : look ((t, v) :: l) j = look l j := by
  simp only [look]
  cases hj : Nat.beq j t with
  | true => have := Nat.eq_of_beq_eq_true hj; subst this; exact e.symm
  | false => rfl
section rules
variable {P : Program} {n : Nat} {Q : Post} {l : Fr} {h : Hp} {ops : List Oper} {Ch : Hp → Prop} {E : Nat → Bool} {i : Nat}
variable {d : Nat} {t : TypeId} {x y z : Operand}
theorem o_know {op : Op} {t : Nat} {v u : Value} (e : look l t = some v) (hu : v = u) (k : O P n ops Ch E Q i d op ((t, u) :: l) h) : O P n ops Ch E Q i d op l h := by
  subst hu
  refine O.mk fun ho hg => s_know e rfl (k.get ho ?_)
  unfold gd at hg ⊢
  split at hg
  · rfl
  · simp only [look_know e]
    exact hg
theorem s_indexArr {p : Value} {j m : Nat} {e : TypeId} {yk : IntKind} (hx : ev l x = some p) (hp : isPtr p = true) (hy : IsK (ev l y) yk j) (ht : P.underlying t = some (.array m e)) (hz : (P.info? e).map (·.size) = some 1) (hb : Nat.blt d n = true) (hj : j < m)
    (k : S P n ops Ch E Q (i + 1) ((d, ptrOff p j) :: l) h) : O P n ops Ch E Q i d (.indexAddr t x y) l h :=
  s_pure hb (fun a w' hf => by
    cases p <;> try cases hp
    rename_i ad
    cases ad with
    | none => cases hp
    | some ad =>
      cases hi : P.info? e with
      | none => rw [hi] at hz; cases hz
      | some inf =>
        rw [hi] at hz
        simp only [Option.map_some, Option.some.injEq] at hz
        have hj' : (j : Int) < m := by omega
        simp [execOp, hf.ev hx, hf.ev hy.h, Instr.indexAt, run_underlying ht, asIntOf, Instr.sureAddr, sizeOf, typeInfo, hi, hz, hj, ptrOff]) k
end rules
end Go.Den

/- Texts OpenT to OpenT of this work, joined: each says in its own head what it proves, and of which condition. -/
import Derived.Test.YtfcmdefigldpnaaDoorMPk28
import Derived.Test.YtfcmdefigldpnaaDoorRows
import Derived.LaidMore
import Derived.LaidLaws
import Derived.MakeChecks
/- What the listed table reads as when the call begins. No condition. -/
namespace Go.Proofs.YtfcmdefigldpnaaDoor
set_option linter.unusedVariables false
set_option maxRecDepth 8000
open Go Go.Den Go.RowKit Go.ChangeShapes Go.WideShapes

def laidL : List (String × DataW Unit) := [("math/bits.deBruijn64tab", Rows.laid_math_bits_deBruijn64tab)]
theorem laid_eq : (Rows.laid_math_bits_deBruijn64tab : DataW Unit) = .agg (tzT.map fun b => .lit (.int .u8 ((b : Nat) : Int))) := rfl
theorem gTab : Tryd.prog.globalNamed "math/bits.deBruijn64tab" = some 2 := by kernel_rfl
theorem tTab : (Tryd.prog.globals[2]?).map (·.type) = some 152 := by kernel_rfl
theorem tb_of_laid {W : World} (h : laidMetH Tryd.prog laidL W) : TB W.heap := by
  rw [MakeChecks.laidMetH_plain _ _ _ (by kernel_rfl)] at h
  obtain ⟨ps, ⟨g0, t0, cs0, f0, p0, q0, hg0, ht0, hv0, hd0, hrest⟩, hrest2⟩ := h
  obtain rfl := Option.some.inj (gTab.symm.trans hg0)
  obtain rfl := Option.some.inj (tTab.symm.trans ht0)
  rw [laid_eq] at hd0
  obtain ⟨xs, m1, -, hx1, hlen, hn, hel⟩ := DataW.trod_array Tryd.underlying152 hd0
  have c5 : Tryd.prog.cellsOf 5 = 1 := by kernel_rfl
  simp only [Prod.mk.injEq, DataW.agg.injEq] at hx1
  have key : ∀ j, j < 64 → cs0.toList[j]? = some (.int .u8 ((tzT.getD j 0 : Nat) : Int)) := fun j hj => by
    have hxj : xs[j]? = some xs[j] := List.getElem?_eq_getElem (by omega)
    have h1 := hel j hj
    rw [c5, Nat.mul_one, hxj] at h1
    obtain ⟨k, e1, e2, -⟩ := DataW.trod_int Tryd.underlying5 h1
    have h2 := congrArg (fun l => l[j]?) hx1.1
    simp only [List.getElem?_map, hxj, Option.map_some] at h2
    rw [List.getElem?_eq_getElem (show j < tzT.length from hj), Option.map_some, Option.some.injEq] at h2
    rw [e2] at h2
    simp only [DataW.lit.injEq, Lit.int.injEq, true_and] at h2
    have h3 : (List.drop j cs0.toList)[0]? = some (Value.int .u8 k) := by
      have : ((List.drop j cs0.toList).take 1)[0]? = some (Value.int .u8 k) := by rw [e1]; rfl
      rwa [List.getElem?_take, if_pos (by omega)] at this
    rw [List.getElem?_drop, Nat.add_zero] at h3
    rw [h3, List.getD_eq_getElem?_getD, List.getElem?_eq_getElem (show j < tzT.length from hj), Option.getD_some, h2]
  refine ⟨_, 0, rfl, fun j u hu => ?_⟩
  rw [List.getElem?_map, Option.map_eq_some_iff] at hu
  obtain ⟨b, hb, rfl⟩ := hu
  have hj : j < 64 := (List.getElem?_eq_some_iff.1 hb).1
  have h4 := World.var?_cell hg0 hv0 j
  rw [cell?_cellH] at h4
  rw [Nat.zero_add, h4]
  have h5 := key j hj
  rw [List.getD_eq_getElem?_getD, hb, Option.getD_some] at h5
  simpa using h5

/-- The heap that the program's own start leaves meets the condition. -/
theorem door_met (os : Os) (args : Array Value) : laidMetH Tryd.prog laidL ((World.doorLaid Tryd.prog 400 os).forCall (fun _ _ => 0) ⟨#[], args, []⟩).memory :=
  laidMetH_of_parts3 (fuel := 8) (laidMet_of_run' 8 (by kernel_rfl) (by kernel_rfl)) (by kernel_rfl) (by kernel_rfl)
end Go.Proofs.YtfcmdefigldpnaaDoor

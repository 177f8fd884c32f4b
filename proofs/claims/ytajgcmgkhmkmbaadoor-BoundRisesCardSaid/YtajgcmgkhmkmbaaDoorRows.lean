/-
  NARROWER THAN 'FOR EVERY INPUT', by the rows' own cells (each row's printed sentence says how): CrtGoes: laid · ParamSteps: laid · ParamRows: laid · ParamSame: laid · BoundRises: laid.
  DERIVED. THE GIVEN ROWS OF THIS SEAT. 5 by the template 'for every input the law returns true; each argument reads behind the call as it read before'; 0 by the template 'total and deterministic' (their statements: YtajgcmgkhmkmbaaDoorTotals.lean).
  GIVEN WITH THE SEED: the statements are not yours to turn. If you find one false, say at which input.
  Laid BY PROGRAM, IN A SANDBOX (cutbox-rows.mjs): the forced cells as the released guide's own fill.sh prints them over the translation 2fa9aef058b9ddea… (all of the seat's roots in one cut). By AI agents, Wed Nov 11 2026. No macro, syntax, notation, axiom, sorry.
-/
import Derived.Test.YtajgcmgkhmkmbaaDoorChecked
import GoSem.Claim
import GoSem.ClaimJoined
import GoSem.ClaimMapViews
import Derived.JoinedTies
import Derived.KernelRfl
namespace Go.Proofs.YtajgcmgkhmkmbaaDoor
/- THE CELL 'sum', in the pinned program and in every row, IS THE sha256 OF THE DUMP (.gsa) THAT YtajgcmgkhmkmbaaDoorProg.lean LOADS. Nothing in Lean hashes anything: it is a label: what it is worth is what the hold of that sum in a sandbox is worth. -/
noncomputable def Tryd.pinned : Pinned := { name := "ytajgcmgkhmkmbaadoor", sum := "2fa9aef058b9ddeacc96730c0d615da5e48503850c6624095f07a317c69215c2", checked := Tryd.checked }
namespace Rows
def none {H : Type} : Left H := { results := [], args := [] }

/- WHAT THE LISTED PACKAGE-LEVEL VARIABLES READ AS WHEN THE CALL BEGINS. Each datum BY PROGRAM (the guide's laid-datum.mjs) off the statement by which the dump's own 'gosem.cut.vars' lays the variable. In a bare row this is a premise. The card (YtajgcmgkhmkmbaaDoorCards.lean) ties it to the program's text. -/
def laid_math_bits_deBruijn64tab {H : Type} : DataW H := .agg [.lit (.int .u8 0), .lit (.int .u8 1), .lit (.int .u8 56), .lit (.int .u8 2), .lit (.int .u8 57), .lit (.int .u8 49), .lit (.int .u8 28), .lit (.int .u8 3), .lit (.int .u8 61), .lit (.int .u8 58), .lit (.int .u8 42), .lit (.int .u8 50), .lit (.int .u8 38), .lit (.int .u8 29), .lit (.int .u8 17), .lit (.int .u8 4), .lit (.int .u8 62), .lit (.int .u8 47), .lit (.int .u8 59), .lit (.int .u8 36), .lit (.int .u8 45), .lit (.int .u8 43), .lit (.int .u8 51), .lit (.int .u8 22), .lit (.int .u8 53), .lit (.int .u8 39), .lit (.int .u8 33), .lit (.int .u8 30), .lit (.int .u8 24), .lit (.int .u8 18), .lit (.int .u8 12), .lit (.int .u8 5), .lit (.int .u8 63), .lit (.int .u8 55), .lit (.int .u8 48), .lit (.int .u8 27), .lit (.int .u8 60), .lit (.int .u8 41), .lit (.int .u8 37), .lit (.int .u8 16), .lit (.int .u8 46), .lit (.int .u8 35), .lit (.int .u8 44), .lit (.int .u8 21), .lit (.int .u8 52), .lit (.int .u8 32), .lit (.int .u8 23), .lit (.int .u8 11), .lit (.int .u8 54), .lit (.int .u8 26), .lit (.int .u8 40), .lit (.int .u8 15), .lit (.int .u8 34), .lit (.int .u8 20), .lit (.int .u8 31), .lit (.int .u8 10), .lit (.int .u8 25), .lit (.int .u8 14), .lit (.int .u8 19), .lit (.int .u8 9), .lit (.int .u8 13), .lit (.int .u8 8), .lit (.int .u8 7), .lit (.int .u8 6)]

/-- 'arraslaw06.CrtGoes': WHATEVER THE INPUT: true; the input reads as it did. -/
def crtGoesSpec : ChangeSpec := { name := "crtGoes", fn := fun _ => fun
  | [d1, d2, d3] => { results := [.lit (.bool true)], args := [d1, d2, d3] }
  | _ => none }
def crtGoesRow : OpenClaim := { program := "ytajgcmgkhmkmbaadoor", sum := "2fa9aef058b9ddeacc96730c0d615da5e48503850c6624095f07a317c69215c2", func := "arras/arraslaw06.CrtGoes", spec := "crtGoes", inPlace := ["math/bits.Add64", "math/bits.Sub64"], unfollowed := true, recurses := true, named := ["math/bits.deBruijn64tab", "math/bits.divideError", "math/bits.overflowError"], apart := false, laid := [("math/bits.deBruijn64tab", laid_math_bits_deBruijn64tab)] }
def CrtGoesSaid : Prop := crtGoesRow.holds Tryd.pinned (OpenSpec.ofChange crtGoesSpec)

/-- ITS FALSE NEIGHBOUR: 'it returns false'. Refute it at one input. -/
def crtGoesWrong : ChangeSpec := { name := "crtGoes", fn := fun _ => fun
  | [d1, d2, d3] => { results := [.lit (.bool false)], args := [d1, d2, d3] }
  | _ => none }
def CrtGoesWrongFalsely : Prop := crtGoesRow.holds Tryd.pinned (OpenSpec.ofChange crtGoesWrong)

/-- 'arraslaw08.ParamSteps': WHATEVER THE INPUT: true; the input reads as it did. -/
def paramStepsSpec : ChangeSpec := { name := "paramSteps", fn := fun _ => fun
  | [d1, d2] => { results := [.lit (.bool true)], args := [d1, d2] }
  | _ => none }
def paramStepsRow : OpenClaim := { program := "ytajgcmgkhmkmbaadoor", sum := "2fa9aef058b9ddeacc96730c0d615da5e48503850c6624095f07a317c69215c2", func := "arras/arraslaw08.ParamSteps", spec := "paramSteps", inPlace := ["math/bits.Add64", "math/bits.Sub64"], unfollowed := true, recurses := true, named := ["math/bits.deBruijn64tab", "math/bits.divideError", "math/bits.overflowError"], apart := false, laid := [("math/bits.deBruijn64tab", laid_math_bits_deBruijn64tab)] }
def ParamStepsSaid : Prop := paramStepsRow.holds Tryd.pinned (OpenSpec.ofChange paramStepsSpec)

/-- ITS FALSE NEIGHBOUR: 'it returns false'. Refute it at one input. -/
def paramStepsWrong : ChangeSpec := { name := "paramSteps", fn := fun _ => fun
  | [d1, d2] => { results := [.lit (.bool false)], args := [d1, d2] }
  | _ => none }
def ParamStepsWrongFalsely : Prop := paramStepsRow.holds Tryd.pinned (OpenSpec.ofChange paramStepsWrong)

/-- 'arraslaw08.ParamRows': WHATEVER THE INPUT: true; the input reads as it did. -/
def paramRowsSpec : ChangeSpec := { name := "paramRows", fn := fun _ => fun
  | [d] => { results := [.lit (.bool true)], args := [d] }
  | _ => none }
def paramRowsRow : OpenClaim := { program := "ytajgcmgkhmkmbaadoor", sum := "2fa9aef058b9ddeacc96730c0d615da5e48503850c6624095f07a317c69215c2", func := "arras/arraslaw08.ParamRows", spec := "paramRows", inPlace := ["math/bits.Add64", "math/bits.Sub64"], unfollowed := true, recurses := true, named := ["math/bits.deBruijn64tab", "math/bits.divideError", "math/bits.overflowError"], apart := false, laid := [("math/bits.deBruijn64tab", laid_math_bits_deBruijn64tab)] }
def ParamRowsSaid : Prop := paramRowsRow.holds Tryd.pinned (OpenSpec.ofChange paramRowsSpec)

/-- ITS FALSE NEIGHBOUR: 'it returns false'. Refute it at one input. -/
def paramRowsWrong : ChangeSpec := { name := "paramRows", fn := fun _ => fun
  | [d] => { results := [.lit (.bool false)], args := [d] }
  | _ => none }
def ParamRowsWrongFalsely : Prop := paramRowsRow.holds Tryd.pinned (OpenSpec.ofChange paramRowsWrong)

/-- 'arraslaw08.ParamSame': WHATEVER THE INPUT: true; the input reads as it did. -/
def paramSameSpec : ChangeSpec := { name := "paramSame", fn := fun _ => fun
  | [d1, d2] => { results := [.lit (.bool true)], args := [d1, d2] }
  | _ => none }
def paramSameRow : OpenClaim := { program := "ytajgcmgkhmkmbaadoor", sum := "2fa9aef058b9ddeacc96730c0d615da5e48503850c6624095f07a317c69215c2", func := "arras/arraslaw08.ParamSame", spec := "paramSame", inPlace := ["math/bits.Add64", "math/bits.Sub64"], unfollowed := true, recurses := true, named := ["math/bits.deBruijn64tab", "math/bits.divideError", "math/bits.overflowError"], apart := false, laid := [("math/bits.deBruijn64tab", laid_math_bits_deBruijn64tab)] }
def ParamSameSaid : Prop := paramSameRow.holds Tryd.pinned (OpenSpec.ofChange paramSameSpec)

/-- ITS FALSE NEIGHBOUR: 'it returns false'. Refute it at one input. -/
def paramSameWrong : ChangeSpec := { name := "paramSame", fn := fun _ => fun
  | [d1, d2] => { results := [.lit (.bool false)], args := [d1, d2] }
  | _ => none }
def ParamSameWrongFalsely : Prop := paramSameRow.holds Tryd.pinned (OpenSpec.ofChange paramSameWrong)

/-- 'arraslaw14.BoundRises': WHATEVER THE INPUT: true; the input reads as it did. -/
def boundRisesSpec : ChangeSpec := { name := "boundRises", fn := fun _ => fun
  | [d1, d2, d3, d4, d5] => { results := [.lit (.bool true)], args := [d1, d2, d3, d4, d5] }
  | _ => none }
def boundRisesRow : OpenClaim := { program := "ytajgcmgkhmkmbaadoor", sum := "2fa9aef058b9ddeacc96730c0d615da5e48503850c6624095f07a317c69215c2", func := "arras/arraslaw14.BoundRises", spec := "boundRises", inPlace := ["math/bits.Add64", "math/bits.Sub64"], unfollowed := true, recurses := true, named := ["math/bits.deBruijn64tab", "math/bits.divideError", "math/bits.overflowError"], apart := false, laid := [("math/bits.deBruijn64tab", laid_math_bits_deBruijn64tab)] }
def BoundRisesSaid : Prop := boundRisesRow.holds Tryd.pinned (OpenSpec.ofChange boundRisesSpec)

/-- ITS FALSE NEIGHBOUR: 'it returns false'. Refute it at one input. -/
def boundRisesWrong : ChangeSpec := { name := "boundRises", fn := fun _ => fun
  | [d1, d2, d3, d4, d5] => { results := [.lit (.bool false)], args := [d1, d2, d3, d4, d5] }
  | _ => none }
def BoundRisesWrongFalsely : Prop := boundRisesRow.holds Tryd.pinned (OpenSpec.ofChange boundRisesWrong)

/- THE SECOND FORM. 'bulk': how many values and letters a reading holds, each counted each time it is reached (what is shared counts as often as it is met; a slice's spare places count too). A statement '..UptoSaid' is the law's where the arguments, and the package variables that the reading takes, are together of bulk at most 1048576: NARROWER than '..Said'. Prove '..Said' where nothing that the law and all that it calls make is longer than what came in: it says more and counts as full. Else prove '..UptoSaid'. A law counts once. -/
mutual
def uptoBulk {H : Type} : DataW H → Nat
  | .lit (.string bytes) => bytes.length + 1
  | .lit _ => 1
  | .nil => 1
  | .ptr d => uptoBulk d + 1
  | .slice elems spare => uptoBulkAll elems + uptoBulkAll spare + 1
  | .agg parts => uptoBulkAll parts + 1
  | .iface _ d => uptoBulk d + 1
  | .map entries => uptoBulkEntries entries + 1
  | .held _ => 1
def uptoBulkAll {H : Type} : List (DataW H) → Nat
  | [] => 0
  | d :: r => uptoBulk d + uptoBulkAll r
def uptoBulkEntries {H : Type} : List (Lit × DataW H) → Nat
  | [] => 0
  | x :: r => uptoBulkEntry x + uptoBulkEntries r
def uptoBulkEntry {H : Type} : Lit × DataW H → Nat
  | (.string bytes, d) => bytes.length + uptoBulk d + 1
  | (_, d) => uptoBulk d + 1
 end
def uptoSmall : (H : Type) → List (DataW H) → Bool := fun _ ds => decide (uptoBulkAll ds ≤ 1048576)
def OpenSpec.upto (s : _root_.Go.ChangeSpec) : _root_.Go.OpenSpec := { _root_.Go.OpenSpec.ofChange s with cond := some uptoSmall }

/-- 'arraslaw06.CrtGoes', WHERE WHAT IT READS IS OF BULK AT MOST 1048576: true; the input reads as it did. -/
def crtGoesUptoRow : OpenClaim := { program := "ytajgcmgkhmkmbaadoor", sum := "2fa9aef058b9ddeacc96730c0d615da5e48503850c6624095f07a317c69215c2", func := "arras/arraslaw06.CrtGoes", spec := "crtGoes", inPlace := ["math/bits.Add64", "math/bits.Sub64"], unfollowed := true, recurses := true, named := ["math/bits.deBruijn64tab", "math/bits.divideError", "math/bits.overflowError"], apart := false, laid := [("math/bits.deBruijn64tab", laid_math_bits_deBruijn64tab)], narrowed := true }
def CrtGoesUptoSaid : Prop := crtGoesUptoRow.holds Tryd.pinned (OpenSpec.upto crtGoesSpec)

/-- 'arraslaw08.ParamSteps', WHERE WHAT IT READS IS OF BULK AT MOST 1048576: true; the input reads as it did. -/
def paramStepsUptoRow : OpenClaim := { program := "ytajgcmgkhmkmbaadoor", sum := "2fa9aef058b9ddeacc96730c0d615da5e48503850c6624095f07a317c69215c2", func := "arras/arraslaw08.ParamSteps", spec := "paramSteps", inPlace := ["math/bits.Add64", "math/bits.Sub64"], unfollowed := true, recurses := true, named := ["math/bits.deBruijn64tab", "math/bits.divideError", "math/bits.overflowError"], apart := false, laid := [("math/bits.deBruijn64tab", laid_math_bits_deBruijn64tab)], narrowed := true }
def ParamStepsUptoSaid : Prop := paramStepsUptoRow.holds Tryd.pinned (OpenSpec.upto paramStepsSpec)

/-- 'arraslaw08.ParamRows', WHERE WHAT IT READS IS OF BULK AT MOST 1048576: true; the input reads as it did. -/
def paramRowsUptoRow : OpenClaim := { program := "ytajgcmgkhmkmbaadoor", sum := "2fa9aef058b9ddeacc96730c0d615da5e48503850c6624095f07a317c69215c2", func := "arras/arraslaw08.ParamRows", spec := "paramRows", inPlace := ["math/bits.Add64", "math/bits.Sub64"], unfollowed := true, recurses := true, named := ["math/bits.deBruijn64tab", "math/bits.divideError", "math/bits.overflowError"], apart := false, laid := [("math/bits.deBruijn64tab", laid_math_bits_deBruijn64tab)], narrowed := true }
def ParamRowsUptoSaid : Prop := paramRowsUptoRow.holds Tryd.pinned (OpenSpec.upto paramRowsSpec)

/-- 'arraslaw08.ParamSame', WHERE WHAT IT READS IS OF BULK AT MOST 1048576: true; the input reads as it did. -/
def paramSameUptoRow : OpenClaim := { program := "ytajgcmgkhmkmbaadoor", sum := "2fa9aef058b9ddeacc96730c0d615da5e48503850c6624095f07a317c69215c2", func := "arras/arraslaw08.ParamSame", spec := "paramSame", inPlace := ["math/bits.Add64", "math/bits.Sub64"], unfollowed := true, recurses := true, named := ["math/bits.deBruijn64tab", "math/bits.divideError", "math/bits.overflowError"], apart := false, laid := [("math/bits.deBruijn64tab", laid_math_bits_deBruijn64tab)], narrowed := true }
def ParamSameUptoSaid : Prop := paramSameUptoRow.holds Tryd.pinned (OpenSpec.upto paramSameSpec)

/-- 'arraslaw14.BoundRises', WHERE WHAT IT READS IS OF BULK AT MOST 1048576: true; the input reads as it did. -/
def boundRisesUptoRow : OpenClaim := { program := "ytajgcmgkhmkmbaadoor", sum := "2fa9aef058b9ddeacc96730c0d615da5e48503850c6624095f07a317c69215c2", func := "arras/arraslaw14.BoundRises", spec := "boundRises", inPlace := ["math/bits.Add64", "math/bits.Sub64"], unfollowed := true, recurses := true, named := ["math/bits.deBruijn64tab", "math/bits.divideError", "math/bits.overflowError"], apart := false, laid := [("math/bits.deBruijn64tab", laid_math_bits_deBruijn64tab)], narrowed := true }
def BoundRisesUptoSaid : Prop := boundRisesUptoRow.holds Tryd.pinned (OpenSpec.upto boundRisesSpec)

end Rows
end Go.Proofs.YtajgcmgkhmkmbaaDoor

/-
  NARROWER THAN 'FOR EVERY INPUT', by the rows' own cells (each row's printed sentence says how): NttBack: laid · NttValues: laid · NttNil: laid · NttShifts: laid · BatchBack: laid · BatchGoes: laid · BatchNil: laid · RingNil: laid.
  DERIVED. THE GIVEN ROWS OF THIS SEAT. 8 by the template 'for every input the law returns true; each argument reads behind the call as it read before'; 0 by the template 'total and deterministic' (their statements: YtfgfmempmkjlnaaDoorTotals.lean).
  GIVEN WITH THE SEED: the statements are not yours to turn. If you find one false, say at which input.
  Laid BY PROGRAM, IN A SANDBOX (cutbox-rows.mjs): the forced cells as the released guide's own fill.sh prints them over the translation fda1af0d788826f8… (all of the seat's roots in one cut). By AI agents, Wed Nov 11 2026. No macro, syntax, notation, axiom, sorry.
-/
import Derived.Test.YtfgfmempmkjlnaaDoorChecked
import GoSem.Claim
import GoSem.ClaimJoined
import GoSem.ClaimMapViews
import Derived.JoinedTies
import Derived.KernelRfl
namespace Go.Proofs.YtfgfmempmkjlnaaDoor
/- THE CELL 'sum', in the pinned program and in every row, IS THE sha256 OF THE DUMP (.gsa) THAT YtfgfmempmkjlnaaDoorProg.lean LOADS. Nothing in Lean hashes anything: it is a label: what it is worth is what the hold of that sum in a sandbox is worth. -/
noncomputable def Tryd.pinned : Pinned := { name := "ytfgfmempmkjlnaadoor", sum := "fda1af0d788826f8975df687547cab1f1b7668c4e45e382c9f3d5e99b5e5bc27", checked := Tryd.checked }
namespace Rows
def none {H : Type} : Left H := { results := [], args := [] }

/- WHAT THE LISTED PACKAGE-LEVEL VARIABLES READ AS WHEN THE CALL BEGINS. Each datum BY PROGRAM (the guide's laid-datum.mjs) off the statement by which the dump's own 'gosem.cut.vars' lays the variable. In a bare row this is a premise. The card (YtfgfmempmkjlnaaDoorCards.lean) ties it to the program's text. -/
def laid_math_bits_deBruijn64tab {H : Type} : DataW H := .agg [.lit (.int .u8 0), .lit (.int .u8 1), .lit (.int .u8 56), .lit (.int .u8 2), .lit (.int .u8 57), .lit (.int .u8 49), .lit (.int .u8 28), .lit (.int .u8 3), .lit (.int .u8 61), .lit (.int .u8 58), .lit (.int .u8 42), .lit (.int .u8 50), .lit (.int .u8 38), .lit (.int .u8 29), .lit (.int .u8 17), .lit (.int .u8 4), .lit (.int .u8 62), .lit (.int .u8 47), .lit (.int .u8 59), .lit (.int .u8 36), .lit (.int .u8 45), .lit (.int .u8 43), .lit (.int .u8 51), .lit (.int .u8 22), .lit (.int .u8 53), .lit (.int .u8 39), .lit (.int .u8 33), .lit (.int .u8 30), .lit (.int .u8 24), .lit (.int .u8 18), .lit (.int .u8 12), .lit (.int .u8 5), .lit (.int .u8 63), .lit (.int .u8 55), .lit (.int .u8 48), .lit (.int .u8 27), .lit (.int .u8 60), .lit (.int .u8 41), .lit (.int .u8 37), .lit (.int .u8 16), .lit (.int .u8 46), .lit (.int .u8 35), .lit (.int .u8 44), .lit (.int .u8 21), .lit (.int .u8 52), .lit (.int .u8 32), .lit (.int .u8 23), .lit (.int .u8 11), .lit (.int .u8 54), .lit (.int .u8 26), .lit (.int .u8 40), .lit (.int .u8 15), .lit (.int .u8 34), .lit (.int .u8 20), .lit (.int .u8 31), .lit (.int .u8 10), .lit (.int .u8 25), .lit (.int .u8 14), .lit (.int .u8 19), .lit (.int .u8 9), .lit (.int .u8 13), .lit (.int .u8 8), .lit (.int .u8 7), .lit (.int .u8 6)]

/-- 'arraslaw04.NttBack': WHATEVER THE INPUT: true; the input reads as it did. -/
def nttBackSpec : ChangeSpec := { name := "nttBack", fn := fun _ => fun
  | [d1, d2] => { results := [.lit (.bool true)], args := [d1, d2] }
  | _ => none }
def nttBackRow : OpenClaim := { program := "ytfgfmempmkjlnaadoor", sum := "fda1af0d788826f8975df687547cab1f1b7668c4e45e382c9f3d5e99b5e5bc27", func := "arras/arraslaw04.NttBack", spec := "nttBack", inPlace := ["math/bits.Add64"], unfollowed := true, recurses := true, named := ["math/bits.deBruijn64tab", "math/bits.divideError", "math/bits.overflowError"], apart := false, laid := [("math/bits.deBruijn64tab", laid_math_bits_deBruijn64tab)] }
def NttBackSaid : Prop := nttBackRow.holds Tryd.pinned (OpenSpec.ofChange nttBackSpec)

/-- ITS FALSE NEIGHBOUR: 'it returns false'. Refute it at one input. -/
def nttBackWrong : ChangeSpec := { name := "nttBack", fn := fun _ => fun
  | [d1, d2] => { results := [.lit (.bool false)], args := [d1, d2] }
  | _ => none }
def NttBackWrongFalsely : Prop := nttBackRow.holds Tryd.pinned (OpenSpec.ofChange nttBackWrong)

/-- 'arraslaw04.NttValues': WHATEVER THE INPUT: true; the input reads as it did. -/
def nttValuesSpec : ChangeSpec := { name := "nttValues", fn := fun _ => fun
  | [d1, d2, d3] => { results := [.lit (.bool true)], args := [d1, d2, d3] }
  | _ => none }
def nttValuesRow : OpenClaim := { program := "ytfgfmempmkjlnaadoor", sum := "fda1af0d788826f8975df687547cab1f1b7668c4e45e382c9f3d5e99b5e5bc27", func := "arras/arraslaw04.NttValues", spec := "nttValues", inPlace := ["math/bits.Add64"], unfollowed := true, recurses := true, named := ["math/bits.deBruijn64tab", "math/bits.divideError", "math/bits.overflowError"], apart := false, laid := [("math/bits.deBruijn64tab", laid_math_bits_deBruijn64tab)] }
def NttValuesSaid : Prop := nttValuesRow.holds Tryd.pinned (OpenSpec.ofChange nttValuesSpec)

/-- ITS FALSE NEIGHBOUR: 'it returns false'. Refute it at one input. -/
def nttValuesWrong : ChangeSpec := { name := "nttValues", fn := fun _ => fun
  | [d1, d2, d3] => { results := [.lit (.bool false)], args := [d1, d2, d3] }
  | _ => none }
def NttValuesWrongFalsely : Prop := nttValuesRow.holds Tryd.pinned (OpenSpec.ofChange nttValuesWrong)

/-- 'arraslaw04.NttNil': WHATEVER THE INPUT: true; the input reads as it did. -/
def nttNilSpec : ChangeSpec := { name := "nttNil", fn := fun _ => fun
  | [d] => { results := [.lit (.bool true)], args := [d] }
  | _ => none }
def nttNilRow : OpenClaim := { program := "ytfgfmempmkjlnaadoor", sum := "fda1af0d788826f8975df687547cab1f1b7668c4e45e382c9f3d5e99b5e5bc27", func := "arras/arraslaw04.NttNil", spec := "nttNil", inPlace := ["math/bits.Add64"], unfollowed := true, recurses := true, named := ["math/bits.deBruijn64tab", "math/bits.divideError", "math/bits.overflowError"], apart := false, laid := [("math/bits.deBruijn64tab", laid_math_bits_deBruijn64tab)] }
def NttNilSaid : Prop := nttNilRow.holds Tryd.pinned (OpenSpec.ofChange nttNilSpec)

/-- ITS FALSE NEIGHBOUR: 'it returns false'. Refute it at one input. -/
def nttNilWrong : ChangeSpec := { name := "nttNil", fn := fun _ => fun
  | [d] => { results := [.lit (.bool false)], args := [d] }
  | _ => none }
def NttNilWrongFalsely : Prop := nttNilRow.holds Tryd.pinned (OpenSpec.ofChange nttNilWrong)

/-- 'arraslaw04.NttShifts': WHATEVER THE INPUT: true; the input reads as it did. -/
def nttShiftsSpec : ChangeSpec := { name := "nttShifts", fn := fun _ => fun
  | [d1, d2] => { results := [.lit (.bool true)], args := [d1, d2] }
  | _ => none }
def nttShiftsRow : OpenClaim := { program := "ytfgfmempmkjlnaadoor", sum := "fda1af0d788826f8975df687547cab1f1b7668c4e45e382c9f3d5e99b5e5bc27", func := "arras/arraslaw04.NttShifts", spec := "nttShifts", inPlace := ["math/bits.Add64"], unfollowed := true, recurses := true, named := ["math/bits.deBruijn64tab", "math/bits.divideError", "math/bits.overflowError"], apart := false, laid := [("math/bits.deBruijn64tab", laid_math_bits_deBruijn64tab)] }
def NttShiftsSaid : Prop := nttShiftsRow.holds Tryd.pinned (OpenSpec.ofChange nttShiftsSpec)

/-- ITS FALSE NEIGHBOUR: 'it returns false'. Refute it at one input. -/
def nttShiftsWrong : ChangeSpec := { name := "nttShifts", fn := fun _ => fun
  | [d1, d2] => { results := [.lit (.bool false)], args := [d1, d2] }
  | _ => none }
def NttShiftsWrongFalsely : Prop := nttShiftsRow.holds Tryd.pinned (OpenSpec.ofChange nttShiftsWrong)

/-- 'arraslaw09.BatchBack': WHATEVER THE INPUT: true; the input reads as it did. -/
def batchBackSpec : ChangeSpec := { name := "batchBack", fn := fun _ => fun
  | [d1, d2] => { results := [.lit (.bool true)], args := [d1, d2] }
  | _ => none }
def batchBackRow : OpenClaim := { program := "ytfgfmempmkjlnaadoor", sum := "fda1af0d788826f8975df687547cab1f1b7668c4e45e382c9f3d5e99b5e5bc27", func := "arras/arraslaw09.BatchBack", spec := "batchBack", inPlace := ["math/bits.Add64"], unfollowed := true, recurses := true, named := ["math/bits.deBruijn64tab", "math/bits.divideError", "math/bits.overflowError"], apart := false, laid := [("math/bits.deBruijn64tab", laid_math_bits_deBruijn64tab)] }
def BatchBackSaid : Prop := batchBackRow.holds Tryd.pinned (OpenSpec.ofChange batchBackSpec)

/-- ITS FALSE NEIGHBOUR: 'it returns false'. Refute it at one input. -/
def batchBackWrong : ChangeSpec := { name := "batchBack", fn := fun _ => fun
  | [d1, d2] => { results := [.lit (.bool false)], args := [d1, d2] }
  | _ => none }
def BatchBackWrongFalsely : Prop := batchBackRow.holds Tryd.pinned (OpenSpec.ofChange batchBackWrong)

/-- 'arraslaw09.BatchGoes': WHATEVER THE INPUT: true; the input reads as it did. -/
def batchGoesSpec : ChangeSpec := { name := "batchGoes", fn := fun _ => fun
  | [d1, d2, d3, d4] => { results := [.lit (.bool true)], args := [d1, d2, d3, d4] }
  | _ => none }
def batchGoesRow : OpenClaim := { program := "ytfgfmempmkjlnaadoor", sum := "fda1af0d788826f8975df687547cab1f1b7668c4e45e382c9f3d5e99b5e5bc27", func := "arras/arraslaw09.BatchGoes", spec := "batchGoes", inPlace := ["math/bits.Add64"], unfollowed := true, recurses := true, named := ["math/bits.deBruijn64tab", "math/bits.divideError", "math/bits.overflowError"], apart := false, laid := [("math/bits.deBruijn64tab", laid_math_bits_deBruijn64tab)] }
def BatchGoesSaid : Prop := batchGoesRow.holds Tryd.pinned (OpenSpec.ofChange batchGoesSpec)

/-- ITS FALSE NEIGHBOUR: 'it returns false'. Refute it at one input. -/
def batchGoesWrong : ChangeSpec := { name := "batchGoes", fn := fun _ => fun
  | [d1, d2, d3, d4] => { results := [.lit (.bool false)], args := [d1, d2, d3, d4] }
  | _ => none }
def BatchGoesWrongFalsely : Prop := batchGoesRow.holds Tryd.pinned (OpenSpec.ofChange batchGoesWrong)

/-- 'arraslaw09.BatchNil': WHATEVER THE INPUT: true; the input reads as it did. -/
def batchNilSpec : ChangeSpec := { name := "batchNil", fn := fun _ => fun
  | [d1, d2] => { results := [.lit (.bool true)], args := [d1, d2] }
  | _ => none }
def batchNilRow : OpenClaim := { program := "ytfgfmempmkjlnaadoor", sum := "fda1af0d788826f8975df687547cab1f1b7668c4e45e382c9f3d5e99b5e5bc27", func := "arras/arraslaw09.BatchNil", spec := "batchNil", inPlace := ["math/bits.Add64"], unfollowed := true, recurses := true, named := ["math/bits.deBruijn64tab", "math/bits.divideError", "math/bits.overflowError"], apart := false, laid := [("math/bits.deBruijn64tab", laid_math_bits_deBruijn64tab)] }
def BatchNilSaid : Prop := batchNilRow.holds Tryd.pinned (OpenSpec.ofChange batchNilSpec)

/-- ITS FALSE NEIGHBOUR: 'it returns false'. Refute it at one input. -/
def batchNilWrong : ChangeSpec := { name := "batchNil", fn := fun _ => fun
  | [d1, d2] => { results := [.lit (.bool false)], args := [d1, d2] }
  | _ => none }
def BatchNilWrongFalsely : Prop := batchNilRow.holds Tryd.pinned (OpenSpec.ofChange batchNilWrong)

/-- 'arraslaw05.RingNil': WHATEVER THE INPUT: true; the input reads as it did. -/
def ringNilSpec : ChangeSpec := { name := "ringNil", fn := fun _ => fun
  | [d1, d2] => { results := [.lit (.bool true)], args := [d1, d2] }
  | _ => none }
def ringNilRow : OpenClaim := { program := "ytfgfmempmkjlnaadoor", sum := "fda1af0d788826f8975df687547cab1f1b7668c4e45e382c9f3d5e99b5e5bc27", func := "arras/arraslaw05.RingNil", spec := "ringNil", inPlace := ["math/bits.Add64"], unfollowed := true, recurses := true, named := ["math/bits.deBruijn64tab", "math/bits.divideError", "math/bits.overflowError"], apart := false, laid := [("math/bits.deBruijn64tab", laid_math_bits_deBruijn64tab)] }
def RingNilSaid : Prop := ringNilRow.holds Tryd.pinned (OpenSpec.ofChange ringNilSpec)

/-- ITS FALSE NEIGHBOUR: 'it returns false'. Refute it at one input. -/
def ringNilWrong : ChangeSpec := { name := "ringNil", fn := fun _ => fun
  | [d1, d2] => { results := [.lit (.bool false)], args := [d1, d2] }
  | _ => none }
def RingNilWrongFalsely : Prop := ringNilRow.holds Tryd.pinned (OpenSpec.ofChange ringNilWrong)

/- THE SECOND FORM. 'bulk': how many values and letters a reading holds, each counted each time it is reached (what is shared counts as often as it is met; a slice's spare places count too). A statement '..UptoSaid' is the law's where the arguments, and the package variables that the reading takes, are together of bulk at most 1048576: NARROWER than '..Said'. Prove '..Said' where nothing that the law and all that it calls make is longer than what came in: it says more and counts as full. Else prove '..UptoSaid'. A law counts once. -/
mutual
def uptoBulk {H : Type} : DataW H → Nat
  | .lit (.string bytes) => bytes.length + 1
  | .lit _ => 1
  | .nil => 1
  | .ptr d => uptoBulk d + 1
  | .slice elems spare => uptoBulkAll elems + uptoBulkAll spare + 1
  | .agg parts => uptoBulkAll parts + 1
  | .iface _ d => uptoBulk d + 1
  | .map entries => uptoBulkEntries entries + 1
  | .held _ => 1
def uptoBulkAll {H : Type} : List (DataW H) → Nat
  | [] => 0
  | d :: r => uptoBulk d + uptoBulkAll r
def uptoBulkEntries {H : Type} : List (Lit × DataW H) → Nat
  | [] => 0
  | x :: r => uptoBulkEntry x + uptoBulkEntries r
def uptoBulkEntry {H : Type} : Lit × DataW H → Nat
  | (.string bytes, d) => bytes.length + uptoBulk d + 1
  | (_, d) => uptoBulk d + 1
 end
def uptoSmall : (H : Type) → List (DataW H) → Bool := fun _ ds => decide (uptoBulkAll ds ≤ 1048576)
def OpenSpec.upto (s : _root_.Go.ChangeSpec) : _root_.Go.OpenSpec := { _root_.Go.OpenSpec.ofChange s with cond := some uptoSmall }

/-- 'arraslaw04.NttBack', WHERE WHAT IT READS IS OF BULK AT MOST 1048576: true; the input reads as it did. -/
def nttBackUptoRow : OpenClaim := { program := "ytfgfmempmkjlnaadoor", sum := "fda1af0d788826f8975df687547cab1f1b7668c4e45e382c9f3d5e99b5e5bc27", func := "arras/arraslaw04.NttBack", spec := "nttBack", inPlace := ["math/bits.Add64"], unfollowed := true, recurses := true, named := ["math/bits.deBruijn64tab", "math/bits.divideError", "math/bits.overflowError"], apart := false, laid := [("math/bits.deBruijn64tab", laid_math_bits_deBruijn64tab)], narrowed := true }
def NttBackUptoSaid : Prop := nttBackUptoRow.holds Tryd.pinned (OpenSpec.upto nttBackSpec)

/-- 'arraslaw04.NttValues', WHERE WHAT IT READS IS OF BULK AT MOST 1048576: true; the input reads as it did. -/
def nttValuesUptoRow : OpenClaim := { program := "ytfgfmempmkjlnaadoor", sum := "fda1af0d788826f8975df687547cab1f1b7668c4e45e382c9f3d5e99b5e5bc27", func := "arras/arraslaw04.NttValues", spec := "nttValues", inPlace := ["math/bits.Add64"], unfollowed := true, recurses := true, named := ["math/bits.deBruijn64tab", "math/bits.divideError", "math/bits.overflowError"], apart := false, laid := [("math/bits.deBruijn64tab", laid_math_bits_deBruijn64tab)], narrowed := true }
def NttValuesUptoSaid : Prop := nttValuesUptoRow.holds Tryd.pinned (OpenSpec.upto nttValuesSpec)

/-- 'arraslaw04.NttNil', WHERE WHAT IT READS IS OF BULK AT MOST 1048576: true; the input reads as it did. -/
def nttNilUptoRow : OpenClaim := { program := "ytfgfmempmkjlnaadoor", sum := "fda1af0d788826f8975df687547cab1f1b7668c4e45e382c9f3d5e99b5e5bc27", func := "arras/arraslaw04.NttNil", spec := "nttNil", inPlace := ["math/bits.Add64"], unfollowed := true, recurses := true, named := ["math/bits.deBruijn64tab", "math/bits.divideError", "math/bits.overflowError"], apart := false, laid := [("math/bits.deBruijn64tab", laid_math_bits_deBruijn64tab)], narrowed := true }
def NttNilUptoSaid : Prop := nttNilUptoRow.holds Tryd.pinned (OpenSpec.upto nttNilSpec)

/-- 'arraslaw04.NttShifts', WHERE WHAT IT READS IS OF BULK AT MOST 1048576: true; the input reads as it did. -/
def nttShiftsUptoRow : OpenClaim := { program := "ytfgfmempmkjlnaadoor", sum := "fda1af0d788826f8975df687547cab1f1b7668c4e45e382c9f3d5e99b5e5bc27", func := "arras/arraslaw04.NttShifts", spec := "nttShifts", inPlace := ["math/bits.Add64"], unfollowed := true, recurses := true, named := ["math/bits.deBruijn64tab", "math/bits.divideError", "math/bits.overflowError"], apart := false, laid := [("math/bits.deBruijn64tab", laid_math_bits_deBruijn64tab)], narrowed := true }
def NttShiftsUptoSaid : Prop := nttShiftsUptoRow.holds Tryd.pinned (OpenSpec.upto nttShiftsSpec)

/-- 'arraslaw09.BatchBack', WHERE WHAT IT READS IS OF BULK AT MOST 1048576: true; the input reads as it did. -/
def batchBackUptoRow : OpenClaim := { program := "ytfgfmempmkjlnaadoor", sum := "fda1af0d788826f8975df687547cab1f1b7668c4e45e382c9f3d5e99b5e5bc27", func := "arras/arraslaw09.BatchBack", spec := "batchBack", inPlace := ["math/bits.Add64"], unfollowed := true, recurses := true, named := ["math/bits.deBruijn64tab", "math/bits.divideError", "math/bits.overflowError"], apart := false, laid := [("math/bits.deBruijn64tab", laid_math_bits_deBruijn64tab)], narrowed := true }
def BatchBackUptoSaid : Prop := batchBackUptoRow.holds Tryd.pinned (OpenSpec.upto batchBackSpec)

/-- 'arraslaw09.BatchGoes', WHERE WHAT IT READS IS OF BULK AT MOST 1048576: true; the input reads as it did. -/
def batchGoesUptoRow : OpenClaim := { program := "ytfgfmempmkjlnaadoor", sum := "fda1af0d788826f8975df687547cab1f1b7668c4e45e382c9f3d5e99b5e5bc27", func := "arras/arraslaw09.BatchGoes", spec := "batchGoes", inPlace := ["math/bits.Add64"], unfollowed := true, recurses := true, named := ["math/bits.deBruijn64tab", "math/bits.divideError", "math/bits.overflowError"], apart := false, laid := [("math/bits.deBruijn64tab", laid_math_bits_deBruijn64tab)], narrowed := true }
def BatchGoesUptoSaid : Prop := batchGoesUptoRow.holds Tryd.pinned (OpenSpec.upto batchGoesSpec)

/-- 'arraslaw09.BatchNil', WHERE WHAT IT READS IS OF BULK AT MOST 1048576: true; the input reads as it did. -/
def batchNilUptoRow : OpenClaim := { program := "ytfgfmempmkjlnaadoor", sum := "fda1af0d788826f8975df687547cab1f1b7668c4e45e382c9f3d5e99b5e5bc27", func := "arras/arraslaw09.BatchNil", spec := "batchNil", inPlace := ["math/bits.Add64"], unfollowed := true, recurses := true, named := ["math/bits.deBruijn64tab", "math/bits.divideError", "math/bits.overflowError"], apart := false, laid := [("math/bits.deBruijn64tab", laid_math_bits_deBruijn64tab)], narrowed := true }
def BatchNilUptoSaid : Prop := batchNilUptoRow.holds Tryd.pinned (OpenSpec.upto batchNilSpec)

/-- 'arraslaw05.RingNil', WHERE WHAT IT READS IS OF BULK AT MOST 1048576: true; the input reads as it did. -/
def ringNilUptoRow : OpenClaim := { program := "ytfgfmempmkjlnaadoor", sum := "fda1af0d788826f8975df687547cab1f1b7668c4e45e382c9f3d5e99b5e5bc27", func := "arras/arraslaw05.RingNil", spec := "ringNil", inPlace := ["math/bits.Add64"], unfollowed := true, recurses := true, named := ["math/bits.deBruijn64tab", "math/bits.divideError", "math/bits.overflowError"], apart := false, laid := [("math/bits.deBruijn64tab", laid_math_bits_deBruijn64tab)], narrowed := true }
def RingNilUptoSaid : Prop := ringNilUptoRow.holds Tryd.pinned (OpenSpec.upto ringNilSpec)

end Rows
end Go.Proofs.YtfgfmempmkjlnaaDoor

/-
  No cell of these rows narrows 'for every input' (looked for: loops, veiled, ifaces, maps, wideKeys, modest, calm, conditions, laid).
  DERIVED. THE GIVEN ROWS OF THIS SEAT. 5 by the template 'for every input the law returns true; each argument reads behind the call as it read before'; 0 by the template 'total and deterministic' (their statements: YtddhnmfndjcleaaTotals.lean).
  GIVEN WITH THE SEED: the statements are not yours to turn. If you find one false, say at which input.
  Laid BY PROGRAM, IN A SANDBOX (cutbox-rows.mjs): the forced cells as the released guide's own fill.sh prints them over the translation 3f8a3d1f45f32451… (all of the seat's roots in one cut). By AI agents, Wed Nov 11 2026. No macro, syntax, notation, axiom, sorry.
-/
import Derived.Test.YtddhnmfndjcleaaChecked
import GoSem.Claim
import GoSem.ClaimJoined
import GoSem.ClaimMapViews
import Derived.JoinedTies
import Derived.KernelRfl
namespace Go.Proofs.Ytddhnmfndjcleaa
/- THE CELL 'sum', in the pinned program and in every row, IS THE sha256 OF THE DUMP (.gsa) THAT YtddhnmfndjcleaaProg.lean LOADS. Nothing in Lean hashes anything: it is a label: what it is worth is what the hold of that sum in a sandbox is worth. -/
noncomputable def Try.pinned : Pinned := { name := "ytddhnmfndjcleaa", sum := "3f8a3d1f45f324511b3deb1fd80cea42b0f2bea7a8a980f0d8911cf5821614b9", checked := Try.checked }
namespace Rows
def none {H : Type} : Left H := { results := [], args := [] }

/-- 'arraslaw02.NatSums': WHATEVER THE INPUT: true; the input reads as it did. -/
def natSumsSpec : ChangeSpec := { name := "natSums", fn := fun _ => fun
  | [d1, d2] => { results := [.lit (.bool true)], args := [d1, d2] }
  | _ => none }
def natSumsRow : OpenClaim := { program := "ytddhnmfndjcleaa", sum := "3f8a3d1f45f324511b3deb1fd80cea42b0f2bea7a8a980f0d8911cf5821614b9", func := "arras/arraslaw02.NatSums", spec := "natSums", inPlace := ["math/bits.Add64", "math/bits.Sub64"], named := ["math/bits.divideError", "math/bits.overflowError"], apart := false }
def NatSumsSaid : Prop := natSumsRow.holds Try.pinned (OpenSpec.ofChange natSumsSpec)

/-- ITS FALSE NEIGHBOUR: 'it returns false'. Refute it at one input. -/
def natSumsWrong : ChangeSpec := { name := "natSums", fn := fun _ => fun
  | [d1, d2] => { results := [.lit (.bool false)], args := [d1, d2] }
  | _ => none }
def NatSumsWrongFalsely : Prop := natSumsRow.holds Try.pinned (OpenSpec.ofChange natSumsWrong)

/-- 'arraslaw02.NatProducts': WHATEVER THE INPUT: true; the input reads as it did. -/
def natProductsSpec : ChangeSpec := { name := "natProducts", fn := fun _ => fun
  | [d1, d2, d3] => { results := [.lit (.bool true)], args := [d1, d2, d3] }
  | _ => none }
def natProductsRow : OpenClaim := { program := "ytddhnmfndjcleaa", sum := "3f8a3d1f45f324511b3deb1fd80cea42b0f2bea7a8a980f0d8911cf5821614b9", func := "arras/arraslaw02.NatProducts", spec := "natProducts", inPlace := ["math/bits.Add64", "math/bits.Sub64"], named := ["math/bits.divideError", "math/bits.overflowError"], apart := false }
def NatProductsSaid : Prop := natProductsRow.holds Try.pinned (OpenSpec.ofChange natProductsSpec)

/-- ITS FALSE NEIGHBOUR: 'it returns false'. Refute it at one input. -/
def natProductsWrong : ChangeSpec := { name := "natProducts", fn := fun _ => fun
  | [d1, d2, d3] => { results := [.lit (.bool false)], args := [d1, d2, d3] }
  | _ => none }
def NatProductsWrongFalsely : Prop := natProductsRow.holds Try.pinned (OpenSpec.ofChange natProductsWrong)

/-- 'arraslaw02.NatBack': WHATEVER THE INPUT: true; the input reads as it did. -/
def natBackSpec : ChangeSpec := { name := "natBack", fn := fun _ => fun
  | [d1, d2] => { results := [.lit (.bool true)], args := [d1, d2] }
  | _ => none }
def natBackRow : OpenClaim := { program := "ytddhnmfndjcleaa", sum := "3f8a3d1f45f324511b3deb1fd80cea42b0f2bea7a8a980f0d8911cf5821614b9", func := "arras/arraslaw02.NatBack", spec := "natBack", inPlace := ["math/bits.Add64", "math/bits.Sub64"], named := ["math/bits.divideError", "math/bits.overflowError"], apart := false }
def NatBackSaid : Prop := natBackRow.holds Try.pinned (OpenSpec.ofChange natBackSpec)

/-- ITS FALSE NEIGHBOUR: 'it returns false'. Refute it at one input. -/
def natBackWrong : ChangeSpec := { name := "natBack", fn := fun _ => fun
  | [d1, d2] => { results := [.lit (.bool false)], args := [d1, d2] }
  | _ => none }
def NatBackWrongFalsely : Prop := natBackRow.holds Try.pinned (OpenSpec.ofChange natBackWrong)

/-- 'arraslaw02.NatWholes': WHATEVER THE INPUT: true; the input reads as it did. -/
def natWholesSpec : ChangeSpec := { name := "natWholes", fn := fun _ => fun
  | [d1, d2] => { results := [.lit (.bool true)], args := [d1, d2] }
  | _ => none }
def natWholesRow : OpenClaim := { program := "ytddhnmfndjcleaa", sum := "3f8a3d1f45f324511b3deb1fd80cea42b0f2bea7a8a980f0d8911cf5821614b9", func := "arras/arraslaw02.NatWholes", spec := "natWholes", inPlace := ["math/bits.Add64", "math/bits.Sub64"], named := ["math/bits.divideError", "math/bits.overflowError"], apart := false }
def NatWholesSaid : Prop := natWholesRow.holds Try.pinned (OpenSpec.ofChange natWholesSpec)

/-- ITS FALSE NEIGHBOUR: 'it returns false'. Refute it at one input. -/
def natWholesWrong : ChangeSpec := { name := "natWholes", fn := fun _ => fun
  | [d1, d2] => { results := [.lit (.bool false)], args := [d1, d2] }
  | _ => none }
def NatWholesWrongFalsely : Prop := natWholesRow.holds Try.pinned (OpenSpec.ofChange natWholesWrong)

/-- 'arraslaw02.NatLaws': WHATEVER THE INPUT: true; the input reads as it did. -/
def natLawsSpec : ChangeSpec := { name := "natLaws", fn := fun _ => fun
  | [d1, d2, d3] => { results := [.lit (.bool true)], args := [d1, d2, d3] }
  | _ => none }
def natLawsRow : OpenClaim := { program := "ytddhnmfndjcleaa", sum := "3f8a3d1f45f324511b3deb1fd80cea42b0f2bea7a8a980f0d8911cf5821614b9", func := "arras/arraslaw02.NatLaws", spec := "natLaws", inPlace := ["math/bits.Add64", "math/bits.Sub64"], named := ["math/bits.divideError", "math/bits.overflowError"], apart := false }
def NatLawsSaid : Prop := natLawsRow.holds Try.pinned (OpenSpec.ofChange natLawsSpec)

/-- ITS FALSE NEIGHBOUR: 'it returns false'. Refute it at one input. -/
def natLawsWrong : ChangeSpec := { name := "natLaws", fn := fun _ => fun
  | [d1, d2, d3] => { results := [.lit (.bool false)], args := [d1, d2, d3] }
  | _ => none }
def NatLawsWrongFalsely : Prop := natLawsRow.holds Try.pinned (OpenSpec.ofChange natLawsWrong)

/- THE SECOND FORM. 'bulk': how many values and letters a reading holds, each counted each time it is reached (what is shared counts as often as it is met; a slice's spare places count too). A statement '..UptoSaid' is the law's where the arguments, and the package variables that the reading takes, are together of bulk at most 1048576: NARROWER than '..Said'. Prove '..Said' where nothing that the law and all that it calls make is longer than what came in: it says more and counts as full. Else prove '..UptoSaid'. A law counts once. -/
mutual
def uptoBulk {H : Type} : DataW H → Nat
  | .lit (.string bytes) => bytes.length + 1
  | .lit _ => 1
  | .nil => 1
  | .ptr d => uptoBulk d + 1
  | .slice elems spare => uptoBulkAll elems + uptoBulkAll spare + 1
  | .agg parts => uptoBulkAll parts + 1
  | .iface _ d => uptoBulk d + 1
  | .map entries => uptoBulkEntries entries + 1
  | .held _ => 1
def uptoBulkAll {H : Type} : List (DataW H) → Nat
  | [] => 0
  | d :: r => uptoBulk d + uptoBulkAll r
def uptoBulkEntries {H : Type} : List (Lit × DataW H) → Nat
  | [] => 0
  | x :: r => uptoBulkEntry x + uptoBulkEntries r
def uptoBulkEntry {H : Type} : Lit × DataW H → Nat
  | (.string bytes, d) => bytes.length + uptoBulk d + 1
  | (_, d) => uptoBulk d + 1
 end
def uptoSmall : (H : Type) → List (DataW H) → Bool := fun _ ds => decide (uptoBulkAll ds ≤ 1048576)
def OpenSpec.upto (s : _root_.Go.ChangeSpec) : _root_.Go.OpenSpec := { _root_.Go.OpenSpec.ofChange s with cond := some uptoSmall }

/-- 'arraslaw02.NatSums', WHERE WHAT IT READS IS OF BULK AT MOST 1048576: true; the input reads as it did. -/
def natSumsUptoRow : OpenClaim := { program := "ytddhnmfndjcleaa", sum := "3f8a3d1f45f324511b3deb1fd80cea42b0f2bea7a8a980f0d8911cf5821614b9", func := "arras/arraslaw02.NatSums", spec := "natSums", inPlace := ["math/bits.Add64", "math/bits.Sub64"], named := ["math/bits.divideError", "math/bits.overflowError"], apart := false, narrowed := true }
def NatSumsUptoSaid : Prop := natSumsUptoRow.holds Try.pinned (OpenSpec.upto natSumsSpec)

/-- 'arraslaw02.NatProducts', WHERE WHAT IT READS IS OF BULK AT MOST 1048576: true; the input reads as it did. -/
def natProductsUptoRow : OpenClaim := { program := "ytddhnmfndjcleaa", sum := "3f8a3d1f45f324511b3deb1fd80cea42b0f2bea7a8a980f0d8911cf5821614b9", func := "arras/arraslaw02.NatProducts", spec := "natProducts", inPlace := ["math/bits.Add64", "math/bits.Sub64"], named := ["math/bits.divideError", "math/bits.overflowError"], apart := false, narrowed := true }
def NatProductsUptoSaid : Prop := natProductsUptoRow.holds Try.pinned (OpenSpec.upto natProductsSpec)

/-- 'arraslaw02.NatBack', WHERE WHAT IT READS IS OF BULK AT MOST 1048576: true; the input reads as it did. -/
def natBackUptoRow : OpenClaim := { program := "ytddhnmfndjcleaa", sum := "3f8a3d1f45f324511b3deb1fd80cea42b0f2bea7a8a980f0d8911cf5821614b9", func := "arras/arraslaw02.NatBack", spec := "natBack", inPlace := ["math/bits.Add64", "math/bits.Sub64"], named := ["math/bits.divideError", "math/bits.overflowError"], apart := false, narrowed := true }
def NatBackUptoSaid : Prop := natBackUptoRow.holds Try.pinned (OpenSpec.upto natBackSpec)

/-- 'arraslaw02.NatWholes', WHERE WHAT IT READS IS OF BULK AT MOST 1048576: true; the input reads as it did. -/
def natWholesUptoRow : OpenClaim := { program := "ytddhnmfndjcleaa", sum := "3f8a3d1f45f324511b3deb1fd80cea42b0f2bea7a8a980f0d8911cf5821614b9", func := "arras/arraslaw02.NatWholes", spec := "natWholes", inPlace := ["math/bits.Add64", "math/bits.Sub64"], named := ["math/bits.divideError", "math/bits.overflowError"], apart := false, narrowed := true }
def NatWholesUptoSaid : Prop := natWholesUptoRow.holds Try.pinned (OpenSpec.upto natWholesSpec)

/-- 'arraslaw02.NatLaws', WHERE WHAT IT READS IS OF BULK AT MOST 1048576: true; the input reads as it did. -/
def natLawsUptoRow : OpenClaim := { program := "ytddhnmfndjcleaa", sum := "3f8a3d1f45f324511b3deb1fd80cea42b0f2bea7a8a980f0d8911cf5821614b9", func := "arras/arraslaw02.NatLaws", spec := "natLaws", inPlace := ["math/bits.Add64", "math/bits.Sub64"], named := ["math/bits.divideError", "math/bits.overflowError"], apart := false, narrowed := true }
def NatLawsUptoSaid : Prop := natLawsUptoRow.holds Try.pinned (OpenSpec.upto natLawsSpec)

end Rows
end Go.Proofs.Ytddhnmfndjcleaa

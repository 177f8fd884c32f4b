/-
  No cell of these rows narrows 'for every input' (looked for: loops, veiled, ifaces, maps, wideKeys, modest, calm, conditions, laid).
  DERIVED. THE GIVEN ROWS OF THIS SEAT. 3 by the template 'for every input the law returns true; each argument reads behind the call as it read before'; 0 by the template 'total and deterministic' (their statements: YthgpgccmhohfbaaTotals.lean).
  GIVEN WITH THE SEED: the statements are not yours to turn. If you find one false, say at which input.
  Laid BY PROGRAM, IN A SANDBOX (cutbox-rows.mjs): the forced cells as the released guide's own fill.sh prints them over the translation 002acb4ce93b08c4… (all of the seat's roots in one cut). By AI agents, Wed Nov 11 2026. No macro, syntax, notation, axiom, sorry.
-/
import Derived.Test.YthgpgccmhohfbaaChecked
import GoSem.Claim
import GoSem.ClaimJoined
import GoSem.ClaimMapViews
import Derived.JoinedTies
import Derived.KernelRfl
namespace Go.Proofs.Ythgpgccmhohfbaa
/- THE CELL 'sum', in the pinned program and in every row, IS THE sha256 OF THE DUMP (.gsa) THAT YthgpgccmhohfbaaProg.lean LOADS. Nothing in Lean hashes anything: it is a label: what it is worth is what the hold of that sum in a sandbox is worth. -/
noncomputable def Try.pinned : Pinned := { name := "ythgpgccmhohfbaa", sum := "002acb4ce93b08c48eb3c6207be2aed0b8deb3616a9ca193dde0d4de78edd827", checked := Try.checked }
namespace Rows
def none {H : Type} : Left H := { results := [], args := [] }

/-- 'arraslaw20.VectorRuns': WHATEVER THE INPUT: true; the input reads as it did. -/
def vectorRunsSpec : ChangeSpec := { name := "vectorRuns", fn := fun _ => fun
  | [d1, d2, d3] => { results := [.lit (.bool true)], args := [d1, d2, d3] }
  | _ => none }
def vectorRunsRow : OpenClaim := { program := "ythgpgccmhohfbaa", sum := "002acb4ce93b08c48eb3c6207be2aed0b8deb3616a9ca193dde0d4de78edd827", func := "arras/arraslaw20.VectorRuns", spec := "vectorRuns", inPlace := ["math/bits.Add64"], unfollowed := true, recurses := true, named := ["math/bits.divideError", "math/bits.overflowError"], apart := false }
def VectorRunsSaid : Prop := vectorRunsRow.holds Try.pinned (OpenSpec.ofChange vectorRunsSpec)

/-- ITS FALSE NEIGHBOUR: 'it returns false'. Refute it at one input. -/
def vectorRunsWrong : ChangeSpec := { name := "vectorRuns", fn := fun _ => fun
  | [d1, d2, d3] => { results := [.lit (.bool false)], args := [d1, d2, d3] }
  | _ => none }
def VectorRunsWrongFalsely : Prop := vectorRunsRow.holds Try.pinned (OpenSpec.ofChange vectorRunsWrong)

/-- 'arraslaw20.VectorModulo': WHATEVER THE INPUT: true; the input reads as it did. -/
def vectorModuloSpec : ChangeSpec := { name := "vectorModulo", fn := fun _ => fun
  | [d1, d2, d3] => { results := [.lit (.bool true)], args := [d1, d2, d3] }
  | _ => none }
def vectorModuloRow : OpenClaim := { program := "ythgpgccmhohfbaa", sum := "002acb4ce93b08c48eb3c6207be2aed0b8deb3616a9ca193dde0d4de78edd827", func := "arras/arraslaw20.VectorModulo", spec := "vectorModulo", inPlace := ["math/bits.Add64"], unfollowed := true, recurses := true, named := ["math/bits.divideError", "math/bits.overflowError"], apart := false }
def VectorModuloSaid : Prop := vectorModuloRow.holds Try.pinned (OpenSpec.ofChange vectorModuloSpec)

/-- ITS FALSE NEIGHBOUR: 'it returns false'. Refute it at one input. -/
def vectorModuloWrong : ChangeSpec := { name := "vectorModulo", fn := fun _ => fun
  | [d1, d2, d3] => { results := [.lit (.bool false)], args := [d1, d2, d3] }
  | _ => none }
def VectorModuloWrongFalsely : Prop := vectorModuloRow.holds Try.pinned (OpenSpec.ofChange vectorModuloWrong)

/-- 'arraslaw20.VectorTurns': WHATEVER THE INPUT: true; the input reads as it did. -/
def vectorTurnsSpec : ChangeSpec := { name := "vectorTurns", fn := fun _ => fun
  | [d1, d2, d3] => { results := [.lit (.bool true)], args := [d1, d2, d3] }
  | _ => none }
def vectorTurnsRow : OpenClaim := { program := "ythgpgccmhohfbaa", sum := "002acb4ce93b08c48eb3c6207be2aed0b8deb3616a9ca193dde0d4de78edd827", func := "arras/arraslaw20.VectorTurns", spec := "vectorTurns", inPlace := ["math/bits.Add64"], unfollowed := true, recurses := true, named := ["math/bits.divideError", "math/bits.overflowError"], apart := false }
def VectorTurnsSaid : Prop := vectorTurnsRow.holds Try.pinned (OpenSpec.ofChange vectorTurnsSpec)

/-- ITS FALSE NEIGHBOUR: 'it returns false'. Refute it at one input. -/
def vectorTurnsWrong : ChangeSpec := { name := "vectorTurns", fn := fun _ => fun
  | [d1, d2, d3] => { results := [.lit (.bool false)], args := [d1, d2, d3] }
  | _ => none }
def VectorTurnsWrongFalsely : Prop := vectorTurnsRow.holds Try.pinned (OpenSpec.ofChange vectorTurnsWrong)

/- THE SECOND FORM. 'bulk': how many values and letters a reading holds, each counted each time it is reached (what is shared counts as often as it is met; a slice's spare places count too). A statement '..UptoSaid' is the law's where the arguments, and the package variables that the reading takes, are together of bulk at most 1048576: NARROWER than '..Said'. Prove '..Said' where nothing that the law and all that it calls make is longer than what came in: it says more and counts as full. Else prove '..UptoSaid'. A law counts once. -/
mutual
def uptoBulk {H : Type} : DataW H → Nat
  | .lit (.string bytes) => bytes.length + 1
  | .lit _ => 1
  | .nil => 1
  | .ptr d => uptoBulk d + 1
  | .slice elems spare => uptoBulkAll elems + uptoBulkAll spare + 1
  | .agg parts => uptoBulkAll parts + 1
  | .iface _ d => uptoBulk d + 1
  | .map entries => uptoBulkEntries entries + 1
  | .held _ => 1
def uptoBulkAll {H : Type} : List (DataW H) → Nat
  | [] => 0
  | d :: r => uptoBulk d + uptoBulkAll r
def uptoBulkEntries {H : Type} : List (Lit × DataW H) → Nat
  | [] => 0
  | x :: r => uptoBulkEntry x + uptoBulkEntries r
def uptoBulkEntry {H : Type} : Lit × DataW H → Nat
  | (.string bytes, d) => bytes.length + uptoBulk d + 1
  | (_, d) => uptoBulk d + 1
 end
def uptoSmall : (H : Type) → List (DataW H) → Bool := fun _ ds => decide (uptoBulkAll ds ≤ 1048576)
def OpenSpec.upto (s : _root_.Go.ChangeSpec) : _root_.Go.OpenSpec := { _root_.Go.OpenSpec.ofChange s with cond := some uptoSmall }

/-- 'arraslaw20.VectorRuns', WHERE WHAT IT READS IS OF BULK AT MOST 1048576: true; the input reads as it did. -/
def vectorRunsUptoRow : OpenClaim := { program := "ythgpgccmhohfbaa", sum := "002acb4ce93b08c48eb3c6207be2aed0b8deb3616a9ca193dde0d4de78edd827", func := "arras/arraslaw20.VectorRuns", spec := "vectorRuns", inPlace := ["math/bits.Add64"], unfollowed := true, recurses := true, named := ["math/bits.divideError", "math/bits.overflowError"], apart := false, narrowed := true }
def VectorRunsUptoSaid : Prop := vectorRunsUptoRow.holds Try.pinned (OpenSpec.upto vectorRunsSpec)

/-- 'arraslaw20.VectorModulo', WHERE WHAT IT READS IS OF BULK AT MOST 1048576: true; the input reads as it did. -/
def vectorModuloUptoRow : OpenClaim := { program := "ythgpgccmhohfbaa", sum := "002acb4ce93b08c48eb3c6207be2aed0b8deb3616a9ca193dde0d4de78edd827", func := "arras/arraslaw20.VectorModulo", spec := "vectorModulo", inPlace := ["math/bits.Add64"], unfollowed := true, recurses := true, named := ["math/bits.divideError", "math/bits.overflowError"], apart := false, narrowed := true }
def VectorModuloUptoSaid : Prop := vectorModuloUptoRow.holds Try.pinned (OpenSpec.upto vectorModuloSpec)

/-- 'arraslaw20.VectorTurns', WHERE WHAT IT READS IS OF BULK AT MOST 1048576: true; the input reads as it did. -/
def vectorTurnsUptoRow : OpenClaim := { program := "ythgpgccmhohfbaa", sum := "002acb4ce93b08c48eb3c6207be2aed0b8deb3616a9ca193dde0d4de78edd827", func := "arras/arraslaw20.VectorTurns", spec := "vectorTurns", inPlace := ["math/bits.Add64"], unfollowed := true, recurses := true, named := ["math/bits.divideError", "math/bits.overflowError"], apart := false, narrowed := true }
def VectorTurnsUptoSaid : Prop := vectorTurnsUptoRow.holds Try.pinned (OpenSpec.upto vectorTurnsSpec)

end Rows
end Go.Proofs.Ythgpgccmhohfbaa

/-
  DERIVED. GIVEN WITH THE SEED: THE CARDS: each row of YtfcmdefigldpnaaDoorRows.lean that lists a variable, with what it lists TIED to the program's text (the seventh form; the later family's looks); each row that meets fmt, with fmt's text TOLD by the authors' own Lean function (tested against real Go, not proved from fmt's source: count such statements apart). THE CARD IS WHAT COUNTS. Prove the row's statement (the work); the ties are given (YtfcmdefigldpnaaDoorTie.lean); close each card by the builder's one call (the guide's Derived/Test/ToyasCard.lean, 'card_holds'). Laid BY PROGRAM, IN A SANDBOX (cutbox-door.mjs). By AI agents, Wed Nov 11 2026. No macro, syntax, notation, axiom, sorry.
-/
import Derived.Test.YtfcmdefigldpnaaDoorRows
import GoSem.ClaimSeven
namespace Go.Proofs.YtfcmdefigldpnaaDoor
namespace Rows

/-- THE TIED CARD OF 'arraslaw09.BatchGoes'. -/
def batchGoesCard : Claim7 := { stood := { row := batchGoesRow, standIns := [], harness := (true, "9ae3ae8beb2fd483632e6dadf6b517b2398035e06e1e6e56be7e7fecabd85ef2"), looks := false }, kinds := [], alts := [], laidByText := true, laidKinds := [.data], laidTests := true, laidLooks := .later }
def BatchGoesCardSaid : Prop := Claim7.holds Tryd.pinned (.plain (OpenSpec.ofChange batchGoesSpec)) batchGoesCard

/-- THE TIED CARD OF 'arraslaw15.PackCuts'. -/
def packCutsCard : Claim7 := { stood := { row := packCutsRow, standIns := [], harness := (true, "9ae3ae8beb2fd483632e6dadf6b517b2398035e06e1e6e56be7e7fecabd85ef2"), looks := false }, kinds := [], alts := [], laidByText := true, laidKinds := [.data], laidTests := true, laidLooks := .later }
def PackCutsCardSaid : Prop := Claim7.holds Tryd.pinned (.plain (OpenSpec.ofChange packCutsSpec)) packCutsCard

/-- THE SECOND FORM's CARD OF 'arraslaw09.BatchGoes'. -/
def batchGoesUptoCard : Claim7 := { stood := { row := batchGoesUptoRow, standIns := [], harness := (true, "9ae3ae8beb2fd483632e6dadf6b517b2398035e06e1e6e56be7e7fecabd85ef2"), looks := false }, kinds := [], alts := [], laidByText := true, laidKinds := [.data], laidTests := true, laidLooks := .later }
def BatchGoesUptoCardSaid : Prop := Claim7.holds Tryd.pinned (.plain (OpenSpec.upto batchGoesSpec)) batchGoesUptoCard

/-- THE SECOND FORM's CARD OF 'arraslaw15.PackCuts'. -/
def packCutsUptoCard : Claim7 := { stood := { row := packCutsUptoRow, standIns := [], harness := (true, "9ae3ae8beb2fd483632e6dadf6b517b2398035e06e1e6e56be7e7fecabd85ef2"), looks := false }, kinds := [], alts := [], laidByText := true, laidKinds := [.data], laidTests := true, laidLooks := .later }
def PackCutsUptoCardSaid : Prop := Claim7.holds Tryd.pinned (.plain (OpenSpec.upto packCutsSpec)) packCutsUptoCard
end Rows
end Go.Proofs.YtfcmdefigldpnaaDoor

/-
  DERIVED. GIVEN WITH THE SEED: THE CARDS: each row of YtfgfmempmkjlnaaDoorRows.lean that lists a variable, with what it lists TIED to the program's text (the seventh form; the later family's looks); each row that meets fmt, with fmt's text TOLD by the authors' own Lean function (tested against real Go, not proved from fmt's source: count such statements apart). THE CARD IS WHAT COUNTS. Prove the row's statement (the work); the ties are given (YtfgfmempmkjlnaaDoorTie.lean); close each card by the builder's one call (the guide's Derived/Test/ToyasCard.lean, 'card_holds'). Laid BY PROGRAM, IN A SANDBOX (cutbox-door.mjs). By AI agents, Wed Nov 11 2026. No macro, syntax, notation, axiom, sorry.
-/
import Derived.Test.YtfgfmempmkjlnaaDoorRows
import GoSem.ClaimSeven
namespace Go.Proofs.YtfgfmempmkjlnaaDoor
namespace Rows

/-- THE TIED CARD OF 'arraslaw04.NttBack'. -/
def nttBackCard : Claim7 := { stood := { row := nttBackRow, standIns := [], harness := (true, "0de1d000c91c2c6834e61baedc8c070704cade7dcf2c57c3c9bb1b5930463072"), looks := false }, kinds := [], alts := [], laidByText := true, laidKinds := [.data], laidTests := true, laidLooks := .later }
def NttBackCardSaid : Prop := Claim7.holds Tryd.pinned (.plain (OpenSpec.ofChange nttBackSpec)) nttBackCard

/-- THE TIED CARD OF 'arraslaw04.NttValues'. -/
def nttValuesCard : Claim7 := { stood := { row := nttValuesRow, standIns := [], harness := (true, "0de1d000c91c2c6834e61baedc8c070704cade7dcf2c57c3c9bb1b5930463072"), looks := false }, kinds := [], alts := [], laidByText := true, laidKinds := [.data], laidTests := true, laidLooks := .later }
def NttValuesCardSaid : Prop := Claim7.holds Tryd.pinned (.plain (OpenSpec.ofChange nttValuesSpec)) nttValuesCard

/-- THE TIED CARD OF 'arraslaw04.NttNil'. -/
def nttNilCard : Claim7 := { stood := { row := nttNilRow, standIns := [], harness := (true, "0de1d000c91c2c6834e61baedc8c070704cade7dcf2c57c3c9bb1b5930463072"), looks := false }, kinds := [], alts := [], laidByText := true, laidKinds := [.data], laidTests := true, laidLooks := .later }
def NttNilCardSaid : Prop := Claim7.holds Tryd.pinned (.plain (OpenSpec.ofChange nttNilSpec)) nttNilCard

/-- THE TIED CARD OF 'arraslaw04.NttShifts'. -/
def nttShiftsCard : Claim7 := { stood := { row := nttShiftsRow, standIns := [], harness := (true, "0de1d000c91c2c6834e61baedc8c070704cade7dcf2c57c3c9bb1b5930463072"), looks := false }, kinds := [], alts := [], laidByText := true, laidKinds := [.data], laidTests := true, laidLooks := .later }
def NttShiftsCardSaid : Prop := Claim7.holds Tryd.pinned (.plain (OpenSpec.ofChange nttShiftsSpec)) nttShiftsCard

/-- THE TIED CARD OF 'arraslaw09.BatchBack'. -/
def batchBackCard : Claim7 := { stood := { row := batchBackRow, standIns := [], harness := (true, "0de1d000c91c2c6834e61baedc8c070704cade7dcf2c57c3c9bb1b5930463072"), looks := false }, kinds := [], alts := [], laidByText := true, laidKinds := [.data], laidTests := true, laidLooks := .later }
def BatchBackCardSaid : Prop := Claim7.holds Tryd.pinned (.plain (OpenSpec.ofChange batchBackSpec)) batchBackCard

/-- THE TIED CARD OF 'arraslaw09.BatchGoes'. -/
def batchGoesCard : Claim7 := { stood := { row := batchGoesRow, standIns := [], harness := (true, "0de1d000c91c2c6834e61baedc8c070704cade7dcf2c57c3c9bb1b5930463072"), looks := false }, kinds := [], alts := [], laidByText := true, laidKinds := [.data], laidTests := true, laidLooks := .later }
def BatchGoesCardSaid : Prop := Claim7.holds Tryd.pinned (.plain (OpenSpec.ofChange batchGoesSpec)) batchGoesCard

/-- THE TIED CARD OF 'arraslaw09.BatchNil'. -/
def batchNilCard : Claim7 := { stood := { row := batchNilRow, standIns := [], harness := (true, "0de1d000c91c2c6834e61baedc8c070704cade7dcf2c57c3c9bb1b5930463072"), looks := false }, kinds := [], alts := [], laidByText := true, laidKinds := [.data], laidTests := true, laidLooks := .later }
def BatchNilCardSaid : Prop := Claim7.holds Tryd.pinned (.plain (OpenSpec.ofChange batchNilSpec)) batchNilCard

/-- THE TIED CARD OF 'arraslaw05.RingNil'. -/
def ringNilCard : Claim7 := { stood := { row := ringNilRow, standIns := [], harness := (true, "0de1d000c91c2c6834e61baedc8c070704cade7dcf2c57c3c9bb1b5930463072"), looks := false }, kinds := [], alts := [], laidByText := true, laidKinds := [.data], laidTests := true, laidLooks := .later }
def RingNilCardSaid : Prop := Claim7.holds Tryd.pinned (.plain (OpenSpec.ofChange ringNilSpec)) ringNilCard

/-- THE SECOND FORM's CARD OF 'arraslaw04.NttBack'. -/
def nttBackUptoCard : Claim7 := { stood := { row := nttBackUptoRow, standIns := [], harness := (true, "0de1d000c91c2c6834e61baedc8c070704cade7dcf2c57c3c9bb1b5930463072"), looks := false }, kinds := [], alts := [], laidByText := true, laidKinds := [.data], laidTests := true, laidLooks := .later }
def NttBackUptoCardSaid : Prop := Claim7.holds Tryd.pinned (.plain (OpenSpec.upto nttBackSpec)) nttBackUptoCard

/-- THE SECOND FORM's CARD OF 'arraslaw04.NttValues'. -/
def nttValuesUptoCard : Claim7 := { stood := { row := nttValuesUptoRow, standIns := [], harness := (true, "0de1d000c91c2c6834e61baedc8c070704cade7dcf2c57c3c9bb1b5930463072"), looks := false }, kinds := [], alts := [], laidByText := true, laidKinds := [.data], laidTests := true, laidLooks := .later }
def NttValuesUptoCardSaid : Prop := Claim7.holds Tryd.pinned (.plain (OpenSpec.upto nttValuesSpec)) nttValuesUptoCard

/-- THE SECOND FORM's CARD OF 'arraslaw04.NttNil'. -/
def nttNilUptoCard : Claim7 := { stood := { row := nttNilUptoRow, standIns := [], harness := (true, "0de1d000c91c2c6834e61baedc8c070704cade7dcf2c57c3c9bb1b5930463072"), looks := false }, kinds := [], alts := [], laidByText := true, laidKinds := [.data], laidTests := true, laidLooks := .later }
def NttNilUptoCardSaid : Prop := Claim7.holds Tryd.pinned (.plain (OpenSpec.upto nttNilSpec)) nttNilUptoCard

/-- THE SECOND FORM's CARD OF 'arraslaw04.NttShifts'. -/
def nttShiftsUptoCard : Claim7 := { stood := { row := nttShiftsUptoRow, standIns := [], harness := (true, "0de1d000c91c2c6834e61baedc8c070704cade7dcf2c57c3c9bb1b5930463072"), looks := false }, kinds := [], alts := [], laidByText := true, laidKinds := [.data], laidTests := true, laidLooks := .later }
def NttShiftsUptoCardSaid : Prop := Claim7.holds Tryd.pinned (.plain (OpenSpec.upto nttShiftsSpec)) nttShiftsUptoCard

/-- THE SECOND FORM's CARD OF 'arraslaw09.BatchBack'. -/
def batchBackUptoCard : Claim7 := { stood := { row := batchBackUptoRow, standIns := [], harness := (true, "0de1d000c91c2c6834e61baedc8c070704cade7dcf2c57c3c9bb1b5930463072"), looks := false }, kinds := [], alts := [], laidByText := true, laidKinds := [.data], laidTests := true, laidLooks := .later }
def BatchBackUptoCardSaid : Prop := Claim7.holds Tryd.pinned (.plain (OpenSpec.upto batchBackSpec)) batchBackUptoCard

/-- THE SECOND FORM's CARD OF 'arraslaw09.BatchGoes'. -/
def batchGoesUptoCard : Claim7 := { stood := { row := batchGoesUptoRow, standIns := [], harness := (true, "0de1d000c91c2c6834e61baedc8c070704cade7dcf2c57c3c9bb1b5930463072"), looks := false }, kinds := [], alts := [], laidByText := true, laidKinds := [.data], laidTests := true, laidLooks := .later }
def BatchGoesUptoCardSaid : Prop := Claim7.holds Tryd.pinned (.plain (OpenSpec.upto batchGoesSpec)) batchGoesUptoCard

/-- THE SECOND FORM's CARD OF 'arraslaw09.BatchNil'. -/
def batchNilUptoCard : Claim7 := { stood := { row := batchNilUptoRow, standIns := [], harness := (true, "0de1d000c91c2c6834e61baedc8c070704cade7dcf2c57c3c9bb1b5930463072"), looks := false }, kinds := [], alts := [], laidByText := true, laidKinds := [.data], laidTests := true, laidLooks := .later }
def BatchNilUptoCardSaid : Prop := Claim7.holds Tryd.pinned (.plain (OpenSpec.upto batchNilSpec)) batchNilUptoCard

/-- THE SECOND FORM's CARD OF 'arraslaw05.RingNil'. -/
def ringNilUptoCard : Claim7 := { stood := { row := ringNilUptoRow, standIns := [], harness := (true, "0de1d000c91c2c6834e61baedc8c070704cade7dcf2c57c3c9bb1b5930463072"), looks := false }, kinds := [], alts := [], laidByText := true, laidKinds := [.data], laidTests := true, laidLooks := .later }
def RingNilUptoCardSaid : Prop := Claim7.holds Tryd.pinned (.plain (OpenSpec.upto ringNilSpec)) ringNilUptoCard
end Rows
end Go.Proofs.YtfgfmempmkjlnaaDoor

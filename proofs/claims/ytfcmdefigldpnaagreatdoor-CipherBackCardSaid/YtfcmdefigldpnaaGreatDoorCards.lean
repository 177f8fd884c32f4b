/-
  DERIVED. GIVEN WITH THE SEED: THE CARDS: each row of YtfcmdefigldpnaaGreatDoorRows.lean that lists a variable, with what it lists TIED to the program's text (the seventh form; the later family's looks); each row that meets fmt, with fmt's text TOLD by the authors' own Lean function (tested against real Go, not proved from fmt's source: count such statements apart). THE CARD IS WHAT COUNTS. Prove the row's statement (the work); the ties are given (YtfcmdefigldpnaaGreatDoorTie.lean); close each card by the builder's one call (the guide's Derived/Test/ToyasCard.lean, 'card_holds'). Laid BY PROGRAM, IN A SANDBOX (cutbox-door.mjs). By AI agents, Wed Nov 11 2026. No macro, syntax, notation, axiom, sorry.
-/
import Derived.Test.YtfcmdefigldpnaaGreatDoorRows
import GoSem.ClaimSeven
namespace Go.Proofs.YtfcmdefigldpnaaGreatDoor
namespace Rows

/-- THE TIED CARD OF 'arraslaw11.KeysAll'. -/
def keysAllCard : Claim7 := { stood := { row := keysAllRow, standIns := [], harness := (true, "69ad03df2ae7f0179c8e6c81f532778360fbcdfffb072468183f1ea7d2bad3d2"), looks := false }, kinds := [], alts := [], laidByText := true, laidKinds := [.data], laidTests := true, laidLooks := .later }
def KeysAllCardSaid : Prop := Claim7.holds Tryz.pinned (.plain (OpenSpec.ofChange keysAllSpec)) keysAllCard

/-- THE TIED CARD OF 'arraslaw12.CipherTwo'. -/
def cipherTwoCard : Claim7 := { stood := { row := cipherTwoRow, standIns := [], harness := (true, "69ad03df2ae7f0179c8e6c81f532778360fbcdfffb072468183f1ea7d2bad3d2"), looks := false }, kinds := [], alts := [], laidByText := true, laidKinds := [.data], laidTests := true, laidLooks := .later }
def CipherTwoCardSaid : Prop := Claim7.holds Tryz.pinned (.plain (OpenSpec.ofChange cipherTwoSpec)) cipherTwoCard

/-- THE TIED CARD OF 'arraslaw12.CipherBack'. -/
def cipherBackCard : Claim7 := { stood := { row := cipherBackRow, standIns := [], harness := (true, "69ad03df2ae7f0179c8e6c81f532778360fbcdfffb072468183f1ea7d2bad3d2"), looks := false }, kinds := [], alts := [], laidByText := true, laidKinds := [.data], laidTests := true, laidLooks := .later }
def CipherBackCardSaid : Prop := Claim7.holds Tryz.pinned (.plain (OpenSpec.ofChange cipherBackSpec)) cipherBackCard

/-- THE SECOND FORM's CARD OF 'arraslaw11.KeysAll'. -/
def keysAllUptoCard : Claim7 := { stood := { row := keysAllUptoRow, standIns := [], harness := (true, "69ad03df2ae7f0179c8e6c81f532778360fbcdfffb072468183f1ea7d2bad3d2"), looks := false }, kinds := [], alts := [], laidByText := true, laidKinds := [.data], laidTests := true, laidLooks := .later }
def KeysAllUptoCardSaid : Prop := Claim7.holds Tryz.pinned (.plain (OpenSpec.upto keysAllSpec)) keysAllUptoCard

/-- THE SECOND FORM's CARD OF 'arraslaw12.CipherTwo'. -/
def cipherTwoUptoCard : Claim7 := { stood := { row := cipherTwoUptoRow, standIns := [], harness := (true, "69ad03df2ae7f0179c8e6c81f532778360fbcdfffb072468183f1ea7d2bad3d2"), looks := false }, kinds := [], alts := [], laidByText := true, laidKinds := [.data], laidTests := true, laidLooks := .later }
def CipherTwoUptoCardSaid : Prop := Claim7.holds Tryz.pinned (.plain (OpenSpec.upto cipherTwoSpec)) cipherTwoUptoCard

/-- THE SECOND FORM's CARD OF 'arraslaw12.CipherBack'. -/
def cipherBackUptoCard : Claim7 := { stood := { row := cipherBackUptoRow, standIns := [], harness := (true, "69ad03df2ae7f0179c8e6c81f532778360fbcdfffb072468183f1ea7d2bad3d2"), looks := false }, kinds := [], alts := [], laidByText := true, laidKinds := [.data], laidTests := true, laidLooks := .later }
def CipherBackUptoCardSaid : Prop := Claim7.holds Tryz.pinned (.plain (OpenSpec.upto cipherBackSpec)) cipherBackUptoCard
end Rows
end Go.Proofs.YtfcmdefigldpnaaGreatDoor

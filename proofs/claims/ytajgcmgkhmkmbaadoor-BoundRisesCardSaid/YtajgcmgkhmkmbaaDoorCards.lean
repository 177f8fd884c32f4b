/-
  DERIVED. GIVEN WITH THE SEED: THE CARDS: each row of YtajgcmgkhmkmbaaDoorRows.lean that lists a variable, with what it lists TIED to the program's text (the seventh form; the later family's looks); each row that meets fmt, with fmt's text TOLD by the authors' own Lean function (tested against real Go, not proved from fmt's source: count such statements apart). THE CARD IS WHAT COUNTS. Prove the row's statement (the work); the ties are given (YtajgcmgkhmkmbaaDoorTie.lean); close each card by the builder's one call (the guide's Derived/Test/ToyasCard.lean, 'card_holds'). Laid BY PROGRAM, IN A SANDBOX (cutbox-door.mjs). By AI agents, Wed Nov 11 2026. No macro, syntax, notation, axiom, sorry.
-/
import Derived.Test.YtajgcmgkhmkmbaaDoorRows
import GoSem.ClaimSeven
namespace Go.Proofs.YtajgcmgkhmkmbaaDoor
namespace Rows

/-- THE TIED CARD OF 'arraslaw06.CrtGoes'. -/
def crtGoesCard : Claim7 := { stood := { row := crtGoesRow, standIns := [], harness := (true, "00162d502fbcb816abf3ea61a3050e64e4a3b0859be511e5e1623b44a905c10a"), looks := false }, kinds := [], alts := [], laidByText := true, laidKinds := [.data], laidTests := true, laidLooks := .later }
def CrtGoesCardSaid : Prop := Claim7.holds Tryd.pinned (.plain (OpenSpec.ofChange crtGoesSpec)) crtGoesCard

/-- THE TIED CARD OF 'arraslaw08.ParamSteps'. -/
def paramStepsCard : Claim7 := { stood := { row := paramStepsRow, standIns := [], harness := (true, "00162d502fbcb816abf3ea61a3050e64e4a3b0859be511e5e1623b44a905c10a"), looks := false }, kinds := [], alts := [], laidByText := true, laidKinds := [.data], laidTests := true, laidLooks := .later }
def ParamStepsCardSaid : Prop := Claim7.holds Tryd.pinned (.plain (OpenSpec.ofChange paramStepsSpec)) paramStepsCard

/-- THE TIED CARD OF 'arraslaw08.ParamRows'. -/
def paramRowsCard : Claim7 := { stood := { row := paramRowsRow, standIns := [], harness := (true, "00162d502fbcb816abf3ea61a3050e64e4a3b0859be511e5e1623b44a905c10a"), looks := false }, kinds := [], alts := [], laidByText := true, laidKinds := [.data], laidTests := true, laidLooks := .later }
def ParamRowsCardSaid : Prop := Claim7.holds Tryd.pinned (.plain (OpenSpec.ofChange paramRowsSpec)) paramRowsCard

/-- THE TIED CARD OF 'arraslaw08.ParamSame'. -/
def paramSameCard : Claim7 := { stood := { row := paramSameRow, standIns := [], harness := (true, "00162d502fbcb816abf3ea61a3050e64e4a3b0859be511e5e1623b44a905c10a"), looks := false }, kinds := [], alts := [], laidByText := true, laidKinds := [.data], laidTests := true, laidLooks := .later }
def ParamSameCardSaid : Prop := Claim7.holds Tryd.pinned (.plain (OpenSpec.ofChange paramSameSpec)) paramSameCard

/-- THE TIED CARD OF 'arraslaw14.BoundRises'. -/
def boundRisesCard : Claim7 := { stood := { row := boundRisesRow, standIns := [], harness := (true, "00162d502fbcb816abf3ea61a3050e64e4a3b0859be511e5e1623b44a905c10a"), looks := false }, kinds := [], alts := [], laidByText := true, laidKinds := [.data], laidTests := true, laidLooks := .later }
def BoundRisesCardSaid : Prop := Claim7.holds Tryd.pinned (.plain (OpenSpec.ofChange boundRisesSpec)) boundRisesCard

/-- THE SECOND FORM's CARD OF 'arraslaw06.CrtGoes'. -/
def crtGoesUptoCard : Claim7 := { stood := { row := crtGoesUptoRow, standIns := [], harness := (true, "00162d502fbcb816abf3ea61a3050e64e4a3b0859be511e5e1623b44a905c10a"), looks := false }, kinds := [], alts := [], laidByText := true, laidKinds := [.data], laidTests := true, laidLooks := .later }
def CrtGoesUptoCardSaid : Prop := Claim7.holds Tryd.pinned (.plain (OpenSpec.upto crtGoesSpec)) crtGoesUptoCard

/-- THE SECOND FORM's CARD OF 'arraslaw08.ParamSteps'. -/
def paramStepsUptoCard : Claim7 := { stood := { row := paramStepsUptoRow, standIns := [], harness := (true, "00162d502fbcb816abf3ea61a3050e64e4a3b0859be511e5e1623b44a905c10a"), looks := false }, kinds := [], alts := [], laidByText := true, laidKinds := [.data], laidTests := true, laidLooks := .later }
def ParamStepsUptoCardSaid : Prop := Claim7.holds Tryd.pinned (.plain (OpenSpec.upto paramStepsSpec)) paramStepsUptoCard

/-- THE SECOND FORM's CARD OF 'arraslaw08.ParamRows'. -/
def paramRowsUptoCard : Claim7 := { stood := { row := paramRowsUptoRow, standIns := [], harness := (true, "00162d502fbcb816abf3ea61a3050e64e4a3b0859be511e5e1623b44a905c10a"), looks := false }, kinds := [], alts := [], laidByText := true, laidKinds := [.data], laidTests := true, laidLooks := .later }
def ParamRowsUptoCardSaid : Prop := Claim7.holds Tryd.pinned (.plain (OpenSpec.upto paramRowsSpec)) paramRowsUptoCard

/-- THE SECOND FORM's CARD OF 'arraslaw08.ParamSame'. -/
def paramSameUptoCard : Claim7 := { stood := { row := paramSameUptoRow, standIns := [], harness := (true, "00162d502fbcb816abf3ea61a3050e64e4a3b0859be511e5e1623b44a905c10a"), looks := false }, kinds := [], alts := [], laidByText := true, laidKinds := [.data], laidTests := true, laidLooks := .later }
def ParamSameUptoCardSaid : Prop := Claim7.holds Tryd.pinned (.plain (OpenSpec.upto paramSameSpec)) paramSameUptoCard

/-- THE SECOND FORM's CARD OF 'arraslaw14.BoundRises'. -/
def boundRisesUptoCard : Claim7 := { stood := { row := boundRisesUptoRow, standIns := [], harness := (true, "00162d502fbcb816abf3ea61a3050e64e4a3b0859be511e5e1623b44a905c10a"), looks := false }, kinds := [], alts := [], laidByText := true, laidKinds := [.data], laidTests := true, laidLooks := .later }
def BoundRisesUptoCardSaid : Prop := Claim7.holds Tryd.pinned (.plain (OpenSpec.upto boundRisesSpec)) boundRisesUptoCard
end Rows
end Go.Proofs.YtajgcmgkhmkmbaaDoor

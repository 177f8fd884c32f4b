/-
  DERIVED. GIVEN WITH THE SEED: THE CARDS: each row of YtbhhagdnbkkjpaaDoorRows.lean that lists a variable, with what it lists TIED to the program's text (the seventh form; the later family's looks); each row that meets fmt, with fmt's text TOLD by the authors' own Lean function (tested against real Go, not proved from fmt's source: count such statements apart). THE CARD IS WHAT COUNTS. Prove the row's statement (the work); the ties are given (YtbhhagdnbkkjpaaDoorTie.lean); close each card by the builder's one call (the guide's Derived/Test/ToyasCard.lean, 'card_holds'). Laid BY PROGRAM, IN A SANDBOX (cutbox-door.mjs). By AI agents, Wed Nov 11 2026. No macro, syntax, notation, axiom, sorry.
-/
import Derived.Test.YtbhhagdnbkkjpaaDoorRows
import GoSem.ClaimSeven
namespace Go.Proofs.YtbhhagdnbkkjpaaDoor
namespace Rows

/-- THE TIED CARD OF 'arraslaw03.PrimeFinds'. -/
def primeFindsCard : Claim7 := { stood := { row := primeFindsRow, standIns := [], harness := (true, "5326cc7e8c4a0461315f210466cba436195057d3c17d83a570636924b3a4212a"), looks := false }, kinds := [], alts := [], laidByText := true, laidKinds := [.data], laidTests := true, laidLooks := .later }
def PrimeFindsCardSaid : Prop := Claim7.holds Tryd.pinned (.plain (OpenSpec.ofChange primeFindsSpec)) primeFindsCard

/-- THE TIED CARD OF 'arraslaw03.PrimeFriendly'. -/
def primeFriendlyCard : Claim7 := { stood := { row := primeFriendlyRow, standIns := [], harness := (true, "5326cc7e8c4a0461315f210466cba436195057d3c17d83a570636924b3a4212a"), looks := false }, kinds := [], alts := [], laidByText := true, laidKinds := [.data], laidTests := true, laidLooks := .later }
def PrimeFriendlyCardSaid : Prop := Claim7.holds Tryd.pinned (.plain (OpenSpec.ofChange primeFriendlySpec)) primeFriendlyCard

/-- THE SECOND FORM's CARD OF 'arraslaw03.PrimeFinds'. -/
def primeFindsUptoCard : Claim7 := { stood := { row := primeFindsUptoRow, standIns := [], harness := (true, "5326cc7e8c4a0461315f210466cba436195057d3c17d83a570636924b3a4212a"), looks := false }, kinds := [], alts := [], laidByText := true, laidKinds := [.data], laidTests := true, laidLooks := .later }
def PrimeFindsUptoCardSaid : Prop := Claim7.holds Tryd.pinned (.plain (OpenSpec.upto primeFindsSpec)) primeFindsUptoCard

/-- THE SECOND FORM's CARD OF 'arraslaw03.PrimeFriendly'. -/
def primeFriendlyUptoCard : Claim7 := { stood := { row := primeFriendlyUptoRow, standIns := [], harness := (true, "5326cc7e8c4a0461315f210466cba436195057d3c17d83a570636924b3a4212a"), looks := false }, kinds := [], alts := [], laidByText := true, laidKinds := [.data], laidTests := true, laidLooks := .later }
def PrimeFriendlyUptoCardSaid : Prop := Claim7.holds Tryd.pinned (.plain (OpenSpec.upto primeFriendlySpec)) primeFriendlyUptoCard
end Rows
end Go.Proofs.YtbhhagdnbkkjpaaDoor

/-
  DERIVED. GIVEN WITH THE SEED: THE CARDS: each row of YtidgenjpfccfgaaDoorRows.lean that lists a variable, with what it lists TIED to the program's text (the seventh form; the later family's looks); each row that meets fmt, with fmt's text TOLD by the authors' own Lean function (tested against real Go, not proved from fmt's source: count such statements apart). THE CARD IS WHAT COUNTS. Prove the row's statement (the work); the ties are given (YtidgenjpfccfgaaDoorTie.lean); close each card by the builder's one call (the guide's Derived/Test/ToyasCard.lean, 'card_holds'). Laid BY PROGRAM, IN A SANDBOX (cutbox-door.mjs). By AI agents, Wed Nov 11 2026. No macro, syntax, notation, axiom, sorry.
-/
import Derived.Test.YtidgenjpfccfgaaDoorRows
import GoSem.ClaimSeven
namespace Go.Proofs.YtidgenjpfccfgaaDoor
namespace Rows

/-- THE TIED CARD OF 'erratumlaw01.ShiftAsks'. -/
def shiftAsksCard : Claim7 := { stood := { row := shiftAsksRow, standIns := [], harness := (true, "9e50f35ef345bceb7fac1dc0ab65207250d21cf323669f9ae2b479a3a1b52a63"), looks := false }, kinds := [], alts := [], laidByText := true, laidKinds := [.data, .data], laidTests := true, laidLooks := .later }
def ShiftAsksCardSaid : Prop := Claim7.holds Tryd.pinned (.plain (OpenSpec.ofChange shiftAsksSpec)) shiftAsksCard

/-- THE TIED CARD OF 'erratumlaw01.ShiftRing'. -/
def shiftRingCard : Claim7 := { stood := { row := shiftRingRow, standIns := [], harness := (true, "9e50f35ef345bceb7fac1dc0ab65207250d21cf323669f9ae2b479a3a1b52a63"), looks := false }, kinds := [], alts := [], laidByText := true, laidKinds := [.data, .data], laidTests := true, laidLooks := .later }
def ShiftRingCardSaid : Prop := Claim7.holds Tryd.pinned (.plain (OpenSpec.ofChange shiftRingSpec)) shiftRingCard

/-- THE TIED CARD OF 'erratumlaw01.ShiftBack'. -/
def shiftBackCard : Claim7 := { stood := { row := shiftBackRow, standIns := [], harness := (true, "9e50f35ef345bceb7fac1dc0ab65207250d21cf323669f9ae2b479a3a1b52a63"), looks := false }, kinds := [], alts := [], laidByText := true, laidKinds := [.data, .data], laidTests := true, laidLooks := .later }
def ShiftBackCardSaid : Prop := Claim7.holds Tryd.pinned (.plain (OpenSpec.ofChange shiftBackSpec)) shiftBackCard

/-- THE TIED CARD OF 'erratumlaw01.ShiftPowers'. -/
def shiftPowersCard : Claim7 := { stood := { row := shiftPowersRow, standIns := [], harness := (true, "9e50f35ef345bceb7fac1dc0ab65207250d21cf323669f9ae2b479a3a1b52a63"), looks := false }, kinds := [], alts := [], laidByText := true, laidKinds := [.data, .data], laidTests := true, laidLooks := .later }
def ShiftPowersCardSaid : Prop := Claim7.holds Tryd.pinned (.plain (OpenSpec.ofChange shiftPowersSpec)) shiftPowersCard

/-- THE TIED CARD OF 'erratumlaw01.ShiftWide'. -/
def shiftWideCard : Claim7 := { stood := { row := shiftWideRow, standIns := [], harness := (true, "9e50f35ef345bceb7fac1dc0ab65207250d21cf323669f9ae2b479a3a1b52a63"), looks := false }, kinds := [], alts := [], laidByText := true, laidKinds := [.data, .data], laidTests := true, laidLooks := .later }
def ShiftWideCardSaid : Prop := Claim7.holds Tryd.pinned (.plain (OpenSpec.ofChange shiftWideSpec)) shiftWideCard

/-- THE TIED CARD OF 'erratumlaw01.ShiftAll'. -/
def shiftAllCard : Claim7 := { stood := { row := shiftAllRow, standIns := [], harness := (true, "9e50f35ef345bceb7fac1dc0ab65207250d21cf323669f9ae2b479a3a1b52a63"), looks := false }, kinds := [], alts := [], laidByText := true, laidKinds := [.data, .data], laidTests := true, laidLooks := .later }
def ShiftAllCardSaid : Prop := Claim7.holds Tryd.pinned (.plain (OpenSpec.ofChange shiftAllSpec)) shiftAllCard

/-- THE SECOND FORM's CARD OF 'erratumlaw01.ShiftAsks'. -/
def shiftAsksUptoCard : Claim7 := { stood := { row := shiftAsksUptoRow, standIns := [], harness := (true, "9e50f35ef345bceb7fac1dc0ab65207250d21cf323669f9ae2b479a3a1b52a63"), looks := false }, kinds := [], alts := [], laidByText := true, laidKinds := [.data, .data], laidTests := true, laidLooks := .later }
def ShiftAsksUptoCardSaid : Prop := Claim7.holds Tryd.pinned (.plain (OpenSpec.upto shiftAsksSpec)) shiftAsksUptoCard

/-- THE SECOND FORM's CARD OF 'erratumlaw01.ShiftRing'. -/
def shiftRingUptoCard : Claim7 := { stood := { row := shiftRingUptoRow, standIns := [], harness := (true, "9e50f35ef345bceb7fac1dc0ab65207250d21cf323669f9ae2b479a3a1b52a63"), looks := false }, kinds := [], alts := [], laidByText := true, laidKinds := [.data, .data], laidTests := true, laidLooks := .later }
def ShiftRingUptoCardSaid : Prop := Claim7.holds Tryd.pinned (.plain (OpenSpec.upto shiftRingSpec)) shiftRingUptoCard

/-- THE SECOND FORM's CARD OF 'erratumlaw01.ShiftBack'. -/
def shiftBackUptoCard : Claim7 := { stood := { row := shiftBackUptoRow, standIns := [], harness := (true, "9e50f35ef345bceb7fac1dc0ab65207250d21cf323669f9ae2b479a3a1b52a63"), looks := false }, kinds := [], alts := [], laidByText := true, laidKinds := [.data, .data], laidTests := true, laidLooks := .later }
def ShiftBackUptoCardSaid : Prop := Claim7.holds Tryd.pinned (.plain (OpenSpec.upto shiftBackSpec)) shiftBackUptoCard

/-- THE SECOND FORM's CARD OF 'erratumlaw01.ShiftPowers'. -/
def shiftPowersUptoCard : Claim7 := { stood := { row := shiftPowersUptoRow, standIns := [], harness := (true, "9e50f35ef345bceb7fac1dc0ab65207250d21cf323669f9ae2b479a3a1b52a63"), looks := false }, kinds := [], alts := [], laidByText := true, laidKinds := [.data, .data], laidTests := true, laidLooks := .later }
def ShiftPowersUptoCardSaid : Prop := Claim7.holds Tryd.pinned (.plain (OpenSpec.upto shiftPowersSpec)) shiftPowersUptoCard

/-- THE SECOND FORM's CARD OF 'erratumlaw01.ShiftWide'. -/
def shiftWideUptoCard : Claim7 := { stood := { row := shiftWideUptoRow, standIns := [], harness := (true, "9e50f35ef345bceb7fac1dc0ab65207250d21cf323669f9ae2b479a3a1b52a63"), looks := false }, kinds := [], alts := [], laidByText := true, laidKinds := [.data, .data], laidTests := true, laidLooks := .later }
def ShiftWideUptoCardSaid : Prop := Claim7.holds Tryd.pinned (.plain (OpenSpec.upto shiftWideSpec)) shiftWideUptoCard

/-- THE SECOND FORM's CARD OF 'erratumlaw01.ShiftAll'. -/
def shiftAllUptoCard : Claim7 := { stood := { row := shiftAllUptoRow, standIns := [], harness := (true, "9e50f35ef345bceb7fac1dc0ab65207250d21cf323669f9ae2b479a3a1b52a63"), looks := false }, kinds := [], alts := [], laidByText := true, laidKinds := [.data, .data], laidTests := true, laidLooks := .later }
def ShiftAllUptoCardSaid : Prop := Claim7.holds Tryd.pinned (.plain (OpenSpec.upto shiftAllSpec)) shiftAllUptoCard
end Rows
end Go.Proofs.YtidgenjpfccfgaaDoor

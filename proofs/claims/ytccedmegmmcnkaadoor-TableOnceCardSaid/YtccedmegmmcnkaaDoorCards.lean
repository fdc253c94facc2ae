/-
  DERIVED. GIVEN WITH THE SEED: THE CARDS: each row of YtccedmegmmcnkaaDoorRows.lean that lists a variable, with what it lists TIED to the program's text (the seventh form; the later family's looks); each row that meets fmt, with fmt's text TOLD by the authors' own Lean function (tested against real Go, not proved from fmt's source: count such statements apart). THE CARD IS WHAT COUNTS. Prove the row's statement (the work); the ties are given (YtccedmegmmcnkaaDoorTie.lean); close each card by the builder's one call (the guide's Derived/Test/ToyasCard.lean, 'card_holds'). Laid BY PROGRAM, IN A SANDBOX (cutbox-door.mjs). By AI agents, Wed Nov 11 2026. No macro, syntax, notation, axiom, sorry.
-/
import Derived.Test.YtccedmegmmcnkaaDoorRows
import GoSem.ClaimSeven
namespace Go.Proofs.YtccedmegmmcnkaaDoor
namespace Rows

/-- THE TIED CARD OF 'erratumlaw02.TableLogs'. -/
def tableLogsCard : Claim7 := { stood := { row := tableLogsRow, standIns := [], harness := (true, "a1fc731a40fe0c17a25bb23a1f52e4d2e8bc0e9df2b46f46c8535a4f8916d79d"), looks := false }, kinds := [], alts := [], laidByText := true, laidKinds := [.data, .data], laidTests := true, laidLooks := .later }
def TableLogsCardSaid : Prop := Claim7.holds Tryd.pinned (.plain (OpenSpec.ofChange tableLogsSpec)) tableLogsCard

/-- THE TIED CARD OF 'erratumlaw02.TableTwo'. -/
def tableTwoCard : Claim7 := { stood := { row := tableTwoRow, standIns := [], harness := (true, "a1fc731a40fe0c17a25bb23a1f52e4d2e8bc0e9df2b46f46c8535a4f8916d79d"), looks := false }, kinds := [], alts := [], laidByText := true, laidKinds := [.data, .data], laidTests := true, laidLooks := .later }
def TableTwoCardSaid : Prop := Claim7.holds Tryd.pinned (.plain (OpenSpec.ofChange tableTwoSpec)) tableTwoCard

/-- THE TIED CARD OF 'erratumlaw02.TableAsks'. -/
def tableAsksCard : Claim7 := { stood := { row := tableAsksRow, standIns := [], harness := (true, "a1fc731a40fe0c17a25bb23a1f52e4d2e8bc0e9df2b46f46c8535a4f8916d79d"), looks := false }, kinds := [], alts := [], laidByText := true, laidKinds := [.data, .data], laidTests := true, laidLooks := .later }
def TableAsksCardSaid : Prop := Claim7.holds Tryd.pinned (.plain (OpenSpec.ofChange tableAsksSpec)) tableAsksCard

/-- THE TIED CARD OF 'erratumlaw02.TableOnce'. -/
def tableOnceCard : Claim7 := { stood := { row := tableOnceRow, standIns := [], harness := (true, "a1fc731a40fe0c17a25bb23a1f52e4d2e8bc0e9df2b46f46c8535a4f8916d79d"), looks := false }, kinds := [], alts := [], laidByText := true, laidKinds := [.data, .data], laidTests := true, laidLooks := .later }
def TableOnceCardSaid : Prop := Claim7.holds Tryd.pinned (.plain (OpenSpec.ofChange tableOnceSpec)) tableOnceCard

/-- THE TIED CARD OF 'erratumlaw02.TableNone'. -/
def tableNoneCard : Claim7 := { stood := { row := tableNoneRow, standIns := [], harness := (true, "a1fc731a40fe0c17a25bb23a1f52e4d2e8bc0e9df2b46f46c8535a4f8916d79d"), looks := false }, kinds := [], alts := [], laidByText := true, laidKinds := [.data, .data], laidTests := true, laidLooks := .later }
def TableNoneCardSaid : Prop := Claim7.holds Tryd.pinned (.plain (OpenSpec.ofChange tableNoneSpec)) tableNoneCard

/-- THE SECOND FORM's CARD OF 'erratumlaw02.TableLogs'. -/
def tableLogsUptoCard : Claim7 := { stood := { row := tableLogsUptoRow, standIns := [], harness := (true, "a1fc731a40fe0c17a25bb23a1f52e4d2e8bc0e9df2b46f46c8535a4f8916d79d"), looks := false }, kinds := [], alts := [], laidByText := true, laidKinds := [.data, .data], laidTests := true, laidLooks := .later }
def TableLogsUptoCardSaid : Prop := Claim7.holds Tryd.pinned (.plain (OpenSpec.upto tableLogsSpec)) tableLogsUptoCard

/-- THE SECOND FORM's CARD OF 'erratumlaw02.TableTwo'. -/
def tableTwoUptoCard : Claim7 := { stood := { row := tableTwoUptoRow, standIns := [], harness := (true, "a1fc731a40fe0c17a25bb23a1f52e4d2e8bc0e9df2b46f46c8535a4f8916d79d"), looks := false }, kinds := [], alts := [], laidByText := true, laidKinds := [.data, .data], laidTests := true, laidLooks := .later }
def TableTwoUptoCardSaid : Prop := Claim7.holds Tryd.pinned (.plain (OpenSpec.upto tableTwoSpec)) tableTwoUptoCard

/-- THE SECOND FORM's CARD OF 'erratumlaw02.TableAsks'. -/
def tableAsksUptoCard : Claim7 := { stood := { row := tableAsksUptoRow, standIns := [], harness := (true, "a1fc731a40fe0c17a25bb23a1f52e4d2e8bc0e9df2b46f46c8535a4f8916d79d"), looks := false }, kinds := [], alts := [], laidByText := true, laidKinds := [.data, .data], laidTests := true, laidLooks := .later }
def TableAsksUptoCardSaid : Prop := Claim7.holds Tryd.pinned (.plain (OpenSpec.upto tableAsksSpec)) tableAsksUptoCard

/-- THE SECOND FORM's CARD OF 'erratumlaw02.TableOnce'. -/
def tableOnceUptoCard : Claim7 := { stood := { row := tableOnceUptoRow, standIns := [], harness := (true, "a1fc731a40fe0c17a25bb23a1f52e4d2e8bc0e9df2b46f46c8535a4f8916d79d"), looks := false }, kinds := [], alts := [], laidByText := true, laidKinds := [.data, .data], laidTests := true, laidLooks := .later }
def TableOnceUptoCardSaid : Prop := Claim7.holds Tryd.pinned (.plain (OpenSpec.upto tableOnceSpec)) tableOnceUptoCard

/-- THE SECOND FORM's CARD OF 'erratumlaw02.TableNone'. -/
def tableNoneUptoCard : Claim7 := { stood := { row := tableNoneUptoRow, standIns := [], harness := (true, "a1fc731a40fe0c17a25bb23a1f52e4d2e8bc0e9df2b46f46c8535a4f8916d79d"), looks := false }, kinds := [], alts := [], laidByText := true, laidKinds := [.data, .data], laidTests := true, laidLooks := .later }
def TableNoneUptoCardSaid : Prop := Claim7.holds Tryd.pinned (.plain (OpenSpec.upto tableNoneSpec)) tableNoneUptoCard
end Rows
end Go.Proofs.YtccedmegmmcnkaaDoor

/-
  No cell of these rows narrows 'for every input' (looked for: loops, veiled, ifaces, maps, wideKeys, modest, calm, conditions, laid).
  DERIVED. THE GIVEN ROWS OF THIS SEAT. 6 by the template 'for every input the law returns true; each argument reads behind the call as it read before'; 0 by the template 'total and deterministic' (their statements: YtcbkdlhmemibpaaTotals.lean).
  GIVEN WITH THE SEED: the statements are not yours to turn. If you find one false, say at which input.
  Laid BY PROGRAM, IN A SANDBOX (cutbox-rows.mjs): the forced cells as the released guide's own fill.sh prints them over the translation a2f96ed27d283be5… (all of the seat's roots in one cut). By AI agents, Wed Nov 11 2026. No macro, syntax, notation, axiom, sorry.
-/
import Derived.Test.YtcbkdlhmemibpaaChecked
import GoSem.Claim
import GoSem.ClaimJoined
import GoSem.ClaimMapViews
import Derived.JoinedTies
import Derived.KernelRfl
namespace Go.Proofs.Ytcbkdlhmemibpaa
/- THE CELL 'sum', in the pinned program and in every row, IS THE sha256 OF THE DUMP (.gsa) THAT YtcbkdlhmemibpaaProg.lean LOADS. Nothing in Lean hashes anything: it is a label: what it is worth is what the hold of that sum in a sandbox is worth. -/
noncomputable def Try.pinned : Pinned := { name := "ytcbkdlhmemibpaa", sum := "a2f96ed27d283be5c409def05a49dbe2744ed0470de8196832226391db92cf53", checked := Try.checked }
namespace Rows
def none {H : Type} : Left H := { results := [], args := [] }

/-- 'erratumlaw03.LanesBack': WHATEVER THE INPUT: true; the input reads as it did. -/
def lanesBackSpec : ChangeSpec := { name := "lanesBack", fn := fun _ => fun
  | [d1, d2] => { results := [.lit (.bool true)], args := [d1, d2] }
  | _ => none }
def lanesBackRow : OpenClaim := { program := "ytcbkdlhmemibpaa", sum := "a2f96ed27d283be5c409def05a49dbe2744ed0470de8196832226391db92cf53", func := "erratum/erratumlaw03.LanesBack", spec := "lanesBack", apart := false }
def LanesBackSaid : Prop := lanesBackRow.holds Try.pinned (OpenSpec.ofChange lanesBackSpec)

/-- ITS FALSE NEIGHBOUR: 'it returns false'. Refute it at one input. -/
def lanesBackWrong : ChangeSpec := { name := "lanesBack", fn := fun _ => fun
  | [d1, d2] => { results := [.lit (.bool false)], args := [d1, d2] }
  | _ => none }
def LanesBackWrongFalsely : Prop := lanesBackRow.holds Try.pinned (OpenSpec.ofChange lanesBackWrong)

/-- 'erratumlaw03.LanesOwn': WHATEVER THE INPUT: true; the input reads as it did. -/
def lanesOwnSpec : ChangeSpec := { name := "lanesOwn", fn := fun _ => fun
  | [d1, d2, d3, d4] => { results := [.lit (.bool true)], args := [d1, d2, d3, d4] }
  | _ => none }
def lanesOwnRow : OpenClaim := { program := "ytcbkdlhmemibpaa", sum := "a2f96ed27d283be5c409def05a49dbe2744ed0470de8196832226391db92cf53", func := "erratum/erratumlaw03.LanesOwn", spec := "lanesOwn", apart := false }
def LanesOwnSaid : Prop := lanesOwnRow.holds Try.pinned (OpenSpec.ofChange lanesOwnSpec)

/-- ITS FALSE NEIGHBOUR: 'it returns false'. Refute it at one input. -/
def lanesOwnWrong : ChangeSpec := { name := "lanesOwn", fn := fun _ => fun
  | [d1, d2, d3, d4] => { results := [.lit (.bool false)], args := [d1, d2, d3, d4] }
  | _ => none }
def LanesOwnWrongFalsely : Prop := lanesOwnRow.holds Try.pinned (OpenSpec.ofChange lanesOwnWrong)

/-- 'erratumlaw03.LanesOrder': WHATEVER THE INPUT: true; the input reads as it did. -/
def lanesOrderSpec : ChangeSpec := { name := "lanesOrder", fn := fun _ => fun
  | [d] => { results := [.lit (.bool true)], args := [d] }
  | _ => none }
def lanesOrderRow : OpenClaim := { program := "ytcbkdlhmemibpaa", sum := "a2f96ed27d283be5c409def05a49dbe2744ed0470de8196832226391db92cf53", func := "erratum/erratumlaw03.LanesOrder", spec := "lanesOrder", apart := false }
def LanesOrderSaid : Prop := lanesOrderRow.holds Try.pinned (OpenSpec.ofChange lanesOrderSpec)

/-- ITS FALSE NEIGHBOUR: 'it returns false'. Refute it at one input. -/
def lanesOrderWrong : ChangeSpec := { name := "lanesOrder", fn := fun _ => fun
  | [d] => { results := [.lit (.bool false)], args := [d] }
  | _ => none }
def LanesOrderWrongFalsely : Prop := lanesOrderRow.holds Try.pinned (OpenSpec.ofChange lanesOrderWrong)

/-- 'erratumlaw03.LanesOne': WHATEVER THE INPUT: true; the input reads as it did. -/
def lanesOneSpec : ChangeSpec := { name := "lanesOne", fn := fun _ => fun
  | [d1, d2, d3] => { results := [.lit (.bool true)], args := [d1, d2, d3] }
  | _ => none }
def lanesOneRow : OpenClaim := { program := "ytcbkdlhmemibpaa", sum := "a2f96ed27d283be5c409def05a49dbe2744ed0470de8196832226391db92cf53", func := "erratum/erratumlaw03.LanesOne", spec := "lanesOne", apart := false }
def LanesOneSaid : Prop := lanesOneRow.holds Try.pinned (OpenSpec.ofChange lanesOneSpec)

/-- ITS FALSE NEIGHBOUR: 'it returns false'. Refute it at one input. -/
def lanesOneWrong : ChangeSpec := { name := "lanesOne", fn := fun _ => fun
  | [d1, d2, d3] => { results := [.lit (.bool false)], args := [d1, d2, d3] }
  | _ => none }
def LanesOneWrongFalsely : Prop := lanesOneRow.holds Try.pinned (OpenSpec.ofChange lanesOneWrong)

/-- 'erratumlaw03.LanesAsks': WHATEVER THE INPUT: true; the input reads as it did. -/
def lanesAsksSpec : ChangeSpec := { name := "lanesAsks", fn := fun _ => fun
  | [d1, d2, d3, d4, d5, d6] => { results := [.lit (.bool true)], args := [d1, d2, d3, d4, d5, d6] }
  | _ => none }
def lanesAsksRow : OpenClaim := { program := "ytcbkdlhmemibpaa", sum := "a2f96ed27d283be5c409def05a49dbe2744ed0470de8196832226391db92cf53", func := "erratum/erratumlaw03.LanesAsks", spec := "lanesAsks", apart := false }
def LanesAsksSaid : Prop := lanesAsksRow.holds Try.pinned (OpenSpec.ofChange lanesAsksSpec)

/-- ITS FALSE NEIGHBOUR: 'it returns false'. Refute it at one input. -/
def lanesAsksWrong : ChangeSpec := { name := "lanesAsks", fn := fun _ => fun
  | [d1, d2, d3, d4, d5, d6] => { results := [.lit (.bool false)], args := [d1, d2, d3, d4, d5, d6] }
  | _ => none }
def LanesAsksWrongFalsely : Prop := lanesAsksRow.holds Try.pinned (OpenSpec.ofChange lanesAsksWrong)

/-- 'erratumlaw03.LanesRing': WHATEVER THE INPUT: true; the input reads as it did. -/
def lanesRingSpec : ChangeSpec := { name := "lanesRing", fn := fun _ => fun
  | [d1, d2, d3, d4] => { results := [.lit (.bool true)], args := [d1, d2, d3, d4] }
  | _ => none }
def lanesRingRow : OpenClaim := { program := "ytcbkdlhmemibpaa", sum := "a2f96ed27d283be5c409def05a49dbe2744ed0470de8196832226391db92cf53", func := "erratum/erratumlaw03.LanesRing", spec := "lanesRing", apart := false }
def LanesRingSaid : Prop := lanesRingRow.holds Try.pinned (OpenSpec.ofChange lanesRingSpec)

/-- ITS FALSE NEIGHBOUR: 'it returns false'. Refute it at one input. -/
def lanesRingWrong : ChangeSpec := { name := "lanesRing", fn := fun _ => fun
  | [d1, d2, d3, d4] => { results := [.lit (.bool false)], args := [d1, d2, d3, d4] }
  | _ => none }
def LanesRingWrongFalsely : Prop := lanesRingRow.holds Try.pinned (OpenSpec.ofChange lanesRingWrong)

/- THE SECOND FORM. 'bulk': how many values and letters a reading holds, each counted each time it is reached (what is shared counts as often as it is met; a slice's spare places count too). A statement '..UptoSaid' is the law's where the arguments, and the package variables that the reading takes, are together of bulk at most 1048576: NARROWER than '..Said'. Prove '..Said' where nothing that the law and all that it calls make is longer than what came in: it says more and counts as full. Else prove '..UptoSaid'. A law counts once. -/
mutual
def uptoBulk {H : Type} : DataW H → Nat
  | .lit (.string bytes) => bytes.length + 1
  | .lit _ => 1
  | .nil => 1
  | .ptr d => uptoBulk d + 1
  | .slice elems spare => uptoBulkAll elems + uptoBulkAll spare + 1
  | .agg parts => uptoBulkAll parts + 1
  | .iface _ d => uptoBulk d + 1
  | .map entries => uptoBulkEntries entries + 1
  | .held _ => 1
def uptoBulkAll {H : Type} : List (DataW H) → Nat
  | [] => 0
  | d :: r => uptoBulk d + uptoBulkAll r
def uptoBulkEntries {H : Type} : List (Lit × DataW H) → Nat
  | [] => 0
  | x :: r => uptoBulkEntry x + uptoBulkEntries r
def uptoBulkEntry {H : Type} : Lit × DataW H → Nat
  | (.string bytes, d) => bytes.length + uptoBulk d + 1
  | (_, d) => uptoBulk d + 1
 end
def uptoSmall : (H : Type) → List (DataW H) → Bool := fun _ ds => decide (uptoBulkAll ds ≤ 1048576)
def OpenSpec.upto (s : _root_.Go.ChangeSpec) : _root_.Go.OpenSpec := { _root_.Go.OpenSpec.ofChange s with cond := some uptoSmall }

/-- 'erratumlaw03.LanesBack', WHERE WHAT IT READS IS OF BULK AT MOST 1048576: true; the input reads as it did. -/
def lanesBackUptoRow : OpenClaim := { program := "ytcbkdlhmemibpaa", sum := "a2f96ed27d283be5c409def05a49dbe2744ed0470de8196832226391db92cf53", func := "erratum/erratumlaw03.LanesBack", spec := "lanesBack", apart := false, narrowed := true }
def LanesBackUptoSaid : Prop := lanesBackUptoRow.holds Try.pinned (OpenSpec.upto lanesBackSpec)

/-- 'erratumlaw03.LanesOwn', WHERE WHAT IT READS IS OF BULK AT MOST 1048576: true; the input reads as it did. -/
def lanesOwnUptoRow : OpenClaim := { program := "ytcbkdlhmemibpaa", sum := "a2f96ed27d283be5c409def05a49dbe2744ed0470de8196832226391db92cf53", func := "erratum/erratumlaw03.LanesOwn", spec := "lanesOwn", apart := false, narrowed := true }
def LanesOwnUptoSaid : Prop := lanesOwnUptoRow.holds Try.pinned (OpenSpec.upto lanesOwnSpec)

/-- 'erratumlaw03.LanesOrder', WHERE WHAT IT READS IS OF BULK AT MOST 1048576: true; the input reads as it did. -/
def lanesOrderUptoRow : OpenClaim := { program := "ytcbkdlhmemibpaa", sum := "a2f96ed27d283be5c409def05a49dbe2744ed0470de8196832226391db92cf53", func := "erratum/erratumlaw03.LanesOrder", spec := "lanesOrder", apart := false, narrowed := true }
def LanesOrderUptoSaid : Prop := lanesOrderUptoRow.holds Try.pinned (OpenSpec.upto lanesOrderSpec)

/-- 'erratumlaw03.LanesOne', WHERE WHAT IT READS IS OF BULK AT MOST 1048576: true; the input reads as it did. -/
def lanesOneUptoRow : OpenClaim := { program := "ytcbkdlhmemibpaa", sum := "a2f96ed27d283be5c409def05a49dbe2744ed0470de8196832226391db92cf53", func := "erratum/erratumlaw03.LanesOne", spec := "lanesOne", apart := false, narrowed := true }
def LanesOneUptoSaid : Prop := lanesOneUptoRow.holds Try.pinned (OpenSpec.upto lanesOneSpec)

/-- 'erratumlaw03.LanesAsks', WHERE WHAT IT READS IS OF BULK AT MOST 1048576: true; the input reads as it did. -/
def lanesAsksUptoRow : OpenClaim := { program := "ytcbkdlhmemibpaa", sum := "a2f96ed27d283be5c409def05a49dbe2744ed0470de8196832226391db92cf53", func := "erratum/erratumlaw03.LanesAsks", spec := "lanesAsks", apart := false, narrowed := true }
def LanesAsksUptoSaid : Prop := lanesAsksUptoRow.holds Try.pinned (OpenSpec.upto lanesAsksSpec)

/-- 'erratumlaw03.LanesRing', WHERE WHAT IT READS IS OF BULK AT MOST 1048576: true; the input reads as it did. -/
def lanesRingUptoRow : OpenClaim := { program := "ytcbkdlhmemibpaa", sum := "a2f96ed27d283be5c409def05a49dbe2744ed0470de8196832226391db92cf53", func := "erratum/erratumlaw03.LanesRing", spec := "lanesRing", apart := false, narrowed := true }
def LanesRingUptoSaid : Prop := lanesRingUptoRow.holds Try.pinned (OpenSpec.upto lanesRingSpec)

end Rows
end Go.Proofs.Ytcbkdlhmemibpaa

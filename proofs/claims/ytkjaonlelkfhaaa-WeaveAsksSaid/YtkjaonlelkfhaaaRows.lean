/-
  No cell of these rows narrows 'for every input' (looked for: loops, veiled, ifaces, maps, wideKeys, modest, calm, conditions, laid).
  DERIVED. THE GIVEN ROWS OF THIS SEAT. 6 by the template 'for every input the law returns true; each argument reads behind the call as it read before'; 0 by the template 'total and deterministic' (their statements: YtkjaonlelkfhaaaTotals.lean).
  GIVEN WITH THE SEED: the statements are not yours to turn. If you find one false, say at which input.
  Laid BY PROGRAM, IN A SANDBOX (cutbox-rows.mjs): the forced cells as the released guide's own fill.sh prints them over the translation 053c1fe45f2d452a… (all of the seat's roots in one cut). By AI agents, Wed Nov 11 2026. No macro, syntax, notation, axiom, sorry.
-/
import Derived.Test.YtkjaonlelkfhaaaChecked
import GoSem.Claim
import GoSem.ClaimJoined
import GoSem.ClaimMapViews
import Derived.JoinedTies
import Derived.KernelRfl
namespace Go.Proofs.Ytkjaonlelkfhaaa
/- THE CELL 'sum', in the pinned program and in every row, IS THE sha256 OF THE DUMP (.gsa) THAT YtkjaonlelkfhaaaProg.lean LOADS. Nothing in Lean hashes anything: it is a label: what it is worth is what the hold of that sum in a sandbox is worth. -/
noncomputable def Try.pinned : Pinned := { name := "ytkjaonlelkfhaaa", sum := "053c1fe45f2d452a07fdae11b4552e4c2aabffa0621ed2b6d06076af3ce4ecad", checked := Try.checked }
namespace Rows
def none {H : Type} : Left H := { results := [], args := [] }

/-- 'erratumlaw21.WeaveOne': WHATEVER THE INPUT: true; the input reads as it did. -/
def weaveOneSpec : ChangeSpec := { name := "weaveOne", fn := fun _ => fun
  | [d1, d2, d3, d4, d5, d6, d7] => { results := [.lit (.bool true)], args := [d1, d2, d3, d4, d5, d6, d7] }
  | _ => none }
def weaveOneRow : OpenClaim := { program := "ytkjaonlelkfhaaa", sum := "053c1fe45f2d452a07fdae11b4552e4c2aabffa0621ed2b6d06076af3ce4ecad", func := "erratum/erratumlaw21.WeaveOne", spec := "weaveOne", unfollowed := true, recurses := true, apart := false }
def WeaveOneSaid : Prop := weaveOneRow.holds Try.pinned (OpenSpec.ofChange weaveOneSpec)

/-- ITS FALSE NEIGHBOUR: 'it returns false'. Refute it at one input. -/
def weaveOneWrong : ChangeSpec := { name := "weaveOne", fn := fun _ => fun
  | [d1, d2, d3, d4, d5, d6, d7] => { results := [.lit (.bool false)], args := [d1, d2, d3, d4, d5, d6, d7] }
  | _ => none }
def WeaveOneWrongFalsely : Prop := weaveOneRow.holds Try.pinned (OpenSpec.ofChange weaveOneWrong)

/-- 'erratumlaw21.WeaveApart': WHATEVER THE INPUT: true; the input reads as it did. -/
def weaveApartSpec : ChangeSpec := { name := "weaveApart", fn := fun _ => fun
  | [d1, d2, d3, d4, d5, d6] => { results := [.lit (.bool true)], args := [d1, d2, d3, d4, d5, d6] }
  | _ => none }
def weaveApartRow : OpenClaim := { program := "ytkjaonlelkfhaaa", sum := "053c1fe45f2d452a07fdae11b4552e4c2aabffa0621ed2b6d06076af3ce4ecad", func := "erratum/erratumlaw21.WeaveApart", spec := "weaveApart", unfollowed := true, recurses := true, apart := false }
def WeaveApartSaid : Prop := weaveApartRow.holds Try.pinned (OpenSpec.ofChange weaveApartSpec)

/-- ITS FALSE NEIGHBOUR: 'it returns false'. Refute it at one input. -/
def weaveApartWrong : ChangeSpec := { name := "weaveApart", fn := fun _ => fun
  | [d1, d2, d3, d4, d5, d6] => { results := [.lit (.bool false)], args := [d1, d2, d3, d4, d5, d6] }
  | _ => none }
def WeaveApartWrongFalsely : Prop := weaveApartRow.holds Try.pinned (OpenSpec.ofChange weaveApartWrong)

/-- 'erratumlaw21.WeaveBlocks': WHATEVER THE INPUT: true; the input reads as it did. -/
def weaveBlocksSpec : ChangeSpec := { name := "weaveBlocks", fn := fun _ => fun
  | [d1, d2, d3, d4, d5] => { results := [.lit (.bool true)], args := [d1, d2, d3, d4, d5] }
  | _ => none }
def weaveBlocksRow : OpenClaim := { program := "ytkjaonlelkfhaaa", sum := "053c1fe45f2d452a07fdae11b4552e4c2aabffa0621ed2b6d06076af3ce4ecad", func := "erratum/erratumlaw21.WeaveBlocks", spec := "weaveBlocks", unfollowed := true, recurses := true, apart := false }
def WeaveBlocksSaid : Prop := weaveBlocksRow.holds Try.pinned (OpenSpec.ofChange weaveBlocksSpec)

/-- ITS FALSE NEIGHBOUR: 'it returns false'. Refute it at one input. -/
def weaveBlocksWrong : ChangeSpec := { name := "weaveBlocks", fn := fun _ => fun
  | [d1, d2, d3, d4, d5] => { results := [.lit (.bool false)], args := [d1, d2, d3, d4, d5] }
  | _ => none }
def WeaveBlocksWrongFalsely : Prop := weaveBlocksRow.holds Try.pinned (OpenSpec.ofChange weaveBlocksWrong)

/-- 'erratumlaw21.WeaveBack': WHATEVER THE INPUT: true; the input reads as it did. -/
def weaveBackSpec : ChangeSpec := { name := "weaveBack", fn := fun _ => fun
  | [d1, d2, d3, d4, d5, d6] => { results := [.lit (.bool true)], args := [d1, d2, d3, d4, d5, d6] }
  | _ => none }
def weaveBackRow : OpenClaim := { program := "ytkjaonlelkfhaaa", sum := "053c1fe45f2d452a07fdae11b4552e4c2aabffa0621ed2b6d06076af3ce4ecad", func := "erratum/erratumlaw21.WeaveBack", spec := "weaveBack", unfollowed := true, recurses := true, apart := false }
def WeaveBackSaid : Prop := weaveBackRow.holds Try.pinned (OpenSpec.ofChange weaveBackSpec)

/-- ITS FALSE NEIGHBOUR: 'it returns false'. Refute it at one input. -/
def weaveBackWrong : ChangeSpec := { name := "weaveBack", fn := fun _ => fun
  | [d1, d2, d3, d4, d5, d6] => { results := [.lit (.bool false)], args := [d1, d2, d3, d4, d5, d6] }
  | _ => none }
def WeaveBackWrongFalsely : Prop := weaveBackRow.holds Try.pinned (OpenSpec.ofChange weaveBackWrong)

/-- 'erratumlaw21.WeaveErrors': WHATEVER THE INPUT: true; the input reads as it did. -/
def weaveErrorsSpec : ChangeSpec := { name := "weaveErrors", fn := fun _ => fun
  | [d1, d2, d3, d4, d5, d6] => { results := [.lit (.bool true)], args := [d1, d2, d3, d4, d5, d6] }
  | _ => none }
def weaveErrorsRow : OpenClaim := { program := "ytkjaonlelkfhaaa", sum := "053c1fe45f2d452a07fdae11b4552e4c2aabffa0621ed2b6d06076af3ce4ecad", func := "erratum/erratumlaw21.WeaveErrors", spec := "weaveErrors", unfollowed := true, recurses := true, apart := false }
def WeaveErrorsSaid : Prop := weaveErrorsRow.holds Try.pinned (OpenSpec.ofChange weaveErrorsSpec)

/-- ITS FALSE NEIGHBOUR: 'it returns false'. Refute it at one input. -/
def weaveErrorsWrong : ChangeSpec := { name := "weaveErrors", fn := fun _ => fun
  | [d1, d2, d3, d4, d5, d6] => { results := [.lit (.bool false)], args := [d1, d2, d3, d4, d5, d6] }
  | _ => none }
def WeaveErrorsWrongFalsely : Prop := weaveErrorsRow.holds Try.pinned (OpenSpec.ofChange weaveErrorsWrong)

/-- 'erratumlaw21.WeaveAsks': WHATEVER THE INPUT: true; the input reads as it did. -/
def weaveAsksSpec : ChangeSpec := { name := "weaveAsks", fn := fun _ => fun
  | [d1, d2, d3, d4, d5, d6, d7, d8, d9, d10] => { results := [.lit (.bool true)], args := [d1, d2, d3, d4, d5, d6, d7, d8, d9, d10] }
  | _ => none }
def weaveAsksRow : OpenClaim := { program := "ytkjaonlelkfhaaa", sum := "053c1fe45f2d452a07fdae11b4552e4c2aabffa0621ed2b6d06076af3ce4ecad", func := "erratum/erratumlaw21.WeaveAsks", spec := "weaveAsks", unfollowed := true, recurses := true, apart := false }
def WeaveAsksSaid : Prop := weaveAsksRow.holds Try.pinned (OpenSpec.ofChange weaveAsksSpec)

/-- ITS FALSE NEIGHBOUR: 'it returns false'. Refute it at one input. -/
def weaveAsksWrong : ChangeSpec := { name := "weaveAsks", fn := fun _ => fun
  | [d1, d2, d3, d4, d5, d6, d7, d8, d9, d10] => { results := [.lit (.bool false)], args := [d1, d2, d3, d4, d5, d6, d7, d8, d9, d10] }
  | _ => none }
def WeaveAsksWrongFalsely : Prop := weaveAsksRow.holds Try.pinned (OpenSpec.ofChange weaveAsksWrong)

/- THE SECOND FORM. 'bulk': how many values and letters a reading holds, each counted each time it is reached (what is shared counts as often as it is met; a slice's spare places count too). A statement '..UptoSaid' is the law's where the arguments, and the package variables that the reading takes, are together of bulk at most 1048576: NARROWER than '..Said'. Prove '..Said' where nothing that the law and all that it calls make is longer than what came in: it says more and counts as full. Else prove '..UptoSaid'. A law counts once. -/
mutual
def uptoBulk {H : Type} : DataW H → Nat
  | .lit (.string bytes) => bytes.length + 1
  | .lit _ => 1
  | .nil => 1
  | .ptr d => uptoBulk d + 1
  | .slice elems spare => uptoBulkAll elems + uptoBulkAll spare + 1
  | .agg parts => uptoBulkAll parts + 1
  | .iface _ d => uptoBulk d + 1
  | .map entries => uptoBulkEntries entries + 1
  | .held _ => 1
def uptoBulkAll {H : Type} : List (DataW H) → Nat
  | [] => 0
  | d :: r => uptoBulk d + uptoBulkAll r
def uptoBulkEntries {H : Type} : List (Lit × DataW H) → Nat
  | [] => 0
  | x :: r => uptoBulkEntry x + uptoBulkEntries r
def uptoBulkEntry {H : Type} : Lit × DataW H → Nat
  | (.string bytes, d) => bytes.length + uptoBulk d + 1
  | (_, d) => uptoBulk d + 1
 end
def uptoSmall : (H : Type) → List (DataW H) → Bool := fun _ ds => decide (uptoBulkAll ds ≤ 1048576)
def OpenSpec.upto (s : _root_.Go.ChangeSpec) : _root_.Go.OpenSpec := { _root_.Go.OpenSpec.ofChange s with cond := some uptoSmall }

/-- 'erratumlaw21.WeaveOne', WHERE WHAT IT READS IS OF BULK AT MOST 1048576: true; the input reads as it did. -/
def weaveOneUptoRow : OpenClaim := { program := "ytkjaonlelkfhaaa", sum := "053c1fe45f2d452a07fdae11b4552e4c2aabffa0621ed2b6d06076af3ce4ecad", func := "erratum/erratumlaw21.WeaveOne", spec := "weaveOne", unfollowed := true, recurses := true, apart := false, narrowed := true }
def WeaveOneUptoSaid : Prop := weaveOneUptoRow.holds Try.pinned (OpenSpec.upto weaveOneSpec)

/-- 'erratumlaw21.WeaveApart', WHERE WHAT IT READS IS OF BULK AT MOST 1048576: true; the input reads as it did. -/
def weaveApartUptoRow : OpenClaim := { program := "ytkjaonlelkfhaaa", sum := "053c1fe45f2d452a07fdae11b4552e4c2aabffa0621ed2b6d06076af3ce4ecad", func := "erratum/erratumlaw21.WeaveApart", spec := "weaveApart", unfollowed := true, recurses := true, apart := false, narrowed := true }
def WeaveApartUptoSaid : Prop := weaveApartUptoRow.holds Try.pinned (OpenSpec.upto weaveApartSpec)

/-- 'erratumlaw21.WeaveBlocks', WHERE WHAT IT READS IS OF BULK AT MOST 1048576: true; the input reads as it did. -/
def weaveBlocksUptoRow : OpenClaim := { program := "ytkjaonlelkfhaaa", sum := "053c1fe45f2d452a07fdae11b4552e4c2aabffa0621ed2b6d06076af3ce4ecad", func := "erratum/erratumlaw21.WeaveBlocks", spec := "weaveBlocks", unfollowed := true, recurses := true, apart := false, narrowed := true }
def WeaveBlocksUptoSaid : Prop := weaveBlocksUptoRow.holds Try.pinned (OpenSpec.upto weaveBlocksSpec)

/-- 'erratumlaw21.WeaveBack', WHERE WHAT IT READS IS OF BULK AT MOST 1048576: true; the input reads as it did. -/
def weaveBackUptoRow : OpenClaim := { program := "ytkjaonlelkfhaaa", sum := "053c1fe45f2d452a07fdae11b4552e4c2aabffa0621ed2b6d06076af3ce4ecad", func := "erratum/erratumlaw21.WeaveBack", spec := "weaveBack", unfollowed := true, recurses := true, apart := false, narrowed := true }
def WeaveBackUptoSaid : Prop := weaveBackUptoRow.holds Try.pinned (OpenSpec.upto weaveBackSpec)

/-- 'erratumlaw21.WeaveErrors', WHERE WHAT IT READS IS OF BULK AT MOST 1048576: true; the input reads as it did. -/
def weaveErrorsUptoRow : OpenClaim := { program := "ytkjaonlelkfhaaa", sum := "053c1fe45f2d452a07fdae11b4552e4c2aabffa0621ed2b6d06076af3ce4ecad", func := "erratum/erratumlaw21.WeaveErrors", spec := "weaveErrors", unfollowed := true, recurses := true, apart := false, narrowed := true }
def WeaveErrorsUptoSaid : Prop := weaveErrorsUptoRow.holds Try.pinned (OpenSpec.upto weaveErrorsSpec)

/-- 'erratumlaw21.WeaveAsks', WHERE WHAT IT READS IS OF BULK AT MOST 1048576: true; the input reads as it did. -/
def weaveAsksUptoRow : OpenClaim := { program := "ytkjaonlelkfhaaa", sum := "053c1fe45f2d452a07fdae11b4552e4c2aabffa0621ed2b6d06076af3ce4ecad", func := "erratum/erratumlaw21.WeaveAsks", spec := "weaveAsks", unfollowed := true, recurses := true, apart := false, narrowed := true }
def WeaveAsksUptoSaid : Prop := weaveAsksUptoRow.holds Try.pinned (OpenSpec.upto weaveAsksSpec)

end Rows
end Go.Proofs.Ytkjaonlelkfhaaa

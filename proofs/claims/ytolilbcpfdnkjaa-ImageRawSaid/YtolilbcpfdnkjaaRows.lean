/-
  No cell of these rows narrows 'for every input' (looked for: loops, veiled, ifaces, maps, wideKeys, modest, calm, conditions, laid).
  DERIVED. THE GIVEN ROWS OF THIS SEAT. 7 by the template 'for every input the law returns true; each argument reads behind the call as it read before'; 0 by the template 'total and deterministic' (their statements: YtolilbcpfdnkjaaTotals.lean).
  GIVEN WITH THE SEED: the statements are not yours to turn. If you find one false, say at which input.
  Laid BY PROGRAM, IN A SANDBOX (cutbox-rows.mjs): the forced cells as the released guide's own fill.sh prints them over the translation d1eb94a504768cd0… (all of the seat's roots in one cut). By AI agents, Wed Nov 11 2026. No macro, syntax, notation, axiom, sorry.
-/
import Derived.Test.YtolilbcpfdnkjaaChecked
import GoSem.Claim
import GoSem.ClaimJoined
import GoSem.ClaimMapViews
import Derived.JoinedTies
import Derived.KernelRfl
namespace Go.Proofs.Ytolilbcpfdnkjaa
/- THE CELL 'sum', in the pinned program and in every row, IS THE sha256 OF THE DUMP (.gsa) THAT YtolilbcpfdnkjaaProg.lean LOADS. Nothing in Lean hashes anything: it is a label: what it is worth is what the hold of that sum in a sandbox is worth. -/
noncomputable def Try.pinned : Pinned := { name := "ytolilbcpfdnkjaa", sum := "d1eb94a504768cd09ca45253127d1fc322c9eac05ad9fb055f4ea522d7b51cac", checked := Try.checked }
namespace Rows
def none {H : Type} : Left H := { results := [], args := [] }

/-- 'toponymlaw10.TreeBack': WHATEVER THE INPUT: true; the input reads as it did. -/
def treeBackSpec : ChangeSpec := { name := "treeBack", fn := fun _ => fun
  | [d1, d2, d3] => { results := [.lit (.bool true)], args := [d1, d2, d3] }
  | _ => none }
def treeBackRow : OpenClaim := { program := "ytolilbcpfdnkjaa", sum := "d1eb94a504768cd09ca45253127d1fc322c9eac05ad9fb055f4ea522d7b51cac", func := "toponym/toponymlaw10.TreeBack", spec := "treeBack", inPlace := ["internal/bytealg.IndexByteString", "internal/bytealg.IndexString"], unfollowed := true, recurses := true, named := ["internal/bytealg.MaxLen"], apart := false }
def TreeBackSaid : Prop := treeBackRow.holds Try.pinned (OpenSpec.ofChange treeBackSpec)

/-- ITS FALSE NEIGHBOUR: 'it returns false'. Refute it at one input. -/
def treeBackWrong : ChangeSpec := { name := "treeBack", fn := fun _ => fun
  | [d1, d2, d3] => { results := [.lit (.bool false)], args := [d1, d2, d3] }
  | _ => none }
def TreeBackWrongFalsely : Prop := treeBackRow.holds Try.pinned (OpenSpec.ofChange treeBackWrong)

/-- 'toponymlaw16.CursorAll': WHATEVER THE INPUT: true; the input reads as it did. -/
def cursorAllSpec : ChangeSpec := { name := "cursorAll", fn := fun _ => fun
  | [d1, d2] => { results := [.lit (.bool true)], args := [d1, d2] }
  | _ => none }
def cursorAllRow : OpenClaim := { program := "ytolilbcpfdnkjaa", sum := "d1eb94a504768cd09ca45253127d1fc322c9eac05ad9fb055f4ea522d7b51cac", func := "toponym/toponymlaw16.CursorAll", spec := "cursorAll", inPlace := ["internal/bytealg.IndexByteString", "internal/bytealg.IndexString"], unfollowed := true, recurses := true, named := ["internal/bytealg.MaxLen"], apart := false }
def CursorAllSaid : Prop := cursorAllRow.holds Try.pinned (OpenSpec.ofChange cursorAllSpec)

/-- ITS FALSE NEIGHBOUR: 'it returns false'. Refute it at one input. -/
def cursorAllWrong : ChangeSpec := { name := "cursorAll", fn := fun _ => fun
  | [d1, d2] => { results := [.lit (.bool false)], args := [d1, d2] }
  | _ => none }
def CursorAllWrongFalsely : Prop := cursorAllRow.holds Try.pinned (OpenSpec.ofChange cursorAllWrong)

/-- 'toponymlaw16.CursorScans': WHATEVER THE INPUT: true; the input reads as it did. -/
def cursorScansSpec : ChangeSpec := { name := "cursorScans", fn := fun _ => fun
  | [d1, d2, d3] => { results := [.lit (.bool true)], args := [d1, d2, d3] }
  | _ => none }
def cursorScansRow : OpenClaim := { program := "ytolilbcpfdnkjaa", sum := "d1eb94a504768cd09ca45253127d1fc322c9eac05ad9fb055f4ea522d7b51cac", func := "toponym/toponymlaw16.CursorScans", spec := "cursorScans", inPlace := ["internal/bytealg.IndexByteString", "internal/bytealg.IndexString"], unfollowed := true, recurses := true, named := ["internal/bytealg.MaxLen"], apart := false }
def CursorScansSaid : Prop := cursorScansRow.holds Try.pinned (OpenSpec.ofChange cursorScansSpec)

/-- ITS FALSE NEIGHBOUR: 'it returns false'. Refute it at one input. -/
def cursorScansWrong : ChangeSpec := { name := "cursorScans", fn := fun _ => fun
  | [d1, d2, d3] => { results := [.lit (.bool false)], args := [d1, d2, d3] }
  | _ => none }
def CursorScansWrongFalsely : Prop := cursorScansRow.holds Try.pinned (OpenSpec.ofChange cursorScansWrong)

/-- 'toponymlaw12.ImageRaw': WHATEVER THE INPUT: true; the input reads as it did. -/
def imageRawSpec : ChangeSpec := { name := "imageRaw", fn := fun _ => fun
  | [d] => { results := [.lit (.bool true)], args := [d] }
  | _ => none }
def imageRawRow : OpenClaim := { program := "ytolilbcpfdnkjaa", sum := "d1eb94a504768cd09ca45253127d1fc322c9eac05ad9fb055f4ea522d7b51cac", func := "toponym/toponymlaw12.ImageRaw", spec := "imageRaw", inPlace := ["internal/abi.NoEscape", "internal/bytealg.IndexByteString", "internal/bytealg.IndexString"], unfollowed := true, recurses := true, named := ["internal/bytealg.MaxLen"], apart := false }
def ImageRawSaid : Prop := imageRawRow.holds Try.pinned (OpenSpec.ofChange imageRawSpec)

/-- ITS FALSE NEIGHBOUR: 'it returns false'. Refute it at one input. -/
def imageRawWrong : ChangeSpec := { name := "imageRaw", fn := fun _ => fun
  | [d] => { results := [.lit (.bool false)], args := [d] }
  | _ => none }
def ImageRawWrongFalsely : Prop := imageRawRow.holds Try.pinned (OpenSpec.ofChange imageRawWrong)

/-- 'toponymlaw10.TreeMany': WHATEVER THE INPUT: true; the input reads as it did. -/
def treeManySpec : ChangeSpec := { name := "treeMany", fn := fun _ => fun
  | [d1, d2] => { results := [.lit (.bool true)], args := [d1, d2] }
  | _ => none }
def treeManyRow : OpenClaim := { program := "ytolilbcpfdnkjaa", sum := "d1eb94a504768cd09ca45253127d1fc322c9eac05ad9fb055f4ea522d7b51cac", func := "toponym/toponymlaw10.TreeMany", spec := "treeMany", inPlace := ["internal/bytealg.IndexByteString", "internal/bytealg.IndexString"], unfollowed := true, recurses := true, named := ["internal/bytealg.MaxLen"], apart := false }
def TreeManySaid : Prop := treeManyRow.holds Try.pinned (OpenSpec.ofChange treeManySpec)

/-- ITS FALSE NEIGHBOUR: 'it returns false'. Refute it at one input. -/
def treeManyWrong : ChangeSpec := { name := "treeMany", fn := fun _ => fun
  | [d1, d2] => { results := [.lit (.bool false)], args := [d1, d2] }
  | _ => none }
def TreeManyWrongFalsely : Prop := treeManyRow.holds Try.pinned (OpenSpec.ofChange treeManyWrong)

/-- 'toponymlaw10.TreePlays': WHATEVER THE INPUT: true; the input reads as it did. -/
def treePlaysSpec : ChangeSpec := { name := "treePlays", fn := fun _ => fun
  | [d] => { results := [.lit (.bool true)], args := [d] }
  | _ => none }
def treePlaysRow : OpenClaim := { program := "ytolilbcpfdnkjaa", sum := "d1eb94a504768cd09ca45253127d1fc322c9eac05ad9fb055f4ea522d7b51cac", func := "toponym/toponymlaw10.TreePlays", spec := "treePlays", inPlace := ["internal/bytealg.IndexByteString", "internal/bytealg.IndexString"], unfollowed := true, recurses := true, named := ["internal/bytealg.MaxLen"], apart := false }
def TreePlaysSaid : Prop := treePlaysRow.holds Try.pinned (OpenSpec.ofChange treePlaysSpec)

/-- ITS FALSE NEIGHBOUR: 'it returns false'. Refute it at one input. -/
def treePlaysWrong : ChangeSpec := { name := "treePlays", fn := fun _ => fun
  | [d] => { results := [.lit (.bool false)], args := [d] }
  | _ => none }
def TreePlaysWrongFalsely : Prop := treePlaysRow.holds Try.pinned (OpenSpec.ofChange treePlaysWrong)

/-- 'toponymlaw16.CursorReads': WHATEVER THE INPUT: true; the input reads as it did. -/
def cursorReadsSpec : ChangeSpec := { name := "cursorReads", fn := fun _ => fun
  | [d1, d2, d3] => { results := [.lit (.bool true)], args := [d1, d2, d3] }
  | _ => none }
def cursorReadsRow : OpenClaim := { program := "ytolilbcpfdnkjaa", sum := "d1eb94a504768cd09ca45253127d1fc322c9eac05ad9fb055f4ea522d7b51cac", func := "toponym/toponymlaw16.CursorReads", spec := "cursorReads", inPlace := ["internal/bytealg.IndexByteString", "internal/bytealg.IndexString"], unfollowed := true, recurses := true, named := ["internal/bytealg.MaxLen"], apart := false }
def CursorReadsSaid : Prop := cursorReadsRow.holds Try.pinned (OpenSpec.ofChange cursorReadsSpec)

/-- ITS FALSE NEIGHBOUR: 'it returns false'. Refute it at one input. -/
def cursorReadsWrong : ChangeSpec := { name := "cursorReads", fn := fun _ => fun
  | [d1, d2, d3] => { results := [.lit (.bool false)], args := [d1, d2, d3] }
  | _ => none }
def CursorReadsWrongFalsely : Prop := cursorReadsRow.holds Try.pinned (OpenSpec.ofChange cursorReadsWrong)

/- THE SECOND FORM. 'bulk': how many values and letters a reading holds, each counted each time it is reached (what is shared counts as often as it is met; a slice's spare places count too). A statement '..UptoSaid' is the law's where the arguments, and the package variables that the reading takes, are together of bulk at most 1048576: NARROWER than '..Said'. Prove '..Said' where nothing that the law and all that it calls make is longer than what came in: it says more and counts as full. Else prove '..UptoSaid'. A law counts once. -/
mutual
def uptoBulk {H : Type} : DataW H → Nat
  | .lit (.string bytes) => bytes.length + 1
  | .lit _ => 1
  | .nil => 1
  | .ptr d => uptoBulk d + 1
  | .slice elems spare => uptoBulkAll elems + uptoBulkAll spare + 1
  | .agg parts => uptoBulkAll parts + 1
  | .iface _ d => uptoBulk d + 1
  | .map entries => uptoBulkEntries entries + 1
  | .held _ => 1
def uptoBulkAll {H : Type} : List (DataW H) → Nat
  | [] => 0
  | d :: r => uptoBulk d + uptoBulkAll r
def uptoBulkEntries {H : Type} : List (Lit × DataW H) → Nat
  | [] => 0
  | x :: r => uptoBulkEntry x + uptoBulkEntries r
def uptoBulkEntry {H : Type} : Lit × DataW H → Nat
  | (.string bytes, d) => bytes.length + uptoBulk d + 1
  | (_, d) => uptoBulk d + 1
 end
def uptoSmall : (H : Type) → List (DataW H) → Bool := fun _ ds => decide (uptoBulkAll ds ≤ 1048576)
def OpenSpec.upto (s : _root_.Go.ChangeSpec) : _root_.Go.OpenSpec := { _root_.Go.OpenSpec.ofChange s with cond := some uptoSmall }

/-- 'toponymlaw10.TreeBack', WHERE WHAT IT READS IS OF BULK AT MOST 1048576: true; the input reads as it did. -/
def treeBackUptoRow : OpenClaim := { program := "ytolilbcpfdnkjaa", sum := "d1eb94a504768cd09ca45253127d1fc322c9eac05ad9fb055f4ea522d7b51cac", func := "toponym/toponymlaw10.TreeBack", spec := "treeBack", inPlace := ["internal/bytealg.IndexByteString", "internal/bytealg.IndexString"], unfollowed := true, recurses := true, named := ["internal/bytealg.MaxLen"], apart := false, narrowed := true }
def TreeBackUptoSaid : Prop := treeBackUptoRow.holds Try.pinned (OpenSpec.upto treeBackSpec)

/-- 'toponymlaw16.CursorAll', WHERE WHAT IT READS IS OF BULK AT MOST 1048576: true; the input reads as it did. -/
def cursorAllUptoRow : OpenClaim := { program := "ytolilbcpfdnkjaa", sum := "d1eb94a504768cd09ca45253127d1fc322c9eac05ad9fb055f4ea522d7b51cac", func := "toponym/toponymlaw16.CursorAll", spec := "cursorAll", inPlace := ["internal/bytealg.IndexByteString", "internal/bytealg.IndexString"], unfollowed := true, recurses := true, named := ["internal/bytealg.MaxLen"], apart := false, narrowed := true }
def CursorAllUptoSaid : Prop := cursorAllUptoRow.holds Try.pinned (OpenSpec.upto cursorAllSpec)

/-- 'toponymlaw16.CursorScans', WHERE WHAT IT READS IS OF BULK AT MOST 1048576: true; the input reads as it did. -/
def cursorScansUptoRow : OpenClaim := { program := "ytolilbcpfdnkjaa", sum := "d1eb94a504768cd09ca45253127d1fc322c9eac05ad9fb055f4ea522d7b51cac", func := "toponym/toponymlaw16.CursorScans", spec := "cursorScans", inPlace := ["internal/bytealg.IndexByteString", "internal/bytealg.IndexString"], unfollowed := true, recurses := true, named := ["internal/bytealg.MaxLen"], apart := false, narrowed := true }
def CursorScansUptoSaid : Prop := cursorScansUptoRow.holds Try.pinned (OpenSpec.upto cursorScansSpec)

/-- 'toponymlaw12.ImageRaw', WHERE WHAT IT READS IS OF BULK AT MOST 1048576: true; the input reads as it did. -/
def imageRawUptoRow : OpenClaim := { program := "ytolilbcpfdnkjaa", sum := "d1eb94a504768cd09ca45253127d1fc322c9eac05ad9fb055f4ea522d7b51cac", func := "toponym/toponymlaw12.ImageRaw", spec := "imageRaw", inPlace := ["internal/abi.NoEscape", "internal/bytealg.IndexByteString", "internal/bytealg.IndexString"], unfollowed := true, recurses := true, named := ["internal/bytealg.MaxLen"], apart := false, narrowed := true }
def ImageRawUptoSaid : Prop := imageRawUptoRow.holds Try.pinned (OpenSpec.upto imageRawSpec)

/-- 'toponymlaw10.TreeMany', WHERE WHAT IT READS IS OF BULK AT MOST 1048576: true; the input reads as it did. -/
def treeManyUptoRow : OpenClaim := { program := "ytolilbcpfdnkjaa", sum := "d1eb94a504768cd09ca45253127d1fc322c9eac05ad9fb055f4ea522d7b51cac", func := "toponym/toponymlaw10.TreeMany", spec := "treeMany", inPlace := ["internal/bytealg.IndexByteString", "internal/bytealg.IndexString"], unfollowed := true, recurses := true, named := ["internal/bytealg.MaxLen"], apart := false, narrowed := true }
def TreeManyUptoSaid : Prop := treeManyUptoRow.holds Try.pinned (OpenSpec.upto treeManySpec)

/-- 'toponymlaw10.TreePlays', WHERE WHAT IT READS IS OF BULK AT MOST 1048576: true; the input reads as it did. -/
def treePlaysUptoRow : OpenClaim := { program := "ytolilbcpfdnkjaa", sum := "d1eb94a504768cd09ca45253127d1fc322c9eac05ad9fb055f4ea522d7b51cac", func := "toponym/toponymlaw10.TreePlays", spec := "treePlays", inPlace := ["internal/bytealg.IndexByteString", "internal/bytealg.IndexString"], unfollowed := true, recurses := true, named := ["internal/bytealg.MaxLen"], apart := false, narrowed := true }
def TreePlaysUptoSaid : Prop := treePlaysUptoRow.holds Try.pinned (OpenSpec.upto treePlaysSpec)

/-- 'toponymlaw16.CursorReads', WHERE WHAT IT READS IS OF BULK AT MOST 1048576: true; the input reads as it did. -/
def cursorReadsUptoRow : OpenClaim := { program := "ytolilbcpfdnkjaa", sum := "d1eb94a504768cd09ca45253127d1fc322c9eac05ad9fb055f4ea522d7b51cac", func := "toponym/toponymlaw16.CursorReads", spec := "cursorReads", inPlace := ["internal/bytealg.IndexByteString", "internal/bytealg.IndexString"], unfollowed := true, recurses := true, named := ["internal/bytealg.MaxLen"], apart := false, narrowed := true }
def CursorReadsUptoSaid : Prop := cursorReadsUptoRow.holds Try.pinned (OpenSpec.upto cursorReadsSpec)

end Rows
end Go.Proofs.Ytolilbcpfdnkjaa

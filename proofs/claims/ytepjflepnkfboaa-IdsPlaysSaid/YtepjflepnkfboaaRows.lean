/-
  No cell of these rows narrows 'for every input' (looked for: loops, veiled, ifaces, maps, wideKeys, modest, calm, conditions, laid).
  DERIVED. THE GIVEN ROWS OF THIS SEAT. 6 by the template 'for every input the law returns true; each argument reads behind the call as it read before'; 0 by the template 'total and deterministic' (their statements: YtepjflepnkfboaaTotals.lean).
  GIVEN WITH THE SEED: the statements are not yours to turn. If you find one false, say at which input.
  Laid BY PROGRAM, IN A SANDBOX (cutbox-rows.mjs): the forced cells as the released guide's own fill.sh prints them over the translation c505d933bb420d29… (all of the seat's roots in one cut). By AI agents, Wed Nov 11 2026. No macro, syntax, notation, axiom, sorry.
-/
import Derived.Test.YtepjflepnkfboaaChecked
import GoSem.Claim
import GoSem.ClaimJoined
import GoSem.ClaimMapViews
import Derived.JoinedTies
import Derived.KernelRfl
namespace Go.Proofs.Ytepjflepnkfboaa
/- THE CELL 'sum', in the pinned program and in every row, IS THE sha256 OF THE DUMP (.gsa) THAT YtepjflepnkfboaaProg.lean LOADS. Nothing in Lean hashes anything: it is a label: what it is worth is what the hold of that sum in a sandbox is worth. -/
noncomputable def Try.pinned : Pinned := { name := "ytepjflepnkfboaa", sum := "c505d933bb420d292218c04060e346c250f2700a4571468c17de83d0dbf2afd7", checked := Try.checked }
namespace Rows
def none {H : Type} : Left H := { results := [], args := [] }

/-- 'toponymlaw11.DeedFirst': WHATEVER THE INPUT: true; the input reads as it did. -/
def deedFirstSpec : ChangeSpec := { name := "deedFirst", fn := fun _ => fun
  | [d1, d2] => { results := [.lit (.bool true)], args := [d1, d2] }
  | _ => none }
def deedFirstRow : OpenClaim := { program := "ytepjflepnkfboaa", sum := "c505d933bb420d292218c04060e346c250f2700a4571468c17de83d0dbf2afd7", func := "toponym/toponymlaw11.DeedFirst", spec := "deedFirst", apart := false }
def DeedFirstSaid : Prop := deedFirstRow.holds Try.pinned (OpenSpec.ofChange deedFirstSpec)

/-- ITS FALSE NEIGHBOUR: 'it returns false'. Refute it at one input. -/
def deedFirstWrong : ChangeSpec := { name := "deedFirst", fn := fun _ => fun
  | [d1, d2] => { results := [.lit (.bool false)], args := [d1, d2] }
  | _ => none }
def DeedFirstWrongFalsely : Prop := deedFirstRow.holds Try.pinned (OpenSpec.ofChange deedFirstWrong)

/-- 'toponymlaw05.ShortFree': WHATEVER THE INPUT: true; the input reads as it did. -/
def shortFreeSpec : ChangeSpec := { name := "shortFree", fn := fun _ => fun
  | [d] => { results := [.lit (.bool true)], args := [d] }
  | _ => none }
def shortFreeRow : OpenClaim := { program := "ytepjflepnkfboaa", sum := "c505d933bb420d292218c04060e346c250f2700a4571468c17de83d0dbf2afd7", func := "toponym/toponymlaw05.ShortFree", spec := "shortFree", unfollowed := true, recurses := true, apart := false }
def ShortFreeSaid : Prop := shortFreeRow.holds Try.pinned (OpenSpec.ofChange shortFreeSpec)

/-- ITS FALSE NEIGHBOUR: 'it returns false'. Refute it at one input. -/
def shortFreeWrong : ChangeSpec := { name := "shortFree", fn := fun _ => fun
  | [d] => { results := [.lit (.bool false)], args := [d] }
  | _ => none }
def ShortFreeWrongFalsely : Prop := shortFreeRow.holds Try.pinned (OpenSpec.ofChange shortFreeWrong)

/-- 'toponymlaw11.DeedWrites': WHATEVER THE INPUT: true; the input reads as it did. -/
def deedWritesSpec : ChangeSpec := { name := "deedWrites", fn := fun _ => fun
  | [d] => { results := [.lit (.bool true)], args := [d] }
  | _ => none }
def deedWritesRow : OpenClaim := { program := "ytepjflepnkfboaa", sum := "c505d933bb420d292218c04060e346c250f2700a4571468c17de83d0dbf2afd7", func := "toponym/toponymlaw11.DeedWrites", spec := "deedWrites", apart := false }
def DeedWritesSaid : Prop := deedWritesRow.holds Try.pinned (OpenSpec.ofChange deedWritesSpec)

/-- ITS FALSE NEIGHBOUR: 'it returns false'. Refute it at one input. -/
def deedWritesWrong : ChangeSpec := { name := "deedWrites", fn := fun _ => fun
  | [d] => { results := [.lit (.bool false)], args := [d] }
  | _ => none }
def DeedWritesWrongFalsely : Prop := deedWritesRow.holds Try.pinned (OpenSpec.ofChange deedWritesWrong)

/-- 'toponymlaw11.DeedReads': WHATEVER THE INPUT: true; the input reads as it did. -/
def deedReadsSpec : ChangeSpec := { name := "deedReads", fn := fun _ => fun
  | [d] => { results := [.lit (.bool true)], args := [d] }
  | _ => none }
def deedReadsRow : OpenClaim := { program := "ytepjflepnkfboaa", sum := "c505d933bb420d292218c04060e346c250f2700a4571468c17de83d0dbf2afd7", func := "toponym/toponymlaw11.DeedReads", spec := "deedReads", apart := false }
def DeedReadsSaid : Prop := deedReadsRow.holds Try.pinned (OpenSpec.ofChange deedReadsSpec)

/-- ITS FALSE NEIGHBOUR: 'it returns false'. Refute it at one input. -/
def deedReadsWrong : ChangeSpec := { name := "deedReads", fn := fun _ => fun
  | [d] => { results := [.lit (.bool false)], args := [d] }
  | _ => none }
def DeedReadsWrongFalsely : Prop := deedReadsRow.holds Try.pinned (OpenSpec.ofChange deedReadsWrong)

/-- 'toponymlaw09.IdsPlays': WHATEVER THE INPUT: true; the input reads as it did. -/
def idsPlaysSpec : ChangeSpec := { name := "idsPlays", fn := fun _ => fun
  | [d1, d2, d3] => { results := [.lit (.bool true)], args := [d1, d2, d3] }
  | _ => none }
def idsPlaysRow : OpenClaim := { program := "ytepjflepnkfboaa", sum := "c505d933bb420d292218c04060e346c250f2700a4571468c17de83d0dbf2afd7", func := "toponym/toponymlaw09.IdsPlays", spec := "idsPlays", unfollowed := true, recurses := true, apart := false }
def IdsPlaysSaid : Prop := idsPlaysRow.holds Try.pinned (OpenSpec.ofChange idsPlaysSpec)

/-- ITS FALSE NEIGHBOUR: 'it returns false'. Refute it at one input. -/
def idsPlaysWrong : ChangeSpec := { name := "idsPlays", fn := fun _ => fun
  | [d1, d2, d3] => { results := [.lit (.bool false)], args := [d1, d2, d3] }
  | _ => none }
def IdsPlaysWrongFalsely : Prop := idsPlaysRow.holds Try.pinned (OpenSpec.ofChange idsPlaysWrong)

/-- 'toponymlaw09.IdsSame': WHATEVER THE INPUT: true; the input reads as it did. -/
def idsSameSpec : ChangeSpec := { name := "idsSame", fn := fun _ => fun
  | [d1, d2] => { results := [.lit (.bool true)], args := [d1, d2] }
  | _ => none }
def idsSameRow : OpenClaim := { program := "ytepjflepnkfboaa", sum := "c505d933bb420d292218c04060e346c250f2700a4571468c17de83d0dbf2afd7", func := "toponym/toponymlaw09.IdsSame", spec := "idsSame", inPlace := ["maps.clone"], unfollowed := true, recurses := true, apart := false }
def IdsSameSaid : Prop := idsSameRow.holds Try.pinned (OpenSpec.ofChange idsSameSpec)

/-- ITS FALSE NEIGHBOUR: 'it returns false'. Refute it at one input. -/
def idsSameWrong : ChangeSpec := { name := "idsSame", fn := fun _ => fun
  | [d1, d2] => { results := [.lit (.bool false)], args := [d1, d2] }
  | _ => none }
def IdsSameWrongFalsely : Prop := idsSameRow.holds Try.pinned (OpenSpec.ofChange idsSameWrong)

/- THE SECOND FORM. 'bulk': how many values and letters a reading holds, each counted each time it is reached (what is shared counts as often as it is met; a slice's spare places count too). A statement '..UptoSaid' is the law's where the arguments, and the package variables that the reading takes, are together of bulk at most 1048576: NARROWER than '..Said'. Prove '..Said' where nothing that the law and all that it calls make is longer than what came in: it says more and counts as full. Else prove '..UptoSaid'. A law counts once. -/
mutual
def uptoBulk {H : Type} : DataW H → Nat
  | .lit (.string bytes) => bytes.length + 1
  | .lit _ => 1
  | .nil => 1
  | .ptr d => uptoBulk d + 1
  | .slice elems spare => uptoBulkAll elems + uptoBulkAll spare + 1
  | .agg parts => uptoBulkAll parts + 1
  | .iface _ d => uptoBulk d + 1
  | .map entries => uptoBulkEntries entries + 1
  | .held _ => 1
def uptoBulkAll {H : Type} : List (DataW H) → Nat
  | [] => 0
  | d :: r => uptoBulk d + uptoBulkAll r
def uptoBulkEntries {H : Type} : List (Lit × DataW H) → Nat
  | [] => 0
  | x :: r => uptoBulkEntry x + uptoBulkEntries r
def uptoBulkEntry {H : Type} : Lit × DataW H → Nat
  | (.string bytes, d) => bytes.length + uptoBulk d + 1
  | (_, d) => uptoBulk d + 1
 end
def uptoSmall : (H : Type) → List (DataW H) → Bool := fun _ ds => decide (uptoBulkAll ds ≤ 1048576)
def OpenSpec.upto (s : _root_.Go.ChangeSpec) : _root_.Go.OpenSpec := { _root_.Go.OpenSpec.ofChange s with cond := some uptoSmall }

/-- 'toponymlaw11.DeedFirst', WHERE WHAT IT READS IS OF BULK AT MOST 1048576: true; the input reads as it did. -/
def deedFirstUptoRow : OpenClaim := { program := "ytepjflepnkfboaa", sum := "c505d933bb420d292218c04060e346c250f2700a4571468c17de83d0dbf2afd7", func := "toponym/toponymlaw11.DeedFirst", spec := "deedFirst", apart := false, narrowed := true }
def DeedFirstUptoSaid : Prop := deedFirstUptoRow.holds Try.pinned (OpenSpec.upto deedFirstSpec)

/-- 'toponymlaw05.ShortFree', WHERE WHAT IT READS IS OF BULK AT MOST 1048576: true; the input reads as it did. -/
def shortFreeUptoRow : OpenClaim := { program := "ytepjflepnkfboaa", sum := "c505d933bb420d292218c04060e346c250f2700a4571468c17de83d0dbf2afd7", func := "toponym/toponymlaw05.ShortFree", spec := "shortFree", unfollowed := true, recurses := true, apart := false, narrowed := true }
def ShortFreeUptoSaid : Prop := shortFreeUptoRow.holds Try.pinned (OpenSpec.upto shortFreeSpec)

/-- 'toponymlaw11.DeedWrites', WHERE WHAT IT READS IS OF BULK AT MOST 1048576: true; the input reads as it did. -/
def deedWritesUptoRow : OpenClaim := { program := "ytepjflepnkfboaa", sum := "c505d933bb420d292218c04060e346c250f2700a4571468c17de83d0dbf2afd7", func := "toponym/toponymlaw11.DeedWrites", spec := "deedWrites", apart := false, narrowed := true }
def DeedWritesUptoSaid : Prop := deedWritesUptoRow.holds Try.pinned (OpenSpec.upto deedWritesSpec)

/-- 'toponymlaw11.DeedReads', WHERE WHAT IT READS IS OF BULK AT MOST 1048576: true; the input reads as it did. -/
def deedReadsUptoRow : OpenClaim := { program := "ytepjflepnkfboaa", sum := "c505d933bb420d292218c04060e346c250f2700a4571468c17de83d0dbf2afd7", func := "toponym/toponymlaw11.DeedReads", spec := "deedReads", apart := false, narrowed := true }
def DeedReadsUptoSaid : Prop := deedReadsUptoRow.holds Try.pinned (OpenSpec.upto deedReadsSpec)

/-- 'toponymlaw09.IdsPlays', WHERE WHAT IT READS IS OF BULK AT MOST 1048576: true; the input reads as it did. -/
def idsPlaysUptoRow : OpenClaim := { program := "ytepjflepnkfboaa", sum := "c505d933bb420d292218c04060e346c250f2700a4571468c17de83d0dbf2afd7", func := "toponym/toponymlaw09.IdsPlays", spec := "idsPlays", unfollowed := true, recurses := true, apart := false, narrowed := true }
def IdsPlaysUptoSaid : Prop := idsPlaysUptoRow.holds Try.pinned (OpenSpec.upto idsPlaysSpec)

/-- 'toponymlaw09.IdsSame', WHERE WHAT IT READS IS OF BULK AT MOST 1048576: true; the input reads as it did. -/
def idsSameUptoRow : OpenClaim := { program := "ytepjflepnkfboaa", sum := "c505d933bb420d292218c04060e346c250f2700a4571468c17de83d0dbf2afd7", func := "toponym/toponymlaw09.IdsSame", spec := "idsSame", inPlace := ["maps.clone"], unfollowed := true, recurses := true, apart := false, narrowed := true }
def IdsSameUptoSaid : Prop := idsSameUptoRow.holds Try.pinned (OpenSpec.upto idsSameSpec)

end Rows
end Go.Proofs.Ytepjflepnkfboaa

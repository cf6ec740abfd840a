/-
  No cell of these rows narrows 'for every input' (looked for: loops, veiled, ifaces, maps, wideKeys, modest, calm, conditions, laid).
  DERIVED. THE GIVEN ROWS OF THIS SEAT. 5 by the template 'for every input the law returns true; each argument reads behind the call as it read before'; 0 by the template 'total and deterministic' (their statements: YtolilbcpfdnkjaaGreatTotals.lean).
  GIVEN WITH THE SEED: the statements are not yours to turn. If you find one false, say at which input.
  Laid BY PROGRAM, IN A SANDBOX (cutbox-rows.mjs): the forced cells as the released guide's own fill.sh prints them over the translation 3f362355edad0521… (all of the seat's roots in one cut). By AI agents, Wed Nov 11 2026. No macro, syntax, notation, axiom, sorry.
-/
import Derived.Test.YtolilbcpfdnkjaaGreatChecked
import GoSem.Claim
import GoSem.ClaimJoined
import GoSem.ClaimMapViews
import Derived.JoinedTies
import Derived.KernelRfl
namespace Go.Proofs.YtolilbcpfdnkjaaGreat
/- THE CELL 'sum', in the pinned program and in every row, IS THE sha256 OF THE DUMP (.gsa) THAT YtolilbcpfdnkjaaGreatProg.lean LOADS. Nothing in Lean hashes anything: it is a label: what it is worth is what the hold of that sum in a sandbox is worth. -/
noncomputable def Tryz.pinned : Pinned := { name := "ytolilbcpfdnkjaagreat", sum := "3f362355edad052151141538e6ba68ff9bae98c4495bd0259206925a4cd79e9a", checked := Tryz.checked }
namespace Rows
def none {H : Type} : Left H := { results := [], args := [] }

/-- 'toponymlaw10.TreeClones': WHATEVER THE INPUT: true; the input reads as it did. -/
def treeClonesSpec : ChangeSpec := { name := "treeClones", fn := fun _ => fun
  | [d1, d2] => { results := [.lit (.bool true)], args := [d1, d2] }
  | _ => none }
def treeClonesRow : OpenClaim := { program := "ytolilbcpfdnkjaagreat", sum := "3f362355edad052151141538e6ba68ff9bae98c4495bd0259206925a4cd79e9a", func := "toponym/toponymlaw10.TreeClones", spec := "treeClones", inPlace := ["internal/bytealg.IndexByteString", "internal/bytealg.IndexString", "maps.clone"], unfollowed := true, recurses := true, named := ["internal/bytealg.MaxLen"], apart := false }
def TreeClonesSaid : Prop := treeClonesRow.holds Tryz.pinned (OpenSpec.ofChange treeClonesSpec)

/-- ITS FALSE NEIGHBOUR: 'it returns false'. Refute it at one input. -/
def treeClonesWrong : ChangeSpec := { name := "treeClones", fn := fun _ => fun
  | [d1, d2] => { results := [.lit (.bool false)], args := [d1, d2] }
  | _ => none }
def TreeClonesWrongFalsely : Prop := treeClonesRow.holds Tryz.pinned (OpenSpec.ofChange treeClonesWrong)

/-- 'toponymlaw11.DeedDoes': WHATEVER THE INPUT: true; the input reads as it did. -/
def deedDoesSpec : ChangeSpec := { name := "deedDoes", fn := fun _ => fun
  | [d] => { results := [.lit (.bool true)], args := [d] }
  | _ => none }
def deedDoesRow : OpenClaim := { program := "ytolilbcpfdnkjaagreat", sum := "3f362355edad052151141538e6ba68ff9bae98c4495bd0259206925a4cd79e9a", func := "toponym/toponymlaw11.DeedDoes", spec := "deedDoes", inPlace := ["internal/bytealg.IndexByteString", "internal/bytealg.IndexString"], unfollowed := true, recurses := true, named := ["internal/bytealg.MaxLen"], apart := false }
def DeedDoesSaid : Prop := deedDoesRow.holds Tryz.pinned (OpenSpec.ofChange deedDoesSpec)

/-- ITS FALSE NEIGHBOUR: 'it returns false'. Refute it at one input. -/
def deedDoesWrong : ChangeSpec := { name := "deedDoes", fn := fun _ => fun
  | [d] => { results := [.lit (.bool false)], args := [d] }
  | _ => none }
def DeedDoesWrongFalsely : Prop := deedDoesRow.holds Tryz.pinned (OpenSpec.ofChange deedDoesWrong)

/-- 'toponymlaw10.TreeMakes': WHATEVER THE INPUT: true; the input reads as it did. -/
def treeMakesSpec : ChangeSpec := { name := "treeMakes", fn := fun _ => fun
  | [d1, d2, d3] => { results := [.lit (.bool true)], args := [d1, d2, d3] }
  | _ => none }
def treeMakesRow : OpenClaim := { program := "ytolilbcpfdnkjaagreat", sum := "3f362355edad052151141538e6ba68ff9bae98c4495bd0259206925a4cd79e9a", func := "toponym/toponymlaw10.TreeMakes", spec := "treeMakes", inPlace := ["internal/bytealg.IndexByteString", "internal/bytealg.IndexString"], unfollowed := true, recurses := true, named := ["internal/bytealg.MaxLen"], apart := false }
def TreeMakesSaid : Prop := treeMakesRow.holds Tryz.pinned (OpenSpec.ofChange treeMakesSpec)

/-- ITS FALSE NEIGHBOUR: 'it returns false'. Refute it at one input. -/
def treeMakesWrong : ChangeSpec := { name := "treeMakes", fn := fun _ => fun
  | [d1, d2, d3] => { results := [.lit (.bool false)], args := [d1, d2, d3] }
  | _ => none }
def TreeMakesWrongFalsely : Prop := treeMakesRow.holds Tryz.pinned (OpenSpec.ofChange treeMakesWrong)

/-- 'toponymlaw12.ImageBent': WHATEVER THE INPUT: true; the input reads as it did. -/
def imageBentSpec : ChangeSpec := { name := "imageBent", fn := fun _ => fun
  | [d1, d2, d3] => { results := [.lit (.bool true)], args := [d1, d2, d3] }
  | _ => none }
def imageBentRow : OpenClaim := { program := "ytolilbcpfdnkjaagreat", sum := "3f362355edad052151141538e6ba68ff9bae98c4495bd0259206925a4cd79e9a", func := "toponym/toponymlaw12.ImageBent", spec := "imageBent", inPlace := ["internal/abi.NoEscape", "internal/bytealg.IndexByteString", "internal/bytealg.IndexString"], unfollowed := true, recurses := true, named := ["internal/bytealg.MaxLen"], apart := false }
def ImageBentSaid : Prop := imageBentRow.holds Tryz.pinned (OpenSpec.ofChange imageBentSpec)

/-- ITS FALSE NEIGHBOUR: 'it returns false'. Refute it at one input. -/
def imageBentWrong : ChangeSpec := { name := "imageBent", fn := fun _ => fun
  | [d1, d2, d3] => { results := [.lit (.bool false)], args := [d1, d2, d3] }
  | _ => none }
def ImageBentWrongFalsely : Prop := imageBentRow.holds Tryz.pinned (OpenSpec.ofChange imageBentWrong)

/-- 'toponymlaw12.ImageWrites': WHATEVER THE INPUT: true; the input reads as it did. -/
def imageWritesSpec : ChangeSpec := { name := "imageWrites", fn := fun _ => fun
  | [d] => { results := [.lit (.bool true)], args := [d] }
  | _ => none }
def imageWritesRow : OpenClaim := { program := "ytolilbcpfdnkjaagreat", sum := "3f362355edad052151141538e6ba68ff9bae98c4495bd0259206925a4cd79e9a", func := "toponym/toponymlaw12.ImageWrites", spec := "imageWrites", inPlace := ["internal/abi.NoEscape", "internal/bytealg.IndexByteString", "internal/bytealg.IndexString"], unfollowed := true, recurses := true, named := ["internal/bytealg.MaxLen"], apart := false }
def ImageWritesSaid : Prop := imageWritesRow.holds Tryz.pinned (OpenSpec.ofChange imageWritesSpec)

/-- ITS FALSE NEIGHBOUR: 'it returns false'. Refute it at one input. -/
def imageWritesWrong : ChangeSpec := { name := "imageWrites", fn := fun _ => fun
  | [d] => { results := [.lit (.bool false)], args := [d] }
  | _ => none }
def ImageWritesWrongFalsely : Prop := imageWritesRow.holds Tryz.pinned (OpenSpec.ofChange imageWritesWrong)

/- THE SECOND FORM. 'bulk': how many values and letters a reading holds, each counted each time it is reached (what is shared counts as often as it is met; a slice's spare places count too). A statement '..UptoSaid' is the law's where the arguments, and the package variables that the reading takes, are together of bulk at most 1048576: NARROWER than '..Said'. Prove '..Said' where nothing that the law and all that it calls make is longer than what came in: it says more and counts as full. Else prove '..UptoSaid'. A law counts once. -/
mutual
def uptoBulk {H : Type} : DataW H → Nat
  | .lit (.string bytes) => bytes.length + 1
  | .lit _ => 1
  | .nil => 1
  | .ptr d => uptoBulk d + 1
  | .slice elems spare => uptoBulkAll elems + uptoBulkAll spare + 1
  | .agg parts => uptoBulkAll parts + 1
  | .iface _ d => uptoBulk d + 1
  | .map entries => uptoBulkEntries entries + 1
  | .held _ => 1
def uptoBulkAll {H : Type} : List (DataW H) → Nat
  | [] => 0
  | d :: r => uptoBulk d + uptoBulkAll r
def uptoBulkEntries {H : Type} : List (Lit × DataW H) → Nat
  | [] => 0
  | x :: r => uptoBulkEntry x + uptoBulkEntries r
def uptoBulkEntry {H : Type} : Lit × DataW H → Nat
  | (.string bytes, d) => bytes.length + uptoBulk d + 1
  | (_, d) => uptoBulk d + 1
 end
def uptoSmall : (H : Type) → List (DataW H) → Bool := fun _ ds => decide (uptoBulkAll ds ≤ 1048576)
def OpenSpec.upto (s : _root_.Go.ChangeSpec) : _root_.Go.OpenSpec := { _root_.Go.OpenSpec.ofChange s with cond := some uptoSmall }

/-- 'toponymlaw10.TreeClones', WHERE WHAT IT READS IS OF BULK AT MOST 1048576: true; the input reads as it did. -/
def treeClonesUptoRow : OpenClaim := { program := "ytolilbcpfdnkjaagreat", sum := "3f362355edad052151141538e6ba68ff9bae98c4495bd0259206925a4cd79e9a", func := "toponym/toponymlaw10.TreeClones", spec := "treeClones", inPlace := ["internal/bytealg.IndexByteString", "internal/bytealg.IndexString", "maps.clone"], unfollowed := true, recurses := true, named := ["internal/bytealg.MaxLen"], apart := false, narrowed := true }
def TreeClonesUptoSaid : Prop := treeClonesUptoRow.holds Tryz.pinned (OpenSpec.upto treeClonesSpec)

/-- 'toponymlaw11.DeedDoes', WHERE WHAT IT READS IS OF BULK AT MOST 1048576: true; the input reads as it did. -/
def deedDoesUptoRow : OpenClaim := { program := "ytolilbcpfdnkjaagreat", sum := "3f362355edad052151141538e6ba68ff9bae98c4495bd0259206925a4cd79e9a", func := "toponym/toponymlaw11.DeedDoes", spec := "deedDoes", inPlace := ["internal/bytealg.IndexByteString", "internal/bytealg.IndexString"], unfollowed := true, recurses := true, named := ["internal/bytealg.MaxLen"], apart := false, narrowed := true }
def DeedDoesUptoSaid : Prop := deedDoesUptoRow.holds Tryz.pinned (OpenSpec.upto deedDoesSpec)

/-- 'toponymlaw10.TreeMakes', WHERE WHAT IT READS IS OF BULK AT MOST 1048576: true; the input reads as it did. -/
def treeMakesUptoRow : OpenClaim := { program := "ytolilbcpfdnkjaagreat", sum := "3f362355edad052151141538e6ba68ff9bae98c4495bd0259206925a4cd79e9a", func := "toponym/toponymlaw10.TreeMakes", spec := "treeMakes", inPlace := ["internal/bytealg.IndexByteString", "internal/bytealg.IndexString"], unfollowed := true, recurses := true, named := ["internal/bytealg.MaxLen"], apart := false, narrowed := true }
def TreeMakesUptoSaid : Prop := treeMakesUptoRow.holds Tryz.pinned (OpenSpec.upto treeMakesSpec)

/-- 'toponymlaw12.ImageBent', WHERE WHAT IT READS IS OF BULK AT MOST 1048576: true; the input reads as it did. -/
def imageBentUptoRow : OpenClaim := { program := "ytolilbcpfdnkjaagreat", sum := "3f362355edad052151141538e6ba68ff9bae98c4495bd0259206925a4cd79e9a", func := "toponym/toponymlaw12.ImageBent", spec := "imageBent", inPlace := ["internal/abi.NoEscape", "internal/bytealg.IndexByteString", "internal/bytealg.IndexString"], unfollowed := true, recurses := true, named := ["internal/bytealg.MaxLen"], apart := false, narrowed := true }
def ImageBentUptoSaid : Prop := imageBentUptoRow.holds Tryz.pinned (OpenSpec.upto imageBentSpec)

/-- 'toponymlaw12.ImageWrites', WHERE WHAT IT READS IS OF BULK AT MOST 1048576: true; the input reads as it did. -/
def imageWritesUptoRow : OpenClaim := { program := "ytolilbcpfdnkjaagreat", sum := "3f362355edad052151141538e6ba68ff9bae98c4495bd0259206925a4cd79e9a", func := "toponym/toponymlaw12.ImageWrites", spec := "imageWrites", inPlace := ["internal/abi.NoEscape", "internal/bytealg.IndexByteString", "internal/bytealg.IndexString"], unfollowed := true, recurses := true, named := ["internal/bytealg.MaxLen"], apart := false, narrowed := true }
def ImageWritesUptoSaid : Prop := imageWritesUptoRow.holds Tryz.pinned (OpenSpec.upto imageWritesSpec)

end Rows
end Go.Proofs.YtolilbcpfdnkjaaGreat

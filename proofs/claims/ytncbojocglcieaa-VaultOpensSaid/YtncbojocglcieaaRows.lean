/-
  No cell of these rows narrows 'for every input' (looked for: loops, veiled, ifaces, maps, wideKeys, modest, calm, conditions, laid).
  DERIVED. THE GIVEN ROWS OF THIS SEAT. 13 by the template 'for every input the law returns true; each argument reads behind the call as it read before'; 0 by the template 'total and deterministic' (their statements: YtncbojocglcieaaTotals.lean).
  GIVEN WITH THE SEED: the statements are not yours to turn. If you find one false, say at which input.
  Laid BY PROGRAM, IN A SANDBOX (cutbox-rows.mjs): the forced cells as the released guide's own fill.sh prints them over the translation 07b416957a3e25fd… (all of the seat's roots in one cut). By AI agents, Wed Nov 11 2026. No macro, syntax, notation, axiom, sorry.
-/
import Derived.Test.YtncbojocglcieaaChecked
import GoSem.Claim
import GoSem.ClaimJoined
import GoSem.ClaimMapViews
import Derived.JoinedTies
import Derived.KernelRfl
namespace Go.Proofs.Ytncbojocglcieaa
/- THE CELL 'sum', in the pinned program and in every row, IS THE sha256 OF THE DUMP (.gsa) THAT YtncbojocglcieaaProg.lean LOADS. Nothing in Lean hashes anything: it is a label: what it is worth is what the hold of that sum in a sandbox is worth. -/
noncomputable def Try.pinned : Pinned := { name := "ytncbojocglcieaa", sum := "07b416957a3e25fd890e0a76917df488e102a0c47d8d641cb0ae542de69f49e9", checked := Try.checked }
namespace Rows
def none {H : Type} : Left H := { results := [], args := [] }

/-- 'toponymlaw06.SectorSafe': WHATEVER THE INPUT: true; the input reads as it did. -/
def sectorSafeSpec : ChangeSpec := { name := "sectorSafe", fn := fun _ => fun
  | [d1, d2, d3] => { results := [.lit (.bool true)], args := [d1, d2, d3] }
  | _ => none }
def sectorSafeRow : OpenClaim := { program := "ytncbojocglcieaa", sum := "07b416957a3e25fd890e0a76917df488e102a0c47d8d641cb0ae542de69f49e9", func := "toponym/toponymlaw06.SectorSafe", spec := "sectorSafe", inPlace := ["maps.clone", "internal/abi.NoEscape", "internal/bytealg.MakeNoZero"], apart := false }
def SectorSafeSaid : Prop := sectorSafeRow.holds Try.pinned (OpenSpec.ofChange sectorSafeSpec)

/-- ITS FALSE NEIGHBOUR: 'it returns false'. Refute it at one input. -/
def sectorSafeWrong : ChangeSpec := { name := "sectorSafe", fn := fun _ => fun
  | [d1, d2, d3] => { results := [.lit (.bool false)], args := [d1, d2, d3] }
  | _ => none }
def SectorSafeWrongFalsely : Prop := sectorSafeRow.holds Try.pinned (OpenSpec.ofChange sectorSafeWrong)

/-- 'toponymlaw07.BankFrames': WHATEVER THE INPUT: true; the input reads as it did. -/
def bankFramesSpec : ChangeSpec := { name := "bankFrames", fn := fun _ => fun
  | [d] => { results := [.lit (.bool true)], args := [d] }
  | _ => none }
def bankFramesRow : OpenClaim := { program := "ytncbojocglcieaa", sum := "07b416957a3e25fd890e0a76917df488e102a0c47d8d641cb0ae542de69f49e9", func := "toponym/toponymlaw07.BankFrames", spec := "bankFrames", inPlace := ["internal/abi.NoEscape", "internal/bytealg.MakeNoZero"], apart := false }
def BankFramesSaid : Prop := bankFramesRow.holds Try.pinned (OpenSpec.ofChange bankFramesSpec)

/-- ITS FALSE NEIGHBOUR: 'it returns false'. Refute it at one input. -/
def bankFramesWrong : ChangeSpec := { name := "bankFrames", fn := fun _ => fun
  | [d] => { results := [.lit (.bool false)], args := [d] }
  | _ => none }
def BankFramesWrongFalsely : Prop := bankFramesRow.holds Try.pinned (OpenSpec.ofChange bankFramesWrong)

/-- 'toponymlaw06.SectorPlays': WHATEVER THE INPUT: true; the input reads as it did. -/
def sectorPlaysSpec : ChangeSpec := { name := "sectorPlays", fn := fun _ => fun
  | [d1, d2] => { results := [.lit (.bool true)], args := [d1, d2] }
  | _ => none }
def sectorPlaysRow : OpenClaim := { program := "ytncbojocglcieaa", sum := "07b416957a3e25fd890e0a76917df488e102a0c47d8d641cb0ae542de69f49e9", func := "toponym/toponymlaw06.SectorPlays", spec := "sectorPlays", inPlace := ["internal/abi.NoEscape", "internal/bytealg.MakeNoZero", "maps.clone"], apart := false }
def SectorPlaysSaid : Prop := sectorPlaysRow.holds Try.pinned (OpenSpec.ofChange sectorPlaysSpec)

/-- ITS FALSE NEIGHBOUR: 'it returns false'. Refute it at one input. -/
def sectorPlaysWrong : ChangeSpec := { name := "sectorPlays", fn := fun _ => fun
  | [d1, d2] => { results := [.lit (.bool false)], args := [d1, d2] }
  | _ => none }
def SectorPlaysWrongFalsely : Prop := sectorPlaysRow.holds Try.pinned (OpenSpec.ofChange sectorPlaysWrong)

/-- 'toponymlaw06.SectorCuts': WHATEVER THE INPUT: true; the input reads as it did. -/
def sectorCutsSpec : ChangeSpec := { name := "sectorCuts", fn := fun _ => fun
  | [d1, d2] => { results := [.lit (.bool true)], args := [d1, d2] }
  | _ => none }
def sectorCutsRow : OpenClaim := { program := "ytncbojocglcieaa", sum := "07b416957a3e25fd890e0a76917df488e102a0c47d8d641cb0ae542de69f49e9", func := "toponym/toponymlaw06.SectorCuts", spec := "sectorCuts", inPlace := ["internal/abi.NoEscape", "internal/bytealg.MakeNoZero", "maps.clone"], apart := false }
def SectorCutsSaid : Prop := sectorCutsRow.holds Try.pinned (OpenSpec.ofChange sectorCutsSpec)

/-- ITS FALSE NEIGHBOUR: 'it returns false'. Refute it at one input. -/
def sectorCutsWrong : ChangeSpec := { name := "sectorCuts", fn := fun _ => fun
  | [d1, d2] => { results := [.lit (.bool false)], args := [d1, d2] }
  | _ => none }
def SectorCutsWrongFalsely : Prop := sectorCutsRow.holds Try.pinned (OpenSpec.ofChange sectorCutsWrong)

/-- 'toponymlaw07.BankEpochs': WHATEVER THE INPUT: true; the input reads as it did. -/
def bankEpochsSpec : ChangeSpec := { name := "bankEpochs", fn := fun _ => fun
  | [d1, d2, d3] => { results := [.lit (.bool true)], args := [d1, d2, d3] }
  | _ => none }
def bankEpochsRow : OpenClaim := { program := "ytncbojocglcieaa", sum := "07b416957a3e25fd890e0a76917df488e102a0c47d8d641cb0ae542de69f49e9", func := "toponym/toponymlaw07.BankEpochs", spec := "bankEpochs", inPlace := ["internal/abi.NoEscape", "internal/bytealg.MakeNoZero"], apart := false }
def BankEpochsSaid : Prop := bankEpochsRow.holds Try.pinned (OpenSpec.ofChange bankEpochsSpec)

/-- ITS FALSE NEIGHBOUR: 'it returns false'. Refute it at one input. -/
def bankEpochsWrong : ChangeSpec := { name := "bankEpochs", fn := fun _ => fun
  | [d1, d2, d3] => { results := [.lit (.bool false)], args := [d1, d2, d3] }
  | _ => none }
def BankEpochsWrongFalsely : Prop := bankEpochsRow.holds Try.pinned (OpenSpec.ofChange bankEpochsWrong)

/-- 'toponymlaw07.BankWrites': WHATEVER THE INPUT: true; the input reads as it did. -/
def bankWritesSpec : ChangeSpec := { name := "bankWrites", fn := fun _ => fun
  | [d1, d2, d3] => { results := [.lit (.bool true)], args := [d1, d2, d3] }
  | _ => none }
def bankWritesRow : OpenClaim := { program := "ytncbojocglcieaa", sum := "07b416957a3e25fd890e0a76917df488e102a0c47d8d641cb0ae542de69f49e9", func := "toponym/toponymlaw07.BankWrites", spec := "bankWrites", inPlace := ["internal/abi.NoEscape", "internal/bytealg.MakeNoZero"], apart := false }
def BankWritesSaid : Prop := bankWritesRow.holds Try.pinned (OpenSpec.ofChange bankWritesSpec)

/-- ITS FALSE NEIGHBOUR: 'it returns false'. Refute it at one input. -/
def bankWritesWrong : ChangeSpec := { name := "bankWrites", fn := fun _ => fun
  | [d1, d2, d3] => { results := [.lit (.bool false)], args := [d1, d2, d3] }
  | _ => none }
def BankWritesWrongFalsely : Prop := bankWritesRow.holds Try.pinned (OpenSpec.ofChange bankWritesWrong)

/-- 'toponymlaw07.BankScans': WHATEVER THE INPUT: true; the input reads as it did. -/
def bankScansSpec : ChangeSpec := { name := "bankScans", fn := fun _ => fun
  | [d1, d2, d3] => { results := [.lit (.bool true)], args := [d1, d2, d3] }
  | _ => none }
def bankScansRow : OpenClaim := { program := "ytncbojocglcieaa", sum := "07b416957a3e25fd890e0a76917df488e102a0c47d8d641cb0ae542de69f49e9", func := "toponym/toponymlaw07.BankScans", spec := "bankScans", inPlace := ["internal/abi.NoEscape", "internal/bytealg.MakeNoZero"], apart := false }
def BankScansSaid : Prop := bankScansRow.holds Try.pinned (OpenSpec.ofChange bankScansSpec)

/-- ITS FALSE NEIGHBOUR: 'it returns false'. Refute it at one input. -/
def bankScansWrong : ChangeSpec := { name := "bankScans", fn := fun _ => fun
  | [d1, d2, d3] => { results := [.lit (.bool false)], args := [d1, d2, d3] }
  | _ => none }
def BankScansWrongFalsely : Prop := bankScansRow.holds Try.pinned (OpenSpec.ofChange bankScansWrong)

/-- 'toponymlaw07.BankArgs': WHATEVER THE INPUT: true; the input reads as it did. -/
def bankArgsSpec : ChangeSpec := { name := "bankArgs", fn := fun _ => fun
  | [d1, d2] => { results := [.lit (.bool true)], args := [d1, d2] }
  | _ => none }
def bankArgsRow : OpenClaim := { program := "ytncbojocglcieaa", sum := "07b416957a3e25fd890e0a76917df488e102a0c47d8d641cb0ae542de69f49e9", func := "toponym/toponymlaw07.BankArgs", spec := "bankArgs", inPlace := ["internal/abi.NoEscape", "internal/bytealg.MakeNoZero"], apart := false }
def BankArgsSaid : Prop := bankArgsRow.holds Try.pinned (OpenSpec.ofChange bankArgsSpec)

/-- ITS FALSE NEIGHBOUR: 'it returns false'. Refute it at one input. -/
def bankArgsWrong : ChangeSpec := { name := "bankArgs", fn := fun _ => fun
  | [d1, d2] => { results := [.lit (.bool false)], args := [d1, d2] }
  | _ => none }
def BankArgsWrongFalsely : Prop := bankArgsRow.holds Try.pinned (OpenSpec.ofChange bankArgsWrong)

/-- 'toponymlaw07.BankLoses': WHATEVER THE INPUT: true; the input reads as it did. -/
def bankLosesSpec : ChangeSpec := { name := "bankLoses", fn := fun _ => fun
  | [d1, d2, d3] => { results := [.lit (.bool true)], args := [d1, d2, d3] }
  | _ => none }
def bankLosesRow : OpenClaim := { program := "ytncbojocglcieaa", sum := "07b416957a3e25fd890e0a76917df488e102a0c47d8d641cb0ae542de69f49e9", func := "toponym/toponymlaw07.BankLoses", spec := "bankLoses", inPlace := ["internal/abi.NoEscape", "internal/bytealg.MakeNoZero", "maps.clone"], apart := false }
def BankLosesSaid : Prop := bankLosesRow.holds Try.pinned (OpenSpec.ofChange bankLosesSpec)

/-- ITS FALSE NEIGHBOUR: 'it returns false'. Refute it at one input. -/
def bankLosesWrong : ChangeSpec := { name := "bankLoses", fn := fun _ => fun
  | [d1, d2, d3] => { results := [.lit (.bool false)], args := [d1, d2, d3] }
  | _ => none }
def BankLosesWrongFalsely : Prop := bankLosesRow.holds Try.pinned (OpenSpec.ofChange bankLosesWrong)

/-- 'toponymlaw08.VaultOpens': WHATEVER THE INPUT: true; the input reads as it did. -/
def vaultOpensSpec : ChangeSpec := { name := "vaultOpens", fn := fun _ => fun
  | [d1, d2, d3] => { results := [.lit (.bool true)], args := [d1, d2, d3] }
  | _ => none }
def vaultOpensRow : OpenClaim := { program := "ytncbojocglcieaa", sum := "07b416957a3e25fd890e0a76917df488e102a0c47d8d641cb0ae542de69f49e9", func := "toponym/toponymlaw08.VaultOpens", spec := "vaultOpens", inPlace := ["internal/abi.NoEscape", "internal/bytealg.MakeNoZero", "maps.clone"], unfollowed := true, recurses := true, apart := false }
def VaultOpensSaid : Prop := vaultOpensRow.holds Try.pinned (OpenSpec.ofChange vaultOpensSpec)

/-- ITS FALSE NEIGHBOUR: 'it returns false'. Refute it at one input. -/
def vaultOpensWrong : ChangeSpec := { name := "vaultOpens", fn := fun _ => fun
  | [d1, d2, d3] => { results := [.lit (.bool false)], args := [d1, d2, d3] }
  | _ => none }
def VaultOpensWrongFalsely : Prop := vaultOpensRow.holds Try.pinned (OpenSpec.ofChange vaultOpensWrong)

/-- 'toponymlaw08.VaultPlays': WHATEVER THE INPUT: true; the input reads as it did. -/
def vaultPlaysSpec : ChangeSpec := { name := "vaultPlays", fn := fun _ => fun
  | [d1, d2, d3] => { results := [.lit (.bool true)], args := [d1, d2, d3] }
  | _ => none }
def vaultPlaysRow : OpenClaim := { program := "ytncbojocglcieaa", sum := "07b416957a3e25fd890e0a76917df488e102a0c47d8d641cb0ae542de69f49e9", func := "toponym/toponymlaw08.VaultPlays", spec := "vaultPlays", inPlace := ["internal/abi.NoEscape", "internal/bytealg.MakeNoZero", "maps.clone"], unfollowed := true, recurses := true, apart := false }
def VaultPlaysSaid : Prop := vaultPlaysRow.holds Try.pinned (OpenSpec.ofChange vaultPlaysSpec)

/-- ITS FALSE NEIGHBOUR: 'it returns false'. Refute it at one input. -/
def vaultPlaysWrong : ChangeSpec := { name := "vaultPlays", fn := fun _ => fun
  | [d1, d2, d3] => { results := [.lit (.bool false)], args := [d1, d2, d3] }
  | _ => none }
def VaultPlaysWrongFalsely : Prop := vaultPlaysRow.holds Try.pinned (OpenSpec.ofChange vaultPlaysWrong)

/-- 'toponymlaw08.VaultRenews': WHATEVER THE INPUT: true; the input reads as it did. -/
def vaultRenewsSpec : ChangeSpec := { name := "vaultRenews", fn := fun _ => fun
  | [d1, d2, d3] => { results := [.lit (.bool true)], args := [d1, d2, d3] }
  | _ => none }
def vaultRenewsRow : OpenClaim := { program := "ytncbojocglcieaa", sum := "07b416957a3e25fd890e0a76917df488e102a0c47d8d641cb0ae542de69f49e9", func := "toponym/toponymlaw08.VaultRenews", spec := "vaultRenews", inPlace := ["internal/abi.NoEscape", "internal/bytealg.MakeNoZero", "maps.clone"], unfollowed := true, recurses := true, apart := false }
def VaultRenewsSaid : Prop := vaultRenewsRow.holds Try.pinned (OpenSpec.ofChange vaultRenewsSpec)

/-- ITS FALSE NEIGHBOUR: 'it returns false'. Refute it at one input. -/
def vaultRenewsWrong : ChangeSpec := { name := "vaultRenews", fn := fun _ => fun
  | [d1, d2, d3] => { results := [.lit (.bool false)], args := [d1, d2, d3] }
  | _ => none }
def VaultRenewsWrongFalsely : Prop := vaultRenewsRow.holds Try.pinned (OpenSpec.ofChange vaultRenewsWrong)

/-- 'toponymlaw08.VaultCrashes': WHATEVER THE INPUT: true; the input reads as it did. -/
def vaultCrashesSpec : ChangeSpec := { name := "vaultCrashes", fn := fun _ => fun
  | [d1, d2] => { results := [.lit (.bool true)], args := [d1, d2] }
  | _ => none }
def vaultCrashesRow : OpenClaim := { program := "ytncbojocglcieaa", sum := "07b416957a3e25fd890e0a76917df488e102a0c47d8d641cb0ae542de69f49e9", func := "toponym/toponymlaw08.VaultCrashes", spec := "vaultCrashes", inPlace := ["internal/abi.NoEscape", "internal/bytealg.MakeNoZero", "maps.clone"], unfollowed := true, recurses := true, apart := false }
def VaultCrashesSaid : Prop := vaultCrashesRow.holds Try.pinned (OpenSpec.ofChange vaultCrashesSpec)

/-- ITS FALSE NEIGHBOUR: 'it returns false'. Refute it at one input. -/
def vaultCrashesWrong : ChangeSpec := { name := "vaultCrashes", fn := fun _ => fun
  | [d1, d2] => { results := [.lit (.bool false)], args := [d1, d2] }
  | _ => none }
def VaultCrashesWrongFalsely : Prop := vaultCrashesRow.holds Try.pinned (OpenSpec.ofChange vaultCrashesWrong)

/- THE SECOND FORM. 'bulk': how many values and letters a reading holds, each counted each time it is reached (what is shared counts as often as it is met; a slice's spare places count too). A statement '..UptoSaid' is the law's where the arguments, and the package variables that the reading takes, are together of bulk at most 1048576: NARROWER than '..Said'. Prove '..Said' where nothing that the law and all that it calls make is longer than what came in: it says more and counts as full. Else prove '..UptoSaid'. A law counts once. -/
mutual
def uptoBulk {H : Type} : DataW H → Nat
  | .lit (.string bytes) => bytes.length + 1
  | .lit _ => 1
  | .nil => 1
  | .ptr d => uptoBulk d + 1
  | .slice elems spare => uptoBulkAll elems + uptoBulkAll spare + 1
  | .agg parts => uptoBulkAll parts + 1
  | .iface _ d => uptoBulk d + 1
  | .map entries => uptoBulkEntries entries + 1
  | .held _ => 1
def uptoBulkAll {H : Type} : List (DataW H) → Nat
  | [] => 0
  | d :: r => uptoBulk d + uptoBulkAll r
def uptoBulkEntries {H : Type} : List (Lit × DataW H) → Nat
  | [] => 0
  | x :: r => uptoBulkEntry x + uptoBulkEntries r
def uptoBulkEntry {H : Type} : Lit × DataW H → Nat
  | (.string bytes, d) => bytes.length + uptoBulk d + 1
  | (_, d) => uptoBulk d + 1
 end
def uptoSmall : (H : Type) → List (DataW H) → Bool := fun _ ds => decide (uptoBulkAll ds ≤ 1048576)
def OpenSpec.upto (s : _root_.Go.ChangeSpec) : _root_.Go.OpenSpec := { _root_.Go.OpenSpec.ofChange s with cond := some uptoSmall }

/-- 'toponymlaw06.SectorSafe', WHERE WHAT IT READS IS OF BULK AT MOST 1048576: true; the input reads as it did. -/
def sectorSafeUptoRow : OpenClaim := { program := "ytncbojocglcieaa", sum := "07b416957a3e25fd890e0a76917df488e102a0c47d8d641cb0ae542de69f49e9", func := "toponym/toponymlaw06.SectorSafe", spec := "sectorSafe", inPlace := ["maps.clone", "internal/abi.NoEscape", "internal/bytealg.MakeNoZero"], apart := false, narrowed := true }
def SectorSafeUptoSaid : Prop := sectorSafeUptoRow.holds Try.pinned (OpenSpec.upto sectorSafeSpec)

/-- 'toponymlaw07.BankFrames', WHERE WHAT IT READS IS OF BULK AT MOST 1048576: true; the input reads as it did. -/
def bankFramesUptoRow : OpenClaim := { program := "ytncbojocglcieaa", sum := "07b416957a3e25fd890e0a76917df488e102a0c47d8d641cb0ae542de69f49e9", func := "toponym/toponymlaw07.BankFrames", spec := "bankFrames", inPlace := ["internal/abi.NoEscape", "internal/bytealg.MakeNoZero"], apart := false, narrowed := true }
def BankFramesUptoSaid : Prop := bankFramesUptoRow.holds Try.pinned (OpenSpec.upto bankFramesSpec)

/-- 'toponymlaw06.SectorPlays', WHERE WHAT IT READS IS OF BULK AT MOST 1048576: true; the input reads as it did. -/
def sectorPlaysUptoRow : OpenClaim := { program := "ytncbojocglcieaa", sum := "07b416957a3e25fd890e0a76917df488e102a0c47d8d641cb0ae542de69f49e9", func := "toponym/toponymlaw06.SectorPlays", spec := "sectorPlays", inPlace := ["internal/abi.NoEscape", "internal/bytealg.MakeNoZero", "maps.clone"], apart := false, narrowed := true }
def SectorPlaysUptoSaid : Prop := sectorPlaysUptoRow.holds Try.pinned (OpenSpec.upto sectorPlaysSpec)

/-- 'toponymlaw06.SectorCuts', WHERE WHAT IT READS IS OF BULK AT MOST 1048576: true; the input reads as it did. -/
def sectorCutsUptoRow : OpenClaim := { program := "ytncbojocglcieaa", sum := "07b416957a3e25fd890e0a76917df488e102a0c47d8d641cb0ae542de69f49e9", func := "toponym/toponymlaw06.SectorCuts", spec := "sectorCuts", inPlace := ["internal/abi.NoEscape", "internal/bytealg.MakeNoZero", "maps.clone"], apart := false, narrowed := true }
def SectorCutsUptoSaid : Prop := sectorCutsUptoRow.holds Try.pinned (OpenSpec.upto sectorCutsSpec)

/-- 'toponymlaw07.BankEpochs', WHERE WHAT IT READS IS OF BULK AT MOST 1048576: true; the input reads as it did. -/
def bankEpochsUptoRow : OpenClaim := { program := "ytncbojocglcieaa", sum := "07b416957a3e25fd890e0a76917df488e102a0c47d8d641cb0ae542de69f49e9", func := "toponym/toponymlaw07.BankEpochs", spec := "bankEpochs", inPlace := ["internal/abi.NoEscape", "internal/bytealg.MakeNoZero"], apart := false, narrowed := true }
def BankEpochsUptoSaid : Prop := bankEpochsUptoRow.holds Try.pinned (OpenSpec.upto bankEpochsSpec)

/-- 'toponymlaw07.BankWrites', WHERE WHAT IT READS IS OF BULK AT MOST 1048576: true; the input reads as it did. -/
def bankWritesUptoRow : OpenClaim := { program := "ytncbojocglcieaa", sum := "07b416957a3e25fd890e0a76917df488e102a0c47d8d641cb0ae542de69f49e9", func := "toponym/toponymlaw07.BankWrites", spec := "bankWrites", inPlace := ["internal/abi.NoEscape", "internal/bytealg.MakeNoZero"], apart := false, narrowed := true }
def BankWritesUptoSaid : Prop := bankWritesUptoRow.holds Try.pinned (OpenSpec.upto bankWritesSpec)

/-- 'toponymlaw07.BankScans', WHERE WHAT IT READS IS OF BULK AT MOST 1048576: true; the input reads as it did. -/
def bankScansUptoRow : OpenClaim := { program := "ytncbojocglcieaa", sum := "07b416957a3e25fd890e0a76917df488e102a0c47d8d641cb0ae542de69f49e9", func := "toponym/toponymlaw07.BankScans", spec := "bankScans", inPlace := ["internal/abi.NoEscape", "internal/bytealg.MakeNoZero"], apart := false, narrowed := true }
def BankScansUptoSaid : Prop := bankScansUptoRow.holds Try.pinned (OpenSpec.upto bankScansSpec)

/-- 'toponymlaw07.BankArgs', WHERE WHAT IT READS IS OF BULK AT MOST 1048576: true; the input reads as it did. -/
def bankArgsUptoRow : OpenClaim := { program := "ytncbojocglcieaa", sum := "07b416957a3e25fd890e0a76917df488e102a0c47d8d641cb0ae542de69f49e9", func := "toponym/toponymlaw07.BankArgs", spec := "bankArgs", inPlace := ["internal/abi.NoEscape", "internal/bytealg.MakeNoZero"], apart := false, narrowed := true }
def BankArgsUptoSaid : Prop := bankArgsUptoRow.holds Try.pinned (OpenSpec.upto bankArgsSpec)

/-- 'toponymlaw07.BankLoses', WHERE WHAT IT READS IS OF BULK AT MOST 1048576: true; the input reads as it did. -/
def bankLosesUptoRow : OpenClaim := { program := "ytncbojocglcieaa", sum := "07b416957a3e25fd890e0a76917df488e102a0c47d8d641cb0ae542de69f49e9", func := "toponym/toponymlaw07.BankLoses", spec := "bankLoses", inPlace := ["internal/abi.NoEscape", "internal/bytealg.MakeNoZero", "maps.clone"], apart := false, narrowed := true }
def BankLosesUptoSaid : Prop := bankLosesUptoRow.holds Try.pinned (OpenSpec.upto bankLosesSpec)

/-- 'toponymlaw08.VaultOpens', WHERE WHAT IT READS IS OF BULK AT MOST 1048576: true; the input reads as it did. -/
def vaultOpensUptoRow : OpenClaim := { program := "ytncbojocglcieaa", sum := "07b416957a3e25fd890e0a76917df488e102a0c47d8d641cb0ae542de69f49e9", func := "toponym/toponymlaw08.VaultOpens", spec := "vaultOpens", inPlace := ["internal/abi.NoEscape", "internal/bytealg.MakeNoZero", "maps.clone"], unfollowed := true, recurses := true, apart := false, narrowed := true }
def VaultOpensUptoSaid : Prop := vaultOpensUptoRow.holds Try.pinned (OpenSpec.upto vaultOpensSpec)

/-- 'toponymlaw08.VaultPlays', WHERE WHAT IT READS IS OF BULK AT MOST 1048576: true; the input reads as it did. -/
def vaultPlaysUptoRow : OpenClaim := { program := "ytncbojocglcieaa", sum := "07b416957a3e25fd890e0a76917df488e102a0c47d8d641cb0ae542de69f49e9", func := "toponym/toponymlaw08.VaultPlays", spec := "vaultPlays", inPlace := ["internal/abi.NoEscape", "internal/bytealg.MakeNoZero", "maps.clone"], unfollowed := true, recurses := true, apart := false, narrowed := true }
def VaultPlaysUptoSaid : Prop := vaultPlaysUptoRow.holds Try.pinned (OpenSpec.upto vaultPlaysSpec)

/-- 'toponymlaw08.VaultRenews', WHERE WHAT IT READS IS OF BULK AT MOST 1048576: true; the input reads as it did. -/
def vaultRenewsUptoRow : OpenClaim := { program := "ytncbojocglcieaa", sum := "07b416957a3e25fd890e0a76917df488e102a0c47d8d641cb0ae542de69f49e9", func := "toponym/toponymlaw08.VaultRenews", spec := "vaultRenews", inPlace := ["internal/abi.NoEscape", "internal/bytealg.MakeNoZero", "maps.clone"], unfollowed := true, recurses := true, apart := false, narrowed := true }
def VaultRenewsUptoSaid : Prop := vaultRenewsUptoRow.holds Try.pinned (OpenSpec.upto vaultRenewsSpec)

/-- 'toponymlaw08.VaultCrashes', WHERE WHAT IT READS IS OF BULK AT MOST 1048576: true; the input reads as it did. -/
def vaultCrashesUptoRow : OpenClaim := { program := "ytncbojocglcieaa", sum := "07b416957a3e25fd890e0a76917df488e102a0c47d8d641cb0ae542de69f49e9", func := "toponym/toponymlaw08.VaultCrashes", spec := "vaultCrashes", inPlace := ["internal/abi.NoEscape", "internal/bytealg.MakeNoZero", "maps.clone"], unfollowed := true, recurses := true, apart := false, narrowed := true }
def VaultCrashesUptoSaid : Prop := vaultCrashesUptoRow.holds Try.pinned (OpenSpec.upto vaultCrashesSpec)

end Rows
end Go.Proofs.Ytncbojocglcieaa

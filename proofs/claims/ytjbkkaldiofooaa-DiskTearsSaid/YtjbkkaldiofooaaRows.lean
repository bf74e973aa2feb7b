/-
  No cell of these rows narrows 'for every input' (looked for: loops, veiled, ifaces, maps, wideKeys, modest, calm, conditions, laid).
  DERIVED. THE GIVEN ROWS OF THIS SEAT. 11 by the template 'for every input the law returns true; each argument reads behind the call as it read before'; 0 by the template 'total and deterministic' (their statements: YtjbkkaldiofooaaTotals.lean).
  GIVEN WITH THE SEED: the statements are not yours to turn. If you find one false, say at which input.
  Laid BY PROGRAM, IN A SANDBOX (cutbox-rows.mjs): the forced cells as the released guide's own fill.sh prints them over the translation 137faa77c013a877… (all of the seat's roots in one cut). By AI agents, Wed Nov 11 2026. No macro, syntax, notation, axiom, sorry.
-/
import Derived.Test.YtjbkkaldiofooaaChecked
import GoSem.Claim
import GoSem.ClaimJoined
import GoSem.ClaimMapViews
import Derived.JoinedTies
import Derived.KernelRfl
namespace Go.Proofs.Ytjbkkaldiofooaa
/- THE CELL 'sum', in the pinned program and in every row, IS THE sha256 OF THE DUMP (.gsa) THAT YtjbkkaldiofooaaProg.lean LOADS. Nothing in Lean hashes anything: it is a label: what it is worth is what the hold of that sum in a sandbox is worth. -/
noncomputable def Try.pinned : Pinned := { name := "ytjbkkaldiofooaa", sum := "137faa77c013a877103cbf75cf1f83c140dcc80ec7071a87bfb886be9b599f12", checked := Try.checked }
namespace Rows
def none {H : Type} : Left H := { results := [], args := [] }

/-- 'jalousielaw07.DiskOwn': WHATEVER THE INPUT: true; the input reads as it did. -/
def diskOwnSpec : ChangeSpec := { name := "diskOwn", fn := fun _ => fun
  | [d] => { results := [.lit (.bool true)], args := [d] }
  | _ => none }
def diskOwnRow : OpenClaim := { program := "ytjbkkaldiofooaa", sum := "137faa77c013a877103cbf75cf1f83c140dcc80ec7071a87bfb886be9b599f12", func := "jalousie/jalousielaw07.DiskOwn", spec := "diskOwn", apart := false }
def DiskOwnSaid : Prop := diskOwnRow.holds Try.pinned (OpenSpec.ofChange diskOwnSpec)

/-- ITS FALSE NEIGHBOUR: 'it returns false'. Refute it at one input. -/
def diskOwnWrong : ChangeSpec := { name := "diskOwn", fn := fun _ => fun
  | [d] => { results := [.lit (.bool false)], args := [d] }
  | _ => none }
def DiskOwnWrongFalsely : Prop := diskOwnRow.holds Try.pinned (OpenSpec.ofChange diskOwnWrong)

/-- 'jalousielaw08.CellsGrows': WHATEVER THE INPUT: true; the input reads as it did. -/
def cellsGrowsSpec : ChangeSpec := { name := "cellsGrows", fn := fun _ => fun
  | [d1, d2] => { results := [.lit (.bool true)], args := [d1, d2] }
  | _ => none }
def cellsGrowsRow : OpenClaim := { program := "ytjbkkaldiofooaa", sum := "137faa77c013a877103cbf75cf1f83c140dcc80ec7071a87bfb886be9b599f12", func := "jalousie/jalousielaw08.CellsGrows", spec := "cellsGrows", apart := false }
def CellsGrowsSaid : Prop := cellsGrowsRow.holds Try.pinned (OpenSpec.ofChange cellsGrowsSpec)

/-- ITS FALSE NEIGHBOUR: 'it returns false'. Refute it at one input. -/
def cellsGrowsWrong : ChangeSpec := { name := "cellsGrows", fn := fun _ => fun
  | [d1, d2] => { results := [.lit (.bool false)], args := [d1, d2] }
  | _ => none }
def CellsGrowsWrongFalsely : Prop := cellsGrowsRow.holds Try.pinned (OpenSpec.ofChange cellsGrowsWrong)

/-- 'jalousielaw08.CellsOpens': WHATEVER THE INPUT: true; the input reads as it did. -/
def cellsOpensSpec : ChangeSpec := { name := "cellsOpens", fn := fun _ => fun
  | [d1, d2, d3] => { results := [.lit (.bool true)], args := [d1, d2, d3] }
  | _ => none }
def cellsOpensRow : OpenClaim := { program := "ytjbkkaldiofooaa", sum := "137faa77c013a877103cbf75cf1f83c140dcc80ec7071a87bfb886be9b599f12", func := "jalousie/jalousielaw08.CellsOpens", spec := "cellsOpens", apart := false }
def CellsOpensSaid : Prop := cellsOpensRow.holds Try.pinned (OpenSpec.ofChange cellsOpensSpec)

/-- ITS FALSE NEIGHBOUR: 'it returns false'. Refute it at one input. -/
def cellsOpensWrong : ChangeSpec := { name := "cellsOpens", fn := fun _ => fun
  | [d1, d2, d3] => { results := [.lit (.bool false)], args := [d1, d2, d3] }
  | _ => none }
def CellsOpensWrongFalsely : Prop := cellsOpensRow.holds Try.pinned (OpenSpec.ofChange cellsOpensWrong)

/-- 'jalousielaw22.AskBytes': WHATEVER THE INPUT: true; the input reads as it did. -/
def askBytesSpec : ChangeSpec := { name := "askBytes", fn := fun _ => fun
  | [d] => { results := [.lit (.bool true)], args := [d] }
  | _ => none }
def askBytesRow : OpenClaim := { program := "ytjbkkaldiofooaa", sum := "137faa77c013a877103cbf75cf1f83c140dcc80ec7071a87bfb886be9b599f12", func := "jalousie/jalousielaw22.AskBytes", spec := "askBytes", inPlace := ["internal/bytealg.Compare"], unfollowed := true, recurses := true, apart := false }
def AskBytesSaid : Prop := askBytesRow.holds Try.pinned (OpenSpec.ofChange askBytesSpec)

/-- ITS FALSE NEIGHBOUR: 'it returns false'. Refute it at one input. -/
def askBytesWrong : ChangeSpec := { name := "askBytes", fn := fun _ => fun
  | [d] => { results := [.lit (.bool false)], args := [d] }
  | _ => none }
def AskBytesWrongFalsely : Prop := askBytesRow.holds Try.pinned (OpenSpec.ofChange askBytesWrong)

/-- 'jalousielaw22.AskParses': WHATEVER THE INPUT: true; the input reads as it did. -/
def askParsesSpec : ChangeSpec := { name := "askParses", fn := fun _ => fun
  | [d] => { results := [.lit (.bool true)], args := [d] }
  | _ => none }
def askParsesRow : OpenClaim := { program := "ytjbkkaldiofooaa", sum := "137faa77c013a877103cbf75cf1f83c140dcc80ec7071a87bfb886be9b599f12", func := "jalousie/jalousielaw22.AskParses", spec := "askParses", inPlace := ["internal/bytealg.Compare"], unfollowed := true, recurses := true, apart := false }
def AskParsesSaid : Prop := askParsesRow.holds Try.pinned (OpenSpec.ofChange askParsesSpec)

/-- ITS FALSE NEIGHBOUR: 'it returns false'. Refute it at one input. -/
def askParsesWrong : ChangeSpec := { name := "askParses", fn := fun _ => fun
  | [d] => { results := [.lit (.bool false)], args := [d] }
  | _ => none }
def AskParsesWrongFalsely : Prop := askParsesRow.holds Try.pinned (OpenSpec.ofChange askParsesWrong)

/-- 'jalousielaw07.DiskFuses': WHATEVER THE INPUT: true; the input reads as it did. -/
def diskFusesSpec : ChangeSpec := { name := "diskFuses", fn := fun _ => fun
  | [d1, d2] => { results := [.lit (.bool true)], args := [d1, d2] }
  | _ => none }
def diskFusesRow : OpenClaim := { program := "ytjbkkaldiofooaa", sum := "137faa77c013a877103cbf75cf1f83c140dcc80ec7071a87bfb886be9b599f12", func := "jalousie/jalousielaw07.DiskFuses", spec := "diskFuses", unfollowed := true, recurses := true, apart := false }
def DiskFusesSaid : Prop := diskFusesRow.holds Try.pinned (OpenSpec.ofChange diskFusesSpec)

/-- ITS FALSE NEIGHBOUR: 'it returns false'. Refute it at one input. -/
def diskFusesWrong : ChangeSpec := { name := "diskFuses", fn := fun _ => fun
  | [d1, d2] => { results := [.lit (.bool false)], args := [d1, d2] }
  | _ => none }
def DiskFusesWrongFalsely : Prop := diskFusesRow.holds Try.pinned (OpenSpec.ofChange diskFusesWrong)

/-- 'jalousielaw07.DiskTears': WHATEVER THE INPUT: true; the input reads as it did. -/
def diskTearsSpec : ChangeSpec := { name := "diskTears", fn := fun _ => fun
  | [d1, d2, d3] => { results := [.lit (.bool true)], args := [d1, d2, d3] }
  | _ => none }
def diskTearsRow : OpenClaim := { program := "ytjbkkaldiofooaa", sum := "137faa77c013a877103cbf75cf1f83c140dcc80ec7071a87bfb886be9b599f12", func := "jalousie/jalousielaw07.DiskTears", spec := "diskTears", unfollowed := true, recurses := true, apart := false }
def DiskTearsSaid : Prop := diskTearsRow.holds Try.pinned (OpenSpec.ofChange diskTearsSpec)

/-- ITS FALSE NEIGHBOUR: 'it returns false'. Refute it at one input. -/
def diskTearsWrong : ChangeSpec := { name := "diskTears", fn := fun _ => fun
  | [d1, d2, d3] => { results := [.lit (.bool false)], args := [d1, d2, d3] }
  | _ => none }
def DiskTearsWrongFalsely : Prop := diskTearsRow.holds Try.pinned (OpenSpec.ofChange diskTearsWrong)

/-- 'jalousielaw07.DiskKeeps': WHATEVER THE INPUT: true; the input reads as it did. -/
def diskKeepsSpec : ChangeSpec := { name := "diskKeeps", fn := fun _ => fun
  | [d1, d2, d3] => { results := [.lit (.bool true)], args := [d1, d2, d3] }
  | _ => none }
def diskKeepsRow : OpenClaim := { program := "ytjbkkaldiofooaa", sum := "137faa77c013a877103cbf75cf1f83c140dcc80ec7071a87bfb886be9b599f12", func := "jalousie/jalousielaw07.DiskKeeps", spec := "diskKeeps", unfollowed := true, recurses := true, apart := false }
def DiskKeepsSaid : Prop := diskKeepsRow.holds Try.pinned (OpenSpec.ofChange diskKeepsSpec)

/-- ITS FALSE NEIGHBOUR: 'it returns false'. Refute it at one input. -/
def diskKeepsWrong : ChangeSpec := { name := "diskKeeps", fn := fun _ => fun
  | [d1, d2, d3] => { results := [.lit (.bool false)], args := [d1, d2, d3] }
  | _ => none }
def DiskKeepsWrongFalsely : Prop := diskKeepsRow.holds Try.pinned (OpenSpec.ofChange diskKeepsWrong)

/-- 'jalousielaw07.DiskPlays': WHATEVER THE INPUT: true; the input reads as it did. -/
def diskPlaysSpec : ChangeSpec := { name := "diskPlays", fn := fun _ => fun
  | [d1, d2] => { results := [.lit (.bool true)], args := [d1, d2] }
  | _ => none }
def diskPlaysRow : OpenClaim := { program := "ytjbkkaldiofooaa", sum := "137faa77c013a877103cbf75cf1f83c140dcc80ec7071a87bfb886be9b599f12", func := "jalousie/jalousielaw07.DiskPlays", spec := "diskPlays", unfollowed := true, recurses := true, apart := false }
def DiskPlaysSaid : Prop := diskPlaysRow.holds Try.pinned (OpenSpec.ofChange diskPlaysSpec)

/-- ITS FALSE NEIGHBOUR: 'it returns false'. Refute it at one input. -/
def diskPlaysWrong : ChangeSpec := { name := "diskPlays", fn := fun _ => fun
  | [d1, d2] => { results := [.lit (.bool false)], args := [d1, d2] }
  | _ => none }
def DiskPlaysWrongFalsely : Prop := diskPlaysRow.holds Try.pinned (OpenSpec.ofChange diskPlaysWrong)

/-- 'jalousielaw08.CellsPlays': WHATEVER THE INPUT: true; the input reads as it did. -/
def cellsPlaysSpec : ChangeSpec := { name := "cellsPlays", fn := fun _ => fun
  | [d1, d2] => { results := [.lit (.bool true)], args := [d1, d2] }
  | _ => none }
def cellsPlaysRow : OpenClaim := { program := "ytjbkkaldiofooaa", sum := "137faa77c013a877103cbf75cf1f83c140dcc80ec7071a87bfb886be9b599f12", func := "jalousie/jalousielaw08.CellsPlays", spec := "cellsPlays", unfollowed := true, recurses := true, apart := false }
def CellsPlaysSaid : Prop := cellsPlaysRow.holds Try.pinned (OpenSpec.ofChange cellsPlaysSpec)

/-- ITS FALSE NEIGHBOUR: 'it returns false'. Refute it at one input. -/
def cellsPlaysWrong : ChangeSpec := { name := "cellsPlays", fn := fun _ => fun
  | [d1, d2] => { results := [.lit (.bool false)], args := [d1, d2] }
  | _ => none }
def CellsPlaysWrongFalsely : Prop := cellsPlaysRow.holds Try.pinned (OpenSpec.ofChange cellsPlaysWrong)

/-- 'jalousielaw08.CellsCrashes': WHATEVER THE INPUT: true; the input reads as it did. -/
def cellsCrashesSpec : ChangeSpec := { name := "cellsCrashes", fn := fun _ => fun
  | [d1, d2] => { results := [.lit (.bool true)], args := [d1, d2] }
  | _ => none }
def cellsCrashesRow : OpenClaim := { program := "ytjbkkaldiofooaa", sum := "137faa77c013a877103cbf75cf1f83c140dcc80ec7071a87bfb886be9b599f12", func := "jalousie/jalousielaw08.CellsCrashes", spec := "cellsCrashes", unfollowed := true, recurses := true, apart := false }
def CellsCrashesSaid : Prop := cellsCrashesRow.holds Try.pinned (OpenSpec.ofChange cellsCrashesSpec)

/-- ITS FALSE NEIGHBOUR: 'it returns false'. Refute it at one input. -/
def cellsCrashesWrong : ChangeSpec := { name := "cellsCrashes", fn := fun _ => fun
  | [d1, d2] => { results := [.lit (.bool false)], args := [d1, d2] }
  | _ => none }
def CellsCrashesWrongFalsely : Prop := cellsCrashesRow.holds Try.pinned (OpenSpec.ofChange cellsCrashesWrong)

/- THE SECOND FORM. 'bulk': how many values and letters a reading holds, each counted each time it is reached (what is shared counts as often as it is met; a slice's spare places count too). A statement '..UptoSaid' is the law's where the arguments, and the package variables that the reading takes, are together of bulk at most 1048576: NARROWER than '..Said'. Prove '..Said' where nothing that the law and all that it calls make is longer than what came in: it says more and counts as full. Else prove '..UptoSaid'. A law counts once. -/
mutual
def uptoBulk {H : Type} : DataW H → Nat
  | .lit (.string bytes) => bytes.length + 1
  | .lit _ => 1
  | .nil => 1
  | .ptr d => uptoBulk d + 1
  | .slice elems spare => uptoBulkAll elems + uptoBulkAll spare + 1
  | .agg parts => uptoBulkAll parts + 1
  | .iface _ d => uptoBulk d + 1
  | .map entries => uptoBulkEntries entries + 1
  | .held _ => 1
def uptoBulkAll {H : Type} : List (DataW H) → Nat
  | [] => 0
  | d :: r => uptoBulk d + uptoBulkAll r
def uptoBulkEntries {H : Type} : List (Lit × DataW H) → Nat
  | [] => 0
  | x :: r => uptoBulkEntry x + uptoBulkEntries r
def uptoBulkEntry {H : Type} : Lit × DataW H → Nat
  | (.string bytes, d) => bytes.length + uptoBulk d + 1
  | (_, d) => uptoBulk d + 1
 end
def uptoSmall : (H : Type) → List (DataW H) → Bool := fun _ ds => decide (uptoBulkAll ds ≤ 1048576)
def OpenSpec.upto (s : _root_.Go.ChangeSpec) : _root_.Go.OpenSpec := { _root_.Go.OpenSpec.ofChange s with cond := some uptoSmall }

/-- 'jalousielaw07.DiskOwn', WHERE WHAT IT READS IS OF BULK AT MOST 1048576: true; the input reads as it did. -/
def diskOwnUptoRow : OpenClaim := { program := "ytjbkkaldiofooaa", sum := "137faa77c013a877103cbf75cf1f83c140dcc80ec7071a87bfb886be9b599f12", func := "jalousie/jalousielaw07.DiskOwn", spec := "diskOwn", apart := false, narrowed := true }
def DiskOwnUptoSaid : Prop := diskOwnUptoRow.holds Try.pinned (OpenSpec.upto diskOwnSpec)

/-- 'jalousielaw08.CellsGrows', WHERE WHAT IT READS IS OF BULK AT MOST 1048576: true; the input reads as it did. -/
def cellsGrowsUptoRow : OpenClaim := { program := "ytjbkkaldiofooaa", sum := "137faa77c013a877103cbf75cf1f83c140dcc80ec7071a87bfb886be9b599f12", func := "jalousie/jalousielaw08.CellsGrows", spec := "cellsGrows", apart := false, narrowed := true }
def CellsGrowsUptoSaid : Prop := cellsGrowsUptoRow.holds Try.pinned (OpenSpec.upto cellsGrowsSpec)

/-- 'jalousielaw08.CellsOpens', WHERE WHAT IT READS IS OF BULK AT MOST 1048576: true; the input reads as it did. -/
def cellsOpensUptoRow : OpenClaim := { program := "ytjbkkaldiofooaa", sum := "137faa77c013a877103cbf75cf1f83c140dcc80ec7071a87bfb886be9b599f12", func := "jalousie/jalousielaw08.CellsOpens", spec := "cellsOpens", apart := false, narrowed := true }
def CellsOpensUptoSaid : Prop := cellsOpensUptoRow.holds Try.pinned (OpenSpec.upto cellsOpensSpec)

/-- 'jalousielaw22.AskBytes', WHERE WHAT IT READS IS OF BULK AT MOST 1048576: true; the input reads as it did. -/
def askBytesUptoRow : OpenClaim := { program := "ytjbkkaldiofooaa", sum := "137faa77c013a877103cbf75cf1f83c140dcc80ec7071a87bfb886be9b599f12", func := "jalousie/jalousielaw22.AskBytes", spec := "askBytes", inPlace := ["internal/bytealg.Compare"], unfollowed := true, recurses := true, apart := false, narrowed := true }
def AskBytesUptoSaid : Prop := askBytesUptoRow.holds Try.pinned (OpenSpec.upto askBytesSpec)

/-- 'jalousielaw22.AskParses', WHERE WHAT IT READS IS OF BULK AT MOST 1048576: true; the input reads as it did. -/
def askParsesUptoRow : OpenClaim := { program := "ytjbkkaldiofooaa", sum := "137faa77c013a877103cbf75cf1f83c140dcc80ec7071a87bfb886be9b599f12", func := "jalousie/jalousielaw22.AskParses", spec := "askParses", inPlace := ["internal/bytealg.Compare"], unfollowed := true, recurses := true, apart := false, narrowed := true }
def AskParsesUptoSaid : Prop := askParsesUptoRow.holds Try.pinned (OpenSpec.upto askParsesSpec)

/-- 'jalousielaw07.DiskFuses', WHERE WHAT IT READS IS OF BULK AT MOST 1048576: true; the input reads as it did. -/
def diskFusesUptoRow : OpenClaim := { program := "ytjbkkaldiofooaa", sum := "137faa77c013a877103cbf75cf1f83c140dcc80ec7071a87bfb886be9b599f12", func := "jalousie/jalousielaw07.DiskFuses", spec := "diskFuses", unfollowed := true, recurses := true, apart := false, narrowed := true }
def DiskFusesUptoSaid : Prop := diskFusesUptoRow.holds Try.pinned (OpenSpec.upto diskFusesSpec)

/-- 'jalousielaw07.DiskTears', WHERE WHAT IT READS IS OF BULK AT MOST 1048576: true; the input reads as it did. -/
def diskTearsUptoRow : OpenClaim := { program := "ytjbkkaldiofooaa", sum := "137faa77c013a877103cbf75cf1f83c140dcc80ec7071a87bfb886be9b599f12", func := "jalousie/jalousielaw07.DiskTears", spec := "diskTears", unfollowed := true, recurses := true, apart := false, narrowed := true }
def DiskTearsUptoSaid : Prop := diskTearsUptoRow.holds Try.pinned (OpenSpec.upto diskTearsSpec)

/-- 'jalousielaw07.DiskKeeps', WHERE WHAT IT READS IS OF BULK AT MOST 1048576: true; the input reads as it did. -/
def diskKeepsUptoRow : OpenClaim := { program := "ytjbkkaldiofooaa", sum := "137faa77c013a877103cbf75cf1f83c140dcc80ec7071a87bfb886be9b599f12", func := "jalousie/jalousielaw07.DiskKeeps", spec := "diskKeeps", unfollowed := true, recurses := true, apart := false, narrowed := true }
def DiskKeepsUptoSaid : Prop := diskKeepsUptoRow.holds Try.pinned (OpenSpec.upto diskKeepsSpec)

/-- 'jalousielaw07.DiskPlays', WHERE WHAT IT READS IS OF BULK AT MOST 1048576: true; the input reads as it did. -/
def diskPlaysUptoRow : OpenClaim := { program := "ytjbkkaldiofooaa", sum := "137faa77c013a877103cbf75cf1f83c140dcc80ec7071a87bfb886be9b599f12", func := "jalousie/jalousielaw07.DiskPlays", spec := "diskPlays", unfollowed := true, recurses := true, apart := false, narrowed := true }
def DiskPlaysUptoSaid : Prop := diskPlaysUptoRow.holds Try.pinned (OpenSpec.upto diskPlaysSpec)

/-- 'jalousielaw08.CellsPlays', WHERE WHAT IT READS IS OF BULK AT MOST 1048576: true; the input reads as it did. -/
def cellsPlaysUptoRow : OpenClaim := { program := "ytjbkkaldiofooaa", sum := "137faa77c013a877103cbf75cf1f83c140dcc80ec7071a87bfb886be9b599f12", func := "jalousie/jalousielaw08.CellsPlays", spec := "cellsPlays", unfollowed := true, recurses := true, apart := false, narrowed := true }
def CellsPlaysUptoSaid : Prop := cellsPlaysUptoRow.holds Try.pinned (OpenSpec.upto cellsPlaysSpec)

/-- 'jalousielaw08.CellsCrashes', WHERE WHAT IT READS IS OF BULK AT MOST 1048576: true; the input reads as it did. -/
def cellsCrashesUptoRow : OpenClaim := { program := "ytjbkkaldiofooaa", sum := "137faa77c013a877103cbf75cf1f83c140dcc80ec7071a87bfb886be9b599f12", func := "jalousie/jalousielaw08.CellsCrashes", spec := "cellsCrashes", unfollowed := true, recurses := true, apart := false, narrowed := true }
def CellsCrashesUptoSaid : Prop := cellsCrashesUptoRow.holds Try.pinned (OpenSpec.upto cellsCrashesSpec)

end Rows
end Go.Proofs.Ytjbkkaldiofooaa

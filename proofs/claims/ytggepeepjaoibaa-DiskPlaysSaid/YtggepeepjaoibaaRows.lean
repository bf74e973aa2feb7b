/-
  No cell of these rows narrows 'for every input' (looked for: loops, veiled, ifaces, maps, wideKeys, modest, calm, conditions, laid).
  DERIVED. THE GIVEN ROWS OF THIS SEAT. 7 by the template 'for every input the law returns true; each argument reads behind the call as it read before'; 0 by the template 'total and deterministic' (their statements: YtggepeepjaoibaaTotals.lean).
  GIVEN WITH THE SEED: the statements are not yours to turn. If you find one false, say at which input.
  Laid BY PROGRAM, IN A SANDBOX (cutbox-rows.mjs): the forced cells as the released guide's own fill.sh prints them over the translation 1725770fd5b60fb7… (all of the seat's roots in one cut). By AI agents, Wed Nov 11 2026. No macro, syntax, notation, axiom, sorry.
-/
import Derived.Test.YtggepeepjaoibaaChecked
import GoSem.Claim
import GoSem.ClaimJoined
import GoSem.ClaimMapViews
import Derived.JoinedTies
import Derived.KernelRfl
namespace Go.Proofs.Ytggepeepjaoibaa
/- THE CELL 'sum', in the pinned program and in every row, IS THE sha256 OF THE DUMP (.gsa) THAT YtggepeepjaoibaaProg.lean LOADS. Nothing in Lean hashes anything: it is a label: what it is worth is what the hold of that sum in a sandbox is worth. -/
noncomputable def Try.pinned : Pinned := { name := "ytggepeepjaoibaa", sum := "1725770fd5b60fb76156042bf6ee165140f4c6a0ce03a8236a35c9eda5c22a90", checked := Try.checked }
namespace Rows
def none {H : Type} : Left H := { results := [], args := [] }

/-- 'jalousielaw08.CellsGrows': WHATEVER THE INPUT: true; the input reads as it did. -/
def cellsGrowsSpec : ChangeSpec := { name := "cellsGrows", fn := fun _ => fun
  | [d1, d2] => { results := [.lit (.bool true)], args := [d1, d2] }
  | _ => none }
def cellsGrowsRow : OpenClaim := { program := "ytggepeepjaoibaa", sum := "1725770fd5b60fb76156042bf6ee165140f4c6a0ce03a8236a35c9eda5c22a90", func := "jalousie/jalousielaw08.CellsGrows", spec := "cellsGrows", apart := false }
def CellsGrowsSaid : Prop := cellsGrowsRow.holds Try.pinned (OpenSpec.ofChange cellsGrowsSpec)

/-- ITS FALSE NEIGHBOUR: 'it returns false'. Refute it at one input. -/
def cellsGrowsWrong : ChangeSpec := { name := "cellsGrows", fn := fun _ => fun
  | [d1, d2] => { results := [.lit (.bool false)], args := [d1, d2] }
  | _ => none }
def CellsGrowsWrongFalsely : Prop := cellsGrowsRow.holds Try.pinned (OpenSpec.ofChange cellsGrowsWrong)

/-- 'jalousielaw08.CellsOpens': WHATEVER THE INPUT: true; the input reads as it did. -/
def cellsOpensSpec : ChangeSpec := { name := "cellsOpens", fn := fun _ => fun
  | [d1, d2, d3] => { results := [.lit (.bool true)], args := [d1, d2, d3] }
  | _ => none }
def cellsOpensRow : OpenClaim := { program := "ytggepeepjaoibaa", sum := "1725770fd5b60fb76156042bf6ee165140f4c6a0ce03a8236a35c9eda5c22a90", func := "jalousie/jalousielaw08.CellsOpens", spec := "cellsOpens", apart := false }
def CellsOpensSaid : Prop := cellsOpensRow.holds Try.pinned (OpenSpec.ofChange cellsOpensSpec)

/-- ITS FALSE NEIGHBOUR: 'it returns false'. Refute it at one input. -/
def cellsOpensWrong : ChangeSpec := { name := "cellsOpens", fn := fun _ => fun
  | [d1, d2, d3] => { results := [.lit (.bool false)], args := [d1, d2, d3] }
  | _ => none }
def CellsOpensWrongFalsely : Prop := cellsOpensRow.holds Try.pinned (OpenSpec.ofChange cellsOpensWrong)

/-- 'jalousielaw22.AskBytes': WHATEVER THE INPUT: true; the input reads as it did. -/
def askBytesSpec : ChangeSpec := { name := "askBytes", fn := fun _ => fun
  | [d] => { results := [.lit (.bool true)], args := [d] }
  | _ => none }
def askBytesRow : OpenClaim := { program := "ytggepeepjaoibaa", sum := "1725770fd5b60fb76156042bf6ee165140f4c6a0ce03a8236a35c9eda5c22a90", func := "jalousie/jalousielaw22.AskBytes", spec := "askBytes", inPlace := ["internal/bytealg.Compare"], unfollowed := true, recurses := true, apart := false }
def AskBytesSaid : Prop := askBytesRow.holds Try.pinned (OpenSpec.ofChange askBytesSpec)

/-- ITS FALSE NEIGHBOUR: 'it returns false'. Refute it at one input. -/
def askBytesWrong : ChangeSpec := { name := "askBytes", fn := fun _ => fun
  | [d] => { results := [.lit (.bool false)], args := [d] }
  | _ => none }
def AskBytesWrongFalsely : Prop := askBytesRow.holds Try.pinned (OpenSpec.ofChange askBytesWrong)

/-- 'jalousielaw22.AskParses': WHATEVER THE INPUT: true; the input reads as it did. -/
def askParsesSpec : ChangeSpec := { name := "askParses", fn := fun _ => fun
  | [d] => { results := [.lit (.bool true)], args := [d] }
  | _ => none }
def askParsesRow : OpenClaim := { program := "ytggepeepjaoibaa", sum := "1725770fd5b60fb76156042bf6ee165140f4c6a0ce03a8236a35c9eda5c22a90", func := "jalousie/jalousielaw22.AskParses", spec := "askParses", inPlace := ["internal/bytealg.Compare"], unfollowed := true, recurses := true, apart := false }
def AskParsesSaid : Prop := askParsesRow.holds Try.pinned (OpenSpec.ofChange askParsesSpec)

/-- ITS FALSE NEIGHBOUR: 'it returns false'. Refute it at one input. -/
def askParsesWrong : ChangeSpec := { name := "askParses", fn := fun _ => fun
  | [d] => { results := [.lit (.bool false)], args := [d] }
  | _ => none }
def AskParsesWrongFalsely : Prop := askParsesRow.holds Try.pinned (OpenSpec.ofChange askParsesWrong)

/-- 'jalousielaw07.DiskPlays': WHATEVER THE INPUT: true; the input reads as it did. -/
def diskPlaysSpec : ChangeSpec := { name := "diskPlays", fn := fun _ => fun
  | [d1, d2] => { results := [.lit (.bool true)], args := [d1, d2] }
  | _ => none }
def diskPlaysRow : OpenClaim := { program := "ytggepeepjaoibaa", sum := "1725770fd5b60fb76156042bf6ee165140f4c6a0ce03a8236a35c9eda5c22a90", func := "jalousie/jalousielaw07.DiskPlays", spec := "diskPlays", unfollowed := true, recurses := true, apart := false }
def DiskPlaysSaid : Prop := diskPlaysRow.holds Try.pinned (OpenSpec.ofChange diskPlaysSpec)

/-- ITS FALSE NEIGHBOUR: 'it returns false'. Refute it at one input. -/
def diskPlaysWrong : ChangeSpec := { name := "diskPlays", fn := fun _ => fun
  | [d1, d2] => { results := [.lit (.bool false)], args := [d1, d2] }
  | _ => none }
def DiskPlaysWrongFalsely : Prop := diskPlaysRow.holds Try.pinned (OpenSpec.ofChange diskPlaysWrong)

/-- 'jalousielaw08.CellsPlays': WHATEVER THE INPUT: true; the input reads as it did. -/
def cellsPlaysSpec : ChangeSpec := { name := "cellsPlays", fn := fun _ => fun
  | [d1, d2] => { results := [.lit (.bool true)], args := [d1, d2] }
  | _ => none }
def cellsPlaysRow : OpenClaim := { program := "ytggepeepjaoibaa", sum := "1725770fd5b60fb76156042bf6ee165140f4c6a0ce03a8236a35c9eda5c22a90", func := "jalousie/jalousielaw08.CellsPlays", spec := "cellsPlays", unfollowed := true, recurses := true, apart := false }
def CellsPlaysSaid : Prop := cellsPlaysRow.holds Try.pinned (OpenSpec.ofChange cellsPlaysSpec)

/-- ITS FALSE NEIGHBOUR: 'it returns false'. Refute it at one input. -/
def cellsPlaysWrong : ChangeSpec := { name := "cellsPlays", fn := fun _ => fun
  | [d1, d2] => { results := [.lit (.bool false)], args := [d1, d2] }
  | _ => none }
def CellsPlaysWrongFalsely : Prop := cellsPlaysRow.holds Try.pinned (OpenSpec.ofChange cellsPlaysWrong)

/-- 'jalousielaw08.CellsCrashes': WHATEVER THE INPUT: true; the input reads as it did. -/
def cellsCrashesSpec : ChangeSpec := { name := "cellsCrashes", fn := fun _ => fun
  | [d1, d2] => { results := [.lit (.bool true)], args := [d1, d2] }
  | _ => none }
def cellsCrashesRow : OpenClaim := { program := "ytggepeepjaoibaa", sum := "1725770fd5b60fb76156042bf6ee165140f4c6a0ce03a8236a35c9eda5c22a90", func := "jalousie/jalousielaw08.CellsCrashes", spec := "cellsCrashes", unfollowed := true, recurses := true, apart := false }
def CellsCrashesSaid : Prop := cellsCrashesRow.holds Try.pinned (OpenSpec.ofChange cellsCrashesSpec)

/-- ITS FALSE NEIGHBOUR: 'it returns false'. Refute it at one input. -/
def cellsCrashesWrong : ChangeSpec := { name := "cellsCrashes", fn := fun _ => fun
  | [d1, d2] => { results := [.lit (.bool false)], args := [d1, d2] }
  | _ => none }
def CellsCrashesWrongFalsely : Prop := cellsCrashesRow.holds Try.pinned (OpenSpec.ofChange cellsCrashesWrong)

/- THE SECOND FORM. 'bulk': how many values and letters a reading holds, each counted each time it is reached (what is shared counts as often as it is met; a slice's spare places count too). A statement '..UptoSaid' is the law's where the arguments, and the package variables that the reading takes, are together of bulk at most 1048576: NARROWER than '..Said'. Prove '..Said' where nothing that the law and all that it calls make is longer than what came in: it says more and counts as full. Else prove '..UptoSaid'. A law counts once. -/
mutual
def uptoBulk {H : Type} : DataW H → Nat
  | .lit (.string bytes) => bytes.length + 1
  | .lit _ => 1
  | .nil => 1
  | .ptr d => uptoBulk d + 1
  | .slice elems spare => uptoBulkAll elems + uptoBulkAll spare + 1
  | .agg parts => uptoBulkAll parts + 1
  | .iface _ d => uptoBulk d + 1
  | .map entries => uptoBulkEntries entries + 1
  | .held _ => 1
def uptoBulkAll {H : Type} : List (DataW H) → Nat
  | [] => 0
  | d :: r => uptoBulk d + uptoBulkAll r
def uptoBulkEntries {H : Type} : List (Lit × DataW H) → Nat
  | [] => 0
  | x :: r => uptoBulkEntry x + uptoBulkEntries r
def uptoBulkEntry {H : Type} : Lit × DataW H → Nat
  | (.string bytes, d) => bytes.length + uptoBulk d + 1
  | (_, d) => uptoBulk d + 1
 end
def uptoSmall : (H : Type) → List (DataW H) → Bool := fun _ ds => decide (uptoBulkAll ds ≤ 1048576)
def OpenSpec.upto (s : _root_.Go.ChangeSpec) : _root_.Go.OpenSpec := { _root_.Go.OpenSpec.ofChange s with cond := some uptoSmall }

/-- 'jalousielaw08.CellsGrows', WHERE WHAT IT READS IS OF BULK AT MOST 1048576: true; the input reads as it did. -/
def cellsGrowsUptoRow : OpenClaim := { program := "ytggepeepjaoibaa", sum := "1725770fd5b60fb76156042bf6ee165140f4c6a0ce03a8236a35c9eda5c22a90", func := "jalousie/jalousielaw08.CellsGrows", spec := "cellsGrows", apart := false, narrowed := true }
def CellsGrowsUptoSaid : Prop := cellsGrowsUptoRow.holds Try.pinned (OpenSpec.upto cellsGrowsSpec)

/-- 'jalousielaw08.CellsOpens', WHERE WHAT IT READS IS OF BULK AT MOST 1048576: true; the input reads as it did. -/
def cellsOpensUptoRow : OpenClaim := { program := "ytggepeepjaoibaa", sum := "1725770fd5b60fb76156042bf6ee165140f4c6a0ce03a8236a35c9eda5c22a90", func := "jalousie/jalousielaw08.CellsOpens", spec := "cellsOpens", apart := false, narrowed := true }
def CellsOpensUptoSaid : Prop := cellsOpensUptoRow.holds Try.pinned (OpenSpec.upto cellsOpensSpec)

/-- 'jalousielaw22.AskBytes', WHERE WHAT IT READS IS OF BULK AT MOST 1048576: true; the input reads as it did. -/
def askBytesUptoRow : OpenClaim := { program := "ytggepeepjaoibaa", sum := "1725770fd5b60fb76156042bf6ee165140f4c6a0ce03a8236a35c9eda5c22a90", func := "jalousie/jalousielaw22.AskBytes", spec := "askBytes", inPlace := ["internal/bytealg.Compare"], unfollowed := true, recurses := true, apart := false, narrowed := true }
def AskBytesUptoSaid : Prop := askBytesUptoRow.holds Try.pinned (OpenSpec.upto askBytesSpec)

/-- 'jalousielaw22.AskParses', WHERE WHAT IT READS IS OF BULK AT MOST 1048576: true; the input reads as it did. -/
def askParsesUptoRow : OpenClaim := { program := "ytggepeepjaoibaa", sum := "1725770fd5b60fb76156042bf6ee165140f4c6a0ce03a8236a35c9eda5c22a90", func := "jalousie/jalousielaw22.AskParses", spec := "askParses", inPlace := ["internal/bytealg.Compare"], unfollowed := true, recurses := true, apart := false, narrowed := true }
def AskParsesUptoSaid : Prop := askParsesUptoRow.holds Try.pinned (OpenSpec.upto askParsesSpec)

/-- 'jalousielaw07.DiskPlays', WHERE WHAT IT READS IS OF BULK AT MOST 1048576: true; the input reads as it did. -/
def diskPlaysUptoRow : OpenClaim := { program := "ytggepeepjaoibaa", sum := "1725770fd5b60fb76156042bf6ee165140f4c6a0ce03a8236a35c9eda5c22a90", func := "jalousie/jalousielaw07.DiskPlays", spec := "diskPlays", unfollowed := true, recurses := true, apart := false, narrowed := true }
def DiskPlaysUptoSaid : Prop := diskPlaysUptoRow.holds Try.pinned (OpenSpec.upto diskPlaysSpec)

/-- 'jalousielaw08.CellsPlays', WHERE WHAT IT READS IS OF BULK AT MOST 1048576: true; the input reads as it did. -/
def cellsPlaysUptoRow : OpenClaim := { program := "ytggepeepjaoibaa", sum := "1725770fd5b60fb76156042bf6ee165140f4c6a0ce03a8236a35c9eda5c22a90", func := "jalousie/jalousielaw08.CellsPlays", spec := "cellsPlays", unfollowed := true, recurses := true, apart := false, narrowed := true }
def CellsPlaysUptoSaid : Prop := cellsPlaysUptoRow.holds Try.pinned (OpenSpec.upto cellsPlaysSpec)

/-- 'jalousielaw08.CellsCrashes', WHERE WHAT IT READS IS OF BULK AT MOST 1048576: true; the input reads as it did. -/
def cellsCrashesUptoRow : OpenClaim := { program := "ytggepeepjaoibaa", sum := "1725770fd5b60fb76156042bf6ee165140f4c6a0ce03a8236a35c9eda5c22a90", func := "jalousie/jalousielaw08.CellsCrashes", spec := "cellsCrashes", unfollowed := true, recurses := true, apart := false, narrowed := true }
def CellsCrashesUptoSaid : Prop := cellsCrashesUptoRow.holds Try.pinned (OpenSpec.upto cellsCrashesSpec)

end Rows
end Go.Proofs.Ytggepeepjaoibaa

/-
  No cell of these rows narrows 'for every input' (looked for: loops, veiled, ifaces, maps, wideKeys, modest, calm, conditions, laid).
  DERIVED. THE GIVEN ROWS OF THIS SEAT. 6 by the template 'for every input the law returns true; each argument reads behind the call as it read before'; 0 by the template 'total and deterministic' (their statements: YtmpiacoddifjiaaTotals.lean).
  GIVEN WITH THE SEED: the statements are not yours to turn. If you find one false, say at which input.
  Laid BY PROGRAM, IN A SANDBOX (cutbox-rows.mjs): the forced cells as the released guide's own fill.sh prints them over the translation 5ea7985c27c7c308… (all of the seat's roots in one cut). By AI agents, Wed Nov 11 2026. No macro, syntax, notation, axiom, sorry.
-/
import Derived.Test.YtmpiacoddifjiaaChecked
import GoSem.Claim
import GoSem.ClaimJoined
import GoSem.ClaimMapViews
import Derived.JoinedTies
import Derived.KernelRfl
namespace Go.Proofs.Ytmpiacoddifjiaa
/- THE CELL 'sum', in the pinned program and in every row, IS THE sha256 OF THE DUMP (.gsa) THAT YtmpiacoddifjiaaProg.lean LOADS. Nothing in Lean hashes anything: it is a label: what it is worth is what the hold of that sum in a sandbox is worth. -/
noncomputable def Try.pinned : Pinned := { name := "ytmpiacoddifjiaa", sum := "5ea7985c27c7c3088f85bd3924e633c1ac87ead36f0614065e8e567811e02874", checked := Try.checked }
namespace Rows
def none {H : Type} : Left H := { results := [], args := [] }

/-- 'reliquarylaw17.FrameReturns': WHATEVER THE INPUT: true; the input reads as it did. -/
def frameReturnsSpec : ChangeSpec := { name := "frameReturns", fn := fun _ => fun
  | [d1, d2] => { results := [.lit (.bool true)], args := [d1, d2] }
  | _ => none }
def frameReturnsRow : OpenClaim := { program := "ytmpiacoddifjiaa", sum := "5ea7985c27c7c3088f85bd3924e633c1ac87ead36f0614065e8e567811e02874", func := "reliquary/reliquarylaw17.FrameReturns", spec := "frameReturns", inPlace := ["internal/bytealg.IndexByte"], apart := false }
def FrameReturnsSaid : Prop := frameReturnsRow.holds Try.pinned (OpenSpec.ofChange frameReturnsSpec)

/-- ITS FALSE NEIGHBOUR: 'it returns false'. Refute it at one input. -/
def frameReturnsWrong : ChangeSpec := { name := "frameReturns", fn := fun _ => fun
  | [d1, d2] => { results := [.lit (.bool false)], args := [d1, d2] }
  | _ => none }
def FrameReturnsWrongFalsely : Prop := frameReturnsRow.holds Try.pinned (OpenSpec.ofChange frameReturnsWrong)

/-- 'reliquarylaw17.FramePieces': WHATEVER THE INPUT: true; the input reads as it did. -/
def framePiecesSpec : ChangeSpec := { name := "framePieces", fn := fun _ => fun
  | [d1, d2] => { results := [.lit (.bool true)], args := [d1, d2] }
  | _ => none }
def framePiecesRow : OpenClaim := { program := "ytmpiacoddifjiaa", sum := "5ea7985c27c7c3088f85bd3924e633c1ac87ead36f0614065e8e567811e02874", func := "reliquary/reliquarylaw17.FramePieces", spec := "framePieces", inPlace := ["internal/bytealg.IndexByte"], apart := false }
def FramePiecesSaid : Prop := framePiecesRow.holds Try.pinned (OpenSpec.ofChange framePiecesSpec)

/-- ITS FALSE NEIGHBOUR: 'it returns false'. Refute it at one input. -/
def framePiecesWrong : ChangeSpec := { name := "framePieces", fn := fun _ => fun
  | [d1, d2] => { results := [.lit (.bool false)], args := [d1, d2] }
  | _ => none }
def FramePiecesWrongFalsely : Prop := framePiecesRow.holds Try.pinned (OpenSpec.ofChange framePiecesWrong)

/-- 'reliquarylaw17.FrameLong': WHATEVER THE INPUT: true; the input reads as it did. -/
def frameLongSpec : ChangeSpec := { name := "frameLong", fn := fun _ => fun
  | [d1, d2, d3] => { results := [.lit (.bool true)], args := [d1, d2, d3] }
  | _ => none }
def frameLongRow : OpenClaim := { program := "ytmpiacoddifjiaa", sum := "5ea7985c27c7c3088f85bd3924e633c1ac87ead36f0614065e8e567811e02874", func := "reliquary/reliquarylaw17.FrameLong", spec := "frameLong", inPlace := ["internal/bytealg.IndexByte"], apart := false }
def FrameLongSaid : Prop := frameLongRow.holds Try.pinned (OpenSpec.ofChange frameLongSpec)

/-- ITS FALSE NEIGHBOUR: 'it returns false'. Refute it at one input. -/
def frameLongWrong : ChangeSpec := { name := "frameLong", fn := fun _ => fun
  | [d1, d2, d3] => { results := [.lit (.bool false)], args := [d1, d2, d3] }
  | _ => none }
def FrameLongWrongFalsely : Prop := frameLongRow.holds Try.pinned (OpenSpec.ofChange frameLongWrong)

/-- 'reliquarylaw17.FrameSkips': WHATEVER THE INPUT: true; the input reads as it did. -/
def frameSkipsSpec : ChangeSpec := { name := "frameSkips", fn := fun _ => fun
  | [d1, d2, d3] => { results := [.lit (.bool true)], args := [d1, d2, d3] }
  | _ => none }
def frameSkipsRow : OpenClaim := { program := "ytmpiacoddifjiaa", sum := "5ea7985c27c7c3088f85bd3924e633c1ac87ead36f0614065e8e567811e02874", func := "reliquary/reliquarylaw17.FrameSkips", spec := "frameSkips", inPlace := ["internal/bytealg.IndexByte"], apart := false }
def FrameSkipsSaid : Prop := frameSkipsRow.holds Try.pinned (OpenSpec.ofChange frameSkipsSpec)

/-- ITS FALSE NEIGHBOUR: 'it returns false'. Refute it at one input. -/
def frameSkipsWrong : ChangeSpec := { name := "frameSkips", fn := fun _ => fun
  | [d1, d2, d3] => { results := [.lit (.bool false)], args := [d1, d2, d3] }
  | _ => none }
def FrameSkipsWrongFalsely : Prop := frameSkipsRow.holds Try.pinned (OpenSpec.ofChange frameSkipsWrong)

/-- 'reliquarylaw17.FrameEmpty': WHATEVER THE INPUT: true; the input reads as it did. -/
def frameEmptySpec : ChangeSpec := { name := "frameEmpty", fn := fun _ => fun
  | [d1, d2] => { results := [.lit (.bool true)], args := [d1, d2] }
  | _ => none }
def frameEmptyRow : OpenClaim := { program := "ytmpiacoddifjiaa", sum := "5ea7985c27c7c3088f85bd3924e633c1ac87ead36f0614065e8e567811e02874", func := "reliquary/reliquarylaw17.FrameEmpty", spec := "frameEmpty", inPlace := ["internal/bytealg.IndexByte"], apart := false }
def FrameEmptySaid : Prop := frameEmptyRow.holds Try.pinned (OpenSpec.ofChange frameEmptySpec)

/-- ITS FALSE NEIGHBOUR: 'it returns false'. Refute it at one input. -/
def frameEmptyWrong : ChangeSpec := { name := "frameEmpty", fn := fun _ => fun
  | [d1, d2] => { results := [.lit (.bool false)], args := [d1, d2] }
  | _ => none }
def FrameEmptyWrongFalsely : Prop := frameEmptyRow.holds Try.pinned (OpenSpec.ofChange frameEmptyWrong)

/-- 'reliquarylaw17.FrameLoads': WHATEVER THE INPUT: true; the input reads as it did. -/
def frameLoadsSpec : ChangeSpec := { name := "frameLoads", fn := fun _ => fun
  | [d1, d2] => { results := [.lit (.bool true)], args := [d1, d2] }
  | _ => none }
def frameLoadsRow : OpenClaim := { program := "ytmpiacoddifjiaa", sum := "5ea7985c27c7c3088f85bd3924e633c1ac87ead36f0614065e8e567811e02874", func := "reliquary/reliquarylaw17.FrameLoads", spec := "frameLoads", inPlace := ["internal/bytealg.IndexByte"], apart := false }
def FrameLoadsSaid : Prop := frameLoadsRow.holds Try.pinned (OpenSpec.ofChange frameLoadsSpec)

/-- ITS FALSE NEIGHBOUR: 'it returns false'. Refute it at one input. -/
def frameLoadsWrong : ChangeSpec := { name := "frameLoads", fn := fun _ => fun
  | [d1, d2] => { results := [.lit (.bool false)], args := [d1, d2] }
  | _ => none }
def FrameLoadsWrongFalsely : Prop := frameLoadsRow.holds Try.pinned (OpenSpec.ofChange frameLoadsWrong)

/- THE SECOND FORM. 'bulk': how many values and letters a reading holds, each counted each time it is reached (what is shared counts as often as it is met; a slice's spare places count too). A statement '..UptoSaid' is the law's where the arguments, and the package variables that the reading takes, are together of bulk at most 1048576: NARROWER than '..Said'. Prove '..Said' where nothing that the law and all that it calls make is longer than what came in: it says more and counts as full. Else prove '..UptoSaid'. A law counts once. -/
mutual
def uptoBulk {H : Type} : DataW H → Nat
  | .lit (.string bytes) => bytes.length + 1
  | .lit _ => 1
  | .nil => 1
  | .ptr d => uptoBulk d + 1
  | .slice elems spare => uptoBulkAll elems + uptoBulkAll spare + 1
  | .agg parts => uptoBulkAll parts + 1
  | .iface _ d => uptoBulk d + 1
  | .map entries => uptoBulkEntries entries + 1
  | .held _ => 1
def uptoBulkAll {H : Type} : List (DataW H) → Nat
  | [] => 0
  | d :: r => uptoBulk d + uptoBulkAll r
def uptoBulkEntries {H : Type} : List (Lit × DataW H) → Nat
  | [] => 0
  | x :: r => uptoBulkEntry x + uptoBulkEntries r
def uptoBulkEntry {H : Type} : Lit × DataW H → Nat
  | (.string bytes, d) => bytes.length + uptoBulk d + 1
  | (_, d) => uptoBulk d + 1
 end
def uptoSmall : (H : Type) → List (DataW H) → Bool := fun _ ds => decide (uptoBulkAll ds ≤ 1048576)
def OpenSpec.upto (s : _root_.Go.ChangeSpec) : _root_.Go.OpenSpec := { _root_.Go.OpenSpec.ofChange s with cond := some uptoSmall }

/-- 'reliquarylaw17.FrameReturns', WHERE WHAT IT READS IS OF BULK AT MOST 1048576: true; the input reads as it did. -/
def frameReturnsUptoRow : OpenClaim := { program := "ytmpiacoddifjiaa", sum := "5ea7985c27c7c3088f85bd3924e633c1ac87ead36f0614065e8e567811e02874", func := "reliquary/reliquarylaw17.FrameReturns", spec := "frameReturns", inPlace := ["internal/bytealg.IndexByte"], apart := false, narrowed := true }
def FrameReturnsUptoSaid : Prop := frameReturnsUptoRow.holds Try.pinned (OpenSpec.upto frameReturnsSpec)

/-- 'reliquarylaw17.FramePieces', WHERE WHAT IT READS IS OF BULK AT MOST 1048576: true; the input reads as it did. -/
def framePiecesUptoRow : OpenClaim := { program := "ytmpiacoddifjiaa", sum := "5ea7985c27c7c3088f85bd3924e633c1ac87ead36f0614065e8e567811e02874", func := "reliquary/reliquarylaw17.FramePieces", spec := "framePieces", inPlace := ["internal/bytealg.IndexByte"], apart := false, narrowed := true }
def FramePiecesUptoSaid : Prop := framePiecesUptoRow.holds Try.pinned (OpenSpec.upto framePiecesSpec)

/-- 'reliquarylaw17.FrameLong', WHERE WHAT IT READS IS OF BULK AT MOST 1048576: true; the input reads as it did. -/
def frameLongUptoRow : OpenClaim := { program := "ytmpiacoddifjiaa", sum := "5ea7985c27c7c3088f85bd3924e633c1ac87ead36f0614065e8e567811e02874", func := "reliquary/reliquarylaw17.FrameLong", spec := "frameLong", inPlace := ["internal/bytealg.IndexByte"], apart := false, narrowed := true }
def FrameLongUptoSaid : Prop := frameLongUptoRow.holds Try.pinned (OpenSpec.upto frameLongSpec)

/-- 'reliquarylaw17.FrameSkips', WHERE WHAT IT READS IS OF BULK AT MOST 1048576: true; the input reads as it did. -/
def frameSkipsUptoRow : OpenClaim := { program := "ytmpiacoddifjiaa", sum := "5ea7985c27c7c3088f85bd3924e633c1ac87ead36f0614065e8e567811e02874", func := "reliquary/reliquarylaw17.FrameSkips", spec := "frameSkips", inPlace := ["internal/bytealg.IndexByte"], apart := false, narrowed := true }
def FrameSkipsUptoSaid : Prop := frameSkipsUptoRow.holds Try.pinned (OpenSpec.upto frameSkipsSpec)

/-- 'reliquarylaw17.FrameEmpty', WHERE WHAT IT READS IS OF BULK AT MOST 1048576: true; the input reads as it did. -/
def frameEmptyUptoRow : OpenClaim := { program := "ytmpiacoddifjiaa", sum := "5ea7985c27c7c3088f85bd3924e633c1ac87ead36f0614065e8e567811e02874", func := "reliquary/reliquarylaw17.FrameEmpty", spec := "frameEmpty", inPlace := ["internal/bytealg.IndexByte"], apart := false, narrowed := true }
def FrameEmptyUptoSaid : Prop := frameEmptyUptoRow.holds Try.pinned (OpenSpec.upto frameEmptySpec)

/-- 'reliquarylaw17.FrameLoads', WHERE WHAT IT READS IS OF BULK AT MOST 1048576: true; the input reads as it did. -/
def frameLoadsUptoRow : OpenClaim := { program := "ytmpiacoddifjiaa", sum := "5ea7985c27c7c3088f85bd3924e633c1ac87ead36f0614065e8e567811e02874", func := "reliquary/reliquarylaw17.FrameLoads", spec := "frameLoads", inPlace := ["internal/bytealg.IndexByte"], apart := false, narrowed := true }
def FrameLoadsUptoSaid : Prop := frameLoadsUptoRow.holds Try.pinned (OpenSpec.upto frameLoadsSpec)

end Rows
end Go.Proofs.Ytmpiacoddifjiaa

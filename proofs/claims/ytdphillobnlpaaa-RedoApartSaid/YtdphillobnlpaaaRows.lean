/-
  No cell of these rows narrows 'for every input' (looked for: loops, veiled, ifaces, maps, wideKeys, modest, calm, conditions, laid).
  DERIVED. THE GIVEN ROWS OF THIS SEAT. 6 by the template 'for every input the law returns true; each argument reads behind the call as it read before'; 0 by the template 'total and deterministic' (their statements: YtdphillobnlpaaaTotals.lean).
  GIVEN WITH THE SEED: the statements are not yours to turn. If you find one false, say at which input.
  Laid BY PROGRAM, IN A SANDBOX (cutbox-rows.mjs): the forced cells as the released guide's own fill.sh prints them over the translation 12e285bc4f3c9390… (all of the seat's roots in one cut). By AI agents, Wed Nov 11 2026. No macro, syntax, notation, axiom, sorry.
-/
import Derived.Test.YtdphillobnlpaaaChecked
import GoSem.Claim
import GoSem.ClaimJoined
import GoSem.ClaimMapViews
import Derived.JoinedTies
import Derived.KernelRfl
namespace Go.Proofs.Ytdphillobnlpaaa
/- THE CELL 'sum', in the pinned program and in every row, IS THE sha256 OF THE DUMP (.gsa) THAT YtdphillobnlpaaaProg.lean LOADS. Nothing in Lean hashes anything: it is a label: what it is worth is what the hold of that sum in a sandbox is worth. -/
noncomputable def Try.pinned : Pinned := { name := "ytdphillobnlpaaa", sum := "12e285bc4f3c9390b8145eee2d0910e5e8a184f1a0b55c5981868d9005cd3e92", checked := Try.checked }
namespace Rows
def none {H : Type} : Left H := { results := [], args := [] }

/-- 'reliquarylaw6.RedoOrders': WHATEVER THE INPUT: true; the input reads as it did. -/
def redoOrdersSpec : ChangeSpec := { name := "redoOrders", fn := fun _ => fun
  | [d1, d2] => { results := [.lit (.bool true)], args := [d1, d2] }
  | _ => none }
def redoOrdersRow : OpenClaim := { program := "ytdphillobnlpaaa", sum := "12e285bc4f3c9390b8145eee2d0910e5e8a184f1a0b55c5981868d9005cd3e92", func := "reliquary/reliquarylaw6.RedoOrders", spec := "redoOrders", unfollowed := true, recurses := true, apart := false }
def RedoOrdersSaid : Prop := redoOrdersRow.holds Try.pinned (OpenSpec.ofChange redoOrdersSpec)

/-- ITS FALSE NEIGHBOUR: 'it returns false'. Refute it at one input. -/
def redoOrdersWrong : ChangeSpec := { name := "redoOrders", fn := fun _ => fun
  | [d1, d2] => { results := [.lit (.bool false)], args := [d1, d2] }
  | _ => none }
def RedoOrdersWrongFalsely : Prop := redoOrdersRow.holds Try.pinned (OpenSpec.ofChange redoOrdersWrong)

/-- 'reliquarylaw6.RedoPlays': WHATEVER THE INPUT: true; the input reads as it did. -/
def redoPlaysSpec : ChangeSpec := { name := "redoPlays", fn := fun _ => fun
  | [d1, d2] => { results := [.lit (.bool true)], args := [d1, d2] }
  | _ => none }
def redoPlaysRow : OpenClaim := { program := "ytdphillobnlpaaa", sum := "12e285bc4f3c9390b8145eee2d0910e5e8a184f1a0b55c5981868d9005cd3e92", func := "reliquary/reliquarylaw6.RedoPlays", spec := "redoPlays", unfollowed := true, recurses := true, apart := false }
def RedoPlaysSaid : Prop := redoPlaysRow.holds Try.pinned (OpenSpec.ofChange redoPlaysSpec)

/-- ITS FALSE NEIGHBOUR: 'it returns false'. Refute it at one input. -/
def redoPlaysWrong : ChangeSpec := { name := "redoPlays", fn := fun _ => fun
  | [d1, d2] => { results := [.lit (.bool false)], args := [d1, d2] }
  | _ => none }
def RedoPlaysWrongFalsely : Prop := redoPlaysRow.holds Try.pinned (OpenSpec.ofChange redoPlaysWrong)

/-- 'reliquarylaw6.RedoBounds': WHATEVER THE INPUT: true; the input reads as it did. -/
def redoBoundsSpec : ChangeSpec := { name := "redoBounds", fn := fun _ => fun
  | [d1, d2, d3] => { results := [.lit (.bool true)], args := [d1, d2, d3] }
  | _ => none }
def redoBoundsRow : OpenClaim := { program := "ytdphillobnlpaaa", sum := "12e285bc4f3c9390b8145eee2d0910e5e8a184f1a0b55c5981868d9005cd3e92", func := "reliquary/reliquarylaw6.RedoBounds", spec := "redoBounds", unfollowed := true, recurses := true, apart := false }
def RedoBoundsSaid : Prop := redoBoundsRow.holds Try.pinned (OpenSpec.ofChange redoBoundsSpec)

/-- ITS FALSE NEIGHBOUR: 'it returns false'. Refute it at one input. -/
def redoBoundsWrong : ChangeSpec := { name := "redoBounds", fn := fun _ => fun
  | [d1, d2, d3] => { results := [.lit (.bool false)], args := [d1, d2, d3] }
  | _ => none }
def RedoBoundsWrongFalsely : Prop := redoBoundsRow.holds Try.pinned (OpenSpec.ofChange redoBoundsWrong)

/-- 'reliquarylaw6.RedoAgain': WHATEVER THE INPUT: true; the input reads as it did. -/
def redoAgainSpec : ChangeSpec := { name := "redoAgain", fn := fun _ => fun
  | [d1, d2, d3, d4] => { results := [.lit (.bool true)], args := [d1, d2, d3, d4] }
  | _ => none }
def redoAgainRow : OpenClaim := { program := "ytdphillobnlpaaa", sum := "12e285bc4f3c9390b8145eee2d0910e5e8a184f1a0b55c5981868d9005cd3e92", func := "reliquary/reliquarylaw6.RedoAgain", spec := "redoAgain", unfollowed := true, recurses := true, apart := false }
def RedoAgainSaid : Prop := redoAgainRow.holds Try.pinned (OpenSpec.ofChange redoAgainSpec)

/-- ITS FALSE NEIGHBOUR: 'it returns false'. Refute it at one input. -/
def redoAgainWrong : ChangeSpec := { name := "redoAgain", fn := fun _ => fun
  | [d1, d2, d3, d4] => { results := [.lit (.bool false)], args := [d1, d2, d3, d4] }
  | _ => none }
def RedoAgainWrongFalsely : Prop := redoAgainRow.holds Try.pinned (OpenSpec.ofChange redoAgainWrong)

/-- 'reliquarylaw6.RedoApart': WHATEVER THE INPUT: true; the input reads as it did. -/
def redoApartSpec : ChangeSpec := { name := "redoApart", fn := fun _ => fun
  | [d1, d2, d3, d4] => { results := [.lit (.bool true)], args := [d1, d2, d3, d4] }
  | _ => none }
def redoApartRow : OpenClaim := { program := "ytdphillobnlpaaa", sum := "12e285bc4f3c9390b8145eee2d0910e5e8a184f1a0b55c5981868d9005cd3e92", func := "reliquary/reliquarylaw6.RedoApart", spec := "redoApart", unfollowed := true, recurses := true, apart := false }
def RedoApartSaid : Prop := redoApartRow.holds Try.pinned (OpenSpec.ofChange redoApartSpec)

/-- ITS FALSE NEIGHBOUR: 'it returns false'. Refute it at one input. -/
def redoApartWrong : ChangeSpec := { name := "redoApart", fn := fun _ => fun
  | [d1, d2, d3, d4] => { results := [.lit (.bool false)], args := [d1, d2, d3, d4] }
  | _ => none }
def RedoApartWrongFalsely : Prop := redoApartRow.holds Try.pinned (OpenSpec.ofChange redoApartWrong)

/-- 'reliquarylaw6.RedoLasts': WHATEVER THE INPUT: true; the input reads as it did. -/
def redoLastsSpec : ChangeSpec := { name := "redoLasts", fn := fun _ => fun
  | [d1, d2, d3, d4, d5] => { results := [.lit (.bool true)], args := [d1, d2, d3, d4, d5] }
  | _ => none }
def redoLastsRow : OpenClaim := { program := "ytdphillobnlpaaa", sum := "12e285bc4f3c9390b8145eee2d0910e5e8a184f1a0b55c5981868d9005cd3e92", func := "reliquary/reliquarylaw6.RedoLasts", spec := "redoLasts", unfollowed := true, recurses := true, apart := false }
def RedoLastsSaid : Prop := redoLastsRow.holds Try.pinned (OpenSpec.ofChange redoLastsSpec)

/-- ITS FALSE NEIGHBOUR: 'it returns false'. Refute it at one input. -/
def redoLastsWrong : ChangeSpec := { name := "redoLasts", fn := fun _ => fun
  | [d1, d2, d3, d4, d5] => { results := [.lit (.bool false)], args := [d1, d2, d3, d4, d5] }
  | _ => none }
def RedoLastsWrongFalsely : Prop := redoLastsRow.holds Try.pinned (OpenSpec.ofChange redoLastsWrong)

/- THE SECOND FORM. 'bulk': how many values and letters a reading holds, each counted each time it is reached (what is shared counts as often as it is met; a slice's spare places count too). A statement '..UptoSaid' is the law's where the arguments, and the package variables that the reading takes, are together of bulk at most 1048576: NARROWER than '..Said'. Prove '..Said' where nothing that the law and all that it calls make is longer than what came in: it says more and counts as full. Else prove '..UptoSaid'. A law counts once. -/
mutual
def uptoBulk {H : Type} : DataW H → Nat
  | .lit (.string bytes) => bytes.length + 1
  | .lit _ => 1
  | .nil => 1
  | .ptr d => uptoBulk d + 1
  | .slice elems spare => uptoBulkAll elems + uptoBulkAll spare + 1
  | .agg parts => uptoBulkAll parts + 1
  | .iface _ d => uptoBulk d + 1
  | .map entries => uptoBulkEntries entries + 1
  | .held _ => 1
def uptoBulkAll {H : Type} : List (DataW H) → Nat
  | [] => 0
  | d :: r => uptoBulk d + uptoBulkAll r
def uptoBulkEntries {H : Type} : List (Lit × DataW H) → Nat
  | [] => 0
  | x :: r => uptoBulkEntry x + uptoBulkEntries r
def uptoBulkEntry {H : Type} : Lit × DataW H → Nat
  | (.string bytes, d) => bytes.length + uptoBulk d + 1
  | (_, d) => uptoBulk d + 1
 end
def uptoSmall : (H : Type) → List (DataW H) → Bool := fun _ ds => decide (uptoBulkAll ds ≤ 1048576)
def OpenSpec.upto (s : _root_.Go.ChangeSpec) : _root_.Go.OpenSpec := { _root_.Go.OpenSpec.ofChange s with cond := some uptoSmall }

/-- 'reliquarylaw6.RedoOrders', WHERE WHAT IT READS IS OF BULK AT MOST 1048576: true; the input reads as it did. -/
def redoOrdersUptoRow : OpenClaim := { program := "ytdphillobnlpaaa", sum := "12e285bc4f3c9390b8145eee2d0910e5e8a184f1a0b55c5981868d9005cd3e92", func := "reliquary/reliquarylaw6.RedoOrders", spec := "redoOrders", unfollowed := true, recurses := true, apart := false, narrowed := true }
def RedoOrdersUptoSaid : Prop := redoOrdersUptoRow.holds Try.pinned (OpenSpec.upto redoOrdersSpec)

/-- 'reliquarylaw6.RedoPlays', WHERE WHAT IT READS IS OF BULK AT MOST 1048576: true; the input reads as it did. -/
def redoPlaysUptoRow : OpenClaim := { program := "ytdphillobnlpaaa", sum := "12e285bc4f3c9390b8145eee2d0910e5e8a184f1a0b55c5981868d9005cd3e92", func := "reliquary/reliquarylaw6.RedoPlays", spec := "redoPlays", unfollowed := true, recurses := true, apart := false, narrowed := true }
def RedoPlaysUptoSaid : Prop := redoPlaysUptoRow.holds Try.pinned (OpenSpec.upto redoPlaysSpec)

/-- 'reliquarylaw6.RedoBounds', WHERE WHAT IT READS IS OF BULK AT MOST 1048576: true; the input reads as it did. -/
def redoBoundsUptoRow : OpenClaim := { program := "ytdphillobnlpaaa", sum := "12e285bc4f3c9390b8145eee2d0910e5e8a184f1a0b55c5981868d9005cd3e92", func := "reliquary/reliquarylaw6.RedoBounds", spec := "redoBounds", unfollowed := true, recurses := true, apart := false, narrowed := true }
def RedoBoundsUptoSaid : Prop := redoBoundsUptoRow.holds Try.pinned (OpenSpec.upto redoBoundsSpec)

/-- 'reliquarylaw6.RedoAgain', WHERE WHAT IT READS IS OF BULK AT MOST 1048576: true; the input reads as it did. -/
def redoAgainUptoRow : OpenClaim := { program := "ytdphillobnlpaaa", sum := "12e285bc4f3c9390b8145eee2d0910e5e8a184f1a0b55c5981868d9005cd3e92", func := "reliquary/reliquarylaw6.RedoAgain", spec := "redoAgain", unfollowed := true, recurses := true, apart := false, narrowed := true }
def RedoAgainUptoSaid : Prop := redoAgainUptoRow.holds Try.pinned (OpenSpec.upto redoAgainSpec)

/-- 'reliquarylaw6.RedoApart', WHERE WHAT IT READS IS OF BULK AT MOST 1048576: true; the input reads as it did. -/
def redoApartUptoRow : OpenClaim := { program := "ytdphillobnlpaaa", sum := "12e285bc4f3c9390b8145eee2d0910e5e8a184f1a0b55c5981868d9005cd3e92", func := "reliquary/reliquarylaw6.RedoApart", spec := "redoApart", unfollowed := true, recurses := true, apart := false, narrowed := true }
def RedoApartUptoSaid : Prop := redoApartUptoRow.holds Try.pinned (OpenSpec.upto redoApartSpec)

/-- 'reliquarylaw6.RedoLasts', WHERE WHAT IT READS IS OF BULK AT MOST 1048576: true; the input reads as it did. -/
def redoLastsUptoRow : OpenClaim := { program := "ytdphillobnlpaaa", sum := "12e285bc4f3c9390b8145eee2d0910e5e8a184f1a0b55c5981868d9005cd3e92", func := "reliquary/reliquarylaw6.RedoLasts", spec := "redoLasts", unfollowed := true, recurses := true, apart := false, narrowed := true }
def RedoLastsUptoSaid : Prop := redoLastsUptoRow.holds Try.pinned (OpenSpec.upto redoLastsSpec)

end Rows
end Go.Proofs.Ytdphillobnlpaaa

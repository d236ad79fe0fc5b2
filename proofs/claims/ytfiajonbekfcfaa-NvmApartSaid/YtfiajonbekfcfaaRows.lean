/-
  No cell of these rows narrows 'for every input' (looked for: loops, veiled, ifaces, maps, wideKeys, modest, calm, conditions, laid).
  DERIVED. THE GIVEN ROWS OF THIS SEAT. 6 by the template 'for every input the law returns true; each argument reads behind the call as it read before'; 0 by the template 'total and deterministic' (their statements: YtfiajonbekfcfaaTotals.lean).
  GIVEN WITH THE SEED: the statements are not yours to turn. If you find one false, say at which input.
  Laid BY PROGRAM, IN A SANDBOX (cutbox-rows.mjs): the forced cells as the released guide's own fill.sh prints them over the translation 07543c8366b4dfa1… (all of the seat's roots in one cut). By AI agents, Wed Nov 11 2026. No macro, syntax, notation, axiom, sorry.
-/
import Derived.Test.YtfiajonbekfcfaaChecked
import GoSem.Claim
import GoSem.ClaimJoined
import GoSem.ClaimMapViews
import Derived.JoinedTies
import Derived.KernelRfl
namespace Go.Proofs.Ytfiajonbekfcfaa
/- THE CELL 'sum', in the pinned program and in every row, IS THE sha256 OF THE DUMP (.gsa) THAT YtfiajonbekfcfaaProg.lean LOADS. Nothing in Lean hashes anything: it is a label: what it is worth is what the hold of that sum in a sandbox is worth. -/
noncomputable def Try.pinned : Pinned := { name := "ytfiajonbekfcfaa", sum := "07543c8366b4dfa1c4a4dc2a29dee9943b2f6204623079d13b615edb5d2e9bac", checked := Try.checked }
namespace Rows
def none {H : Type} : Left H := { results := [], args := [] }

/-- 'reliquarylaw1.NvmLines': WHATEVER THE INPUT: true; the input reads as it did. -/
def nvmLinesSpec : ChangeSpec := { name := "nvmLines", fn := fun _ => fun
  | [d1, d2, d3] => { results := [.lit (.bool true)], args := [d1, d2, d3] }
  | _ => none }
def nvmLinesRow : OpenClaim := { program := "ytfiajonbekfcfaa", sum := "07543c8366b4dfa1c4a4dc2a29dee9943b2f6204623079d13b615edb5d2e9bac", func := "reliquary/reliquarylaw1.NvmLines", spec := "nvmLines", unfollowed := true, recurses := true, apart := false }
def NvmLinesSaid : Prop := nvmLinesRow.holds Try.pinned (OpenSpec.ofChange nvmLinesSpec)

/-- ITS FALSE NEIGHBOUR: 'it returns false'. Refute it at one input. -/
def nvmLinesWrong : ChangeSpec := { name := "nvmLines", fn := fun _ => fun
  | [d1, d2, d3] => { results := [.lit (.bool false)], args := [d1, d2, d3] }
  | _ => none }
def NvmLinesWrongFalsely : Prop := nvmLinesRow.holds Try.pinned (OpenSpec.ofChange nvmLinesWrong)

/-- 'reliquarylaw1.NvmLasts': WHATEVER THE INPUT: true; the input reads as it did. -/
def nvmLastsSpec : ChangeSpec := { name := "nvmLasts", fn := fun _ => fun
  | [d1, d2, d3, d4] => { results := [.lit (.bool true)], args := [d1, d2, d3, d4] }
  | _ => none }
def nvmLastsRow : OpenClaim := { program := "ytfiajonbekfcfaa", sum := "07543c8366b4dfa1c4a4dc2a29dee9943b2f6204623079d13b615edb5d2e9bac", func := "reliquary/reliquarylaw1.NvmLasts", spec := "nvmLasts", unfollowed := true, recurses := true, apart := false }
def NvmLastsSaid : Prop := nvmLastsRow.holds Try.pinned (OpenSpec.ofChange nvmLastsSpec)

/-- ITS FALSE NEIGHBOUR: 'it returns false'. Refute it at one input. -/
def nvmLastsWrong : ChangeSpec := { name := "nvmLasts", fn := fun _ => fun
  | [d1, d2, d3, d4] => { results := [.lit (.bool false)], args := [d1, d2, d3, d4] }
  | _ => none }
def NvmLastsWrongFalsely : Prop := nvmLastsRow.holds Try.pinned (OpenSpec.ofChange nvmLastsWrong)

/-- 'reliquarylaw1.NvmWrong': WHATEVER THE INPUT: true; the input reads as it did. -/
def nvmWrongSpec : ChangeSpec := { name := "nvmWrong", fn := fun _ => fun
  | [d1, d2, d3] => { results := [.lit (.bool true)], args := [d1, d2, d3] }
  | _ => none }
def nvmWrongRow : OpenClaim := { program := "ytfiajonbekfcfaa", sum := "07543c8366b4dfa1c4a4dc2a29dee9943b2f6204623079d13b615edb5d2e9bac", func := "reliquary/reliquarylaw1.NvmWrong", spec := "nvmWrong", unfollowed := true, recurses := true, apart := false }
def NvmWrongSaid : Prop := nvmWrongRow.holds Try.pinned (OpenSpec.ofChange nvmWrongSpec)

/-- ITS FALSE NEIGHBOUR: 'it returns false'. Refute it at one input. -/
def nvmWrongWrong : ChangeSpec := { name := "nvmWrong", fn := fun _ => fun
  | [d1, d2, d3] => { results := [.lit (.bool false)], args := [d1, d2, d3] }
  | _ => none }
def NvmWrongWrongFalsely : Prop := nvmWrongRow.holds Try.pinned (OpenSpec.ofChange nvmWrongWrong)

/-- 'reliquarylaw1.NvmFuses': WHATEVER THE INPUT: true; the input reads as it did. -/
def nvmFusesSpec : ChangeSpec := { name := "nvmFuses", fn := fun _ => fun
  | [d1, d2] => { results := [.lit (.bool true)], args := [d1, d2] }
  | _ => none }
def nvmFusesRow : OpenClaim := { program := "ytfiajonbekfcfaa", sum := "07543c8366b4dfa1c4a4dc2a29dee9943b2f6204623079d13b615edb5d2e9bac", func := "reliquary/reliquarylaw1.NvmFuses", spec := "nvmFuses", unfollowed := true, recurses := true, apart := false }
def NvmFusesSaid : Prop := nvmFusesRow.holds Try.pinned (OpenSpec.ofChange nvmFusesSpec)

/-- ITS FALSE NEIGHBOUR: 'it returns false'. Refute it at one input. -/
def nvmFusesWrong : ChangeSpec := { name := "nvmFuses", fn := fun _ => fun
  | [d1, d2] => { results := [.lit (.bool false)], args := [d1, d2] }
  | _ => none }
def NvmFusesWrongFalsely : Prop := nvmFusesRow.holds Try.pinned (OpenSpec.ofChange nvmFusesWrong)

/-- 'reliquarylaw1.NvmWaits': WHATEVER THE INPUT: true; the input reads as it did. -/
def nvmWaitsSpec : ChangeSpec := { name := "nvmWaits", fn := fun _ => fun
  | [d1, d2] => { results := [.lit (.bool true)], args := [d1, d2] }
  | _ => none }
def nvmWaitsRow : OpenClaim := { program := "ytfiajonbekfcfaa", sum := "07543c8366b4dfa1c4a4dc2a29dee9943b2f6204623079d13b615edb5d2e9bac", func := "reliquary/reliquarylaw1.NvmWaits", spec := "nvmWaits", unfollowed := true, recurses := true, apart := false }
def NvmWaitsSaid : Prop := nvmWaitsRow.holds Try.pinned (OpenSpec.ofChange nvmWaitsSpec)

/-- ITS FALSE NEIGHBOUR: 'it returns false'. Refute it at one input. -/
def nvmWaitsWrong : ChangeSpec := { name := "nvmWaits", fn := fun _ => fun
  | [d1, d2] => { results := [.lit (.bool false)], args := [d1, d2] }
  | _ => none }
def NvmWaitsWrongFalsely : Prop := nvmWaitsRow.holds Try.pinned (OpenSpec.ofChange nvmWaitsWrong)

/-- 'reliquarylaw1.NvmApart': WHATEVER THE INPUT: true; the input reads as it did. -/
def nvmApartSpec : ChangeSpec := { name := "nvmApart", fn := fun _ => fun
  | [d1, d2, d3] => { results := [.lit (.bool true)], args := [d1, d2, d3] }
  | _ => none }
def nvmApartRow : OpenClaim := { program := "ytfiajonbekfcfaa", sum := "07543c8366b4dfa1c4a4dc2a29dee9943b2f6204623079d13b615edb5d2e9bac", func := "reliquary/reliquarylaw1.NvmApart", spec := "nvmApart", unfollowed := true, recurses := true, apart := false }
def NvmApartSaid : Prop := nvmApartRow.holds Try.pinned (OpenSpec.ofChange nvmApartSpec)

/-- ITS FALSE NEIGHBOUR: 'it returns false'. Refute it at one input. -/
def nvmApartWrong : ChangeSpec := { name := "nvmApart", fn := fun _ => fun
  | [d1, d2, d3] => { results := [.lit (.bool false)], args := [d1, d2, d3] }
  | _ => none }
def NvmApartWrongFalsely : Prop := nvmApartRow.holds Try.pinned (OpenSpec.ofChange nvmApartWrong)

/- THE SECOND FORM. 'bulk': how many values and letters a reading holds, each counted each time it is reached (what is shared counts as often as it is met; a slice's spare places count too). A statement '..UptoSaid' is the law's where the arguments, and the package variables that the reading takes, are together of bulk at most 1048576: NARROWER than '..Said'. Prove '..Said' where nothing that the law and all that it calls make is longer than what came in: it says more and counts as full. Else prove '..UptoSaid'. A law counts once. -/
mutual
def uptoBulk {H : Type} : DataW H → Nat
  | .lit (.string bytes) => bytes.length + 1
  | .lit _ => 1
  | .nil => 1
  | .ptr d => uptoBulk d + 1
  | .slice elems spare => uptoBulkAll elems + uptoBulkAll spare + 1
  | .agg parts => uptoBulkAll parts + 1
  | .iface _ d => uptoBulk d + 1
  | .map entries => uptoBulkEntries entries + 1
  | .held _ => 1
def uptoBulkAll {H : Type} : List (DataW H) → Nat
  | [] => 0
  | d :: r => uptoBulk d + uptoBulkAll r
def uptoBulkEntries {H : Type} : List (Lit × DataW H) → Nat
  | [] => 0
  | x :: r => uptoBulkEntry x + uptoBulkEntries r
def uptoBulkEntry {H : Type} : Lit × DataW H → Nat
  | (.string bytes, d) => bytes.length + uptoBulk d + 1
  | (_, d) => uptoBulk d + 1
 end
def uptoSmall : (H : Type) → List (DataW H) → Bool := fun _ ds => decide (uptoBulkAll ds ≤ 1048576)
def OpenSpec.upto (s : _root_.Go.ChangeSpec) : _root_.Go.OpenSpec := { _root_.Go.OpenSpec.ofChange s with cond := some uptoSmall }

/-- 'reliquarylaw1.NvmLines', WHERE WHAT IT READS IS OF BULK AT MOST 1048576: true; the input reads as it did. -/
def nvmLinesUptoRow : OpenClaim := { program := "ytfiajonbekfcfaa", sum := "07543c8366b4dfa1c4a4dc2a29dee9943b2f6204623079d13b615edb5d2e9bac", func := "reliquary/reliquarylaw1.NvmLines", spec := "nvmLines", unfollowed := true, recurses := true, apart := false, narrowed := true }
def NvmLinesUptoSaid : Prop := nvmLinesUptoRow.holds Try.pinned (OpenSpec.upto nvmLinesSpec)

/-- 'reliquarylaw1.NvmLasts', WHERE WHAT IT READS IS OF BULK AT MOST 1048576: true; the input reads as it did. -/
def nvmLastsUptoRow : OpenClaim := { program := "ytfiajonbekfcfaa", sum := "07543c8366b4dfa1c4a4dc2a29dee9943b2f6204623079d13b615edb5d2e9bac", func := "reliquary/reliquarylaw1.NvmLasts", spec := "nvmLasts", unfollowed := true, recurses := true, apart := false, narrowed := true }
def NvmLastsUptoSaid : Prop := nvmLastsUptoRow.holds Try.pinned (OpenSpec.upto nvmLastsSpec)

/-- 'reliquarylaw1.NvmWrong', WHERE WHAT IT READS IS OF BULK AT MOST 1048576: true; the input reads as it did. -/
def nvmWrongUptoRow : OpenClaim := { program := "ytfiajonbekfcfaa", sum := "07543c8366b4dfa1c4a4dc2a29dee9943b2f6204623079d13b615edb5d2e9bac", func := "reliquary/reliquarylaw1.NvmWrong", spec := "nvmWrong", unfollowed := true, recurses := true, apart := false, narrowed := true }
def NvmWrongUptoSaid : Prop := nvmWrongUptoRow.holds Try.pinned (OpenSpec.upto nvmWrongSpec)

/-- 'reliquarylaw1.NvmFuses', WHERE WHAT IT READS IS OF BULK AT MOST 1048576: true; the input reads as it did. -/
def nvmFusesUptoRow : OpenClaim := { program := "ytfiajonbekfcfaa", sum := "07543c8366b4dfa1c4a4dc2a29dee9943b2f6204623079d13b615edb5d2e9bac", func := "reliquary/reliquarylaw1.NvmFuses", spec := "nvmFuses", unfollowed := true, recurses := true, apart := false, narrowed := true }
def NvmFusesUptoSaid : Prop := nvmFusesUptoRow.holds Try.pinned (OpenSpec.upto nvmFusesSpec)

/-- 'reliquarylaw1.NvmWaits', WHERE WHAT IT READS IS OF BULK AT MOST 1048576: true; the input reads as it did. -/
def nvmWaitsUptoRow : OpenClaim := { program := "ytfiajonbekfcfaa", sum := "07543c8366b4dfa1c4a4dc2a29dee9943b2f6204623079d13b615edb5d2e9bac", func := "reliquary/reliquarylaw1.NvmWaits", spec := "nvmWaits", unfollowed := true, recurses := true, apart := false, narrowed := true }
def NvmWaitsUptoSaid : Prop := nvmWaitsUptoRow.holds Try.pinned (OpenSpec.upto nvmWaitsSpec)

/-- 'reliquarylaw1.NvmApart', WHERE WHAT IT READS IS OF BULK AT MOST 1048576: true; the input reads as it did. -/
def nvmApartUptoRow : OpenClaim := { program := "ytfiajonbekfcfaa", sum := "07543c8366b4dfa1c4a4dc2a29dee9943b2f6204623079d13b615edb5d2e9bac", func := "reliquary/reliquarylaw1.NvmApart", spec := "nvmApart", unfollowed := true, recurses := true, apart := false, narrowed := true }
def NvmApartUptoSaid : Prop := nvmApartUptoRow.holds Try.pinned (OpenSpec.upto nvmApartSpec)

end Rows
end Go.Proofs.Ytfiajonbekfcfaa

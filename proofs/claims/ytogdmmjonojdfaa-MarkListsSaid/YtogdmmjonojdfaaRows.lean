/-
  No cell of these rows narrows 'for every input' (looked for: loops, veiled, ifaces, maps, wideKeys, modest, calm, conditions, laid).
  DERIVED. THE GIVEN ROWS OF THIS SEAT. 4 by the template 'for every input the law returns true; each argument reads behind the call as it read before'; 0 by the template 'total and deterministic' (their statements: YtogdmmjonojdfaaTotals.lean).
  GIVEN WITH THE SEED: the statements are not yours to turn. If you find one false, say at which input.
  Laid BY PROGRAM, IN A SANDBOX (cutbox-rows.mjs): the forced cells as the released guide's own fill.sh prints them over the translation 81c59c0fac1fb783… (all of the seat's roots in one cut). By AI agents, Wed Nov 11 2026. No macro, syntax, notation, axiom, sorry.
-/
import Derived.Test.YtogdmmjonojdfaaChecked
import GoSem.Claim
import GoSem.ClaimJoined
import GoSem.ClaimMapViews
import Derived.JoinedTies
import Derived.KernelRfl
namespace Go.Proofs.Ytogdmmjonojdfaa
/- THE CELL 'sum', in the pinned program and in every row, IS THE sha256 OF THE DUMP (.gsa) THAT YtogdmmjonojdfaaProg.lean LOADS. Nothing in Lean hashes anything: it is a label: what it is worth is what the hold of that sum in a sandbox is worth. -/
noncomputable def Try.pinned : Pinned := { name := "ytogdmmjonojdfaa", sum := "81c59c0fac1fb783d35c721392be0ffeaecc590475bf9fab99a5fe2c9515a9bb", checked := Try.checked }
namespace Rows
def none {H : Type} : Left H := { results := [], args := [] }

/-- 'reliquarylaw15.MarkCloses': WHATEVER THE INPUT: true; the input reads as it did. -/
def markClosesSpec : ChangeSpec := { name := "markCloses", fn := fun _ => fun
  | [d1, d2] => { results := [.lit (.bool true)], args := [d1, d2] }
  | _ => none }
def markClosesRow : OpenClaim := { program := "ytogdmmjonojdfaa", sum := "81c59c0fac1fb783d35c721392be0ffeaecc590475bf9fab99a5fe2c9515a9bb", func := "reliquary/reliquarylaw15.MarkCloses", spec := "markCloses", unfollowed := true, recurses := true, apart := false }
def MarkClosesSaid : Prop := markClosesRow.holds Try.pinned (OpenSpec.ofChange markClosesSpec)

/-- ITS FALSE NEIGHBOUR: 'it returns false'. Refute it at one input. -/
def markClosesWrong : ChangeSpec := { name := "markCloses", fn := fun _ => fun
  | [d1, d2] => { results := [.lit (.bool false)], args := [d1, d2] }
  | _ => none }
def MarkClosesWrongFalsely : Prop := markClosesRow.holds Try.pinned (OpenSpec.ofChange markClosesWrong)

/-- 'reliquarylaw15.MarkParts': WHATEVER THE INPUT: true; the input reads as it did. -/
def markPartsSpec : ChangeSpec := { name := "markParts", fn := fun _ => fun
  | [d1, d2] => { results := [.lit (.bool true)], args := [d1, d2] }
  | _ => none }
def markPartsRow : OpenClaim := { program := "ytogdmmjonojdfaa", sum := "81c59c0fac1fb783d35c721392be0ffeaecc590475bf9fab99a5fe2c9515a9bb", func := "reliquary/reliquarylaw15.MarkParts", spec := "markParts", unfollowed := true, recurses := true, apart := false }
def MarkPartsSaid : Prop := markPartsRow.holds Try.pinned (OpenSpec.ofChange markPartsSpec)

/-- ITS FALSE NEIGHBOUR: 'it returns false'. Refute it at one input. -/
def markPartsWrong : ChangeSpec := { name := "markParts", fn := fun _ => fun
  | [d1, d2] => { results := [.lit (.bool false)], args := [d1, d2] }
  | _ => none }
def MarkPartsWrongFalsely : Prop := markPartsRow.holds Try.pinned (OpenSpec.ofChange markPartsWrong)

/-- 'reliquarylaw15.MarkFrom': WHATEVER THE INPUT: true; the input reads as it did. -/
def markFromSpec : ChangeSpec := { name := "markFrom", fn := fun _ => fun
  | [d1, d2, d3, d4] => { results := [.lit (.bool true)], args := [d1, d2, d3, d4] }
  | _ => none }
def markFromRow : OpenClaim := { program := "ytogdmmjonojdfaa", sum := "81c59c0fac1fb783d35c721392be0ffeaecc590475bf9fab99a5fe2c9515a9bb", func := "reliquary/reliquarylaw15.MarkFrom", spec := "markFrom", unfollowed := true, recurses := true, apart := false }
def MarkFromSaid : Prop := markFromRow.holds Try.pinned (OpenSpec.ofChange markFromSpec)

/-- ITS FALSE NEIGHBOUR: 'it returns false'. Refute it at one input. -/
def markFromWrong : ChangeSpec := { name := "markFrom", fn := fun _ => fun
  | [d1, d2, d3, d4] => { results := [.lit (.bool false)], args := [d1, d2, d3, d4] }
  | _ => none }
def MarkFromWrongFalsely : Prop := markFromRow.holds Try.pinned (OpenSpec.ofChange markFromWrong)

/-- 'reliquarylaw15.MarkLists': WHATEVER THE INPUT: true; the input reads as it did. -/
def markListsSpec : ChangeSpec := { name := "markLists", fn := fun _ => fun
  | [d1, d2] => { results := [.lit (.bool true)], args := [d1, d2] }
  | _ => none }
def markListsRow : OpenClaim := { program := "ytogdmmjonojdfaa", sum := "81c59c0fac1fb783d35c721392be0ffeaecc590475bf9fab99a5fe2c9515a9bb", func := "reliquary/reliquarylaw15.MarkLists", spec := "markLists", unfollowed := true, recurses := true, apart := false }
def MarkListsSaid : Prop := markListsRow.holds Try.pinned (OpenSpec.ofChange markListsSpec)

/-- ITS FALSE NEIGHBOUR: 'it returns false'. Refute it at one input. -/
def markListsWrong : ChangeSpec := { name := "markLists", fn := fun _ => fun
  | [d1, d2] => { results := [.lit (.bool false)], args := [d1, d2] }
  | _ => none }
def MarkListsWrongFalsely : Prop := markListsRow.holds Try.pinned (OpenSpec.ofChange markListsWrong)

/- THE SECOND FORM. 'bulk': how many values and letters a reading holds, each counted each time it is reached (what is shared counts as often as it is met; a slice's spare places count too). A statement '..UptoSaid' is the law's where the arguments, and the package variables that the reading takes, are together of bulk at most 1048576: NARROWER than '..Said'. Prove '..Said' where nothing that the law and all that it calls make is longer than what came in: it says more and counts as full. Else prove '..UptoSaid'. A law counts once. -/
mutual
def uptoBulk {H : Type} : DataW H → Nat
  | .lit (.string bytes) => bytes.length + 1
  | .lit _ => 1
  | .nil => 1
  | .ptr d => uptoBulk d + 1
  | .slice elems spare => uptoBulkAll elems + uptoBulkAll spare + 1
  | .agg parts => uptoBulkAll parts + 1
  | .iface _ d => uptoBulk d + 1
  | .map entries => uptoBulkEntries entries + 1
  | .held _ => 1
def uptoBulkAll {H : Type} : List (DataW H) → Nat
  | [] => 0
  | d :: r => uptoBulk d + uptoBulkAll r
def uptoBulkEntries {H : Type} : List (Lit × DataW H) → Nat
  | [] => 0
  | x :: r => uptoBulkEntry x + uptoBulkEntries r
def uptoBulkEntry {H : Type} : Lit × DataW H → Nat
  | (.string bytes, d) => bytes.length + uptoBulk d + 1
  | (_, d) => uptoBulk d + 1
 end
def uptoSmall : (H : Type) → List (DataW H) → Bool := fun _ ds => decide (uptoBulkAll ds ≤ 1048576)
def OpenSpec.upto (s : _root_.Go.ChangeSpec) : _root_.Go.OpenSpec := { _root_.Go.OpenSpec.ofChange s with cond := some uptoSmall }

/-- 'reliquarylaw15.MarkCloses', WHERE WHAT IT READS IS OF BULK AT MOST 1048576: true; the input reads as it did. -/
def markClosesUptoRow : OpenClaim := { program := "ytogdmmjonojdfaa", sum := "81c59c0fac1fb783d35c721392be0ffeaecc590475bf9fab99a5fe2c9515a9bb", func := "reliquary/reliquarylaw15.MarkCloses", spec := "markCloses", unfollowed := true, recurses := true, apart := false, narrowed := true }
def MarkClosesUptoSaid : Prop := markClosesUptoRow.holds Try.pinned (OpenSpec.upto markClosesSpec)

/-- 'reliquarylaw15.MarkParts', WHERE WHAT IT READS IS OF BULK AT MOST 1048576: true; the input reads as it did. -/
def markPartsUptoRow : OpenClaim := { program := "ytogdmmjonojdfaa", sum := "81c59c0fac1fb783d35c721392be0ffeaecc590475bf9fab99a5fe2c9515a9bb", func := "reliquary/reliquarylaw15.MarkParts", spec := "markParts", unfollowed := true, recurses := true, apart := false, narrowed := true }
def MarkPartsUptoSaid : Prop := markPartsUptoRow.holds Try.pinned (OpenSpec.upto markPartsSpec)

/-- 'reliquarylaw15.MarkFrom', WHERE WHAT IT READS IS OF BULK AT MOST 1048576: true; the input reads as it did. -/
def markFromUptoRow : OpenClaim := { program := "ytogdmmjonojdfaa", sum := "81c59c0fac1fb783d35c721392be0ffeaecc590475bf9fab99a5fe2c9515a9bb", func := "reliquary/reliquarylaw15.MarkFrom", spec := "markFrom", unfollowed := true, recurses := true, apart := false, narrowed := true }
def MarkFromUptoSaid : Prop := markFromUptoRow.holds Try.pinned (OpenSpec.upto markFromSpec)

/-- 'reliquarylaw15.MarkLists', WHERE WHAT IT READS IS OF BULK AT MOST 1048576: true; the input reads as it did. -/
def markListsUptoRow : OpenClaim := { program := "ytogdmmjonojdfaa", sum := "81c59c0fac1fb783d35c721392be0ffeaecc590475bf9fab99a5fe2c9515a9bb", func := "reliquary/reliquarylaw15.MarkLists", spec := "markLists", unfollowed := true, recurses := true, apart := false, narrowed := true }
def MarkListsUptoSaid : Prop := markListsUptoRow.holds Try.pinned (OpenSpec.upto markListsSpec)

end Rows
end Go.Proofs.Ytogdmmjonojdfaa

/-
  No cell of these rows narrows 'for every input' (looked for: loops, veiled, ifaces, maps, wideKeys, modest, calm, conditions, laid).
  DERIVED. THE GIVEN ROWS OF THIS SEAT. 5 by the template 'for every input the law returns true; each argument reads behind the call as it read before'; 0 by the template 'total and deterministic' (their statements: YtgepbckaejleoaaTotals.lean).
  GIVEN WITH THE SEED: the statements are not yours to turn. If you find one false, say at which input.
  Laid BY PROGRAM, IN A SANDBOX (cutbox-rows.mjs): the forced cells as the released guide's own fill.sh prints them over the translation 64db4a88190120c3… (all of the seat's roots in one cut). By AI agents, Wed Nov 11 2026. No macro, syntax, notation, axiom, sorry.
-/
import Derived.Test.YtgepbckaejleoaaChecked
import GoSem.Claim
import GoSem.ClaimJoined
import GoSem.ClaimMapViews
import Derived.JoinedTies
import Derived.KernelRfl
namespace Go.Proofs.Ytgepbckaejleoaa
/- THE CELL 'sum', in the pinned program and in every row, IS THE sha256 OF THE DUMP (.gsa) THAT YtgepbckaejleoaaProg.lean LOADS. Nothing in Lean hashes anything: it is a label: what it is worth is what the hold of that sum in a sandbox is worth. -/
noncomputable def Try.pinned : Pinned := { name := "ytgepbckaejleoaa", sum := "64db4a88190120c366dd9fb4e6b55ed244a179cffcea6e1382ed90606ce50709", checked := Try.checked }
namespace Rows
def none {H : Type} : Left H := { results := [], args := [] }

/-- 'reliquarylaw5.HashSeeds': WHATEVER THE INPUT: true; the input reads as it did. -/
def hashSeedsSpec : ChangeSpec := { name := "hashSeeds", fn := fun _ => fun
  | [d1, d2, d3] => { results := [.lit (.bool true)], args := [d1, d2, d3] }
  | _ => none }
def hashSeedsRow : OpenClaim := { program := "ytgepbckaejleoaa", sum := "64db4a88190120c366dd9fb4e6b55ed244a179cffcea6e1382ed90606ce50709", func := "reliquary/reliquarylaw5.HashSeeds", spec := "hashSeeds", apart := false }
def HashSeedsSaid : Prop := hashSeedsRow.holds Try.pinned (OpenSpec.ofChange hashSeedsSpec)

/-- ITS FALSE NEIGHBOUR: 'it returns false'. Refute it at one input. -/
def hashSeedsWrong : ChangeSpec := { name := "hashSeeds", fn := fun _ => fun
  | [d1, d2, d3] => { results := [.lit (.bool false)], args := [d1, d2, d3] }
  | _ => none }
def HashSeedsWrongFalsely : Prop := hashSeedsRow.holds Try.pinned (OpenSpec.ofChange hashSeedsWrong)

/-- 'reliquarylaw5.HashBack': WHATEVER THE INPUT: true; the input reads as it did. -/
def hashBackSpec : ChangeSpec := { name := "hashBack", fn := fun _ => fun
  | [d] => { results := [.lit (.bool true)], args := [d] }
  | _ => none }
def hashBackRow : OpenClaim := { program := "ytgepbckaejleoaa", sum := "64db4a88190120c366dd9fb4e6b55ed244a179cffcea6e1382ed90606ce50709", func := "reliquary/reliquarylaw5.HashBack", spec := "hashBack", apart := false }
def HashBackSaid : Prop := hashBackRow.holds Try.pinned (OpenSpec.ofChange hashBackSpec)

/-- ITS FALSE NEIGHBOUR: 'it returns false'. Refute it at one input. -/
def hashBackWrong : ChangeSpec := { name := "hashBack", fn := fun _ => fun
  | [d] => { results := [.lit (.bool false)], args := [d] }
  | _ => none }
def HashBackWrongFalsely : Prop := hashBackRow.holds Try.pinned (OpenSpec.ofChange hashBackWrong)

/-- 'reliquarylaw5.HashIs': WHATEVER THE INPUT: true; the input reads as it did. -/
def hashIsSpec : ChangeSpec := { name := "hashIs", fn := fun _ => fun
  | [d1, d2] => { results := [.lit (.bool true)], args := [d1, d2] }
  | _ => none }
def hashIsRow : OpenClaim := { program := "ytgepbckaejleoaa", sum := "64db4a88190120c366dd9fb4e6b55ed244a179cffcea6e1382ed90606ce50709", func := "reliquary/reliquarylaw5.HashIs", spec := "hashIs", apart := false }
def HashIsSaid : Prop := hashIsRow.holds Try.pinned (OpenSpec.ofChange hashIsSpec)

/-- ITS FALSE NEIGHBOUR: 'it returns false'. Refute it at one input. -/
def hashIsWrong : ChangeSpec := { name := "hashIs", fn := fun _ => fun
  | [d1, d2] => { results := [.lit (.bool false)], args := [d1, d2] }
  | _ => none }
def HashIsWrongFalsely : Prop := hashIsRow.holds Try.pinned (OpenSpec.ofChange hashIsWrong)

/-- 'reliquarylaw5.HashMixes': WHATEVER THE INPUT: true; the input reads as it did. -/
def hashMixesSpec : ChangeSpec := { name := "hashMixes", fn := fun _ => fun
  | [d1, d2] => { results := [.lit (.bool true)], args := [d1, d2] }
  | _ => none }
def hashMixesRow : OpenClaim := { program := "ytgepbckaejleoaa", sum := "64db4a88190120c366dd9fb4e6b55ed244a179cffcea6e1382ed90606ce50709", func := "reliquary/reliquarylaw5.HashMixes", spec := "hashMixes", apart := false }
def HashMixesSaid : Prop := hashMixesRow.holds Try.pinned (OpenSpec.ofChange hashMixesSpec)

/-- ITS FALSE NEIGHBOUR: 'it returns false'. Refute it at one input. -/
def hashMixesWrong : ChangeSpec := { name := "hashMixes", fn := fun _ => fun
  | [d1, d2] => { results := [.lit (.bool false)], args := [d1, d2] }
  | _ => none }
def HashMixesWrongFalsely : Prop := hashMixesRow.holds Try.pinned (OpenSpec.ofChange hashMixesWrong)

/-- 'reliquarylaw5.HashPrefixes': WHATEVER THE INPUT: true; the input reads as it did. -/
def hashPrefixesSpec : ChangeSpec := { name := "hashPrefixes", fn := fun _ => fun
  | [d1, d2] => { results := [.lit (.bool true)], args := [d1, d2] }
  | _ => none }
def hashPrefixesRow : OpenClaim := { program := "ytgepbckaejleoaa", sum := "64db4a88190120c366dd9fb4e6b55ed244a179cffcea6e1382ed90606ce50709", func := "reliquary/reliquarylaw5.HashPrefixes", spec := "hashPrefixes", apart := false }
def HashPrefixesSaid : Prop := hashPrefixesRow.holds Try.pinned (OpenSpec.ofChange hashPrefixesSpec)

/-- ITS FALSE NEIGHBOUR: 'it returns false'. Refute it at one input. -/
def hashPrefixesWrong : ChangeSpec := { name := "hashPrefixes", fn := fun _ => fun
  | [d1, d2] => { results := [.lit (.bool false)], args := [d1, d2] }
  | _ => none }
def HashPrefixesWrongFalsely : Prop := hashPrefixesRow.holds Try.pinned (OpenSpec.ofChange hashPrefixesWrong)

/- THE SECOND FORM. 'bulk': how many values and letters a reading holds, each counted each time it is reached (what is shared counts as often as it is met; a slice's spare places count too). A statement '..UptoSaid' is the law's where the arguments, and the package variables that the reading takes, are together of bulk at most 1048576: NARROWER than '..Said'. Prove '..Said' where nothing that the law and all that it calls make is longer than what came in: it says more and counts as full. Else prove '..UptoSaid'. A law counts once. -/
mutual
def uptoBulk {H : Type} : DataW H → Nat
  | .lit (.string bytes) => bytes.length + 1
  | .lit _ => 1
  | .nil => 1
  | .ptr d => uptoBulk d + 1
  | .slice elems spare => uptoBulkAll elems + uptoBulkAll spare + 1
  | .agg parts => uptoBulkAll parts + 1
  | .iface _ d => uptoBulk d + 1
  | .map entries => uptoBulkEntries entries + 1
  | .held _ => 1
def uptoBulkAll {H : Type} : List (DataW H) → Nat
  | [] => 0
  | d :: r => uptoBulk d + uptoBulkAll r
def uptoBulkEntries {H : Type} : List (Lit × DataW H) → Nat
  | [] => 0
  | x :: r => uptoBulkEntry x + uptoBulkEntries r
def uptoBulkEntry {H : Type} : Lit × DataW H → Nat
  | (.string bytes, d) => bytes.length + uptoBulk d + 1
  | (_, d) => uptoBulk d + 1
 end
def uptoSmall : (H : Type) → List (DataW H) → Bool := fun _ ds => decide (uptoBulkAll ds ≤ 1048576)
def OpenSpec.upto (s : _root_.Go.ChangeSpec) : _root_.Go.OpenSpec := { _root_.Go.OpenSpec.ofChange s with cond := some uptoSmall }

/-- 'reliquarylaw5.HashSeeds', WHERE WHAT IT READS IS OF BULK AT MOST 1048576: true; the input reads as it did. -/
def hashSeedsUptoRow : OpenClaim := { program := "ytgepbckaejleoaa", sum := "64db4a88190120c366dd9fb4e6b55ed244a179cffcea6e1382ed90606ce50709", func := "reliquary/reliquarylaw5.HashSeeds", spec := "hashSeeds", apart := false, narrowed := true }
def HashSeedsUptoSaid : Prop := hashSeedsUptoRow.holds Try.pinned (OpenSpec.upto hashSeedsSpec)

/-- 'reliquarylaw5.HashBack', WHERE WHAT IT READS IS OF BULK AT MOST 1048576: true; the input reads as it did. -/
def hashBackUptoRow : OpenClaim := { program := "ytgepbckaejleoaa", sum := "64db4a88190120c366dd9fb4e6b55ed244a179cffcea6e1382ed90606ce50709", func := "reliquary/reliquarylaw5.HashBack", spec := "hashBack", apart := false, narrowed := true }
def HashBackUptoSaid : Prop := hashBackUptoRow.holds Try.pinned (OpenSpec.upto hashBackSpec)

/-- 'reliquarylaw5.HashIs', WHERE WHAT IT READS IS OF BULK AT MOST 1048576: true; the input reads as it did. -/
def hashIsUptoRow : OpenClaim := { program := "ytgepbckaejleoaa", sum := "64db4a88190120c366dd9fb4e6b55ed244a179cffcea6e1382ed90606ce50709", func := "reliquary/reliquarylaw5.HashIs", spec := "hashIs", apart := false, narrowed := true }
def HashIsUptoSaid : Prop := hashIsUptoRow.holds Try.pinned (OpenSpec.upto hashIsSpec)

/-- 'reliquarylaw5.HashMixes', WHERE WHAT IT READS IS OF BULK AT MOST 1048576: true; the input reads as it did. -/
def hashMixesUptoRow : OpenClaim := { program := "ytgepbckaejleoaa", sum := "64db4a88190120c366dd9fb4e6b55ed244a179cffcea6e1382ed90606ce50709", func := "reliquary/reliquarylaw5.HashMixes", spec := "hashMixes", apart := false, narrowed := true }
def HashMixesUptoSaid : Prop := hashMixesUptoRow.holds Try.pinned (OpenSpec.upto hashMixesSpec)

/-- 'reliquarylaw5.HashPrefixes', WHERE WHAT IT READS IS OF BULK AT MOST 1048576: true; the input reads as it did. -/
def hashPrefixesUptoRow : OpenClaim := { program := "ytgepbckaejleoaa", sum := "64db4a88190120c366dd9fb4e6b55ed244a179cffcea6e1382ed90606ce50709", func := "reliquary/reliquarylaw5.HashPrefixes", spec := "hashPrefixes", apart := false, narrowed := true }
def HashPrefixesUptoSaid : Prop := hashPrefixesUptoRow.holds Try.pinned (OpenSpec.upto hashPrefixesSpec)

end Rows
end Go.Proofs.Ytgepbckaejleoaa

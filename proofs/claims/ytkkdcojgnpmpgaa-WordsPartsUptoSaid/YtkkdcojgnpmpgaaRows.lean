/-
  No cell of these rows narrows 'for every input' (looked for: loops, veiled, ifaces, maps, wideKeys, modest, calm, conditions, laid).
  DERIVED. THE GIVEN ROWS OF THIS SEAT. 4 by the template 'for every input the law returns true; each argument reads behind the call as it read before'; 0 by the template 'total and deterministic' (their statements: YtkkdcojgnpmpgaaTotals.lean).
  GIVEN WITH THE SEED: the statements are not yours to turn. If you find one false, say at which input.
  Laid BY PROGRAM, IN A SANDBOX (cutbox-rows.mjs): the forced cells as the released guide's own fill.sh prints them over the translation 6d600b8229ecba27… (all of the seat's roots in one cut). By AI agents, Wed Nov 11 2026. No macro, syntax, notation, axiom, sorry.
-/
import Derived.Test.YtkkdcojgnpmpgaaChecked
import GoSem.Claim
import GoSem.ClaimJoined
import GoSem.ClaimMapViews
import Derived.JoinedTies
import Derived.KernelRfl
namespace Go.Proofs.Ytkkdcojgnpmpgaa
/- THE CELL 'sum', in the pinned program and in every row, IS THE sha256 OF THE DUMP (.gsa) THAT YtkkdcojgnpmpgaaProg.lean LOADS. Nothing in Lean hashes anything: it is a label: what it is worth is what the hold of that sum in a sandbox is worth. -/
noncomputable def Try.pinned : Pinned := { name := "ytkkdcojgnpmpgaa", sum := "6d600b8229ecba276828ac139eef02da8b1e0f25f0aec61c10b38f7a07c9fbcc", checked := Try.checked }
namespace Rows
def none {H : Type} : Left H := { results := [], args := [] }

/-- 'reliquarylaw9.WordsBits': WHATEVER THE INPUT: true; the input reads as it did. -/
def wordsBitsSpec : ChangeSpec := { name := "wordsBits", fn := fun _ => fun
  | [d1, d2, d3] => { results := [.lit (.bool true)], args := [d1, d2, d3] }
  | _ => none }
def wordsBitsRow : OpenClaim := { program := "ytkkdcojgnpmpgaa", sum := "6d600b8229ecba276828ac139eef02da8b1e0f25f0aec61c10b38f7a07c9fbcc", func := "reliquary/reliquarylaw9.WordsBits", spec := "wordsBits", apart := false }
def WordsBitsSaid : Prop := wordsBitsRow.holds Try.pinned (OpenSpec.ofChange wordsBitsSpec)

/-- ITS FALSE NEIGHBOUR: 'it returns false'. Refute it at one input. -/
def wordsBitsWrong : ChangeSpec := { name := "wordsBits", fn := fun _ => fun
  | [d1, d2, d3] => { results := [.lit (.bool false)], args := [d1, d2, d3] }
  | _ => none }
def WordsBitsWrongFalsely : Prop := wordsBitsRow.holds Try.pinned (OpenSpec.ofChange wordsBitsWrong)

/-- 'reliquarylaw9.WordsPack': WHATEVER THE INPUT: true; the input reads as it did. -/
def wordsPackSpec : ChangeSpec := { name := "wordsPack", fn := fun _ => fun
  | [d1, d2] => { results := [.lit (.bool true)], args := [d1, d2] }
  | _ => none }
def wordsPackRow : OpenClaim := { program := "ytkkdcojgnpmpgaa", sum := "6d600b8229ecba276828ac139eef02da8b1e0f25f0aec61c10b38f7a07c9fbcc", func := "reliquary/reliquarylaw9.WordsPack", spec := "wordsPack", apart := false }
def WordsPackSaid : Prop := wordsPackRow.holds Try.pinned (OpenSpec.ofChange wordsPackSpec)

/-- ITS FALSE NEIGHBOUR: 'it returns false'. Refute it at one input. -/
def wordsPackWrong : ChangeSpec := { name := "wordsPack", fn := fun _ => fun
  | [d1, d2] => { results := [.lit (.bool false)], args := [d1, d2] }
  | _ => none }
def WordsPackWrongFalsely : Prop := wordsPackRow.holds Try.pinned (OpenSpec.ofChange wordsPackWrong)

/-- 'reliquarylaw9.WordsParts': WHATEVER THE INPUT: true; the input reads as it did. -/
def wordsPartsSpec : ChangeSpec := { name := "wordsParts", fn := fun _ => fun
  | [d1, d2] => { results := [.lit (.bool true)], args := [d1, d2] }
  | _ => none }
def wordsPartsRow : OpenClaim := { program := "ytkkdcojgnpmpgaa", sum := "6d600b8229ecba276828ac139eef02da8b1e0f25f0aec61c10b38f7a07c9fbcc", func := "reliquary/reliquarylaw9.WordsParts", spec := "wordsParts", apart := false }
def WordsPartsSaid : Prop := wordsPartsRow.holds Try.pinned (OpenSpec.ofChange wordsPartsSpec)

/-- ITS FALSE NEIGHBOUR: 'it returns false'. Refute it at one input. -/
def wordsPartsWrong : ChangeSpec := { name := "wordsParts", fn := fun _ => fun
  | [d1, d2] => { results := [.lit (.bool false)], args := [d1, d2] }
  | _ => none }
def WordsPartsWrongFalsely : Prop := wordsPartsRow.holds Try.pinned (OpenSpec.ofChange wordsPartsWrong)

/-- 'reliquarylaw9.WordsCut': WHATEVER THE INPUT: true; the input reads as it did. -/
def wordsCutSpec : ChangeSpec := { name := "wordsCut", fn := fun _ => fun
  | [d1, d2] => { results := [.lit (.bool true)], args := [d1, d2] }
  | _ => none }
def wordsCutRow : OpenClaim := { program := "ytkkdcojgnpmpgaa", sum := "6d600b8229ecba276828ac139eef02da8b1e0f25f0aec61c10b38f7a07c9fbcc", func := "reliquary/reliquarylaw9.WordsCut", spec := "wordsCut", apart := false }
def WordsCutSaid : Prop := wordsCutRow.holds Try.pinned (OpenSpec.ofChange wordsCutSpec)

/-- ITS FALSE NEIGHBOUR: 'it returns false'. Refute it at one input. -/
def wordsCutWrong : ChangeSpec := { name := "wordsCut", fn := fun _ => fun
  | [d1, d2] => { results := [.lit (.bool false)], args := [d1, d2] }
  | _ => none }
def WordsCutWrongFalsely : Prop := wordsCutRow.holds Try.pinned (OpenSpec.ofChange wordsCutWrong)

/- THE SECOND FORM. 'bulk': how many values and letters a reading holds, each counted each time it is reached (what is shared counts as often as it is met; a slice's spare places count too). A statement '..UptoSaid' is the law's where the arguments, and the package variables that the reading takes, are together of bulk at most 1048576: NARROWER than '..Said'. Prove '..Said' where nothing that the law and all that it calls make is longer than what came in: it says more and counts as full. Else prove '..UptoSaid'. A law counts once. -/
mutual
def uptoBulk {H : Type} : DataW H → Nat
  | .lit (.string bytes) => bytes.length + 1
  | .lit _ => 1
  | .nil => 1
  | .ptr d => uptoBulk d + 1
  | .slice elems spare => uptoBulkAll elems + uptoBulkAll spare + 1
  | .agg parts => uptoBulkAll parts + 1
  | .iface _ d => uptoBulk d + 1
  | .map entries => uptoBulkEntries entries + 1
  | .held _ => 1
def uptoBulkAll {H : Type} : List (DataW H) → Nat
  | [] => 0
  | d :: r => uptoBulk d + uptoBulkAll r
def uptoBulkEntries {H : Type} : List (Lit × DataW H) → Nat
  | [] => 0
  | x :: r => uptoBulkEntry x + uptoBulkEntries r
def uptoBulkEntry {H : Type} : Lit × DataW H → Nat
  | (.string bytes, d) => bytes.length + uptoBulk d + 1
  | (_, d) => uptoBulk d + 1
 end
def uptoSmall : (H : Type) → List (DataW H) → Bool := fun _ ds => decide (uptoBulkAll ds ≤ 1048576)
def OpenSpec.upto (s : _root_.Go.ChangeSpec) : _root_.Go.OpenSpec := { _root_.Go.OpenSpec.ofChange s with cond := some uptoSmall }

/-- 'reliquarylaw9.WordsBits', WHERE WHAT IT READS IS OF BULK AT MOST 1048576: true; the input reads as it did. -/
def wordsBitsUptoRow : OpenClaim := { program := "ytkkdcojgnpmpgaa", sum := "6d600b8229ecba276828ac139eef02da8b1e0f25f0aec61c10b38f7a07c9fbcc", func := "reliquary/reliquarylaw9.WordsBits", spec := "wordsBits", apart := false, narrowed := true }
def WordsBitsUptoSaid : Prop := wordsBitsUptoRow.holds Try.pinned (OpenSpec.upto wordsBitsSpec)

/-- 'reliquarylaw9.WordsPack', WHERE WHAT IT READS IS OF BULK AT MOST 1048576: true; the input reads as it did. -/
def wordsPackUptoRow : OpenClaim := { program := "ytkkdcojgnpmpgaa", sum := "6d600b8229ecba276828ac139eef02da8b1e0f25f0aec61c10b38f7a07c9fbcc", func := "reliquary/reliquarylaw9.WordsPack", spec := "wordsPack", apart := false, narrowed := true }
def WordsPackUptoSaid : Prop := wordsPackUptoRow.holds Try.pinned (OpenSpec.upto wordsPackSpec)

/-- 'reliquarylaw9.WordsParts', WHERE WHAT IT READS IS OF BULK AT MOST 1048576: true; the input reads as it did. -/
def wordsPartsUptoRow : OpenClaim := { program := "ytkkdcojgnpmpgaa", sum := "6d600b8229ecba276828ac139eef02da8b1e0f25f0aec61c10b38f7a07c9fbcc", func := "reliquary/reliquarylaw9.WordsParts", spec := "wordsParts", apart := false, narrowed := true }
def WordsPartsUptoSaid : Prop := wordsPartsUptoRow.holds Try.pinned (OpenSpec.upto wordsPartsSpec)

/-- 'reliquarylaw9.WordsCut', WHERE WHAT IT READS IS OF BULK AT MOST 1048576: true; the input reads as it did. -/
def wordsCutUptoRow : OpenClaim := { program := "ytkkdcojgnpmpgaa", sum := "6d600b8229ecba276828ac139eef02da8b1e0f25f0aec61c10b38f7a07c9fbcc", func := "reliquary/reliquarylaw9.WordsCut", spec := "wordsCut", apart := false, narrowed := true }
def WordsCutUptoSaid : Prop := wordsCutUptoRow.holds Try.pinned (OpenSpec.upto wordsCutSpec)

end Rows
end Go.Proofs.Ytkkdcojgnpmpgaa

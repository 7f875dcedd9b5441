/-
  No cell of these rows narrows 'for every input' (looked for: loops, veiled, ifaces, maps, wideKeys, modest, calm, conditions, laid).
  DERIVED. THE GIVEN ROWS OF THIS SEAT. 6 by the template 'for every input the law returns true; each argument reads behind the call as it read before'; 0 by the template 'total and deterministic' (their statements: YtjefhneggfbjfaaTotals.lean).
  GIVEN WITH THE SEED: the statements are not yours to turn. If you find one false, say at which input.
  Laid BY PROGRAM, IN A SANDBOX (cutbox-rows.mjs): the forced cells as the released guide's own fill.sh prints them over the translation 8837c47a6091eb92… (all of the seat's roots in one cut). By AI agents, Wed Nov 11 2026. No macro, syntax, notation, axiom, sorry.
-/
import Derived.Test.YtjefhneggfbjfaaChecked
import GoSem.Claim
import GoSem.ClaimJoined
import GoSem.ClaimMapViews
import Derived.JoinedTies
import Derived.KernelRfl
namespace Go.Proofs.Ytjefhneggfbjfaa
/- THE CELL 'sum', in the pinned program and in every row, IS THE sha256 OF THE DUMP (.gsa) THAT YtjefhneggfbjfaaProg.lean LOADS. Nothing in Lean hashes anything: it is a label: what it is worth is what the hold of that sum in a sandbox is worth. -/
noncomputable def Try.pinned : Pinned := { name := "ytjefhneggfbjfaa", sum := "8837c47a6091eb92ed08c47be9f25d06ee9fbebad9719f4ef783966b18a7d0b5", checked := Try.checked }
namespace Rows
def none {H : Type} : Left H := { results := [], args := [] }

/-- 'fullerlaw05.MoveTells': WHATEVER THE INPUT: true; the input reads as it did. -/
def moveTellsSpec : ChangeSpec := { name := "moveTells", fn := fun _ => fun
  | [d1, d2, d3, d4, d5, d6] => { results := [.lit (.bool true)], args := [d1, d2, d3, d4, d5, d6] }
  | _ => none }
def moveTellsRow : OpenClaim := { program := "ytjefhneggfbjfaa", sum := "8837c47a6091eb92ed08c47be9f25d06ee9fbebad9719f4ef783966b18a7d0b5", func := "fuller/fullerlaw05.MoveTells", spec := "moveTells", unfollowed := true, recurses := true, apart := false }
def MoveTellsSaid : Prop := moveTellsRow.holds Try.pinned (OpenSpec.ofChange moveTellsSpec)

/-- ITS FALSE NEIGHBOUR: 'it returns false'. Refute it at one input. -/
def moveTellsWrong : ChangeSpec := { name := "moveTells", fn := fun _ => fun
  | [d1, d2, d3, d4, d5, d6] => { results := [.lit (.bool false)], args := [d1, d2, d3, d4, d5, d6] }
  | _ => none }
def MoveTellsWrongFalsely : Prop := moveTellsRow.holds Try.pinned (OpenSpec.ofChange moveTellsWrong)

/-- 'fullerlaw05.MoveTurns': WHATEVER THE INPUT: true; the input reads as it did. -/
def moveTurnsSpec : ChangeSpec := { name := "moveTurns", fn := fun _ => fun
  | [d1, d2, d3] => { results := [.lit (.bool true)], args := [d1, d2, d3] }
  | _ => none }
def moveTurnsRow : OpenClaim := { program := "ytjefhneggfbjfaa", sum := "8837c47a6091eb92ed08c47be9f25d06ee9fbebad9719f4ef783966b18a7d0b5", func := "fuller/fullerlaw05.MoveTurns", spec := "moveTurns", unfollowed := true, recurses := true, apart := false }
def MoveTurnsSaid : Prop := moveTurnsRow.holds Try.pinned (OpenSpec.ofChange moveTurnsSpec)

/-- ITS FALSE NEIGHBOUR: 'it returns false'. Refute it at one input. -/
def moveTurnsWrong : ChangeSpec := { name := "moveTurns", fn := fun _ => fun
  | [d1, d2, d3] => { results := [.lit (.bool false)], args := [d1, d2, d3] }
  | _ => none }
def MoveTurnsWrongFalsely : Prop := moveTurnsRow.holds Try.pinned (OpenSpec.ofChange moveTurnsWrong)

/-- 'fullerlaw05.MoveParts': WHATEVER THE INPUT: true; the input reads as it did. -/
def movePartsSpec : ChangeSpec := { name := "moveParts", fn := fun _ => fun
  | [d1, d2, d3, d4] => { results := [.lit (.bool true)], args := [d1, d2, d3, d4] }
  | _ => none }
def movePartsRow : OpenClaim := { program := "ytjefhneggfbjfaa", sum := "8837c47a6091eb92ed08c47be9f25d06ee9fbebad9719f4ef783966b18a7d0b5", func := "fuller/fullerlaw05.MoveParts", spec := "moveParts", unfollowed := true, recurses := true, apart := false }
def MovePartsSaid : Prop := movePartsRow.holds Try.pinned (OpenSpec.ofChange movePartsSpec)

/-- ITS FALSE NEIGHBOUR: 'it returns false'. Refute it at one input. -/
def movePartsWrong : ChangeSpec := { name := "moveParts", fn := fun _ => fun
  | [d1, d2, d3, d4] => { results := [.lit (.bool false)], args := [d1, d2, d3, d4] }
  | _ => none }
def MovePartsWrongFalsely : Prop := movePartsRow.holds Try.pinned (OpenSpec.ofChange movePartsWrong)

/-- 'fullerlaw05.MovePads': WHATEVER THE INPUT: true; the input reads as it did. -/
def movePadsSpec : ChangeSpec := { name := "movePads", fn := fun _ => fun
  | [d1, d2, d3, d4] => { results := [.lit (.bool true)], args := [d1, d2, d3, d4] }
  | _ => none }
def movePadsRow : OpenClaim := { program := "ytjefhneggfbjfaa", sum := "8837c47a6091eb92ed08c47be9f25d06ee9fbebad9719f4ef783966b18a7d0b5", func := "fuller/fullerlaw05.MovePads", spec := "movePads", unfollowed := true, recurses := true, apart := false }
def MovePadsSaid : Prop := movePadsRow.holds Try.pinned (OpenSpec.ofChange movePadsSpec)

/-- ITS FALSE NEIGHBOUR: 'it returns false'. Refute it at one input. -/
def movePadsWrong : ChangeSpec := { name := "movePads", fn := fun _ => fun
  | [d1, d2, d3, d4] => { results := [.lit (.bool false)], args := [d1, d2, d3, d4] }
  | _ => none }
def MovePadsWrongFalsely : Prop := movePadsRow.holds Try.pinned (OpenSpec.ofChange movePadsWrong)

/-- 'fullerlaw05.MoveSums': WHATEVER THE INPUT: true; the input reads as it did. -/
def moveSumsSpec : ChangeSpec := { name := "moveSums", fn := fun _ => fun
  | [d1, d2, d3, d4, d5] => { results := [.lit (.bool true)], args := [d1, d2, d3, d4, d5] }
  | _ => none }
def moveSumsRow : OpenClaim := { program := "ytjefhneggfbjfaa", sum := "8837c47a6091eb92ed08c47be9f25d06ee9fbebad9719f4ef783966b18a7d0b5", func := "fuller/fullerlaw05.MoveSums", spec := "moveSums", unfollowed := true, recurses := true, apart := false }
def MoveSumsSaid : Prop := moveSumsRow.holds Try.pinned (OpenSpec.ofChange moveSumsSpec)

/-- ITS FALSE NEIGHBOUR: 'it returns false'. Refute it at one input. -/
def moveSumsWrong : ChangeSpec := { name := "moveSums", fn := fun _ => fun
  | [d1, d2, d3, d4, d5] => { results := [.lit (.bool false)], args := [d1, d2, d3, d4, d5] }
  | _ => none }
def MoveSumsWrongFalsely : Prop := moveSumsRow.holds Try.pinned (OpenSpec.ofChange moveSumsWrong)

/-- 'fullerlaw05.MoveMirror': WHATEVER THE INPUT: true; the input reads as it did. -/
def moveMirrorSpec : ChangeSpec := { name := "moveMirror", fn := fun _ => fun
  | [d1, d2, d3, d4] => { results := [.lit (.bool true)], args := [d1, d2, d3, d4] }
  | _ => none }
def moveMirrorRow : OpenClaim := { program := "ytjefhneggfbjfaa", sum := "8837c47a6091eb92ed08c47be9f25d06ee9fbebad9719f4ef783966b18a7d0b5", func := "fuller/fullerlaw05.MoveMirror", spec := "moveMirror", unfollowed := true, recurses := true, apart := false }
def MoveMirrorSaid : Prop := moveMirrorRow.holds Try.pinned (OpenSpec.ofChange moveMirrorSpec)

/-- ITS FALSE NEIGHBOUR: 'it returns false'. Refute it at one input. -/
def moveMirrorWrong : ChangeSpec := { name := "moveMirror", fn := fun _ => fun
  | [d1, d2, d3, d4] => { results := [.lit (.bool false)], args := [d1, d2, d3, d4] }
  | _ => none }
def MoveMirrorWrongFalsely : Prop := moveMirrorRow.holds Try.pinned (OpenSpec.ofChange moveMirrorWrong)

/- THE SECOND FORM. 'bulk': how many values and letters a reading holds, each counted each time it is reached (what is shared counts as often as it is met; a slice's spare places count too). A statement '..UptoSaid' is the law's where the arguments, and the package variables that the reading takes, are together of bulk at most 1048576: NARROWER than '..Said'. Prove '..Said' where nothing that the law and all that it calls make is longer than what came in: it says more and counts as full. Else prove '..UptoSaid'. A law counts once. -/
mutual
def uptoBulk {H : Type} : DataW H → Nat
  | .lit (.string bytes) => bytes.length + 1
  | .lit _ => 1
  | .nil => 1
  | .ptr d => uptoBulk d + 1
  | .slice elems spare => uptoBulkAll elems + uptoBulkAll spare + 1
  | .agg parts => uptoBulkAll parts + 1
  | .iface _ d => uptoBulk d + 1
  | .map entries => uptoBulkEntries entries + 1
  | .held _ => 1
def uptoBulkAll {H : Type} : List (DataW H) → Nat
  | [] => 0
  | d :: r => uptoBulk d + uptoBulkAll r
def uptoBulkEntries {H : Type} : List (Lit × DataW H) → Nat
  | [] => 0
  | x :: r => uptoBulkEntry x + uptoBulkEntries r
def uptoBulkEntry {H : Type} : Lit × DataW H → Nat
  | (.string bytes, d) => bytes.length + uptoBulk d + 1
  | (_, d) => uptoBulk d + 1
 end
def uptoSmall : (H : Type) → List (DataW H) → Bool := fun _ ds => decide (uptoBulkAll ds ≤ 1048576)
def OpenSpec.upto (s : _root_.Go.ChangeSpec) : _root_.Go.OpenSpec := { _root_.Go.OpenSpec.ofChange s with cond := some uptoSmall }

/-- 'fullerlaw05.MoveTells', WHERE WHAT IT READS IS OF BULK AT MOST 1048576: true; the input reads as it did. -/
def moveTellsUptoRow : OpenClaim := { program := "ytjefhneggfbjfaa", sum := "8837c47a6091eb92ed08c47be9f25d06ee9fbebad9719f4ef783966b18a7d0b5", func := "fuller/fullerlaw05.MoveTells", spec := "moveTells", unfollowed := true, recurses := true, apart := false, narrowed := true }
def MoveTellsUptoSaid : Prop := moveTellsUptoRow.holds Try.pinned (OpenSpec.upto moveTellsSpec)

/-- 'fullerlaw05.MoveTurns', WHERE WHAT IT READS IS OF BULK AT MOST 1048576: true; the input reads as it did. -/
def moveTurnsUptoRow : OpenClaim := { program := "ytjefhneggfbjfaa", sum := "8837c47a6091eb92ed08c47be9f25d06ee9fbebad9719f4ef783966b18a7d0b5", func := "fuller/fullerlaw05.MoveTurns", spec := "moveTurns", unfollowed := true, recurses := true, apart := false, narrowed := true }
def MoveTurnsUptoSaid : Prop := moveTurnsUptoRow.holds Try.pinned (OpenSpec.upto moveTurnsSpec)

/-- 'fullerlaw05.MoveParts', WHERE WHAT IT READS IS OF BULK AT MOST 1048576: true; the input reads as it did. -/
def movePartsUptoRow : OpenClaim := { program := "ytjefhneggfbjfaa", sum := "8837c47a6091eb92ed08c47be9f25d06ee9fbebad9719f4ef783966b18a7d0b5", func := "fuller/fullerlaw05.MoveParts", spec := "moveParts", unfollowed := true, recurses := true, apart := false, narrowed := true }
def MovePartsUptoSaid : Prop := movePartsUptoRow.holds Try.pinned (OpenSpec.upto movePartsSpec)

/-- 'fullerlaw05.MovePads', WHERE WHAT IT READS IS OF BULK AT MOST 1048576: true; the input reads as it did. -/
def movePadsUptoRow : OpenClaim := { program := "ytjefhneggfbjfaa", sum := "8837c47a6091eb92ed08c47be9f25d06ee9fbebad9719f4ef783966b18a7d0b5", func := "fuller/fullerlaw05.MovePads", spec := "movePads", unfollowed := true, recurses := true, apart := false, narrowed := true }
def MovePadsUptoSaid : Prop := movePadsUptoRow.holds Try.pinned (OpenSpec.upto movePadsSpec)

/-- 'fullerlaw05.MoveSums', WHERE WHAT IT READS IS OF BULK AT MOST 1048576: true; the input reads as it did. -/
def moveSumsUptoRow : OpenClaim := { program := "ytjefhneggfbjfaa", sum := "8837c47a6091eb92ed08c47be9f25d06ee9fbebad9719f4ef783966b18a7d0b5", func := "fuller/fullerlaw05.MoveSums", spec := "moveSums", unfollowed := true, recurses := true, apart := false, narrowed := true }
def MoveSumsUptoSaid : Prop := moveSumsUptoRow.holds Try.pinned (OpenSpec.upto moveSumsSpec)

/-- 'fullerlaw05.MoveMirror', WHERE WHAT IT READS IS OF BULK AT MOST 1048576: true; the input reads as it did. -/
def moveMirrorUptoRow : OpenClaim := { program := "ytjefhneggfbjfaa", sum := "8837c47a6091eb92ed08c47be9f25d06ee9fbebad9719f4ef783966b18a7d0b5", func := "fuller/fullerlaw05.MoveMirror", spec := "moveMirror", unfollowed := true, recurses := true, apart := false, narrowed := true }
def MoveMirrorUptoSaid : Prop := moveMirrorUptoRow.holds Try.pinned (OpenSpec.upto moveMirrorSpec)

end Rows
end Go.Proofs.Ytjefhneggfbjfaa

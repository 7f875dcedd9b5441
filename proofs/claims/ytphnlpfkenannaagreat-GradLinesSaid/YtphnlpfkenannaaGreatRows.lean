/-
  No cell of these rows narrows 'for every input' (looked for: loops, veiled, ifaces, maps, wideKeys, modest, calm, conditions, laid).
  DERIVED. THE GIVEN ROWS OF THIS SEAT. 12 by the template 'for every input the law returns true; each argument reads behind the call as it read before'; 0 by the template 'total and deterministic' (their statements: YtphnlpfkenannaaGreatTotals.lean).
  GIVEN WITH THE SEED: the statements are not yours to turn. If you find one false, say at which input.
  Laid BY PROGRAM, IN A SANDBOX (cutbox-rows.mjs): the forced cells as the released guide's own fill.sh prints them over the translation 63dce6d65fba81d5… (all of the seat's roots in one cut). By AI agents, Wed Nov 11 2026. No macro, syntax, notation, axiom, sorry.
-/
import Derived.Test.YtphnlpfkenannaaGreatChecked
import GoSem.Claim
import GoSem.ClaimJoined
import GoSem.ClaimMapViews
import Derived.JoinedTies
import Derived.KernelRfl
namespace Go.Proofs.YtphnlpfkenannaaGreat
/- THE CELL 'sum', in the pinned program and in every row, IS THE sha256 OF THE DUMP (.gsa) THAT YtphnlpfkenannaaGreatProg.lean LOADS. Nothing in Lean hashes anything: it is a label: what it is worth is what the hold of that sum in a sandbox is worth. -/
noncomputable def Tryz.pinned : Pinned := { name := "ytphnlpfkenannaagreat", sum := "63dce6d65fba81d55d03aa09a79fbf9a395d902cc5584a6022dbffd7ce174adb", checked := Tryz.checked }
namespace Rows
def none {H : Type} : Left H := { results := [], args := [] }

/-- 'fullerlaw13.EvalCuts': WHATEVER THE INPUT: true; the input reads as it did. -/
def evalCutsSpec : ChangeSpec := { name := "evalCuts", fn := fun _ => fun
  | [d1, d2, d3, d4] => { results := [.lit (.bool true)], args := [d1, d2, d3, d4] }
  | _ => none }
def evalCutsRow : OpenClaim := { program := "ytphnlpfkenannaagreat", sum := "63dce6d65fba81d55d03aa09a79fbf9a395d902cc5584a6022dbffd7ce174adb", func := "fuller/fullerlaw13.EvalCuts", spec := "evalCuts", inPlace := ["math/bits.Add64", "math/bits.Sub64"], unfollowed := true, recurses := true, named := ["math/bits.divideError", "math/bits.overflowError"], apart := false }
def EvalCutsSaid : Prop := evalCutsRow.holds Tryz.pinned (OpenSpec.ofChange evalCutsSpec)

/-- ITS FALSE NEIGHBOUR: 'it returns false'. Refute it at one input. -/
def evalCutsWrong : ChangeSpec := { name := "evalCuts", fn := fun _ => fun
  | [d1, d2, d3, d4] => { results := [.lit (.bool false)], args := [d1, d2, d3, d4] }
  | _ => none }
def EvalCutsWrongFalsely : Prop := evalCutsRow.holds Tryz.pinned (OpenSpec.ofChange evalCutsWrong)

/-- 'fullerlaw13.EvalAgain': WHATEVER THE INPUT: true; the input reads as it did. -/
def evalAgainSpec : ChangeSpec := { name := "evalAgain", fn := fun _ => fun
  | [d1, d2, d3] => { results := [.lit (.bool true)], args := [d1, d2, d3] }
  | _ => none }
def evalAgainRow : OpenClaim := { program := "ytphnlpfkenannaagreat", sum := "63dce6d65fba81d55d03aa09a79fbf9a395d902cc5584a6022dbffd7ce174adb", func := "fuller/fullerlaw13.EvalAgain", spec := "evalAgain", inPlace := ["math/bits.Add64", "math/bits.Sub64"], unfollowed := true, recurses := true, named := ["math/bits.divideError", "math/bits.overflowError"], apart := false }
def EvalAgainSaid : Prop := evalAgainRow.holds Tryz.pinned (OpenSpec.ofChange evalAgainSpec)

/-- ITS FALSE NEIGHBOUR: 'it returns false'. Refute it at one input. -/
def evalAgainWrong : ChangeSpec := { name := "evalAgain", fn := fun _ => fun
  | [d1, d2, d3] => { results := [.lit (.bool false)], args := [d1, d2, d3] }
  | _ => none }
def EvalAgainWrongFalsely : Prop := evalAgainRow.holds Tryz.pinned (OpenSpec.ofChange evalAgainWrong)

/-- 'fullerlaw13.EvalOther': WHATEVER THE INPUT: true; the input reads as it did. -/
def evalOtherSpec : ChangeSpec := { name := "evalOther", fn := fun _ => fun
  | [d1, d2, d3] => { results := [.lit (.bool true)], args := [d1, d2, d3] }
  | _ => none }
def evalOtherRow : OpenClaim := { program := "ytphnlpfkenannaagreat", sum := "63dce6d65fba81d55d03aa09a79fbf9a395d902cc5584a6022dbffd7ce174adb", func := "fuller/fullerlaw13.EvalOther", spec := "evalOther", inPlace := ["math/bits.Add64", "math/bits.Sub64"], unfollowed := true, recurses := true, named := ["math/bits.divideError", "math/bits.overflowError"], apart := false }
def EvalOtherSaid : Prop := evalOtherRow.holds Tryz.pinned (OpenSpec.ofChange evalOtherSpec)

/-- ITS FALSE NEIGHBOUR: 'it returns false'. Refute it at one input. -/
def evalOtherWrong : ChangeSpec := { name := "evalOther", fn := fun _ => fun
  | [d1, d2, d3] => { results := [.lit (.bool false)], args := [d1, d2, d3] }
  | _ => none }
def EvalOtherWrongFalsely : Prop := evalOtherRow.holds Tryz.pinned (OpenSpec.ofChange evalOtherWrong)

/-- 'fullerlaw14.VjpTells': WHATEVER THE INPUT: true; the input reads as it did. -/
def vjpTellsSpec : ChangeSpec := { name := "vjpTells", fn := fun _ => fun
  | [d1, d2, d3, d4] => { results := [.lit (.bool true)], args := [d1, d2, d3, d4] }
  | _ => none }
def vjpTellsRow : OpenClaim := { program := "ytphnlpfkenannaagreat", sum := "63dce6d65fba81d55d03aa09a79fbf9a395d902cc5584a6022dbffd7ce174adb", func := "fuller/fullerlaw14.VjpTells", spec := "vjpTells", inPlace := ["math/bits.Add64", "math/bits.Sub64", "slices.overlaps[int]"], unfollowed := true, recurses := true, named := ["math/bits.divideError", "math/bits.overflowError"], apart := false }
def VjpTellsSaid : Prop := vjpTellsRow.holds Tryz.pinned (OpenSpec.ofChange vjpTellsSpec)

/-- ITS FALSE NEIGHBOUR: 'it returns false'. Refute it at one input. -/
def vjpTellsWrong : ChangeSpec := { name := "vjpTells", fn := fun _ => fun
  | [d1, d2, d3, d4] => { results := [.lit (.bool false)], args := [d1, d2, d3, d4] }
  | _ => none }
def VjpTellsWrongFalsely : Prop := vjpTellsRow.holds Tryz.pinned (OpenSpec.ofChange vjpTellsWrong)

/-- 'fullerlaw14.VjpShapes': WHATEVER THE INPUT: true; the input reads as it did. -/
def vjpShapesSpec : ChangeSpec := { name := "vjpShapes", fn := fun _ => fun
  | [d1, d2, d3] => { results := [.lit (.bool true)], args := [d1, d2, d3] }
  | _ => none }
def vjpShapesRow : OpenClaim := { program := "ytphnlpfkenannaagreat", sum := "63dce6d65fba81d55d03aa09a79fbf9a395d902cc5584a6022dbffd7ce174adb", func := "fuller/fullerlaw14.VjpShapes", spec := "vjpShapes", inPlace := ["math/bits.Add64", "math/bits.Sub64", "slices.overlaps[int]"], unfollowed := true, recurses := true, named := ["math/bits.divideError", "math/bits.overflowError"], apart := false }
def VjpShapesSaid : Prop := vjpShapesRow.holds Tryz.pinned (OpenSpec.ofChange vjpShapesSpec)

/-- ITS FALSE NEIGHBOUR: 'it returns false'. Refute it at one input. -/
def vjpShapesWrong : ChangeSpec := { name := "vjpShapes", fn := fun _ => fun
  | [d1, d2, d3] => { results := [.lit (.bool false)], args := [d1, d2, d3] }
  | _ => none }
def VjpShapesWrongFalsely : Prop := vjpShapesRow.holds Tryz.pinned (OpenSpec.ofChange vjpShapesWrong)

/-- 'fullerlaw14.VjpAdds': WHATEVER THE INPUT: true; the input reads as it did. -/
def vjpAddsSpec : ChangeSpec := { name := "vjpAdds", fn := fun _ => fun
  | [d1, d2, d3, d4] => { results := [.lit (.bool true)], args := [d1, d2, d3, d4] }
  | _ => none }
def vjpAddsRow : OpenClaim := { program := "ytphnlpfkenannaagreat", sum := "63dce6d65fba81d55d03aa09a79fbf9a395d902cc5584a6022dbffd7ce174adb", func := "fuller/fullerlaw14.VjpAdds", spec := "vjpAdds", inPlace := ["math/bits.Add64", "math/bits.Sub64", "slices.overlaps[int]"], unfollowed := true, recurses := true, named := ["math/bits.divideError", "math/bits.overflowError"], apart := false }
def VjpAddsSaid : Prop := vjpAddsRow.holds Tryz.pinned (OpenSpec.ofChange vjpAddsSpec)

/-- ITS FALSE NEIGHBOUR: 'it returns false'. Refute it at one input. -/
def vjpAddsWrong : ChangeSpec := { name := "vjpAdds", fn := fun _ => fun
  | [d1, d2, d3, d4] => { results := [.lit (.bool false)], args := [d1, d2, d3, d4] }
  | _ => none }
def VjpAddsWrongFalsely : Prop := vjpAddsRow.holds Tryz.pinned (OpenSpec.ofChange vjpAddsWrong)

/-- 'fullerlaw14.VjpTurns': WHATEVER THE INPUT: true; the input reads as it did. -/
def vjpTurnsSpec : ChangeSpec := { name := "vjpTurns", fn := fun _ => fun
  | [d1, d2, d3, d4, d5] => { results := [.lit (.bool true)], args := [d1, d2, d3, d4, d5] }
  | _ => none }
def vjpTurnsRow : OpenClaim := { program := "ytphnlpfkenannaagreat", sum := "63dce6d65fba81d55d03aa09a79fbf9a395d902cc5584a6022dbffd7ce174adb", func := "fuller/fullerlaw14.VjpTurns", spec := "vjpTurns", inPlace := ["math/bits.Add64", "math/bits.Sub64", "slices.overlaps[int]"], unfollowed := true, recurses := true, named := ["math/bits.divideError", "math/bits.overflowError"], apart := false }
def VjpTurnsSaid : Prop := vjpTurnsRow.holds Tryz.pinned (OpenSpec.ofChange vjpTurnsSpec)

/-- ITS FALSE NEIGHBOUR: 'it returns false'. Refute it at one input. -/
def vjpTurnsWrong : ChangeSpec := { name := "vjpTurns", fn := fun _ => fun
  | [d1, d2, d3, d4, d5] => { results := [.lit (.bool false)], args := [d1, d2, d3, d4, d5] }
  | _ => none }
def VjpTurnsWrongFalsely : Prop := vjpTurnsRow.holds Tryz.pinned (OpenSpec.ofChange vjpTurnsWrong)

/-- 'fullerlaw13.EvalNames': WHATEVER THE INPUT: true; the input reads as it did. -/
def evalNamesSpec : ChangeSpec := { name := "evalNames", fn := fun _ => fun
  | [d1, d2, d3, d4] => { results := [.lit (.bool true)], args := [d1, d2, d3, d4] }
  | _ => none }
def evalNamesRow : OpenClaim := { program := "ytphnlpfkenannaagreat", sum := "63dce6d65fba81d55d03aa09a79fbf9a395d902cc5584a6022dbffd7ce174adb", func := "fuller/fullerlaw13.EvalNames", spec := "evalNames", inPlace := ["math/bits.Add64", "math/bits.Sub64"], unfollowed := true, recurses := true, named := ["math/bits.divideError", "math/bits.overflowError"], apart := false }
def EvalNamesSaid : Prop := evalNamesRow.holds Tryz.pinned (OpenSpec.ofChange evalNamesSpec)

/-- ITS FALSE NEIGHBOUR: 'it returns false'. Refute it at one input. -/
def evalNamesWrong : ChangeSpec := { name := "evalNames", fn := fun _ => fun
  | [d1, d2, d3, d4] => { results := [.lit (.bool false)], args := [d1, d2, d3, d4] }
  | _ => none }
def EvalNamesWrongFalsely : Prop := evalNamesRow.holds Tryz.pinned (OpenSpec.ofChange evalNamesWrong)

/-- 'fullerlaw15.GradLines': WHATEVER THE INPUT: true; the input reads as it did. -/
def gradLinesSpec : ChangeSpec := { name := "gradLines", fn := fun _ => fun
  | [d1, d2, d3] => { results := [.lit (.bool true)], args := [d1, d2, d3] }
  | _ => none }
def gradLinesRow : OpenClaim := { program := "ytphnlpfkenannaagreat", sum := "63dce6d65fba81d55d03aa09a79fbf9a395d902cc5584a6022dbffd7ce174adb", func := "fuller/fullerlaw15.GradLines", spec := "gradLines", inPlace := ["math/bits.Add64", "math/bits.Sub64", "slices.overlaps[int]"], unfollowed := true, recurses := true, named := ["math/bits.divideError", "math/bits.overflowError"], apart := false }
def GradLinesSaid : Prop := gradLinesRow.holds Tryz.pinned (OpenSpec.ofChange gradLinesSpec)

/-- ITS FALSE NEIGHBOUR: 'it returns false'. Refute it at one input. -/
def gradLinesWrong : ChangeSpec := { name := "gradLines", fn := fun _ => fun
  | [d1, d2, d3] => { results := [.lit (.bool false)], args := [d1, d2, d3] }
  | _ => none }
def GradLinesWrongFalsely : Prop := gradLinesRow.holds Tryz.pinned (OpenSpec.ofChange gradLinesWrong)

/-- 'fullerlaw15.GradWhole': WHATEVER THE INPUT: true; the input reads as it did. -/
def gradWholeSpec : ChangeSpec := { name := "gradWhole", fn := fun _ => fun
  | [d1, d2] => { results := [.lit (.bool true)], args := [d1, d2] }
  | _ => none }
def gradWholeRow : OpenClaim := { program := "ytphnlpfkenannaagreat", sum := "63dce6d65fba81d55d03aa09a79fbf9a395d902cc5584a6022dbffd7ce174adb", func := "fuller/fullerlaw15.GradWhole", spec := "gradWhole", inPlace := ["math/bits.Add64", "math/bits.Sub64", "slices.overlaps[int]"], unfollowed := true, recurses := true, named := ["math/bits.divideError", "math/bits.overflowError"], apart := false }
def GradWholeSaid : Prop := gradWholeRow.holds Tryz.pinned (OpenSpec.ofChange gradWholeSpec)

/-- ITS FALSE NEIGHBOUR: 'it returns false'. Refute it at one input. -/
def gradWholeWrong : ChangeSpec := { name := "gradWhole", fn := fun _ => fun
  | [d1, d2] => { results := [.lit (.bool false)], args := [d1, d2] }
  | _ => none }
def GradWholeWrongFalsely : Prop := gradWholeRow.holds Tryz.pinned (OpenSpec.ofChange gradWholeWrong)

/-- 'fullerlaw15.GradTables': WHATEVER THE INPUT: true; the input reads as it did. -/
def gradTablesSpec : ChangeSpec := { name := "gradTables", fn := fun _ => fun
  | [d1, d2, d3, d4] => { results := [.lit (.bool true)], args := [d1, d2, d3, d4] }
  | _ => none }
def gradTablesRow : OpenClaim := { program := "ytphnlpfkenannaagreat", sum := "63dce6d65fba81d55d03aa09a79fbf9a395d902cc5584a6022dbffd7ce174adb", func := "fuller/fullerlaw15.GradTables", spec := "gradTables", inPlace := ["math/bits.Add64", "math/bits.Sub64", "slices.overlaps[int]"], unfollowed := true, recurses := true, named := ["math/bits.divideError", "math/bits.overflowError"], apart := false }
def GradTablesSaid : Prop := gradTablesRow.holds Tryz.pinned (OpenSpec.ofChange gradTablesSpec)

/-- ITS FALSE NEIGHBOUR: 'it returns false'. Refute it at one input. -/
def gradTablesWrong : ChangeSpec := { name := "gradTables", fn := fun _ => fun
  | [d1, d2, d3, d4] => { results := [.lit (.bool false)], args := [d1, d2, d3, d4] }
  | _ => none }
def GradTablesWrongFalsely : Prop := gradTablesRow.holds Tryz.pinned (OpenSpec.ofChange gradTablesWrong)

/-- 'fullerlaw15.GradNone': WHATEVER THE INPUT: true; the input reads as it did. -/
def gradNoneSpec : ChangeSpec := { name := "gradNone", fn := fun _ => fun
  | [d1, d2, d3, d4] => { results := [.lit (.bool true)], args := [d1, d2, d3, d4] }
  | _ => none }
def gradNoneRow : OpenClaim := { program := "ytphnlpfkenannaagreat", sum := "63dce6d65fba81d55d03aa09a79fbf9a395d902cc5584a6022dbffd7ce174adb", func := "fuller/fullerlaw15.GradNone", spec := "gradNone", inPlace := ["math/bits.Add64", "math/bits.Sub64", "slices.overlaps[int]"], unfollowed := true, recurses := true, named := ["math/bits.divideError", "math/bits.overflowError"], apart := false }
def GradNoneSaid : Prop := gradNoneRow.holds Tryz.pinned (OpenSpec.ofChange gradNoneSpec)

/-- ITS FALSE NEIGHBOUR: 'it returns false'. Refute it at one input. -/
def gradNoneWrong : ChangeSpec := { name := "gradNone", fn := fun _ => fun
  | [d1, d2, d3, d4] => { results := [.lit (.bool false)], args := [d1, d2, d3, d4] }
  | _ => none }
def GradNoneWrongFalsely : Prop := gradNoneRow.holds Tryz.pinned (OpenSpec.ofChange gradNoneWrong)

/- THE SECOND FORM. 'bulk': how many values and letters a reading holds, each counted each time it is reached (what is shared counts as often as it is met; a slice's spare places count too). A statement '..UptoSaid' is the law's where the arguments, and the package variables that the reading takes, are together of bulk at most 1048576: NARROWER than '..Said'. Prove '..Said' where nothing that the law and all that it calls make is longer than what came in: it says more and counts as full. Else prove '..UptoSaid'. A law counts once. -/
mutual
def uptoBulk {H : Type} : DataW H → Nat
  | .lit (.string bytes) => bytes.length + 1
  | .lit _ => 1
  | .nil => 1
  | .ptr d => uptoBulk d + 1
  | .slice elems spare => uptoBulkAll elems + uptoBulkAll spare + 1
  | .agg parts => uptoBulkAll parts + 1
  | .iface _ d => uptoBulk d + 1
  | .map entries => uptoBulkEntries entries + 1
  | .held _ => 1
def uptoBulkAll {H : Type} : List (DataW H) → Nat
  | [] => 0
  | d :: r => uptoBulk d + uptoBulkAll r
def uptoBulkEntries {H : Type} : List (Lit × DataW H) → Nat
  | [] => 0
  | x :: r => uptoBulkEntry x + uptoBulkEntries r
def uptoBulkEntry {H : Type} : Lit × DataW H → Nat
  | (.string bytes, d) => bytes.length + uptoBulk d + 1
  | (_, d) => uptoBulk d + 1
 end
def uptoSmall : (H : Type) → List (DataW H) → Bool := fun _ ds => decide (uptoBulkAll ds ≤ 1048576)
def OpenSpec.upto (s : _root_.Go.ChangeSpec) : _root_.Go.OpenSpec := { _root_.Go.OpenSpec.ofChange s with cond := some uptoSmall }

/-- 'fullerlaw13.EvalCuts', WHERE WHAT IT READS IS OF BULK AT MOST 1048576: true; the input reads as it did. -/
def evalCutsUptoRow : OpenClaim := { program := "ytphnlpfkenannaagreat", sum := "63dce6d65fba81d55d03aa09a79fbf9a395d902cc5584a6022dbffd7ce174adb", func := "fuller/fullerlaw13.EvalCuts", spec := "evalCuts", inPlace := ["math/bits.Add64", "math/bits.Sub64"], unfollowed := true, recurses := true, named := ["math/bits.divideError", "math/bits.overflowError"], apart := false, narrowed := true }
def EvalCutsUptoSaid : Prop := evalCutsUptoRow.holds Tryz.pinned (OpenSpec.upto evalCutsSpec)

/-- 'fullerlaw13.EvalAgain', WHERE WHAT IT READS IS OF BULK AT MOST 1048576: true; the input reads as it did. -/
def evalAgainUptoRow : OpenClaim := { program := "ytphnlpfkenannaagreat", sum := "63dce6d65fba81d55d03aa09a79fbf9a395d902cc5584a6022dbffd7ce174adb", func := "fuller/fullerlaw13.EvalAgain", spec := "evalAgain", inPlace := ["math/bits.Add64", "math/bits.Sub64"], unfollowed := true, recurses := true, named := ["math/bits.divideError", "math/bits.overflowError"], apart := false, narrowed := true }
def EvalAgainUptoSaid : Prop := evalAgainUptoRow.holds Tryz.pinned (OpenSpec.upto evalAgainSpec)

/-- 'fullerlaw13.EvalOther', WHERE WHAT IT READS IS OF BULK AT MOST 1048576: true; the input reads as it did. -/
def evalOtherUptoRow : OpenClaim := { program := "ytphnlpfkenannaagreat", sum := "63dce6d65fba81d55d03aa09a79fbf9a395d902cc5584a6022dbffd7ce174adb", func := "fuller/fullerlaw13.EvalOther", spec := "evalOther", inPlace := ["math/bits.Add64", "math/bits.Sub64"], unfollowed := true, recurses := true, named := ["math/bits.divideError", "math/bits.overflowError"], apart := false, narrowed := true }
def EvalOtherUptoSaid : Prop := evalOtherUptoRow.holds Tryz.pinned (OpenSpec.upto evalOtherSpec)

/-- 'fullerlaw14.VjpTells', WHERE WHAT IT READS IS OF BULK AT MOST 1048576: true; the input reads as it did. -/
def vjpTellsUptoRow : OpenClaim := { program := "ytphnlpfkenannaagreat", sum := "63dce6d65fba81d55d03aa09a79fbf9a395d902cc5584a6022dbffd7ce174adb", func := "fuller/fullerlaw14.VjpTells", spec := "vjpTells", inPlace := ["math/bits.Add64", "math/bits.Sub64", "slices.overlaps[int]"], unfollowed := true, recurses := true, named := ["math/bits.divideError", "math/bits.overflowError"], apart := false, narrowed := true }
def VjpTellsUptoSaid : Prop := vjpTellsUptoRow.holds Tryz.pinned (OpenSpec.upto vjpTellsSpec)

/-- 'fullerlaw14.VjpShapes', WHERE WHAT IT READS IS OF BULK AT MOST 1048576: true; the input reads as it did. -/
def vjpShapesUptoRow : OpenClaim := { program := "ytphnlpfkenannaagreat", sum := "63dce6d65fba81d55d03aa09a79fbf9a395d902cc5584a6022dbffd7ce174adb", func := "fuller/fullerlaw14.VjpShapes", spec := "vjpShapes", inPlace := ["math/bits.Add64", "math/bits.Sub64", "slices.overlaps[int]"], unfollowed := true, recurses := true, named := ["math/bits.divideError", "math/bits.overflowError"], apart := false, narrowed := true }
def VjpShapesUptoSaid : Prop := vjpShapesUptoRow.holds Tryz.pinned (OpenSpec.upto vjpShapesSpec)

/-- 'fullerlaw14.VjpAdds', WHERE WHAT IT READS IS OF BULK AT MOST 1048576: true; the input reads as it did. -/
def vjpAddsUptoRow : OpenClaim := { program := "ytphnlpfkenannaagreat", sum := "63dce6d65fba81d55d03aa09a79fbf9a395d902cc5584a6022dbffd7ce174adb", func := "fuller/fullerlaw14.VjpAdds", spec := "vjpAdds", inPlace := ["math/bits.Add64", "math/bits.Sub64", "slices.overlaps[int]"], unfollowed := true, recurses := true, named := ["math/bits.divideError", "math/bits.overflowError"], apart := false, narrowed := true }
def VjpAddsUptoSaid : Prop := vjpAddsUptoRow.holds Tryz.pinned (OpenSpec.upto vjpAddsSpec)

/-- 'fullerlaw14.VjpTurns', WHERE WHAT IT READS IS OF BULK AT MOST 1048576: true; the input reads as it did. -/
def vjpTurnsUptoRow : OpenClaim := { program := "ytphnlpfkenannaagreat", sum := "63dce6d65fba81d55d03aa09a79fbf9a395d902cc5584a6022dbffd7ce174adb", func := "fuller/fullerlaw14.VjpTurns", spec := "vjpTurns", inPlace := ["math/bits.Add64", "math/bits.Sub64", "slices.overlaps[int]"], unfollowed := true, recurses := true, named := ["math/bits.divideError", "math/bits.overflowError"], apart := false, narrowed := true }
def VjpTurnsUptoSaid : Prop := vjpTurnsUptoRow.holds Tryz.pinned (OpenSpec.upto vjpTurnsSpec)

/-- 'fullerlaw13.EvalNames', WHERE WHAT IT READS IS OF BULK AT MOST 1048576: true; the input reads as it did. -/
def evalNamesUptoRow : OpenClaim := { program := "ytphnlpfkenannaagreat", sum := "63dce6d65fba81d55d03aa09a79fbf9a395d902cc5584a6022dbffd7ce174adb", func := "fuller/fullerlaw13.EvalNames", spec := "evalNames", inPlace := ["math/bits.Add64", "math/bits.Sub64"], unfollowed := true, recurses := true, named := ["math/bits.divideError", "math/bits.overflowError"], apart := false, narrowed := true }
def EvalNamesUptoSaid : Prop := evalNamesUptoRow.holds Tryz.pinned (OpenSpec.upto evalNamesSpec)

/-- 'fullerlaw15.GradLines', WHERE WHAT IT READS IS OF BULK AT MOST 1048576: true; the input reads as it did. -/
def gradLinesUptoRow : OpenClaim := { program := "ytphnlpfkenannaagreat", sum := "63dce6d65fba81d55d03aa09a79fbf9a395d902cc5584a6022dbffd7ce174adb", func := "fuller/fullerlaw15.GradLines", spec := "gradLines", inPlace := ["math/bits.Add64", "math/bits.Sub64", "slices.overlaps[int]"], unfollowed := true, recurses := true, named := ["math/bits.divideError", "math/bits.overflowError"], apart := false, narrowed := true }
def GradLinesUptoSaid : Prop := gradLinesUptoRow.holds Tryz.pinned (OpenSpec.upto gradLinesSpec)

/-- 'fullerlaw15.GradWhole', WHERE WHAT IT READS IS OF BULK AT MOST 1048576: true; the input reads as it did. -/
def gradWholeUptoRow : OpenClaim := { program := "ytphnlpfkenannaagreat", sum := "63dce6d65fba81d55d03aa09a79fbf9a395d902cc5584a6022dbffd7ce174adb", func := "fuller/fullerlaw15.GradWhole", spec := "gradWhole", inPlace := ["math/bits.Add64", "math/bits.Sub64", "slices.overlaps[int]"], unfollowed := true, recurses := true, named := ["math/bits.divideError", "math/bits.overflowError"], apart := false, narrowed := true }
def GradWholeUptoSaid : Prop := gradWholeUptoRow.holds Tryz.pinned (OpenSpec.upto gradWholeSpec)

/-- 'fullerlaw15.GradTables', WHERE WHAT IT READS IS OF BULK AT MOST 1048576: true; the input reads as it did. -/
def gradTablesUptoRow : OpenClaim := { program := "ytphnlpfkenannaagreat", sum := "63dce6d65fba81d55d03aa09a79fbf9a395d902cc5584a6022dbffd7ce174adb", func := "fuller/fullerlaw15.GradTables", spec := "gradTables", inPlace := ["math/bits.Add64", "math/bits.Sub64", "slices.overlaps[int]"], unfollowed := true, recurses := true, named := ["math/bits.divideError", "math/bits.overflowError"], apart := false, narrowed := true }
def GradTablesUptoSaid : Prop := gradTablesUptoRow.holds Tryz.pinned (OpenSpec.upto gradTablesSpec)

/-- 'fullerlaw15.GradNone', WHERE WHAT IT READS IS OF BULK AT MOST 1048576: true; the input reads as it did. -/
def gradNoneUptoRow : OpenClaim := { program := "ytphnlpfkenannaagreat", sum := "63dce6d65fba81d55d03aa09a79fbf9a395d902cc5584a6022dbffd7ce174adb", func := "fuller/fullerlaw15.GradNone", spec := "gradNone", inPlace := ["math/bits.Add64", "math/bits.Sub64", "slices.overlaps[int]"], unfollowed := true, recurses := true, named := ["math/bits.divideError", "math/bits.overflowError"], apart := false, narrowed := true }
def GradNoneUptoSaid : Prop := gradNoneUptoRow.holds Tryz.pinned (OpenSpec.upto gradNoneSpec)

end Rows
end Go.Proofs.YtphnlpfkenannaaGreat

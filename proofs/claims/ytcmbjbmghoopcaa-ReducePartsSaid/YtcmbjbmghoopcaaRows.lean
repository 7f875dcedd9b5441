/-
  No cell of these rows narrows 'for every input' (looked for: loops, veiled, ifaces, maps, wideKeys, modest, calm, conditions, laid).
  DERIVED. THE GIVEN ROWS OF THIS SEAT. 16 by the template 'for every input the law returns true; each argument reads behind the call as it read before'; 0 by the template 'total and deterministic' (their statements: YtcmbjbmghoopcaaTotals.lean).
  GIVEN WITH THE SEED: the statements are not yours to turn. If you find one false, say at which input.
  Laid BY PROGRAM, IN A SANDBOX (cutbox-rows.mjs): the forced cells as the released guide's own fill.sh prints them over the translation 0ffa59a08ac56b12… (all of the seat's roots in one cut). By AI agents, Wed Nov 11 2026. No macro, syntax, notation, axiom, sorry.
-/
import Derived.Test.YtcmbjbmghoopcaaChecked
import GoSem.Claim
import GoSem.ClaimJoined
import GoSem.ClaimMapViews
import Derived.JoinedTies
import Derived.KernelRfl
namespace Go.Proofs.Ytcmbjbmghoopcaa
/- THE CELL 'sum', in the pinned program and in every row, IS THE sha256 OF THE DUMP (.gsa) THAT YtcmbjbmghoopcaaProg.lean LOADS. Nothing in Lean hashes anything: it is a label: what it is worth is what the hold of that sum in a sandbox is worth. -/
noncomputable def Try.pinned : Pinned := { name := "ytcmbjbmghoopcaa", sum := "0ffa59a08ac56b126669476d59402bcb8fdb68eb8fa96b941d01d10987393afc", checked := Try.checked }
namespace Rows
def none {H : Type} : Left H := { results := [], args := [] }

/-- 'fullerlaw07.MatmulTells': WHATEVER THE INPUT: true; the input reads as it did. -/
def matmulTellsSpec : ChangeSpec := { name := "matmulTells", fn := fun _ => fun
  | [d1, d2] => { results := [.lit (.bool true)], args := [d1, d2] }
  | _ => none }
def matmulTellsRow : OpenClaim := { program := "ytcmbjbmghoopcaa", sum := "0ffa59a08ac56b126669476d59402bcb8fdb68eb8fa96b941d01d10987393afc", func := "fuller/fullerlaw07.MatmulTells", spec := "matmulTells", inPlace := ["math/bits.Add64"], unfollowed := true, recurses := true, apart := false }
def MatmulTellsSaid : Prop := matmulTellsRow.holds Try.pinned (OpenSpec.ofChange matmulTellsSpec)

/-- ITS FALSE NEIGHBOUR: 'it returns false'. Refute it at one input. -/
def matmulTellsWrong : ChangeSpec := { name := "matmulTells", fn := fun _ => fun
  | [d1, d2] => { results := [.lit (.bool false)], args := [d1, d2] }
  | _ => none }
def MatmulTellsWrongFalsely : Prop := matmulTellsRow.holds Try.pinned (OpenSpec.ofChange matmulTellsWrong)

/-- 'fullerlaw07.MatmulUnit': WHATEVER THE INPUT: true; the input reads as it did. -/
def matmulUnitSpec : ChangeSpec := { name := "matmulUnit", fn := fun _ => fun
  | [d] => { results := [.lit (.bool true)], args := [d] }
  | _ => none }
def matmulUnitRow : OpenClaim := { program := "ytcmbjbmghoopcaa", sum := "0ffa59a08ac56b126669476d59402bcb8fdb68eb8fa96b941d01d10987393afc", func := "fuller/fullerlaw07.MatmulUnit", spec := "matmulUnit", inPlace := ["math/bits.Add64"], unfollowed := true, recurses := true, apart := false }
def MatmulUnitSaid : Prop := matmulUnitRow.holds Try.pinned (OpenSpec.ofChange matmulUnitSpec)

/-- ITS FALSE NEIGHBOUR: 'it returns false'. Refute it at one input. -/
def matmulUnitWrong : ChangeSpec := { name := "matmulUnit", fn := fun _ => fun
  | [d] => { results := [.lit (.bool false)], args := [d] }
  | _ => none }
def MatmulUnitWrongFalsely : Prop := matmulUnitRow.holds Try.pinned (OpenSpec.ofChange matmulUnitWrong)

/-- 'fullerlaw07.MatmulTurns': WHATEVER THE INPUT: true; the input reads as it did. -/
def matmulTurnsSpec : ChangeSpec := { name := "matmulTurns", fn := fun _ => fun
  | [d1, d2] => { results := [.lit (.bool true)], args := [d1, d2] }
  | _ => none }
def matmulTurnsRow : OpenClaim := { program := "ytcmbjbmghoopcaa", sum := "0ffa59a08ac56b126669476d59402bcb8fdb68eb8fa96b941d01d10987393afc", func := "fuller/fullerlaw07.MatmulTurns", spec := "matmulTurns", inPlace := ["math/bits.Add64"], unfollowed := true, recurses := true, apart := false }
def MatmulTurnsSaid : Prop := matmulTurnsRow.holds Try.pinned (OpenSpec.ofChange matmulTurnsSpec)

/-- ITS FALSE NEIGHBOUR: 'it returns false'. Refute it at one input. -/
def matmulTurnsWrong : ChangeSpec := { name := "matmulTurns", fn := fun _ => fun
  | [d1, d2] => { results := [.lit (.bool false)], args := [d1, d2] }
  | _ => none }
def MatmulTurnsWrongFalsely : Prop := matmulTurnsRow.holds Try.pinned (OpenSpec.ofChange matmulTurnsWrong)

/-- 'fullerlaw07.MatmulZero': WHATEVER THE INPUT: true; the input reads as it did. -/
def matmulZeroSpec : ChangeSpec := { name := "matmulZero", fn := fun _ => fun
  | [d1, d2] => { results := [.lit (.bool true)], args := [d1, d2] }
  | _ => none }
def matmulZeroRow : OpenClaim := { program := "ytcmbjbmghoopcaa", sum := "0ffa59a08ac56b126669476d59402bcb8fdb68eb8fa96b941d01d10987393afc", func := "fuller/fullerlaw07.MatmulZero", spec := "matmulZero", inPlace := ["math/bits.Add64"], unfollowed := true, recurses := true, apart := false }
def MatmulZeroSaid : Prop := matmulZeroRow.holds Try.pinned (OpenSpec.ofChange matmulZeroSpec)

/-- ITS FALSE NEIGHBOUR: 'it returns false'. Refute it at one input. -/
def matmulZeroWrong : ChangeSpec := { name := "matmulZero", fn := fun _ => fun
  | [d1, d2] => { results := [.lit (.bool false)], args := [d1, d2] }
  | _ => none }
def MatmulZeroWrongFalsely : Prop := matmulZeroRow.holds Try.pinned (OpenSpec.ofChange matmulZeroWrong)

/-- 'fullerlaw07.MatmulJoins': WHATEVER THE INPUT: true; the input reads as it did. -/
def matmulJoinsSpec : ChangeSpec := { name := "matmulJoins", fn := fun _ => fun
  | [d1, d2, d3] => { results := [.lit (.bool true)], args := [d1, d2, d3] }
  | _ => none }
def matmulJoinsRow : OpenClaim := { program := "ytcmbjbmghoopcaa", sum := "0ffa59a08ac56b126669476d59402bcb8fdb68eb8fa96b941d01d10987393afc", func := "fuller/fullerlaw07.MatmulJoins", spec := "matmulJoins", inPlace := ["math/bits.Add64"], unfollowed := true, recurses := true, apart := false }
def MatmulJoinsSaid : Prop := matmulJoinsRow.holds Try.pinned (OpenSpec.ofChange matmulJoinsSpec)

/-- ITS FALSE NEIGHBOUR: 'it returns false'. Refute it at one input. -/
def matmulJoinsWrong : ChangeSpec := { name := "matmulJoins", fn := fun _ => fun
  | [d1, d2, d3] => { results := [.lit (.bool false)], args := [d1, d2, d3] }
  | _ => none }
def MatmulJoinsWrongFalsely : Prop := matmulJoinsRow.holds Try.pinned (OpenSpec.ofChange matmulJoinsWrong)

/-- 'fullerlaw07.MatmulRows': WHATEVER THE INPUT: true; the input reads as it did. -/
def matmulRowsSpec : ChangeSpec := { name := "matmulRows", fn := fun _ => fun
  | [d1, d2, d3] => { results := [.lit (.bool true)], args := [d1, d2, d3] }
  | _ => none }
def matmulRowsRow : OpenClaim := { program := "ytcmbjbmghoopcaa", sum := "0ffa59a08ac56b126669476d59402bcb8fdb68eb8fa96b941d01d10987393afc", func := "fuller/fullerlaw07.MatmulRows", spec := "matmulRows", inPlace := ["math/bits.Add64"], unfollowed := true, recurses := true, apart := false }
def MatmulRowsSaid : Prop := matmulRowsRow.holds Try.pinned (OpenSpec.ofChange matmulRowsSpec)

/-- ITS FALSE NEIGHBOUR: 'it returns false'. Refute it at one input. -/
def matmulRowsWrong : ChangeSpec := { name := "matmulRows", fn := fun _ => fun
  | [d1, d2, d3] => { results := [.lit (.bool false)], args := [d1, d2, d3] }
  | _ => none }
def MatmulRowsWrongFalsely : Prop := matmulRowsRow.holds Try.pinned (OpenSpec.ofChange matmulRowsWrong)

/-- 'fullerlaw04.ElemTells': WHATEVER THE INPUT: true; the input reads as it did. -/
def elemTellsSpec : ChangeSpec := { name := "elemTells", fn := fun _ => fun
  | [d1, d2, d3] => { results := [.lit (.bool true)], args := [d1, d2, d3] }
  | _ => none }
def elemTellsRow : OpenClaim := { program := "ytcmbjbmghoopcaa", sum := "0ffa59a08ac56b126669476d59402bcb8fdb68eb8fa96b941d01d10987393afc", func := "fuller/fullerlaw04.ElemTells", spec := "elemTells", inPlace := ["math/bits.Add64", "math/bits.Sub64"], unfollowed := true, recurses := true, named := ["math/bits.divideError", "math/bits.overflowError"], apart := false }
def ElemTellsSaid : Prop := elemTellsRow.holds Try.pinned (OpenSpec.ofChange elemTellsSpec)

/-- ITS FALSE NEIGHBOUR: 'it returns false'. Refute it at one input. -/
def elemTellsWrong : ChangeSpec := { name := "elemTells", fn := fun _ => fun
  | [d1, d2, d3] => { results := [.lit (.bool false)], args := [d1, d2, d3] }
  | _ => none }
def ElemTellsWrongFalsely : Prop := elemTellsRow.holds Try.pinned (OpenSpec.ofChange elemTellsWrong)

/-- 'fullerlaw04.ElemTurns': WHATEVER THE INPUT: true; the input reads as it did. -/
def elemTurnsSpec : ChangeSpec := { name := "elemTurns", fn := fun _ => fun
  | [d1, d2] => { results := [.lit (.bool true)], args := [d1, d2] }
  | _ => none }
def elemTurnsRow : OpenClaim := { program := "ytcmbjbmghoopcaa", sum := "0ffa59a08ac56b126669476d59402bcb8fdb68eb8fa96b941d01d10987393afc", func := "fuller/fullerlaw04.ElemTurns", spec := "elemTurns", inPlace := ["math/bits.Add64", "math/bits.Sub64"], unfollowed := true, recurses := true, named := ["math/bits.divideError", "math/bits.overflowError"], apart := false }
def ElemTurnsSaid : Prop := elemTurnsRow.holds Try.pinned (OpenSpec.ofChange elemTurnsSpec)

/-- ITS FALSE NEIGHBOUR: 'it returns false'. Refute it at one input. -/
def elemTurnsWrong : ChangeSpec := { name := "elemTurns", fn := fun _ => fun
  | [d1, d2] => { results := [.lit (.bool false)], args := [d1, d2] }
  | _ => none }
def ElemTurnsWrongFalsely : Prop := elemTurnsRow.holds Try.pinned (OpenSpec.ofChange elemTurnsWrong)

/-- 'fullerlaw04.ElemPlaces': WHATEVER THE INPUT: true; the input reads as it did. -/
def elemPlacesSpec : ChangeSpec := { name := "elemPlaces", fn := fun _ => fun
  | [d1, d2, d3] => { results := [.lit (.bool true)], args := [d1, d2, d3] }
  | _ => none }
def elemPlacesRow : OpenClaim := { program := "ytcmbjbmghoopcaa", sum := "0ffa59a08ac56b126669476d59402bcb8fdb68eb8fa96b941d01d10987393afc", func := "fuller/fullerlaw04.ElemPlaces", spec := "elemPlaces", inPlace := ["math/bits.Add64", "math/bits.Sub64"], unfollowed := true, recurses := true, named := ["math/bits.divideError", "math/bits.overflowError"], apart := false }
def ElemPlacesSaid : Prop := elemPlacesRow.holds Try.pinned (OpenSpec.ofChange elemPlacesSpec)

/-- ITS FALSE NEIGHBOUR: 'it returns false'. Refute it at one input. -/
def elemPlacesWrong : ChangeSpec := { name := "elemPlaces", fn := fun _ => fun
  | [d1, d2, d3] => { results := [.lit (.bool false)], args := [d1, d2, d3] }
  | _ => none }
def ElemPlacesWrongFalsely : Prop := elemPlacesRow.holds Try.pinned (OpenSpec.ofChange elemPlacesWrong)

/-- 'fullerlaw04.ElemOnes': WHATEVER THE INPUT: true; the input reads as it did. -/
def elemOnesSpec : ChangeSpec := { name := "elemOnes", fn := fun _ => fun
  | [d] => { results := [.lit (.bool true)], args := [d] }
  | _ => none }
def elemOnesRow : OpenClaim := { program := "ytcmbjbmghoopcaa", sum := "0ffa59a08ac56b126669476d59402bcb8fdb68eb8fa96b941d01d10987393afc", func := "fuller/fullerlaw04.ElemOnes", spec := "elemOnes", inPlace := ["math/bits.Add64", "math/bits.Sub64"], unfollowed := true, recurses := true, named := ["math/bits.divideError", "math/bits.overflowError"], apart := false }
def ElemOnesSaid : Prop := elemOnesRow.holds Try.pinned (OpenSpec.ofChange elemOnesSpec)

/-- ITS FALSE NEIGHBOUR: 'it returns false'. Refute it at one input. -/
def elemOnesWrong : ChangeSpec := { name := "elemOnes", fn := fun _ => fun
  | [d] => { results := [.lit (.bool false)], args := [d] }
  | _ => none }
def ElemOnesWrongFalsely : Prop := elemOnesRow.holds Try.pinned (OpenSpec.ofChange elemOnesWrong)

/-- 'fullerlaw04.ElemDoubles': WHATEVER THE INPUT: true; the input reads as it did. -/
def elemDoublesSpec : ChangeSpec := { name := "elemDoubles", fn := fun _ => fun
  | [d1, d2] => { results := [.lit (.bool true)], args := [d1, d2] }
  | _ => none }
def elemDoublesRow : OpenClaim := { program := "ytcmbjbmghoopcaa", sum := "0ffa59a08ac56b126669476d59402bcb8fdb68eb8fa96b941d01d10987393afc", func := "fuller/fullerlaw04.ElemDoubles", spec := "elemDoubles", inPlace := ["math/bits.Add64", "math/bits.Sub64"], unfollowed := true, recurses := true, named := ["math/bits.divideError", "math/bits.overflowError"], apart := false }
def ElemDoublesSaid : Prop := elemDoublesRow.holds Try.pinned (OpenSpec.ofChange elemDoublesSpec)

/-- ITS FALSE NEIGHBOUR: 'it returns false'. Refute it at one input. -/
def elemDoublesWrong : ChangeSpec := { name := "elemDoubles", fn := fun _ => fun
  | [d1, d2] => { results := [.lit (.bool false)], args := [d1, d2] }
  | _ => none }
def ElemDoublesWrongFalsely : Prop := elemDoublesRow.holds Try.pinned (OpenSpec.ofChange elemDoublesWrong)

/-- 'fullerlaw04.ElemSpreads': WHATEVER THE INPUT: true; the input reads as it did. -/
def elemSpreadsSpec : ChangeSpec := { name := "elemSpreads", fn := fun _ => fun
  | [d1, d2, d3] => { results := [.lit (.bool true)], args := [d1, d2, d3] }
  | _ => none }
def elemSpreadsRow : OpenClaim := { program := "ytcmbjbmghoopcaa", sum := "0ffa59a08ac56b126669476d59402bcb8fdb68eb8fa96b941d01d10987393afc", func := "fuller/fullerlaw04.ElemSpreads", spec := "elemSpreads", inPlace := ["math/bits.Add64", "math/bits.Sub64"], unfollowed := true, recurses := true, named := ["math/bits.divideError", "math/bits.overflowError"], apart := false }
def ElemSpreadsSaid : Prop := elemSpreadsRow.holds Try.pinned (OpenSpec.ofChange elemSpreadsSpec)

/-- ITS FALSE NEIGHBOUR: 'it returns false'. Refute it at one input. -/
def elemSpreadsWrong : ChangeSpec := { name := "elemSpreads", fn := fun _ => fun
  | [d1, d2, d3] => { results := [.lit (.bool false)], args := [d1, d2, d3] }
  | _ => none }
def ElemSpreadsWrongFalsely : Prop := elemSpreadsRow.holds Try.pinned (OpenSpec.ofChange elemSpreadsWrong)

/-- 'fullerlaw04.ElemThree': WHATEVER THE INPUT: true; the input reads as it did. -/
def elemThreeSpec : ChangeSpec := { name := "elemThree", fn := fun _ => fun
  | [d1, d2, d3] => { results := [.lit (.bool true)], args := [d1, d2, d3] }
  | _ => none }
def elemThreeRow : OpenClaim := { program := "ytcmbjbmghoopcaa", sum := "0ffa59a08ac56b126669476d59402bcb8fdb68eb8fa96b941d01d10987393afc", func := "fuller/fullerlaw04.ElemThree", spec := "elemThree", inPlace := ["math/bits.Add64", "math/bits.Sub64"], unfollowed := true, recurses := true, named := ["math/bits.divideError", "math/bits.overflowError"], apart := false }
def ElemThreeSaid : Prop := elemThreeRow.holds Try.pinned (OpenSpec.ofChange elemThreeSpec)

/-- ITS FALSE NEIGHBOUR: 'it returns false'. Refute it at one input. -/
def elemThreeWrong : ChangeSpec := { name := "elemThree", fn := fun _ => fun
  | [d1, d2, d3] => { results := [.lit (.bool false)], args := [d1, d2, d3] }
  | _ => none }
def ElemThreeWrongFalsely : Prop := elemThreeRow.holds Try.pinned (OpenSpec.ofChange elemThreeWrong)

/-- 'fullerlaw06.ReduceTells': WHATEVER THE INPUT: true; the input reads as it did. -/
def reduceTellsSpec : ChangeSpec := { name := "reduceTells", fn := fun _ => fun
  | [d1, d2, d3] => { results := [.lit (.bool true)], args := [d1, d2, d3] }
  | _ => none }
def reduceTellsRow : OpenClaim := { program := "ytcmbjbmghoopcaa", sum := "0ffa59a08ac56b126669476d59402bcb8fdb68eb8fa96b941d01d10987393afc", func := "fuller/fullerlaw06.ReduceTells", spec := "reduceTells", inPlace := ["math/bits.Add64", "slices.overlaps[int]"], unfollowed := true, recurses := true, named := ["math/bits.divideError", "math/bits.overflowError"], apart := false }
def ReduceTellsSaid : Prop := reduceTellsRow.holds Try.pinned (OpenSpec.ofChange reduceTellsSpec)

/-- ITS FALSE NEIGHBOUR: 'it returns false'. Refute it at one input. -/
def reduceTellsWrong : ChangeSpec := { name := "reduceTells", fn := fun _ => fun
  | [d1, d2, d3] => { results := [.lit (.bool false)], args := [d1, d2, d3] }
  | _ => none }
def ReduceTellsWrongFalsely : Prop := reduceTellsRow.holds Try.pinned (OpenSpec.ofChange reduceTellsWrong)

/-- 'fullerlaw06.ReduceTwice': WHATEVER THE INPUT: true; the input reads as it did. -/
def reduceTwiceSpec : ChangeSpec := { name := "reduceTwice", fn := fun _ => fun
  | [d] => { results := [.lit (.bool true)], args := [d] }
  | _ => none }
def reduceTwiceRow : OpenClaim := { program := "ytcmbjbmghoopcaa", sum := "0ffa59a08ac56b126669476d59402bcb8fdb68eb8fa96b941d01d10987393afc", func := "fuller/fullerlaw06.ReduceTwice", spec := "reduceTwice", inPlace := ["math/bits.Add64", "slices.overlaps[int]"], unfollowed := true, recurses := true, named := ["math/bits.divideError", "math/bits.overflowError"], apart := false }
def ReduceTwiceSaid : Prop := reduceTwiceRow.holds Try.pinned (OpenSpec.ofChange reduceTwiceSpec)

/-- ITS FALSE NEIGHBOUR: 'it returns false'. Refute it at one input. -/
def reduceTwiceWrong : ChangeSpec := { name := "reduceTwice", fn := fun _ => fun
  | [d] => { results := [.lit (.bool false)], args := [d] }
  | _ => none }
def ReduceTwiceWrongFalsely : Prop := reduceTwiceRow.holds Try.pinned (OpenSpec.ofChange reduceTwiceWrong)

/-- 'fullerlaw06.ReduceParts': WHATEVER THE INPUT: true; the input reads as it did. -/
def reducePartsSpec : ChangeSpec := { name := "reduceParts", fn := fun _ => fun
  | [d1, d2, d3] => { results := [.lit (.bool true)], args := [d1, d2, d3] }
  | _ => none }
def reducePartsRow : OpenClaim := { program := "ytcmbjbmghoopcaa", sum := "0ffa59a08ac56b126669476d59402bcb8fdb68eb8fa96b941d01d10987393afc", func := "fuller/fullerlaw06.ReduceParts", spec := "reduceParts", inPlace := ["math/bits.Add64", "slices.overlaps[int]", "math/bits.Sub64"], unfollowed := true, recurses := true, named := ["math/bits.divideError", "math/bits.overflowError"], apart := false }
def ReducePartsSaid : Prop := reducePartsRow.holds Try.pinned (OpenSpec.ofChange reducePartsSpec)

/-- ITS FALSE NEIGHBOUR: 'it returns false'. Refute it at one input. -/
def reducePartsWrong : ChangeSpec := { name := "reduceParts", fn := fun _ => fun
  | [d1, d2, d3] => { results := [.lit (.bool false)], args := [d1, d2, d3] }
  | _ => none }
def ReducePartsWrongFalsely : Prop := reducePartsRow.holds Try.pinned (OpenSpec.ofChange reducePartsWrong)

/- THE SECOND FORM. 'bulk': how many values and letters a reading holds, each counted each time it is reached (what is shared counts as often as it is met; a slice's spare places count too). A statement '..UptoSaid' is the law's where the arguments, and the package variables that the reading takes, are together of bulk at most 1048576: NARROWER than '..Said'. Prove '..Said' where nothing that the law and all that it calls make is longer than what came in: it says more and counts as full. Else prove '..UptoSaid'. A law counts once. -/
mutual
def uptoBulk {H : Type} : DataW H → Nat
  | .lit (.string bytes) => bytes.length + 1
  | .lit _ => 1
  | .nil => 1
  | .ptr d => uptoBulk d + 1
  | .slice elems spare => uptoBulkAll elems + uptoBulkAll spare + 1
  | .agg parts => uptoBulkAll parts + 1
  | .iface _ d => uptoBulk d + 1
  | .map entries => uptoBulkEntries entries + 1
  | .held _ => 1
def uptoBulkAll {H : Type} : List (DataW H) → Nat
  | [] => 0
  | d :: r => uptoBulk d + uptoBulkAll r
def uptoBulkEntries {H : Type} : List (Lit × DataW H) → Nat
  | [] => 0
  | x :: r => uptoBulkEntry x + uptoBulkEntries r
def uptoBulkEntry {H : Type} : Lit × DataW H → Nat
  | (.string bytes, d) => bytes.length + uptoBulk d + 1
  | (_, d) => uptoBulk d + 1
 end
def uptoSmall : (H : Type) → List (DataW H) → Bool := fun _ ds => decide (uptoBulkAll ds ≤ 1048576)
def OpenSpec.upto (s : _root_.Go.ChangeSpec) : _root_.Go.OpenSpec := { _root_.Go.OpenSpec.ofChange s with cond := some uptoSmall }

/-- 'fullerlaw07.MatmulTells', WHERE WHAT IT READS IS OF BULK AT MOST 1048576: true; the input reads as it did. -/
def matmulTellsUptoRow : OpenClaim := { program := "ytcmbjbmghoopcaa", sum := "0ffa59a08ac56b126669476d59402bcb8fdb68eb8fa96b941d01d10987393afc", func := "fuller/fullerlaw07.MatmulTells", spec := "matmulTells", inPlace := ["math/bits.Add64"], unfollowed := true, recurses := true, apart := false, narrowed := true }
def MatmulTellsUptoSaid : Prop := matmulTellsUptoRow.holds Try.pinned (OpenSpec.upto matmulTellsSpec)

/-- 'fullerlaw07.MatmulUnit', WHERE WHAT IT READS IS OF BULK AT MOST 1048576: true; the input reads as it did. -/
def matmulUnitUptoRow : OpenClaim := { program := "ytcmbjbmghoopcaa", sum := "0ffa59a08ac56b126669476d59402bcb8fdb68eb8fa96b941d01d10987393afc", func := "fuller/fullerlaw07.MatmulUnit", spec := "matmulUnit", inPlace := ["math/bits.Add64"], unfollowed := true, recurses := true, apart := false, narrowed := true }
def MatmulUnitUptoSaid : Prop := matmulUnitUptoRow.holds Try.pinned (OpenSpec.upto matmulUnitSpec)

/-- 'fullerlaw07.MatmulTurns', WHERE WHAT IT READS IS OF BULK AT MOST 1048576: true; the input reads as it did. -/
def matmulTurnsUptoRow : OpenClaim := { program := "ytcmbjbmghoopcaa", sum := "0ffa59a08ac56b126669476d59402bcb8fdb68eb8fa96b941d01d10987393afc", func := "fuller/fullerlaw07.MatmulTurns", spec := "matmulTurns", inPlace := ["math/bits.Add64"], unfollowed := true, recurses := true, apart := false, narrowed := true }
def MatmulTurnsUptoSaid : Prop := matmulTurnsUptoRow.holds Try.pinned (OpenSpec.upto matmulTurnsSpec)

/-- 'fullerlaw07.MatmulZero', WHERE WHAT IT READS IS OF BULK AT MOST 1048576: true; the input reads as it did. -/
def matmulZeroUptoRow : OpenClaim := { program := "ytcmbjbmghoopcaa", sum := "0ffa59a08ac56b126669476d59402bcb8fdb68eb8fa96b941d01d10987393afc", func := "fuller/fullerlaw07.MatmulZero", spec := "matmulZero", inPlace := ["math/bits.Add64"], unfollowed := true, recurses := true, apart := false, narrowed := true }
def MatmulZeroUptoSaid : Prop := matmulZeroUptoRow.holds Try.pinned (OpenSpec.upto matmulZeroSpec)

/-- 'fullerlaw07.MatmulJoins', WHERE WHAT IT READS IS OF BULK AT MOST 1048576: true; the input reads as it did. -/
def matmulJoinsUptoRow : OpenClaim := { program := "ytcmbjbmghoopcaa", sum := "0ffa59a08ac56b126669476d59402bcb8fdb68eb8fa96b941d01d10987393afc", func := "fuller/fullerlaw07.MatmulJoins", spec := "matmulJoins", inPlace := ["math/bits.Add64"], unfollowed := true, recurses := true, apart := false, narrowed := true }
def MatmulJoinsUptoSaid : Prop := matmulJoinsUptoRow.holds Try.pinned (OpenSpec.upto matmulJoinsSpec)

/-- 'fullerlaw07.MatmulRows', WHERE WHAT IT READS IS OF BULK AT MOST 1048576: true; the input reads as it did. -/
def matmulRowsUptoRow : OpenClaim := { program := "ytcmbjbmghoopcaa", sum := "0ffa59a08ac56b126669476d59402bcb8fdb68eb8fa96b941d01d10987393afc", func := "fuller/fullerlaw07.MatmulRows", spec := "matmulRows", inPlace := ["math/bits.Add64"], unfollowed := true, recurses := true, apart := false, narrowed := true }
def MatmulRowsUptoSaid : Prop := matmulRowsUptoRow.holds Try.pinned (OpenSpec.upto matmulRowsSpec)

/-- 'fullerlaw04.ElemTells', WHERE WHAT IT READS IS OF BULK AT MOST 1048576: true; the input reads as it did. -/
def elemTellsUptoRow : OpenClaim := { program := "ytcmbjbmghoopcaa", sum := "0ffa59a08ac56b126669476d59402bcb8fdb68eb8fa96b941d01d10987393afc", func := "fuller/fullerlaw04.ElemTells", spec := "elemTells", inPlace := ["math/bits.Add64", "math/bits.Sub64"], unfollowed := true, recurses := true, named := ["math/bits.divideError", "math/bits.overflowError"], apart := false, narrowed := true }
def ElemTellsUptoSaid : Prop := elemTellsUptoRow.holds Try.pinned (OpenSpec.upto elemTellsSpec)

/-- 'fullerlaw04.ElemTurns', WHERE WHAT IT READS IS OF BULK AT MOST 1048576: true; the input reads as it did. -/
def elemTurnsUptoRow : OpenClaim := { program := "ytcmbjbmghoopcaa", sum := "0ffa59a08ac56b126669476d59402bcb8fdb68eb8fa96b941d01d10987393afc", func := "fuller/fullerlaw04.ElemTurns", spec := "elemTurns", inPlace := ["math/bits.Add64", "math/bits.Sub64"], unfollowed := true, recurses := true, named := ["math/bits.divideError", "math/bits.overflowError"], apart := false, narrowed := true }
def ElemTurnsUptoSaid : Prop := elemTurnsUptoRow.holds Try.pinned (OpenSpec.upto elemTurnsSpec)

/-- 'fullerlaw04.ElemPlaces', WHERE WHAT IT READS IS OF BULK AT MOST 1048576: true; the input reads as it did. -/
def elemPlacesUptoRow : OpenClaim := { program := "ytcmbjbmghoopcaa", sum := "0ffa59a08ac56b126669476d59402bcb8fdb68eb8fa96b941d01d10987393afc", func := "fuller/fullerlaw04.ElemPlaces", spec := "elemPlaces", inPlace := ["math/bits.Add64", "math/bits.Sub64"], unfollowed := true, recurses := true, named := ["math/bits.divideError", "math/bits.overflowError"], apart := false, narrowed := true }
def ElemPlacesUptoSaid : Prop := elemPlacesUptoRow.holds Try.pinned (OpenSpec.upto elemPlacesSpec)

/-- 'fullerlaw04.ElemOnes', WHERE WHAT IT READS IS OF BULK AT MOST 1048576: true; the input reads as it did. -/
def elemOnesUptoRow : OpenClaim := { program := "ytcmbjbmghoopcaa", sum := "0ffa59a08ac56b126669476d59402bcb8fdb68eb8fa96b941d01d10987393afc", func := "fuller/fullerlaw04.ElemOnes", spec := "elemOnes", inPlace := ["math/bits.Add64", "math/bits.Sub64"], unfollowed := true, recurses := true, named := ["math/bits.divideError", "math/bits.overflowError"], apart := false, narrowed := true }
def ElemOnesUptoSaid : Prop := elemOnesUptoRow.holds Try.pinned (OpenSpec.upto elemOnesSpec)

/-- 'fullerlaw04.ElemDoubles', WHERE WHAT IT READS IS OF BULK AT MOST 1048576: true; the input reads as it did. -/
def elemDoublesUptoRow : OpenClaim := { program := "ytcmbjbmghoopcaa", sum := "0ffa59a08ac56b126669476d59402bcb8fdb68eb8fa96b941d01d10987393afc", func := "fuller/fullerlaw04.ElemDoubles", spec := "elemDoubles", inPlace := ["math/bits.Add64", "math/bits.Sub64"], unfollowed := true, recurses := true, named := ["math/bits.divideError", "math/bits.overflowError"], apart := false, narrowed := true }
def ElemDoublesUptoSaid : Prop := elemDoublesUptoRow.holds Try.pinned (OpenSpec.upto elemDoublesSpec)

/-- 'fullerlaw04.ElemSpreads', WHERE WHAT IT READS IS OF BULK AT MOST 1048576: true; the input reads as it did. -/
def elemSpreadsUptoRow : OpenClaim := { program := "ytcmbjbmghoopcaa", sum := "0ffa59a08ac56b126669476d59402bcb8fdb68eb8fa96b941d01d10987393afc", func := "fuller/fullerlaw04.ElemSpreads", spec := "elemSpreads", inPlace := ["math/bits.Add64", "math/bits.Sub64"], unfollowed := true, recurses := true, named := ["math/bits.divideError", "math/bits.overflowError"], apart := false, narrowed := true }
def ElemSpreadsUptoSaid : Prop := elemSpreadsUptoRow.holds Try.pinned (OpenSpec.upto elemSpreadsSpec)

/-- 'fullerlaw04.ElemThree', WHERE WHAT IT READS IS OF BULK AT MOST 1048576: true; the input reads as it did. -/
def elemThreeUptoRow : OpenClaim := { program := "ytcmbjbmghoopcaa", sum := "0ffa59a08ac56b126669476d59402bcb8fdb68eb8fa96b941d01d10987393afc", func := "fuller/fullerlaw04.ElemThree", spec := "elemThree", inPlace := ["math/bits.Add64", "math/bits.Sub64"], unfollowed := true, recurses := true, named := ["math/bits.divideError", "math/bits.overflowError"], apart := false, narrowed := true }
def ElemThreeUptoSaid : Prop := elemThreeUptoRow.holds Try.pinned (OpenSpec.upto elemThreeSpec)

/-- 'fullerlaw06.ReduceTells', WHERE WHAT IT READS IS OF BULK AT MOST 1048576: true; the input reads as it did. -/
def reduceTellsUptoRow : OpenClaim := { program := "ytcmbjbmghoopcaa", sum := "0ffa59a08ac56b126669476d59402bcb8fdb68eb8fa96b941d01d10987393afc", func := "fuller/fullerlaw06.ReduceTells", spec := "reduceTells", inPlace := ["math/bits.Add64", "slices.overlaps[int]"], unfollowed := true, recurses := true, named := ["math/bits.divideError", "math/bits.overflowError"], apart := false, narrowed := true }
def ReduceTellsUptoSaid : Prop := reduceTellsUptoRow.holds Try.pinned (OpenSpec.upto reduceTellsSpec)

/-- 'fullerlaw06.ReduceTwice', WHERE WHAT IT READS IS OF BULK AT MOST 1048576: true; the input reads as it did. -/
def reduceTwiceUptoRow : OpenClaim := { program := "ytcmbjbmghoopcaa", sum := "0ffa59a08ac56b126669476d59402bcb8fdb68eb8fa96b941d01d10987393afc", func := "fuller/fullerlaw06.ReduceTwice", spec := "reduceTwice", inPlace := ["math/bits.Add64", "slices.overlaps[int]"], unfollowed := true, recurses := true, named := ["math/bits.divideError", "math/bits.overflowError"], apart := false, narrowed := true }
def ReduceTwiceUptoSaid : Prop := reduceTwiceUptoRow.holds Try.pinned (OpenSpec.upto reduceTwiceSpec)

/-- 'fullerlaw06.ReduceParts', WHERE WHAT IT READS IS OF BULK AT MOST 1048576: true; the input reads as it did. -/
def reducePartsUptoRow : OpenClaim := { program := "ytcmbjbmghoopcaa", sum := "0ffa59a08ac56b126669476d59402bcb8fdb68eb8fa96b941d01d10987393afc", func := "fuller/fullerlaw06.ReduceParts", spec := "reduceParts", inPlace := ["math/bits.Add64", "slices.overlaps[int]", "math/bits.Sub64"], unfollowed := true, recurses := true, named := ["math/bits.divideError", "math/bits.overflowError"], apart := false, narrowed := true }
def ReducePartsUptoSaid : Prop := reducePartsUptoRow.holds Try.pinned (OpenSpec.upto reducePartsSpec)

end Rows
end Go.Proofs.Ytcmbjbmghoopcaa

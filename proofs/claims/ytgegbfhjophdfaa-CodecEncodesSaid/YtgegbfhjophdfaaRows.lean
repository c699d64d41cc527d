/-
  No cell of these rows narrows 'for every input' (looked for: loops, veiled, ifaces, maps, wideKeys, modest, calm, conditions, laid).
  DERIVED. THE GIVEN ROWS OF THIS SEAT. 5 by the template 'for every input the law returns true; each argument reads behind the call as it read before'; 0 by the template 'total and deterministic' (their statements: YtgegbfhjophdfaaTotals.lean).
  GIVEN WITH THE SEED: the statements are not yours to turn. If you find one false, say at which input.
  Laid BY PROGRAM, IN A SANDBOX (cutbox-rows.mjs): the forced cells as the released guide's own fill.sh prints them over the translation 74dee213efc6bac1… (all of the seat's roots in one cut). By AI agents, Wed Nov 11 2026. No macro, syntax, notation, axiom, sorry.
-/
import Derived.Test.YtgegbfhjophdfaaChecked
import GoSem.Claim
import GoSem.ClaimJoined
import GoSem.ClaimMapViews
import Derived.JoinedTies
import Derived.KernelRfl
namespace Go.Proofs.Ytgegbfhjophdfaa
/- THE CELL 'sum', in the pinned program and in every row, IS THE sha256 OF THE DUMP (.gsa) THAT YtgegbfhjophdfaaProg.lean LOADS. Nothing in Lean hashes anything: it is a label: what it is worth is what the hold of that sum in a sandbox is worth. -/
noncomputable def Try.pinned : Pinned := { name := "ytgegbfhjophdfaa", sum := "74dee213efc6bac10c610d99a498f5f8678e818bbb2b63fef711766d5c38dfab", checked := Try.checked }
namespace Rows
def none {H : Type} : Left H := { results := [], args := [] }

/-- 'eskerlaw04.CodecEncodes': WHATEVER THE INPUT: true; the input reads as it did. -/
def codecEncodesSpec : ChangeSpec := { name := "codecEncodes", fn := fun _ => fun
  | [d1, d2] => { results := [.lit (.bool true)], args := [d1, d2] }
  | _ => none }
def codecEncodesRow : OpenClaim := { program := "ytgegbfhjophdfaa", sum := "74dee213efc6bac10c610d99a498f5f8678e818bbb2b63fef711766d5c38dfab", func := "esker/eskerlaw04.CodecEncodes", spec := "codecEncodes", unfollowed := true, recurses := true, apart := false }
def CodecEncodesSaid : Prop := codecEncodesRow.holds Try.pinned (OpenSpec.ofChange codecEncodesSpec)

/-- ITS FALSE NEIGHBOUR: 'it returns false'. Refute it at one input. -/
def codecEncodesWrong : ChangeSpec := { name := "codecEncodes", fn := fun _ => fun
  | [d1, d2] => { results := [.lit (.bool false)], args := [d1, d2] }
  | _ => none }
def CodecEncodesWrongFalsely : Prop := codecEncodesRow.holds Try.pinned (OpenSpec.ofChange codecEncodesWrong)

/-- 'eskerlaw04.CodecBack': WHATEVER THE INPUT: true; the input reads as it did. -/
def codecBackSpec : ChangeSpec := { name := "codecBack", fn := fun _ => fun
  | [d1, d2] => { results := [.lit (.bool true)], args := [d1, d2] }
  | _ => none }
def codecBackRow : OpenClaim := { program := "ytgegbfhjophdfaa", sum := "74dee213efc6bac10c610d99a498f5f8678e818bbb2b63fef711766d5c38dfab", func := "esker/eskerlaw04.CodecBack", spec := "codecBack", unfollowed := true, recurses := true, apart := false }
def CodecBackSaid : Prop := codecBackRow.holds Try.pinned (OpenSpec.ofChange codecBackSpec)

/-- ITS FALSE NEIGHBOUR: 'it returns false'. Refute it at one input. -/
def codecBackWrong : ChangeSpec := { name := "codecBack", fn := fun _ => fun
  | [d1, d2] => { results := [.lit (.bool false)], args := [d1, d2] }
  | _ => none }
def CodecBackWrongFalsely : Prop := codecBackRow.holds Try.pinned (OpenSpec.ofChange codecBackWrong)

/-- 'eskerlaw04.CodecLeast': WHATEVER THE INPUT: true; the input reads as it did. -/
def codecLeastSpec : ChangeSpec := { name := "codecLeast", fn := fun _ => fun
  | [d] => { results := [.lit (.bool true)], args := [d] }
  | _ => none }
def codecLeastRow : OpenClaim := { program := "ytgegbfhjophdfaa", sum := "74dee213efc6bac10c610d99a498f5f8678e818bbb2b63fef711766d5c38dfab", func := "esker/eskerlaw04.CodecLeast", spec := "codecLeast", unfollowed := true, recurses := true, apart := false }
def CodecLeastSaid : Prop := codecLeastRow.holds Try.pinned (OpenSpec.ofChange codecLeastSpec)

/-- ITS FALSE NEIGHBOUR: 'it returns false'. Refute it at one input. -/
def codecLeastWrong : ChangeSpec := { name := "codecLeast", fn := fun _ => fun
  | [d] => { results := [.lit (.bool false)], args := [d] }
  | _ => none }
def CodecLeastWrongFalsely : Prop := codecLeastRow.holds Try.pinned (OpenSpec.ofChange codecLeastWrong)

/-- 'eskerlaw04.CodecFlat': WHATEVER THE INPUT: true; the input reads as it did. -/
def codecFlatSpec : ChangeSpec := { name := "codecFlat", fn := fun _ => fun
  | [d1, d2, d3] => { results := [.lit (.bool true)], args := [d1, d2, d3] }
  | _ => none }
def codecFlatRow : OpenClaim := { program := "ytgegbfhjophdfaa", sum := "74dee213efc6bac10c610d99a498f5f8678e818bbb2b63fef711766d5c38dfab", func := "esker/eskerlaw04.CodecFlat", spec := "codecFlat", unfollowed := true, recurses := true, apart := false }
def CodecFlatSaid : Prop := codecFlatRow.holds Try.pinned (OpenSpec.ofChange codecFlatSpec)

/-- ITS FALSE NEIGHBOUR: 'it returns false'. Refute it at one input. -/
def codecFlatWrong : ChangeSpec := { name := "codecFlat", fn := fun _ => fun
  | [d1, d2, d3] => { results := [.lit (.bool false)], args := [d1, d2, d3] }
  | _ => none }
def CodecFlatWrongFalsely : Prop := codecFlatRow.holds Try.pinned (OpenSpec.ofChange codecFlatWrong)

/-- 'eskerlaw04.CodecMoves': WHATEVER THE INPUT: true; the input reads as it did. -/
def codecMovesSpec : ChangeSpec := { name := "codecMoves", fn := fun _ => fun
  | [d1, d2] => { results := [.lit (.bool true)], args := [d1, d2] }
  | _ => none }
def codecMovesRow : OpenClaim := { program := "ytgegbfhjophdfaa", sum := "74dee213efc6bac10c610d99a498f5f8678e818bbb2b63fef711766d5c38dfab", func := "esker/eskerlaw04.CodecMoves", spec := "codecMoves", unfollowed := true, recurses := true, apart := false }
def CodecMovesSaid : Prop := codecMovesRow.holds Try.pinned (OpenSpec.ofChange codecMovesSpec)

/-- ITS FALSE NEIGHBOUR: 'it returns false'. Refute it at one input. -/
def codecMovesWrong : ChangeSpec := { name := "codecMoves", fn := fun _ => fun
  | [d1, d2] => { results := [.lit (.bool false)], args := [d1, d2] }
  | _ => none }
def CodecMovesWrongFalsely : Prop := codecMovesRow.holds Try.pinned (OpenSpec.ofChange codecMovesWrong)

/- THE SECOND FORM. 'bulk': how many values and letters a reading holds, each counted each time it is reached (what is shared counts as often as it is met; a slice's spare places count too). A statement '..UptoSaid' is the law's where the arguments, and the package variables that the reading takes, are together of bulk at most 1048576: NARROWER than '..Said'. Prove '..Said' where nothing that the law and all that it calls make is longer than what came in: it says more and counts as full. Else prove '..UptoSaid'. A law counts once. -/
mutual
def uptoBulk {H : Type} : DataW H → Nat
  | .lit (.string bytes) => bytes.length + 1
  | .lit _ => 1
  | .nil => 1
  | .ptr d => uptoBulk d + 1
  | .slice elems spare => uptoBulkAll elems + uptoBulkAll spare + 1
  | .agg parts => uptoBulkAll parts + 1
  | .iface _ d => uptoBulk d + 1
  | .map entries => uptoBulkEntries entries + 1
  | .held _ => 1
def uptoBulkAll {H : Type} : List (DataW H) → Nat
  | [] => 0
  | d :: r => uptoBulk d + uptoBulkAll r
def uptoBulkEntries {H : Type} : List (Lit × DataW H) → Nat
  | [] => 0
  | x :: r => uptoBulkEntry x + uptoBulkEntries r
def uptoBulkEntry {H : Type} : Lit × DataW H → Nat
  | (.string bytes, d) => bytes.length + uptoBulk d + 1
  | (_, d) => uptoBulk d + 1
 end
def uptoSmall : (H : Type) → List (DataW H) → Bool := fun _ ds => decide (uptoBulkAll ds ≤ 1048576)
def OpenSpec.upto (s : _root_.Go.ChangeSpec) : _root_.Go.OpenSpec := { _root_.Go.OpenSpec.ofChange s with cond := some uptoSmall }

/-- 'eskerlaw04.CodecEncodes', WHERE WHAT IT READS IS OF BULK AT MOST 1048576: true; the input reads as it did. -/
def codecEncodesUptoRow : OpenClaim := { program := "ytgegbfhjophdfaa", sum := "74dee213efc6bac10c610d99a498f5f8678e818bbb2b63fef711766d5c38dfab", func := "esker/eskerlaw04.CodecEncodes", spec := "codecEncodes", unfollowed := true, recurses := true, apart := false, narrowed := true }
def CodecEncodesUptoSaid : Prop := codecEncodesUptoRow.holds Try.pinned (OpenSpec.upto codecEncodesSpec)

/-- 'eskerlaw04.CodecBack', WHERE WHAT IT READS IS OF BULK AT MOST 1048576: true; the input reads as it did. -/
def codecBackUptoRow : OpenClaim := { program := "ytgegbfhjophdfaa", sum := "74dee213efc6bac10c610d99a498f5f8678e818bbb2b63fef711766d5c38dfab", func := "esker/eskerlaw04.CodecBack", spec := "codecBack", unfollowed := true, recurses := true, apart := false, narrowed := true }
def CodecBackUptoSaid : Prop := codecBackUptoRow.holds Try.pinned (OpenSpec.upto codecBackSpec)

/-- 'eskerlaw04.CodecLeast', WHERE WHAT IT READS IS OF BULK AT MOST 1048576: true; the input reads as it did. -/
def codecLeastUptoRow : OpenClaim := { program := "ytgegbfhjophdfaa", sum := "74dee213efc6bac10c610d99a498f5f8678e818bbb2b63fef711766d5c38dfab", func := "esker/eskerlaw04.CodecLeast", spec := "codecLeast", unfollowed := true, recurses := true, apart := false, narrowed := true }
def CodecLeastUptoSaid : Prop := codecLeastUptoRow.holds Try.pinned (OpenSpec.upto codecLeastSpec)

/-- 'eskerlaw04.CodecFlat', WHERE WHAT IT READS IS OF BULK AT MOST 1048576: true; the input reads as it did. -/
def codecFlatUptoRow : OpenClaim := { program := "ytgegbfhjophdfaa", sum := "74dee213efc6bac10c610d99a498f5f8678e818bbb2b63fef711766d5c38dfab", func := "esker/eskerlaw04.CodecFlat", spec := "codecFlat", unfollowed := true, recurses := true, apart := false, narrowed := true }
def CodecFlatUptoSaid : Prop := codecFlatUptoRow.holds Try.pinned (OpenSpec.upto codecFlatSpec)

/-- 'eskerlaw04.CodecMoves', WHERE WHAT IT READS IS OF BULK AT MOST 1048576: true; the input reads as it did. -/
def codecMovesUptoRow : OpenClaim := { program := "ytgegbfhjophdfaa", sum := "74dee213efc6bac10c610d99a498f5f8678e818bbb2b63fef711766d5c38dfab", func := "esker/eskerlaw04.CodecMoves", spec := "codecMoves", unfollowed := true, recurses := true, apart := false, narrowed := true }
def CodecMovesUptoSaid : Prop := codecMovesUptoRow.holds Try.pinned (OpenSpec.upto codecMovesSpec)

end Rows
end Go.Proofs.Ytgegbfhjophdfaa
